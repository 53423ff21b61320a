/-
  No cell of these rows narrows 'for every input' (looked for: loops, veiled, ifaces, maps, wideKeys, modest, calm, conditions, laid).
  DERIVED. THE GIVEN ROWS OF THIS SEAT. 4 by the template 'for every input the law returns true; each argument reads behind the call as it read before'; 0 by the template 'total and deterministic' (their statements: YtdnfojgnbhcijaaTotals.lean).
  GIVEN WITH THE SEED: the statements are not yours to turn. If you find one false, say at which input.
  Laid BY PROGRAM, IN A SANDBOX (cutbox-rows.mjs): the forced cells as the released guide's own fill.sh prints them over the translation 4979941be27f2d68… (all of the seat's roots in one cut). By AI agents, Wed Nov 11 2026. No macro, syntax, notation, axiom, sorry.
-/
import Derived.Test.YtdnfojgnbhcijaaChecked
import GoSem.Claim
import GoSem.ClaimJoined
import GoSem.ClaimMapViews
import Derived.JoinedTies
import Derived.KernelRfl
namespace Go.Proofs.Ytdnfojgnbhcijaa
/- THE CELL 'sum', in the pinned program and in every row, IS THE sha256 OF THE DUMP (.gsa) THAT YtdnfojgnbhcijaaProg.lean LOADS. Nothing in Lean hashes anything: it is a label: what it is worth is what the hold of that sum in a sandbox is worth. -/
noncomputable def Try.pinned : Pinned := { name := "ytdnfojgnbhcijaa", sum := "4979941be27f2d680eebd887daba83657c11cea19f0ff149b4e72ae365d39835", checked := Try.checked }
namespace Rows
def none {H : Type} : Left H := { results := [], args := [] }

/-- 'signalmanlaw13.BacklogClears': WHATEVER THE INPUT: true; the input reads as it did. -/
def backlogClearsSpec : ChangeSpec := { name := "backlogClears", fn := fun _ => fun
  | [d1, d2] => { results := [.lit (.bool true)], args := [d1, d2] }
  | _ => none }
def backlogClearsRow : OpenClaim := { program := "ytdnfojgnbhcijaa", sum := "4979941be27f2d680eebd887daba83657c11cea19f0ff149b4e72ae365d39835", func := "signalman/signalmanlaw13.BacklogClears", spec := "backlogClears", apart := false }
def BacklogClearsSaid : Prop := backlogClearsRow.holds Try.pinned (OpenSpec.ofChange backlogClearsSpec)

/-- ITS FALSE NEIGHBOUR: 'it returns false'. Refute it at one input. -/
def backlogClearsWrong : ChangeSpec := { name := "backlogClears", fn := fun _ => fun
  | [d1, d2] => { results := [.lit (.bool false)], args := [d1, d2] }
  | _ => none }
def BacklogClearsWrongFalsely : Prop := backlogClearsRow.holds Try.pinned (OpenSpec.ofChange backlogClearsWrong)

/-- 'signalmanlaw13.BacklogAcks': WHATEVER THE INPUT: true; the input reads as it did. -/
def backlogAcksSpec : ChangeSpec := { name := "backlogAcks", fn := fun _ => fun
  | [d1, d2, d3, d4] => { results := [.lit (.bool true)], args := [d1, d2, d3, d4] }
  | _ => none }
def backlogAcksRow : OpenClaim := { program := "ytdnfojgnbhcijaa", sum := "4979941be27f2d680eebd887daba83657c11cea19f0ff149b4e72ae365d39835", func := "signalman/signalmanlaw13.BacklogAcks", spec := "backlogAcks", apart := false }
def BacklogAcksSaid : Prop := backlogAcksRow.holds Try.pinned (OpenSpec.ofChange backlogAcksSpec)

/-- ITS FALSE NEIGHBOUR: 'it returns false'. Refute it at one input. -/
def backlogAcksWrong : ChangeSpec := { name := "backlogAcks", fn := fun _ => fun
  | [d1, d2, d3, d4] => { results := [.lit (.bool false)], args := [d1, d2, d3, d4] }
  | _ => none }
def BacklogAcksWrongFalsely : Prop := backlogAcksRow.holds Try.pinned (OpenSpec.ofChange backlogAcksWrong)

/-- 'signalmanlaw13.BacklogRounds': WHATEVER THE INPUT: true; the input reads as it did. -/
def backlogRoundsSpec : ChangeSpec := { name := "backlogRounds", fn := fun _ => fun
  | [d1, d2, d3, d4] => { results := [.lit (.bool true)], args := [d1, d2, d3, d4] }
  | _ => none }
def backlogRoundsRow : OpenClaim := { program := "ytdnfojgnbhcijaa", sum := "4979941be27f2d680eebd887daba83657c11cea19f0ff149b4e72ae365d39835", func := "signalman/signalmanlaw13.BacklogRounds", spec := "backlogRounds", apart := false }
def BacklogRoundsSaid : Prop := backlogRoundsRow.holds Try.pinned (OpenSpec.ofChange backlogRoundsSpec)

/-- ITS FALSE NEIGHBOUR: 'it returns false'. Refute it at one input. -/
def backlogRoundsWrong : ChangeSpec := { name := "backlogRounds", fn := fun _ => fun
  | [d1, d2, d3, d4] => { results := [.lit (.bool false)], args := [d1, d2, d3, d4] }
  | _ => none }
def BacklogRoundsWrongFalsely : Prop := backlogRoundsRow.holds Try.pinned (OpenSpec.ofChange backlogRoundsWrong)

/-- 'signalmanlaw13.BacklogPlays': WHATEVER THE INPUT: true; the input reads as it did. -/
def backlogPlaysSpec : ChangeSpec := { name := "backlogPlays", fn := fun _ => fun
  | [d1, d2, d3, d4] => { results := [.lit (.bool true)], args := [d1, d2, d3, d4] }
  | _ => none }
def backlogPlaysRow : OpenClaim := { program := "ytdnfojgnbhcijaa", sum := "4979941be27f2d680eebd887daba83657c11cea19f0ff149b4e72ae365d39835", func := "signalman/signalmanlaw13.BacklogPlays", spec := "backlogPlays", apart := false }
def BacklogPlaysSaid : Prop := backlogPlaysRow.holds Try.pinned (OpenSpec.ofChange backlogPlaysSpec)

/-- ITS FALSE NEIGHBOUR: 'it returns false'. Refute it at one input. -/
def backlogPlaysWrong : ChangeSpec := { name := "backlogPlays", fn := fun _ => fun
  | [d1, d2, d3, d4] => { results := [.lit (.bool false)], args := [d1, d2, d3, d4] }
  | _ => none }
def BacklogPlaysWrongFalsely : Prop := backlogPlaysRow.holds Try.pinned (OpenSpec.ofChange backlogPlaysWrong)

/- THE SECOND FORM. 'bulk': how many values and letters a reading holds, each counted each time it is reached (what is shared counts as often as it is met; a slice's spare places count too). A statement '..UptoSaid' is the law's where the arguments, and the package variables that the reading takes, are together of bulk at most 1048576: NARROWER than '..Said'. Prove '..Said' where nothing that the law and all that it calls make is longer than what came in: it says more and counts as full. Else prove '..UptoSaid'. A law counts once. -/
mutual
def uptoBulk {H : Type} : DataW H → Nat
  | .lit (.string bytes) => bytes.length + 1
  | .lit _ => 1
  | .nil => 1
  | .ptr d => uptoBulk d + 1
  | .slice elems spare => uptoBulkAll elems + uptoBulkAll spare + 1
  | .agg parts => uptoBulkAll parts + 1
  | .iface _ d => uptoBulk d + 1
  | .map entries => uptoBulkEntries entries + 1
  | .held _ => 1
def uptoBulkAll {H : Type} : List (DataW H) → Nat
  | [] => 0
  | d :: r => uptoBulk d + uptoBulkAll r
def uptoBulkEntries {H : Type} : List (Lit × DataW H) → Nat
  | [] => 0
  | x :: r => uptoBulkEntry x + uptoBulkEntries r
def uptoBulkEntry {H : Type} : Lit × DataW H → Nat
  | (.string bytes, d) => bytes.length + uptoBulk d + 1
  | (_, d) => uptoBulk d + 1
 end
def uptoSmall : (H : Type) → List (DataW H) → Bool := fun _ ds => decide (uptoBulkAll ds ≤ 1048576)
def OpenSpec.upto (s : _root_.Go.ChangeSpec) : _root_.Go.OpenSpec := { _root_.Go.OpenSpec.ofChange s with cond := some uptoSmall }

/-- 'signalmanlaw13.BacklogClears', WHERE WHAT IT READS IS OF BULK AT MOST 1048576: true; the input reads as it did. -/
def backlogClearsUptoRow : OpenClaim := { program := "ytdnfojgnbhcijaa", sum := "4979941be27f2d680eebd887daba83657c11cea19f0ff149b4e72ae365d39835", func := "signalman/signalmanlaw13.BacklogClears", spec := "backlogClears", apart := false, narrowed := true }
def BacklogClearsUptoSaid : Prop := backlogClearsUptoRow.holds Try.pinned (OpenSpec.upto backlogClearsSpec)

/-- 'signalmanlaw13.BacklogAcks', WHERE WHAT IT READS IS OF BULK AT MOST 1048576: true; the input reads as it did. -/
def backlogAcksUptoRow : OpenClaim := { program := "ytdnfojgnbhcijaa", sum := "4979941be27f2d680eebd887daba83657c11cea19f0ff149b4e72ae365d39835", func := "signalman/signalmanlaw13.BacklogAcks", spec := "backlogAcks", apart := false, narrowed := true }
def BacklogAcksUptoSaid : Prop := backlogAcksUptoRow.holds Try.pinned (OpenSpec.upto backlogAcksSpec)

/-- 'signalmanlaw13.BacklogRounds', WHERE WHAT IT READS IS OF BULK AT MOST 1048576: true; the input reads as it did. -/
def backlogRoundsUptoRow : OpenClaim := { program := "ytdnfojgnbhcijaa", sum := "4979941be27f2d680eebd887daba83657c11cea19f0ff149b4e72ae365d39835", func := "signalman/signalmanlaw13.BacklogRounds", spec := "backlogRounds", apart := false, narrowed := true }
def BacklogRoundsUptoSaid : Prop := backlogRoundsUptoRow.holds Try.pinned (OpenSpec.upto backlogRoundsSpec)

/-- 'signalmanlaw13.BacklogPlays', WHERE WHAT IT READS IS OF BULK AT MOST 1048576: true; the input reads as it did. -/
def backlogPlaysUptoRow : OpenClaim := { program := "ytdnfojgnbhcijaa", sum := "4979941be27f2d680eebd887daba83657c11cea19f0ff149b4e72ae365d39835", func := "signalman/signalmanlaw13.BacklogPlays", spec := "backlogPlays", apart := false, narrowed := true }
def BacklogPlaysUptoSaid : Prop := backlogPlaysUptoRow.holds Try.pinned (OpenSpec.upto backlogPlaysSpec)

end Rows
end Go.Proofs.Ytdnfojgnbhcijaa

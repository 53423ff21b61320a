/-
  No cell of these rows narrows 'for every input' (looked for: loops, veiled, ifaces, maps, wideKeys, modest, calm, conditions, laid).
  DERIVED. THE GIVEN ROWS OF THIS SEAT. 4 by the template 'for every input the law returns true; each argument reads behind the call as it read before'; 0 by the template 'total and deterministic' (their statements: YtcflnobablhdiaaTotals.lean).
  GIVEN WITH THE SEED: the statements are not yours to turn. If you find one false, say at which input.
  Laid BY PROGRAM, IN A SANDBOX (cutbox-rows.mjs): the forced cells as the released guide's own fill.sh prints them over the translation 94aa86f8afd8e55e… (all of the seat's roots in one cut). By AI agents, Wed Nov 11 2026. No macro, syntax, notation, axiom, sorry.
-/
import Derived.Test.YtcflnobablhdiaaChecked
import GoSem.Claim
import GoSem.ClaimJoined
import GoSem.ClaimMapViews
import Derived.JoinedTies
import Derived.KernelRfl
namespace Go.Proofs.Ytcflnobablhdiaa
/- THE CELL 'sum', in the pinned program and in every row, IS THE sha256 OF THE DUMP (.gsa) THAT YtcflnobablhdiaaProg.lean LOADS. Nothing in Lean hashes anything: it is a label: what it is worth is what the hold of that sum in a sandbox is worth. -/
noncomputable def Try.pinned : Pinned := { name := "ytcflnobablhdiaa", sum := "94aa86f8afd8e55e897c4287f45af0fa5706cd8eb24425aadec8642b9b40d92c", checked := Try.checked }
namespace Rows
def none {H : Type} : Left H := { results := [], args := [] }

/-- 'signalmanlaw8.PipeKeeps': WHATEVER THE INPUT: true; the input reads as it did. -/
def pipeKeepsSpec : ChangeSpec := { name := "pipeKeeps", fn := fun _ => fun
  | [d1, d2, d3] => { results := [.lit (.bool true)], args := [d1, d2, d3] }
  | _ => none }
def pipeKeepsRow : OpenClaim := { program := "ytcflnobablhdiaa", sum := "94aa86f8afd8e55e897c4287f45af0fa5706cd8eb24425aadec8642b9b40d92c", func := "signalman/signalmanlaw8.PipeKeeps", spec := "pipeKeeps", apart := false }
def PipeKeepsSaid : Prop := pipeKeepsRow.holds Try.pinned (OpenSpec.ofChange pipeKeepsSpec)

/-- ITS FALSE NEIGHBOUR: 'it returns false'. Refute it at one input. -/
def pipeKeepsWrong : ChangeSpec := { name := "pipeKeeps", fn := fun _ => fun
  | [d1, d2, d3] => { results := [.lit (.bool false)], args := [d1, d2, d3] }
  | _ => none }
def PipeKeepsWrongFalsely : Prop := pipeKeepsRow.holds Try.pinned (OpenSpec.ofChange pipeKeepsWrong)

/-- 'signalmanlaw8.PipeStalls': WHATEVER THE INPUT: true; the input reads as it did. -/
def pipeStallsSpec : ChangeSpec := { name := "pipeStalls", fn := fun _ => fun
  | [d1, d2, d3] => { results := [.lit (.bool true)], args := [d1, d2, d3] }
  | _ => none }
def pipeStallsRow : OpenClaim := { program := "ytcflnobablhdiaa", sum := "94aa86f8afd8e55e897c4287f45af0fa5706cd8eb24425aadec8642b9b40d92c", func := "signalman/signalmanlaw8.PipeStalls", spec := "pipeStalls", inPlace := ["slices.overlaps[byte]"], apart := false }
def PipeStallsSaid : Prop := pipeStallsRow.holds Try.pinned (OpenSpec.ofChange pipeStallsSpec)

/-- ITS FALSE NEIGHBOUR: 'it returns false'. Refute it at one input. -/
def pipeStallsWrong : ChangeSpec := { name := "pipeStalls", fn := fun _ => fun
  | [d1, d2, d3] => { results := [.lit (.bool false)], args := [d1, d2, d3] }
  | _ => none }
def PipeStallsWrongFalsely : Prop := pipeStallsRow.holds Try.pinned (OpenSpec.ofChange pipeStallsWrong)

/-- 'signalmanlaw8.PipeTurns': WHATEVER THE INPUT: true; the input reads as it did. -/
def pipeTurnsSpec : ChangeSpec := { name := "pipeTurns", fn := fun _ => fun
  | [d1, d2, d3, d4, d5] => { results := [.lit (.bool true)], args := [d1, d2, d3, d4, d5] }
  | _ => none }
def pipeTurnsRow : OpenClaim := { program := "ytcflnobablhdiaa", sum := "94aa86f8afd8e55e897c4287f45af0fa5706cd8eb24425aadec8642b9b40d92c", func := "signalman/signalmanlaw8.PipeTurns", spec := "pipeTurns", inPlace := ["slices.overlaps[byte]"], apart := false }
def PipeTurnsSaid : Prop := pipeTurnsRow.holds Try.pinned (OpenSpec.ofChange pipeTurnsSpec)

/-- ITS FALSE NEIGHBOUR: 'it returns false'. Refute it at one input. -/
def pipeTurnsWrong : ChangeSpec := { name := "pipeTurns", fn := fun _ => fun
  | [d1, d2, d3, d4, d5] => { results := [.lit (.bool false)], args := [d1, d2, d3, d4, d5] }
  | _ => none }
def PipeTurnsWrongFalsely : Prop := pipeTurnsRow.holds Try.pinned (OpenSpec.ofChange pipeTurnsWrong)

/-- 'signalmanlaw8.PipePlays': WHATEVER THE INPUT: true; the input reads as it did. -/
def pipePlaysSpec : ChangeSpec := { name := "pipePlays", fn := fun _ => fun
  | [d1, d2] => { results := [.lit (.bool true)], args := [d1, d2] }
  | _ => none }
def pipePlaysRow : OpenClaim := { program := "ytcflnobablhdiaa", sum := "94aa86f8afd8e55e897c4287f45af0fa5706cd8eb24425aadec8642b9b40d92c", func := "signalman/signalmanlaw8.PipePlays", spec := "pipePlays", inPlace := ["slices.overlaps[byte]"], apart := false }
def PipePlaysSaid : Prop := pipePlaysRow.holds Try.pinned (OpenSpec.ofChange pipePlaysSpec)

/-- ITS FALSE NEIGHBOUR: 'it returns false'. Refute it at one input. -/
def pipePlaysWrong : ChangeSpec := { name := "pipePlays", fn := fun _ => fun
  | [d1, d2] => { results := [.lit (.bool false)], args := [d1, d2] }
  | _ => none }
def PipePlaysWrongFalsely : Prop := pipePlaysRow.holds Try.pinned (OpenSpec.ofChange pipePlaysWrong)

/- THE SECOND FORM. 'bulk': how many values and letters a reading holds, each counted each time it is reached (what is shared counts as often as it is met; a slice's spare places count too). A statement '..UptoSaid' is the law's where the arguments, and the package variables that the reading takes, are together of bulk at most 1048576: NARROWER than '..Said'. Prove '..Said' where nothing that the law and all that it calls make is longer than what came in: it says more and counts as full. Else prove '..UptoSaid'. A law counts once. -/
mutual
def uptoBulk {H : Type} : DataW H → Nat
  | .lit (.string bytes) => bytes.length + 1
  | .lit _ => 1
  | .nil => 1
  | .ptr d => uptoBulk d + 1
  | .slice elems spare => uptoBulkAll elems + uptoBulkAll spare + 1
  | .agg parts => uptoBulkAll parts + 1
  | .iface _ d => uptoBulk d + 1
  | .map entries => uptoBulkEntries entries + 1
  | .held _ => 1
def uptoBulkAll {H : Type} : List (DataW H) → Nat
  | [] => 0
  | d :: r => uptoBulk d + uptoBulkAll r
def uptoBulkEntries {H : Type} : List (Lit × DataW H) → Nat
  | [] => 0
  | x :: r => uptoBulkEntry x + uptoBulkEntries r
def uptoBulkEntry {H : Type} : Lit × DataW H → Nat
  | (.string bytes, d) => bytes.length + uptoBulk d + 1
  | (_, d) => uptoBulk d + 1
 end
def uptoSmall : (H : Type) → List (DataW H) → Bool := fun _ ds => decide (uptoBulkAll ds ≤ 1048576)
def OpenSpec.upto (s : _root_.Go.ChangeSpec) : _root_.Go.OpenSpec := { _root_.Go.OpenSpec.ofChange s with cond := some uptoSmall }

/-- 'signalmanlaw8.PipeKeeps', WHERE WHAT IT READS IS OF BULK AT MOST 1048576: true; the input reads as it did. -/
def pipeKeepsUptoRow : OpenClaim := { program := "ytcflnobablhdiaa", sum := "94aa86f8afd8e55e897c4287f45af0fa5706cd8eb24425aadec8642b9b40d92c", func := "signalman/signalmanlaw8.PipeKeeps", spec := "pipeKeeps", apart := false, narrowed := true }
def PipeKeepsUptoSaid : Prop := pipeKeepsUptoRow.holds Try.pinned (OpenSpec.upto pipeKeepsSpec)

/-- 'signalmanlaw8.PipeStalls', WHERE WHAT IT READS IS OF BULK AT MOST 1048576: true; the input reads as it did. -/
def pipeStallsUptoRow : OpenClaim := { program := "ytcflnobablhdiaa", sum := "94aa86f8afd8e55e897c4287f45af0fa5706cd8eb24425aadec8642b9b40d92c", func := "signalman/signalmanlaw8.PipeStalls", spec := "pipeStalls", inPlace := ["slices.overlaps[byte]"], apart := false, narrowed := true }
def PipeStallsUptoSaid : Prop := pipeStallsUptoRow.holds Try.pinned (OpenSpec.upto pipeStallsSpec)

/-- 'signalmanlaw8.PipeTurns', WHERE WHAT IT READS IS OF BULK AT MOST 1048576: true; the input reads as it did. -/
def pipeTurnsUptoRow : OpenClaim := { program := "ytcflnobablhdiaa", sum := "94aa86f8afd8e55e897c4287f45af0fa5706cd8eb24425aadec8642b9b40d92c", func := "signalman/signalmanlaw8.PipeTurns", spec := "pipeTurns", inPlace := ["slices.overlaps[byte]"], apart := false, narrowed := true }
def PipeTurnsUptoSaid : Prop := pipeTurnsUptoRow.holds Try.pinned (OpenSpec.upto pipeTurnsSpec)

/-- 'signalmanlaw8.PipePlays', WHERE WHAT IT READS IS OF BULK AT MOST 1048576: true; the input reads as it did. -/
def pipePlaysUptoRow : OpenClaim := { program := "ytcflnobablhdiaa", sum := "94aa86f8afd8e55e897c4287f45af0fa5706cd8eb24425aadec8642b9b40d92c", func := "signalman/signalmanlaw8.PipePlays", spec := "pipePlays", inPlace := ["slices.overlaps[byte]"], apart := false, narrowed := true }
def PipePlaysUptoSaid : Prop := pipePlaysUptoRow.holds Try.pinned (OpenSpec.upto pipePlaysSpec)

end Rows
end Go.Proofs.Ytcflnobablhdiaa

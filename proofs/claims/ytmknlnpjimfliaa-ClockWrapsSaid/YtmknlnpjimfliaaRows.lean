/-
  No cell of these rows narrows 'for every input' (looked for: loops, veiled, ifaces, maps, wideKeys, modest, calm, conditions, laid).
  DERIVED. THE GIVEN ROWS OF THIS SEAT. 4 by the template 'for every input the law returns true; each argument reads behind the call as it read before'; 0 by the template 'total and deterministic' (their statements: YtmknlnpjimfliaaTotals.lean).
  GIVEN WITH THE SEED: the statements are not yours to turn. If you find one false, say at which input.
  Laid BY PROGRAM, IN A SANDBOX (cutbox-rows.mjs): the forced cells as the released guide's own fill.sh prints them over the translation f27c8b5bc3ecf815… (all of the seat's roots in one cut). By AI agents, Wed Nov 11 2026. No macro, syntax, notation, axiom, sorry.
-/
import Derived.Test.YtmknlnpjimfliaaChecked
import GoSem.Claim
import GoSem.ClaimJoined
import GoSem.ClaimMapViews
import Derived.JoinedTies
import Derived.KernelRfl
namespace Go.Proofs.Ytmknlnpjimfliaa
/- THE CELL 'sum', in the pinned program and in every row, IS THE sha256 OF THE DUMP (.gsa) THAT YtmknlnpjimfliaaProg.lean LOADS. Nothing in Lean hashes anything: it is a label: what it is worth is what the hold of that sum in a sandbox is worth. -/
noncomputable def Try.pinned : Pinned := { name := "ytmknlnpjimfliaa", sum := "f27c8b5bc3ecf815003c5b8f3f163d224f0f6d64d98cc1874c850eb0c938b0ca", checked := Try.checked }
namespace Rows
def none {H : Type} : Left H := { results := [], args := [] }

/-- 'signalmanlaw7.ClockOrders': WHATEVER THE INPUT: true; the input reads as it did. -/
def clockOrdersSpec : ChangeSpec := { name := "clockOrders", fn := fun _ => fun
  | [d1, d2] => { results := [.lit (.bool true)], args := [d1, d2] }
  | _ => none }
def clockOrdersRow : OpenClaim := { program := "ytmknlnpjimfliaa", sum := "f27c8b5bc3ecf815003c5b8f3f163d224f0f6d64d98cc1874c850eb0c938b0ca", func := "signalman/signalmanlaw7.ClockOrders", spec := "clockOrders", apart := false }
def ClockOrdersSaid : Prop := clockOrdersRow.holds Try.pinned (OpenSpec.ofChange clockOrdersSpec)

/-- ITS FALSE NEIGHBOUR: 'it returns false'. Refute it at one input. -/
def clockOrdersWrong : ChangeSpec := { name := "clockOrders", fn := fun _ => fun
  | [d1, d2] => { results := [.lit (.bool false)], args := [d1, d2] }
  | _ => none }
def ClockOrdersWrongFalsely : Prop := clockOrdersRow.holds Try.pinned (OpenSpec.ofChange clockOrdersWrong)

/-- 'signalmanlaw7.ClockStops': WHATEVER THE INPUT: true; the input reads as it did. -/
def clockStopsSpec : ChangeSpec := { name := "clockStops", fn := fun _ => fun
  | [d1, d2, d3, d4] => { results := [.lit (.bool true)], args := [d1, d2, d3, d4] }
  | _ => none }
def clockStopsRow : OpenClaim := { program := "ytmknlnpjimfliaa", sum := "f27c8b5bc3ecf815003c5b8f3f163d224f0f6d64d98cc1874c850eb0c938b0ca", func := "signalman/signalmanlaw7.ClockStops", spec := "clockStops", apart := false }
def ClockStopsSaid : Prop := clockStopsRow.holds Try.pinned (OpenSpec.ofChange clockStopsSpec)

/-- ITS FALSE NEIGHBOUR: 'it returns false'. Refute it at one input. -/
def clockStopsWrong : ChangeSpec := { name := "clockStops", fn := fun _ => fun
  | [d1, d2, d3, d4] => { results := [.lit (.bool false)], args := [d1, d2, d3, d4] }
  | _ => none }
def ClockStopsWrongFalsely : Prop := clockStopsRow.holds Try.pinned (OpenSpec.ofChange clockStopsWrong)

/-- 'signalmanlaw7.ClockPlays': WHATEVER THE INPUT: true; the input reads as it did. -/
def clockPlaysSpec : ChangeSpec := { name := "clockPlays", fn := fun _ => fun
  | [d1, d2] => { results := [.lit (.bool true)], args := [d1, d2] }
  | _ => none }
def clockPlaysRow : OpenClaim := { program := "ytmknlnpjimfliaa", sum := "f27c8b5bc3ecf815003c5b8f3f163d224f0f6d64d98cc1874c850eb0c938b0ca", func := "signalman/signalmanlaw7.ClockPlays", spec := "clockPlays", apart := false }
def ClockPlaysSaid : Prop := clockPlaysRow.holds Try.pinned (OpenSpec.ofChange clockPlaysSpec)

/-- ITS FALSE NEIGHBOUR: 'it returns false'. Refute it at one input. -/
def clockPlaysWrong : ChangeSpec := { name := "clockPlays", fn := fun _ => fun
  | [d1, d2] => { results := [.lit (.bool false)], args := [d1, d2] }
  | _ => none }
def ClockPlaysWrongFalsely : Prop := clockPlaysRow.holds Try.pinned (OpenSpec.ofChange clockPlaysWrong)

/-- 'signalmanlaw7.ClockWraps': WHATEVER THE INPUT: true; the input reads as it did. -/
def clockWrapsSpec : ChangeSpec := { name := "clockWraps", fn := fun _ => fun
  | [d1, d2, d3] => { results := [.lit (.bool true)], args := [d1, d2, d3] }
  | _ => none }
def clockWrapsRow : OpenClaim := { program := "ytmknlnpjimfliaa", sum := "f27c8b5bc3ecf815003c5b8f3f163d224f0f6d64d98cc1874c850eb0c938b0ca", func := "signalman/signalmanlaw7.ClockWraps", spec := "clockWraps", apart := false }
def ClockWrapsSaid : Prop := clockWrapsRow.holds Try.pinned (OpenSpec.ofChange clockWrapsSpec)

/-- ITS FALSE NEIGHBOUR: 'it returns false'. Refute it at one input. -/
def clockWrapsWrong : ChangeSpec := { name := "clockWraps", fn := fun _ => fun
  | [d1, d2, d3] => { results := [.lit (.bool false)], args := [d1, d2, d3] }
  | _ => none }
def ClockWrapsWrongFalsely : Prop := clockWrapsRow.holds Try.pinned (OpenSpec.ofChange clockWrapsWrong)

/- THE SECOND FORM. 'bulk': how many values and letters a reading holds, each counted each time it is reached (what is shared counts as often as it is met; a slice's spare places count too). A statement '..UptoSaid' is the law's where the arguments, and the package variables that the reading takes, are together of bulk at most 1048576: NARROWER than '..Said'. Prove '..Said' where nothing that the law and all that it calls make is longer than what came in: it says more and counts as full. Else prove '..UptoSaid'. A law counts once. -/
mutual
def uptoBulk {H : Type} : DataW H → Nat
  | .lit (.string bytes) => bytes.length + 1
  | .lit _ => 1
  | .nil => 1
  | .ptr d => uptoBulk d + 1
  | .slice elems spare => uptoBulkAll elems + uptoBulkAll spare + 1
  | .agg parts => uptoBulkAll parts + 1
  | .iface _ d => uptoBulk d + 1
  | .map entries => uptoBulkEntries entries + 1
  | .held _ => 1
def uptoBulkAll {H : Type} : List (DataW H) → Nat
  | [] => 0
  | d :: r => uptoBulk d + uptoBulkAll r
def uptoBulkEntries {H : Type} : List (Lit × DataW H) → Nat
  | [] => 0
  | x :: r => uptoBulkEntry x + uptoBulkEntries r
def uptoBulkEntry {H : Type} : Lit × DataW H → Nat
  | (.string bytes, d) => bytes.length + uptoBulk d + 1
  | (_, d) => uptoBulk d + 1
 end
def uptoSmall : (H : Type) → List (DataW H) → Bool := fun _ ds => decide (uptoBulkAll ds ≤ 1048576)
def OpenSpec.upto (s : _root_.Go.ChangeSpec) : _root_.Go.OpenSpec := { _root_.Go.OpenSpec.ofChange s with cond := some uptoSmall }

/-- 'signalmanlaw7.ClockOrders', WHERE WHAT IT READS IS OF BULK AT MOST 1048576: true; the input reads as it did. -/
def clockOrdersUptoRow : OpenClaim := { program := "ytmknlnpjimfliaa", sum := "f27c8b5bc3ecf815003c5b8f3f163d224f0f6d64d98cc1874c850eb0c938b0ca", func := "signalman/signalmanlaw7.ClockOrders", spec := "clockOrders", apart := false, narrowed := true }
def ClockOrdersUptoSaid : Prop := clockOrdersUptoRow.holds Try.pinned (OpenSpec.upto clockOrdersSpec)

/-- 'signalmanlaw7.ClockStops', WHERE WHAT IT READS IS OF BULK AT MOST 1048576: true; the input reads as it did. -/
def clockStopsUptoRow : OpenClaim := { program := "ytmknlnpjimfliaa", sum := "f27c8b5bc3ecf815003c5b8f3f163d224f0f6d64d98cc1874c850eb0c938b0ca", func := "signalman/signalmanlaw7.ClockStops", spec := "clockStops", apart := false, narrowed := true }
def ClockStopsUptoSaid : Prop := clockStopsUptoRow.holds Try.pinned (OpenSpec.upto clockStopsSpec)

/-- 'signalmanlaw7.ClockPlays', WHERE WHAT IT READS IS OF BULK AT MOST 1048576: true; the input reads as it did. -/
def clockPlaysUptoRow : OpenClaim := { program := "ytmknlnpjimfliaa", sum := "f27c8b5bc3ecf815003c5b8f3f163d224f0f6d64d98cc1874c850eb0c938b0ca", func := "signalman/signalmanlaw7.ClockPlays", spec := "clockPlays", apart := false, narrowed := true }
def ClockPlaysUptoSaid : Prop := clockPlaysUptoRow.holds Try.pinned (OpenSpec.upto clockPlaysSpec)

/-- 'signalmanlaw7.ClockWraps', WHERE WHAT IT READS IS OF BULK AT MOST 1048576: true; the input reads as it did. -/
def clockWrapsUptoRow : OpenClaim := { program := "ytmknlnpjimfliaa", sum := "f27c8b5bc3ecf815003c5b8f3f163d224f0f6d64d98cc1874c850eb0c938b0ca", func := "signalman/signalmanlaw7.ClockWraps", spec := "clockWraps", apart := false, narrowed := true }
def ClockWrapsUptoSaid : Prop := clockWrapsUptoRow.holds Try.pinned (OpenSpec.upto clockWrapsSpec)

end Rows
end Go.Proofs.Ytmknlnpjimfliaa

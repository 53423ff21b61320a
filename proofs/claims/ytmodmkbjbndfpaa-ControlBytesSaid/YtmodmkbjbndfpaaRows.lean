/-
  No cell of these rows narrows 'for every input' (looked for: loops, veiled, ifaces, maps, wideKeys, modest, calm, conditions, laid).
  DERIVED. THE GIVEN ROWS OF THIS SEAT. 5 by the template 'for every input the law returns true; each argument reads behind the call as it read before'; 0 by the template 'total and deterministic' (their statements: YtmodmkbjbndfpaaTotals.lean).
  GIVEN WITH THE SEED: the statements are not yours to turn. If you find one false, say at which input.
  Laid BY PROGRAM, IN A SANDBOX (cutbox-rows.mjs): the forced cells as the released guide's own fill.sh prints them over the translation 367f70de71764e3b… (all of the seat's roots in one cut). By AI agents, Wed Nov 11 2026. No macro, syntax, notation, axiom, sorry.
-/
import Derived.Test.YtmodmkbjbndfpaaChecked
import GoSem.Claim
import GoSem.ClaimJoined
import GoSem.ClaimMapViews
import Derived.JoinedTies
import Derived.KernelRfl
namespace Go.Proofs.Ytmodmkbjbndfpaa
/- THE CELL 'sum', in the pinned program and in every row, IS THE sha256 OF THE DUMP (.gsa) THAT YtmodmkbjbndfpaaProg.lean LOADS. Nothing in Lean hashes anything: it is a label: what it is worth is what the hold of that sum in a sandbox is worth. -/
noncomputable def Try.pinned : Pinned := { name := "ytmodmkbjbndfpaa", sum := "367f70de71764e3ba291891a94d72d56f5b7f8424b03f67db70109942dc03447", checked := Try.checked }
namespace Rows
def none {H : Type} : Left H := { results := [], args := [] }

/-- 'signalmanlaw12.ControlApart': WHATEVER THE INPUT: true; the input reads as it did. -/
def controlApartSpec : ChangeSpec := { name := "controlApart", fn := fun _ => fun
  | [d1, d2, d3] => { results := [.lit (.bool true)], args := [d1, d2, d3] }
  | _ => none }
def controlApartRow : OpenClaim := { program := "ytmodmkbjbndfpaa", sum := "367f70de71764e3ba291891a94d72d56f5b7f8424b03f67db70109942dc03447", func := "signalman/signalmanlaw12.ControlApart", spec := "controlApart", apart := false }
def ControlApartSaid : Prop := controlApartRow.holds Try.pinned (OpenSpec.ofChange controlApartSpec)

/-- ITS FALSE NEIGHBOUR: 'it returns false'. Refute it at one input. -/
def controlApartWrong : ChangeSpec := { name := "controlApart", fn := fun _ => fun
  | [d1, d2, d3] => { results := [.lit (.bool false)], args := [d1, d2, d3] }
  | _ => none }
def ControlApartWrongFalsely : Prop := controlApartRow.holds Try.pinned (OpenSpec.ofChange controlApartWrong)

/-- 'signalmanlaw12.ControlKnown': WHATEVER THE INPUT: true; the input reads as it did. -/
def controlKnownSpec : ChangeSpec := { name := "controlKnown", fn := fun _ => fun
  | [d] => { results := [.lit (.bool true)], args := [d] }
  | _ => none }
def controlKnownRow : OpenClaim := { program := "ytmodmkbjbndfpaa", sum := "367f70de71764e3ba291891a94d72d56f5b7f8424b03f67db70109942dc03447", func := "signalman/signalmanlaw12.ControlKnown", spec := "controlKnown", apart := false }
def ControlKnownSaid : Prop := controlKnownRow.holds Try.pinned (OpenSpec.ofChange controlKnownSpec)

/-- ITS FALSE NEIGHBOUR: 'it returns false'. Refute it at one input. -/
def controlKnownWrong : ChangeSpec := { name := "controlKnown", fn := fun _ => fun
  | [d] => { results := [.lit (.bool false)], args := [d] }
  | _ => none }
def ControlKnownWrongFalsely : Prop := controlKnownRow.holds Try.pinned (OpenSpec.ofChange controlKnownWrong)

/-- 'signalmanlaw12.ControlLimits': WHATEVER THE INPUT: true; the input reads as it did. -/
def controlLimitsSpec : ChangeSpec := { name := "controlLimits", fn := fun _ => fun
  | [d1, d2, d3] => { results := [.lit (.bool true)], args := [d1, d2, d3] }
  | _ => none }
def controlLimitsRow : OpenClaim := { program := "ytmodmkbjbndfpaa", sum := "367f70de71764e3ba291891a94d72d56f5b7f8424b03f67db70109942dc03447", func := "signalman/signalmanlaw12.ControlLimits", spec := "controlLimits", apart := false }
def ControlLimitsSaid : Prop := controlLimitsRow.holds Try.pinned (OpenSpec.ofChange controlLimitsSpec)

/-- ITS FALSE NEIGHBOUR: 'it returns false'. Refute it at one input. -/
def controlLimitsWrong : ChangeSpec := { name := "controlLimits", fn := fun _ => fun
  | [d1, d2, d3] => { results := [.lit (.bool false)], args := [d1, d2, d3] }
  | _ => none }
def ControlLimitsWrongFalsely : Prop := controlLimitsRow.holds Try.pinned (OpenSpec.ofChange controlLimitsWrong)

/-- 'signalmanlaw12.ControlBytes': WHATEVER THE INPUT: true; the input reads as it did. -/
def controlBytesSpec : ChangeSpec := { name := "controlBytes", fn := fun _ => fun
  | [d1, d2, d3] => { results := [.lit (.bool true)], args := [d1, d2, d3] }
  | _ => none }
def controlBytesRow : OpenClaim := { program := "ytmodmkbjbndfpaa", sum := "367f70de71764e3ba291891a94d72d56f5b7f8424b03f67db70109942dc03447", func := "signalman/signalmanlaw12.ControlBytes", spec := "controlBytes", apart := false }
def ControlBytesSaid : Prop := controlBytesRow.holds Try.pinned (OpenSpec.ofChange controlBytesSpec)

/-- ITS FALSE NEIGHBOUR: 'it returns false'. Refute it at one input. -/
def controlBytesWrong : ChangeSpec := { name := "controlBytes", fn := fun _ => fun
  | [d1, d2, d3] => { results := [.lit (.bool false)], args := [d1, d2, d3] }
  | _ => none }
def ControlBytesWrongFalsely : Prop := controlBytesRow.holds Try.pinned (OpenSpec.ofChange controlBytesWrong)

/-- 'signalmanlaw12.ControlReads': WHATEVER THE INPUT: true; the input reads as it did. -/
def controlReadsSpec : ChangeSpec := { name := "controlReads", fn := fun _ => fun
  | [d1, d2] => { results := [.lit (.bool true)], args := [d1, d2] }
  | _ => none }
def controlReadsRow : OpenClaim := { program := "ytmodmkbjbndfpaa", sum := "367f70de71764e3ba291891a94d72d56f5b7f8424b03f67db70109942dc03447", func := "signalman/signalmanlaw12.ControlReads", spec := "controlReads", apart := false }
def ControlReadsSaid : Prop := controlReadsRow.holds Try.pinned (OpenSpec.ofChange controlReadsSpec)

/-- ITS FALSE NEIGHBOUR: 'it returns false'. Refute it at one input. -/
def controlReadsWrong : ChangeSpec := { name := "controlReads", fn := fun _ => fun
  | [d1, d2] => { results := [.lit (.bool false)], args := [d1, d2] }
  | _ => none }
def ControlReadsWrongFalsely : Prop := controlReadsRow.holds Try.pinned (OpenSpec.ofChange controlReadsWrong)

/- THE SECOND FORM. 'bulk': how many values and letters a reading holds, each counted each time it is reached (what is shared counts as often as it is met; a slice's spare places count too). A statement '..UptoSaid' is the law's where the arguments, and the package variables that the reading takes, are together of bulk at most 1048576: NARROWER than '..Said'. Prove '..Said' where nothing that the law and all that it calls make is longer than what came in: it says more and counts as full. Else prove '..UptoSaid'. A law counts once. -/
mutual
def uptoBulk {H : Type} : DataW H → Nat
  | .lit (.string bytes) => bytes.length + 1
  | .lit _ => 1
  | .nil => 1
  | .ptr d => uptoBulk d + 1
  | .slice elems spare => uptoBulkAll elems + uptoBulkAll spare + 1
  | .agg parts => uptoBulkAll parts + 1
  | .iface _ d => uptoBulk d + 1
  | .map entries => uptoBulkEntries entries + 1
  | .held _ => 1
def uptoBulkAll {H : Type} : List (DataW H) → Nat
  | [] => 0
  | d :: r => uptoBulk d + uptoBulkAll r
def uptoBulkEntries {H : Type} : List (Lit × DataW H) → Nat
  | [] => 0
  | x :: r => uptoBulkEntry x + uptoBulkEntries r
def uptoBulkEntry {H : Type} : Lit × DataW H → Nat
  | (.string bytes, d) => bytes.length + uptoBulk d + 1
  | (_, d) => uptoBulk d + 1
 end
def uptoSmall : (H : Type) → List (DataW H) → Bool := fun _ ds => decide (uptoBulkAll ds ≤ 1048576)
def OpenSpec.upto (s : _root_.Go.ChangeSpec) : _root_.Go.OpenSpec := { _root_.Go.OpenSpec.ofChange s with cond := some uptoSmall }

/-- 'signalmanlaw12.ControlApart', WHERE WHAT IT READS IS OF BULK AT MOST 1048576: true; the input reads as it did. -/
def controlApartUptoRow : OpenClaim := { program := "ytmodmkbjbndfpaa", sum := "367f70de71764e3ba291891a94d72d56f5b7f8424b03f67db70109942dc03447", func := "signalman/signalmanlaw12.ControlApart", spec := "controlApart", apart := false, narrowed := true }
def ControlApartUptoSaid : Prop := controlApartUptoRow.holds Try.pinned (OpenSpec.upto controlApartSpec)

/-- 'signalmanlaw12.ControlKnown', WHERE WHAT IT READS IS OF BULK AT MOST 1048576: true; the input reads as it did. -/
def controlKnownUptoRow : OpenClaim := { program := "ytmodmkbjbndfpaa", sum := "367f70de71764e3ba291891a94d72d56f5b7f8424b03f67db70109942dc03447", func := "signalman/signalmanlaw12.ControlKnown", spec := "controlKnown", apart := false, narrowed := true }
def ControlKnownUptoSaid : Prop := controlKnownUptoRow.holds Try.pinned (OpenSpec.upto controlKnownSpec)

/-- 'signalmanlaw12.ControlLimits', WHERE WHAT IT READS IS OF BULK AT MOST 1048576: true; the input reads as it did. -/
def controlLimitsUptoRow : OpenClaim := { program := "ytmodmkbjbndfpaa", sum := "367f70de71764e3ba291891a94d72d56f5b7f8424b03f67db70109942dc03447", func := "signalman/signalmanlaw12.ControlLimits", spec := "controlLimits", apart := false, narrowed := true }
def ControlLimitsUptoSaid : Prop := controlLimitsUptoRow.holds Try.pinned (OpenSpec.upto controlLimitsSpec)

/-- 'signalmanlaw12.ControlBytes', WHERE WHAT IT READS IS OF BULK AT MOST 1048576: true; the input reads as it did. -/
def controlBytesUptoRow : OpenClaim := { program := "ytmodmkbjbndfpaa", sum := "367f70de71764e3ba291891a94d72d56f5b7f8424b03f67db70109942dc03447", func := "signalman/signalmanlaw12.ControlBytes", spec := "controlBytes", apart := false, narrowed := true }
def ControlBytesUptoSaid : Prop := controlBytesUptoRow.holds Try.pinned (OpenSpec.upto controlBytesSpec)

/-- 'signalmanlaw12.ControlReads', WHERE WHAT IT READS IS OF BULK AT MOST 1048576: true; the input reads as it did. -/
def controlReadsUptoRow : OpenClaim := { program := "ytmodmkbjbndfpaa", sum := "367f70de71764e3ba291891a94d72d56f5b7f8424b03f67db70109942dc03447", func := "signalman/signalmanlaw12.ControlReads", spec := "controlReads", apart := false, narrowed := true }
def ControlReadsUptoSaid : Prop := controlReadsUptoRow.holds Try.pinned (OpenSpec.upto controlReadsSpec)

end Rows
end Go.Proofs.Ytmodmkbjbndfpaa

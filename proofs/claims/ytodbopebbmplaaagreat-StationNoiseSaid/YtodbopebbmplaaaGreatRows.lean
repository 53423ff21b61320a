/-
  No cell of these rows narrows 'for every input' (looked for: loops, veiled, ifaces, maps, wideKeys, modest, calm, conditions, laid).
  DERIVED. THE GIVEN ROWS OF THIS SEAT. 5 by the template 'for every input the law returns true; each argument reads behind the call as it read before'; 0 by the template 'total and deterministic' (their statements: YtodbopebbmplaaaGreatTotals.lean).
  GIVEN WITH THE SEED: the statements are not yours to turn. If you find one false, say at which input.
  Laid BY PROGRAM, IN A SANDBOX (cutbox-rows.mjs): the forced cells as the released guide's own fill.sh prints them over the translation 70f531c3d65dac5f… (all of the seat's roots in one cut). By AI agents, Wed Nov 11 2026. No macro, syntax, notation, axiom, sorry.
-/
import Derived.Test.YtodbopebbmplaaaGreatChecked
import GoSem.Claim
import GoSem.ClaimJoined
import GoSem.ClaimMapViews
import Derived.JoinedTies
import Derived.KernelRfl
namespace Go.Proofs.YtodbopebbmplaaaGreat
/- THE CELL 'sum', in the pinned program and in every row, IS THE sha256 OF THE DUMP (.gsa) THAT YtodbopebbmplaaaGreatProg.lean LOADS. Nothing in Lean hashes anything: it is a label: what it is worth is what the hold of that sum in a sandbox is worth. -/
noncomputable def Tryz.pinned : Pinned := { name := "ytodbopebbmplaaagreat", sum := "70f531c3d65dac5f43e4c882da81f1a0906403a1ec172a3b9e7c3b7fd1bad6ec", checked := Tryz.checked }
namespace Rows
def none {H : Type} : Left H := { results := [], args := [] }

/-- 'signalmanlaw20.StationSelects': WHATEVER THE INPUT: true; the input reads as it did. -/
def stationSelectsSpec : ChangeSpec := { name := "stationSelects", fn := fun _ => fun
  | [d1, d2, d3] => { results := [.lit (.bool true)], args := [d1, d2, d3] }
  | _ => none }
def stationSelectsRow : OpenClaim := { program := "ytodbopebbmplaaagreat", sum := "70f531c3d65dac5f43e4c882da81f1a0906403a1ec172a3b9e7c3b7fd1bad6ec", func := "signalman/signalmanlaw20.StationSelects", spec := "stationSelects", apart := false }
def StationSelectsSaid : Prop := stationSelectsRow.holds Tryz.pinned (OpenSpec.ofChange stationSelectsSpec)

/-- ITS FALSE NEIGHBOUR: 'it returns false'. Refute it at one input. -/
def stationSelectsWrong : ChangeSpec := { name := "stationSelects", fn := fun _ => fun
  | [d1, d2, d3] => { results := [.lit (.bool false)], args := [d1, d2, d3] }
  | _ => none }
def StationSelectsWrongFalsely : Prop := stationSelectsRow.holds Tryz.pinned (OpenSpec.ofChange stationSelectsWrong)

/-- 'signalmanlaw20.StationNoise': WHATEVER THE INPUT: true; the input reads as it did. -/
def stationNoiseSpec : ChangeSpec := { name := "stationNoise", fn := fun _ => fun
  | [d1, d2, d3, d4, d5] => { results := [.lit (.bool true)], args := [d1, d2, d3, d4, d5] }
  | _ => none }
def stationNoiseRow : OpenClaim := { program := "ytodbopebbmplaaagreat", sum := "70f531c3d65dac5f43e4c882da81f1a0906403a1ec172a3b9e7c3b7fd1bad6ec", func := "signalman/signalmanlaw20.StationNoise", spec := "stationNoise", apart := false }
def StationNoiseSaid : Prop := stationNoiseRow.holds Tryz.pinned (OpenSpec.ofChange stationNoiseSpec)

/-- ITS FALSE NEIGHBOUR: 'it returns false'. Refute it at one input. -/
def stationNoiseWrong : ChangeSpec := { name := "stationNoise", fn := fun _ => fun
  | [d1, d2, d3, d4, d5] => { results := [.lit (.bool false)], args := [d1, d2, d3, d4, d5] }
  | _ => none }
def StationNoiseWrongFalsely : Prop := stationNoiseRow.holds Tryz.pinned (OpenSpec.ofChange stationNoiseWrong)

/-- 'signalmanlaw20.StationTwins': WHATEVER THE INPUT: true; the input reads as it did. -/
def stationTwinsSpec : ChangeSpec := { name := "stationTwins", fn := fun _ => fun
  | [d1, d2, d3] => { results := [.lit (.bool true)], args := [d1, d2, d3] }
  | _ => none }
def stationTwinsRow : OpenClaim := { program := "ytodbopebbmplaaagreat", sum := "70f531c3d65dac5f43e4c882da81f1a0906403a1ec172a3b9e7c3b7fd1bad6ec", func := "signalman/signalmanlaw20.StationTwins", spec := "stationTwins", apart := false }
def StationTwinsSaid : Prop := stationTwinsRow.holds Tryz.pinned (OpenSpec.ofChange stationTwinsSpec)

/-- ITS FALSE NEIGHBOUR: 'it returns false'. Refute it at one input. -/
def stationTwinsWrong : ChangeSpec := { name := "stationTwins", fn := fun _ => fun
  | [d1, d2, d3] => { results := [.lit (.bool false)], args := [d1, d2, d3] }
  | _ => none }
def StationTwinsWrongFalsely : Prop := stationTwinsRow.holds Tryz.pinned (OpenSpec.ofChange stationTwinsWrong)

/-- 'signalmanlaw20.StationRefuses': WHATEVER THE INPUT: true; the input reads as it did. -/
def stationRefusesSpec : ChangeSpec := { name := "stationRefuses", fn := fun _ => fun
  | [d1, d2, d3] => { results := [.lit (.bool true)], args := [d1, d2, d3] }
  | _ => none }
def stationRefusesRow : OpenClaim := { program := "ytodbopebbmplaaagreat", sum := "70f531c3d65dac5f43e4c882da81f1a0906403a1ec172a3b9e7c3b7fd1bad6ec", func := "signalman/signalmanlaw20.StationRefuses", spec := "stationRefuses", apart := false }
def StationRefusesSaid : Prop := stationRefusesRow.holds Tryz.pinned (OpenSpec.ofChange stationRefusesSpec)

/-- ITS FALSE NEIGHBOUR: 'it returns false'. Refute it at one input. -/
def stationRefusesWrong : ChangeSpec := { name := "stationRefuses", fn := fun _ => fun
  | [d1, d2, d3] => { results := [.lit (.bool false)], args := [d1, d2, d3] }
  | _ => none }
def StationRefusesWrongFalsely : Prop := stationRefusesRow.holds Tryz.pinned (OpenSpec.ofChange stationRefusesWrong)

/-- 'signalmanlaw20.StationPlays': WHATEVER THE INPUT: true; the input reads as it did. -/
def stationPlaysSpec : ChangeSpec := { name := "stationPlays", fn := fun _ => fun
  | [d1, d2] => { results := [.lit (.bool true)], args := [d1, d2] }
  | _ => none }
def stationPlaysRow : OpenClaim := { program := "ytodbopebbmplaaagreat", sum := "70f531c3d65dac5f43e4c882da81f1a0906403a1ec172a3b9e7c3b7fd1bad6ec", func := "signalman/signalmanlaw20.StationPlays", spec := "stationPlays", apart := false }
def StationPlaysSaid : Prop := stationPlaysRow.holds Tryz.pinned (OpenSpec.ofChange stationPlaysSpec)

/-- ITS FALSE NEIGHBOUR: 'it returns false'. Refute it at one input. -/
def stationPlaysWrong : ChangeSpec := { name := "stationPlays", fn := fun _ => fun
  | [d1, d2] => { results := [.lit (.bool false)], args := [d1, d2] }
  | _ => none }
def StationPlaysWrongFalsely : Prop := stationPlaysRow.holds Tryz.pinned (OpenSpec.ofChange stationPlaysWrong)

/- THE SECOND FORM. 'bulk': how many values and letters a reading holds, each counted each time it is reached (what is shared counts as often as it is met; a slice's spare places count too). A statement '..UptoSaid' is the law's where the arguments, and the package variables that the reading takes, are together of bulk at most 1048576: NARROWER than '..Said'. Prove '..Said' where nothing that the law and all that it calls make is longer than what came in: it says more and counts as full. Else prove '..UptoSaid'. A law counts once. -/
mutual
def uptoBulk {H : Type} : DataW H → Nat
  | .lit (.string bytes) => bytes.length + 1
  | .lit _ => 1
  | .nil => 1
  | .ptr d => uptoBulk d + 1
  | .slice elems spare => uptoBulkAll elems + uptoBulkAll spare + 1
  | .agg parts => uptoBulkAll parts + 1
  | .iface _ d => uptoBulk d + 1
  | .map entries => uptoBulkEntries entries + 1
  | .held _ => 1
def uptoBulkAll {H : Type} : List (DataW H) → Nat
  | [] => 0
  | d :: r => uptoBulk d + uptoBulkAll r
def uptoBulkEntries {H : Type} : List (Lit × DataW H) → Nat
  | [] => 0
  | x :: r => uptoBulkEntry x + uptoBulkEntries r
def uptoBulkEntry {H : Type} : Lit × DataW H → Nat
  | (.string bytes, d) => bytes.length + uptoBulk d + 1
  | (_, d) => uptoBulk d + 1
 end
def uptoSmall : (H : Type) → List (DataW H) → Bool := fun _ ds => decide (uptoBulkAll ds ≤ 1048576)
def OpenSpec.upto (s : _root_.Go.ChangeSpec) : _root_.Go.OpenSpec := { _root_.Go.OpenSpec.ofChange s with cond := some uptoSmall }

/-- 'signalmanlaw20.StationSelects', WHERE WHAT IT READS IS OF BULK AT MOST 1048576: true; the input reads as it did. -/
def stationSelectsUptoRow : OpenClaim := { program := "ytodbopebbmplaaagreat", sum := "70f531c3d65dac5f43e4c882da81f1a0906403a1ec172a3b9e7c3b7fd1bad6ec", func := "signalman/signalmanlaw20.StationSelects", spec := "stationSelects", apart := false, narrowed := true }
def StationSelectsUptoSaid : Prop := stationSelectsUptoRow.holds Tryz.pinned (OpenSpec.upto stationSelectsSpec)

/-- 'signalmanlaw20.StationNoise', WHERE WHAT IT READS IS OF BULK AT MOST 1048576: true; the input reads as it did. -/
def stationNoiseUptoRow : OpenClaim := { program := "ytodbopebbmplaaagreat", sum := "70f531c3d65dac5f43e4c882da81f1a0906403a1ec172a3b9e7c3b7fd1bad6ec", func := "signalman/signalmanlaw20.StationNoise", spec := "stationNoise", apart := false, narrowed := true }
def StationNoiseUptoSaid : Prop := stationNoiseUptoRow.holds Tryz.pinned (OpenSpec.upto stationNoiseSpec)

/-- 'signalmanlaw20.StationTwins', WHERE WHAT IT READS IS OF BULK AT MOST 1048576: true; the input reads as it did. -/
def stationTwinsUptoRow : OpenClaim := { program := "ytodbopebbmplaaagreat", sum := "70f531c3d65dac5f43e4c882da81f1a0906403a1ec172a3b9e7c3b7fd1bad6ec", func := "signalman/signalmanlaw20.StationTwins", spec := "stationTwins", apart := false, narrowed := true }
def StationTwinsUptoSaid : Prop := stationTwinsUptoRow.holds Tryz.pinned (OpenSpec.upto stationTwinsSpec)

/-- 'signalmanlaw20.StationRefuses', WHERE WHAT IT READS IS OF BULK AT MOST 1048576: true; the input reads as it did. -/
def stationRefusesUptoRow : OpenClaim := { program := "ytodbopebbmplaaagreat", sum := "70f531c3d65dac5f43e4c882da81f1a0906403a1ec172a3b9e7c3b7fd1bad6ec", func := "signalman/signalmanlaw20.StationRefuses", spec := "stationRefuses", apart := false, narrowed := true }
def StationRefusesUptoSaid : Prop := stationRefusesUptoRow.holds Tryz.pinned (OpenSpec.upto stationRefusesSpec)

/-- 'signalmanlaw20.StationPlays', WHERE WHAT IT READS IS OF BULK AT MOST 1048576: true; the input reads as it did. -/
def stationPlaysUptoRow : OpenClaim := { program := "ytodbopebbmplaaagreat", sum := "70f531c3d65dac5f43e4c882da81f1a0906403a1ec172a3b9e7c3b7fd1bad6ec", func := "signalman/signalmanlaw20.StationPlays", spec := "stationPlays", apart := false, narrowed := true }
def StationPlaysUptoSaid : Prop := stationPlaysUptoRow.holds Tryz.pinned (OpenSpec.upto stationPlaysSpec)

end Rows
end Go.Proofs.YtodbopebbmplaaaGreat

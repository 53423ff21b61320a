/-
  No cell of these rows narrows 'for every input' (looked for: loops, veiled, ifaces, maps, wideKeys, modest, calm, conditions, laid).
  DERIVED. THE GIVEN ROWS OF THIS SEAT. 12 by the template 'for every input the law returns true; each argument reads behind the call as it read before'; 0 by the template 'total and deterministic' (their statements: YtnlcafmkmfnobaaTotals.lean).
  GIVEN WITH THE SEED: the statements are not yours to turn. If you find one false, say at which input.
  Laid BY PROGRAM, IN A SANDBOX (cutbox-rows.mjs): the forced cells as the released guide's own fill.sh prints them over the translation e2a4bbb9b14b1652… (all of the seat's roots in one cut). By AI agents, Wed Nov 11 2026. No macro, syntax, notation, axiom, sorry.
-/
import Derived.Test.YtnlcafmkmfnobaaChecked
import GoSem.Claim
import GoSem.ClaimJoined
import GoSem.ClaimMapViews
import Derived.JoinedTies
import Derived.KernelRfl
namespace Go.Proofs.Ytnlcafmkmfnobaa
/- THE CELL 'sum', in the pinned program and in every row, IS THE sha256 OF THE DUMP (.gsa) THAT YtnlcafmkmfnobaaProg.lean LOADS. Nothing in Lean hashes anything: it is a label: what it is worth is what the hold of that sum in a sandbox is worth. -/
noncomputable def Try.pinned : Pinned := { name := "ytnlcafmkmfnobaa", sum := "e2a4bbb9b14b16523c2d54e03ae80b05134fd8f4961423355b585428b9b765b9", checked := Try.checked }
namespace Rows
def none {H : Type} : Left H := { results := [], args := [] }

/-- 'signalmanlaw15.ArqTries': WHATEVER THE INPUT: true; the input reads as it did. -/
def arqTriesSpec : ChangeSpec := { name := "arqTries", fn := fun _ => fun
  | [d1, d2, d3] => { results := [.lit (.bool true)], args := [d1, d2, d3] }
  | _ => none }
def arqTriesRow : OpenClaim := { program := "ytnlcafmkmfnobaa", sum := "e2a4bbb9b14b16523c2d54e03ae80b05134fd8f4961423355b585428b9b765b9", func := "signalman/signalmanlaw15.ArqTries", spec := "arqTries", apart := false }
def ArqTriesSaid : Prop := arqTriesRow.holds Try.pinned (OpenSpec.ofChange arqTriesSpec)

/-- ITS FALSE NEIGHBOUR: 'it returns false'. Refute it at one input. -/
def arqTriesWrong : ChangeSpec := { name := "arqTries", fn := fun _ => fun
  | [d1, d2, d3] => { results := [.lit (.bool false)], args := [d1, d2, d3] }
  | _ => none }
def ArqTriesWrongFalsely : Prop := arqTriesRow.holds Try.pinned (OpenSpec.ofChange arqTriesWrong)

/-- 'signalmanlaw15.ArqAnswers': WHATEVER THE INPUT: true; the input reads as it did. -/
def arqAnswersSpec : ChangeSpec := { name := "arqAnswers", fn := fun _ => fun
  | [d1, d2] => { results := [.lit (.bool true)], args := [d1, d2] }
  | _ => none }
def arqAnswersRow : OpenClaim := { program := "ytnlcafmkmfnobaa", sum := "e2a4bbb9b14b16523c2d54e03ae80b05134fd8f4961423355b585428b9b765b9", func := "signalman/signalmanlaw15.ArqAnswers", spec := "arqAnswers", apart := false }
def ArqAnswersSaid : Prop := arqAnswersRow.holds Try.pinned (OpenSpec.ofChange arqAnswersSpec)

/-- ITS FALSE NEIGHBOUR: 'it returns false'. Refute it at one input. -/
def arqAnswersWrong : ChangeSpec := { name := "arqAnswers", fn := fun _ => fun
  | [d1, d2] => { results := [.lit (.bool false)], args := [d1, d2] }
  | _ => none }
def ArqAnswersWrongFalsely : Prop := arqAnswersRow.holds Try.pinned (OpenSpec.ofChange arqAnswersWrong)

/-- 'signalmanlaw15.ArqRejects': WHATEVER THE INPUT: true; the input reads as it did. -/
def arqRejectsSpec : ChangeSpec := { name := "arqRejects", fn := fun _ => fun
  | [d1, d2] => { results := [.lit (.bool true)], args := [d1, d2] }
  | _ => none }
def arqRejectsRow : OpenClaim := { program := "ytnlcafmkmfnobaa", sum := "e2a4bbb9b14b16523c2d54e03ae80b05134fd8f4961423355b585428b9b765b9", func := "signalman/signalmanlaw15.ArqRejects", spec := "arqRejects", apart := false }
def ArqRejectsSaid : Prop := arqRejectsRow.holds Try.pinned (OpenSpec.ofChange arqRejectsSpec)

/-- ITS FALSE NEIGHBOUR: 'it returns false'. Refute it at one input. -/
def arqRejectsWrong : ChangeSpec := { name := "arqRejects", fn := fun _ => fun
  | [d1, d2] => { results := [.lit (.bool false)], args := [d1, d2] }
  | _ => none }
def ArqRejectsWrongFalsely : Prop := arqRejectsRow.holds Try.pinned (OpenSpec.ofChange arqRejectsWrong)

/-- 'signalmanlaw15.ArqMeets': WHATEVER THE INPUT: true; the input reads as it did. -/
def arqMeetsSpec : ChangeSpec := { name := "arqMeets", fn := fun _ => fun
  | [d1, d2] => { results := [.lit (.bool true)], args := [d1, d2] }
  | _ => none }
def arqMeetsRow : OpenClaim := { program := "ytnlcafmkmfnobaa", sum := "e2a4bbb9b14b16523c2d54e03ae80b05134fd8f4961423355b585428b9b765b9", func := "signalman/signalmanlaw15.ArqMeets", spec := "arqMeets", apart := false }
def ArqMeetsSaid : Prop := arqMeetsRow.holds Try.pinned (OpenSpec.ofChange arqMeetsSpec)

/-- ITS FALSE NEIGHBOUR: 'it returns false'. Refute it at one input. -/
def arqMeetsWrong : ChangeSpec := { name := "arqMeets", fn := fun _ => fun
  | [d1, d2] => { results := [.lit (.bool false)], args := [d1, d2] }
  | _ => none }
def ArqMeetsWrongFalsely : Prop := arqMeetsRow.holds Try.pinned (OpenSpec.ofChange arqMeetsWrong)

/-- 'signalmanlaw15.ArqLong': WHATEVER THE INPUT: true; the input reads as it did. -/
def arqLongSpec : ChangeSpec := { name := "arqLong", fn := fun _ => fun
  | [d1, d2] => { results := [.lit (.bool true)], args := [d1, d2] }
  | _ => none }
def arqLongRow : OpenClaim := { program := "ytnlcafmkmfnobaa", sum := "e2a4bbb9b14b16523c2d54e03ae80b05134fd8f4961423355b585428b9b765b9", func := "signalman/signalmanlaw15.ArqLong", spec := "arqLong", apart := false }
def ArqLongSaid : Prop := arqLongRow.holds Try.pinned (OpenSpec.ofChange arqLongSpec)

/-- ITS FALSE NEIGHBOUR: 'it returns false'. Refute it at one input. -/
def arqLongWrong : ChangeSpec := { name := "arqLong", fn := fun _ => fun
  | [d1, d2] => { results := [.lit (.bool false)], args := [d1, d2] }
  | _ => none }
def ArqLongWrongFalsely : Prop := arqLongRow.holds Try.pinned (OpenSpec.ofChange arqLongWrong)

/-- 'signalmanlaw15.ArqWindows': WHATEVER THE INPUT: true; the input reads as it did. -/
def arqWindowsSpec : ChangeSpec := { name := "arqWindows", fn := fun _ => fun
  | [d1, d2, d3, d4] => { results := [.lit (.bool true)], args := [d1, d2, d3, d4] }
  | _ => none }
def arqWindowsRow : OpenClaim := { program := "ytnlcafmkmfnobaa", sum := "e2a4bbb9b14b16523c2d54e03ae80b05134fd8f4961423355b585428b9b765b9", func := "signalman/signalmanlaw15.ArqWindows", spec := "arqWindows", apart := false }
def ArqWindowsSaid : Prop := arqWindowsRow.holds Try.pinned (OpenSpec.ofChange arqWindowsSpec)

/-- ITS FALSE NEIGHBOUR: 'it returns false'. Refute it at one input. -/
def arqWindowsWrong : ChangeSpec := { name := "arqWindows", fn := fun _ => fun
  | [d1, d2, d3, d4] => { results := [.lit (.bool false)], args := [d1, d2, d3, d4] }
  | _ => none }
def ArqWindowsWrongFalsely : Prop := arqWindowsRow.holds Try.pinned (OpenSpec.ofChange arqWindowsWrong)

/-- 'signalmanlaw15.ArqStale': WHATEVER THE INPUT: true; the input reads as it did. -/
def arqStaleSpec : ChangeSpec := { name := "arqStale", fn := fun _ => fun
  | [d1, d2, d3] => { results := [.lit (.bool true)], args := [d1, d2, d3] }
  | _ => none }
def arqStaleRow : OpenClaim := { program := "ytnlcafmkmfnobaa", sum := "e2a4bbb9b14b16523c2d54e03ae80b05134fd8f4961423355b585428b9b765b9", func := "signalman/signalmanlaw15.ArqStale", spec := "arqStale", apart := false }
def ArqStaleSaid : Prop := arqStaleRow.holds Try.pinned (OpenSpec.ofChange arqStaleSpec)

/-- ITS FALSE NEIGHBOUR: 'it returns false'. Refute it at one input. -/
def arqStaleWrong : ChangeSpec := { name := "arqStale", fn := fun _ => fun
  | [d1, d2, d3] => { results := [.lit (.bool false)], args := [d1, d2, d3] }
  | _ => none }
def ArqStaleWrongFalsely : Prop := arqStaleRow.holds Try.pinned (OpenSpec.ofChange arqStaleWrong)

/-- 'signalmanlaw15.ArqResets': WHATEVER THE INPUT: true; the input reads as it did. -/
def arqResetsSpec : ChangeSpec := { name := "arqResets", fn := fun _ => fun
  | [d1, d2] => { results := [.lit (.bool true)], args := [d1, d2] }
  | _ => none }
def arqResetsRow : OpenClaim := { program := "ytnlcafmkmfnobaa", sum := "e2a4bbb9b14b16523c2d54e03ae80b05134fd8f4961423355b585428b9b765b9", func := "signalman/signalmanlaw15.ArqResets", spec := "arqResets", apart := false }
def ArqResetsSaid : Prop := arqResetsRow.holds Try.pinned (OpenSpec.ofChange arqResetsSpec)

/-- ITS FALSE NEIGHBOUR: 'it returns false'. Refute it at one input. -/
def arqResetsWrong : ChangeSpec := { name := "arqResets", fn := fun _ => fun
  | [d1, d2] => { results := [.lit (.bool false)], args := [d1, d2] }
  | _ => none }
def ArqResetsWrongFalsely : Prop := arqResetsRow.holds Try.pinned (OpenSpec.ofChange arqResetsWrong)

/-- 'signalmanlaw15.ArqAgain': WHATEVER THE INPUT: true; the input reads as it did. -/
def arqAgainSpec : ChangeSpec := { name := "arqAgain", fn := fun _ => fun
  | [d1, d2] => { results := [.lit (.bool true)], args := [d1, d2] }
  | _ => none }
def arqAgainRow : OpenClaim := { program := "ytnlcafmkmfnobaa", sum := "e2a4bbb9b14b16523c2d54e03ae80b05134fd8f4961423355b585428b9b765b9", func := "signalman/signalmanlaw15.ArqAgain", spec := "arqAgain", apart := false }
def ArqAgainSaid : Prop := arqAgainRow.holds Try.pinned (OpenSpec.ofChange arqAgainSpec)

/-- ITS FALSE NEIGHBOUR: 'it returns false'. Refute it at one input. -/
def arqAgainWrong : ChangeSpec := { name := "arqAgain", fn := fun _ => fun
  | [d1, d2] => { results := [.lit (.bool false)], args := [d1, d2] }
  | _ => none }
def ArqAgainWrongFalsely : Prop := arqAgainRow.holds Try.pinned (OpenSpec.ofChange arqAgainWrong)

/-- 'signalmanlaw15.ArqCloses': WHATEVER THE INPUT: true; the input reads as it did. -/
def arqClosesSpec : ChangeSpec := { name := "arqCloses", fn := fun _ => fun
  | [d1, d2, d3] => { results := [.lit (.bool true)], args := [d1, d2, d3] }
  | _ => none }
def arqClosesRow : OpenClaim := { program := "ytnlcafmkmfnobaa", sum := "e2a4bbb9b14b16523c2d54e03ae80b05134fd8f4961423355b585428b9b765b9", func := "signalman/signalmanlaw15.ArqCloses", spec := "arqCloses", apart := false }
def ArqClosesSaid : Prop := arqClosesRow.holds Try.pinned (OpenSpec.ofChange arqClosesSpec)

/-- ITS FALSE NEIGHBOUR: 'it returns false'. Refute it at one input. -/
def arqClosesWrong : ChangeSpec := { name := "arqCloses", fn := fun _ => fun
  | [d1, d2, d3] => { results := [.lit (.bool false)], args := [d1, d2, d3] }
  | _ => none }
def ArqClosesWrongFalsely : Prop := arqClosesRow.holds Try.pinned (OpenSpec.ofChange arqClosesWrong)

/-- 'signalmanlaw15.ArqDelivers': WHATEVER THE INPUT: true; the input reads as it did. -/
def arqDeliversSpec : ChangeSpec := { name := "arqDelivers", fn := fun _ => fun
  | [d1, d2, d3] => { results := [.lit (.bool true)], args := [d1, d2, d3] }
  | _ => none }
def arqDeliversRow : OpenClaim := { program := "ytnlcafmkmfnobaa", sum := "e2a4bbb9b14b16523c2d54e03ae80b05134fd8f4961423355b585428b9b765b9", func := "signalman/signalmanlaw15.ArqDelivers", spec := "arqDelivers", apart := false }
def ArqDeliversSaid : Prop := arqDeliversRow.holds Try.pinned (OpenSpec.ofChange arqDeliversSpec)

/-- ITS FALSE NEIGHBOUR: 'it returns false'. Refute it at one input. -/
def arqDeliversWrong : ChangeSpec := { name := "arqDelivers", fn := fun _ => fun
  | [d1, d2, d3] => { results := [.lit (.bool false)], args := [d1, d2, d3] }
  | _ => none }
def ArqDeliversWrongFalsely : Prop := arqDeliversRow.holds Try.pinned (OpenSpec.ofChange arqDeliversWrong)

/-- 'signalmanlaw15.ArqOrders': WHATEVER THE INPUT: true; the input reads as it did. -/
def arqOrdersSpec : ChangeSpec := { name := "arqOrders", fn := fun _ => fun
  | [d1, d2, d3] => { results := [.lit (.bool true)], args := [d1, d2, d3] }
  | _ => none }
def arqOrdersRow : OpenClaim := { program := "ytnlcafmkmfnobaa", sum := "e2a4bbb9b14b16523c2d54e03ae80b05134fd8f4961423355b585428b9b765b9", func := "signalman/signalmanlaw15.ArqOrders", spec := "arqOrders", apart := false }
def ArqOrdersSaid : Prop := arqOrdersRow.holds Try.pinned (OpenSpec.ofChange arqOrdersSpec)

/-- ITS FALSE NEIGHBOUR: 'it returns false'. Refute it at one input. -/
def arqOrdersWrong : ChangeSpec := { name := "arqOrders", fn := fun _ => fun
  | [d1, d2, d3] => { results := [.lit (.bool false)], args := [d1, d2, d3] }
  | _ => none }
def ArqOrdersWrongFalsely : Prop := arqOrdersRow.holds Try.pinned (OpenSpec.ofChange arqOrdersWrong)

/- THE SECOND FORM. 'bulk': how many values and letters a reading holds, each counted each time it is reached (what is shared counts as often as it is met; a slice's spare places count too). A statement '..UptoSaid' is the law's where the arguments, and the package variables that the reading takes, are together of bulk at most 1048576: NARROWER than '..Said'. Prove '..Said' where nothing that the law and all that it calls make is longer than what came in: it says more and counts as full. Else prove '..UptoSaid'. A law counts once. -/
mutual
def uptoBulk {H : Type} : DataW H → Nat
  | .lit (.string bytes) => bytes.length + 1
  | .lit _ => 1
  | .nil => 1
  | .ptr d => uptoBulk d + 1
  | .slice elems spare => uptoBulkAll elems + uptoBulkAll spare + 1
  | .agg parts => uptoBulkAll parts + 1
  | .iface _ d => uptoBulk d + 1
  | .map entries => uptoBulkEntries entries + 1
  | .held _ => 1
def uptoBulkAll {H : Type} : List (DataW H) → Nat
  | [] => 0
  | d :: r => uptoBulk d + uptoBulkAll r
def uptoBulkEntries {H : Type} : List (Lit × DataW H) → Nat
  | [] => 0
  | x :: r => uptoBulkEntry x + uptoBulkEntries r
def uptoBulkEntry {H : Type} : Lit × DataW H → Nat
  | (.string bytes, d) => bytes.length + uptoBulk d + 1
  | (_, d) => uptoBulk d + 1
 end
def uptoSmall : (H : Type) → List (DataW H) → Bool := fun _ ds => decide (uptoBulkAll ds ≤ 1048576)
def OpenSpec.upto (s : _root_.Go.ChangeSpec) : _root_.Go.OpenSpec := { _root_.Go.OpenSpec.ofChange s with cond := some uptoSmall }

/-- 'signalmanlaw15.ArqTries', WHERE WHAT IT READS IS OF BULK AT MOST 1048576: true; the input reads as it did. -/
def arqTriesUptoRow : OpenClaim := { program := "ytnlcafmkmfnobaa", sum := "e2a4bbb9b14b16523c2d54e03ae80b05134fd8f4961423355b585428b9b765b9", func := "signalman/signalmanlaw15.ArqTries", spec := "arqTries", apart := false, narrowed := true }
def ArqTriesUptoSaid : Prop := arqTriesUptoRow.holds Try.pinned (OpenSpec.upto arqTriesSpec)

/-- 'signalmanlaw15.ArqAnswers', WHERE WHAT IT READS IS OF BULK AT MOST 1048576: true; the input reads as it did. -/
def arqAnswersUptoRow : OpenClaim := { program := "ytnlcafmkmfnobaa", sum := "e2a4bbb9b14b16523c2d54e03ae80b05134fd8f4961423355b585428b9b765b9", func := "signalman/signalmanlaw15.ArqAnswers", spec := "arqAnswers", apart := false, narrowed := true }
def ArqAnswersUptoSaid : Prop := arqAnswersUptoRow.holds Try.pinned (OpenSpec.upto arqAnswersSpec)

/-- 'signalmanlaw15.ArqRejects', WHERE WHAT IT READS IS OF BULK AT MOST 1048576: true; the input reads as it did. -/
def arqRejectsUptoRow : OpenClaim := { program := "ytnlcafmkmfnobaa", sum := "e2a4bbb9b14b16523c2d54e03ae80b05134fd8f4961423355b585428b9b765b9", func := "signalman/signalmanlaw15.ArqRejects", spec := "arqRejects", apart := false, narrowed := true }
def ArqRejectsUptoSaid : Prop := arqRejectsUptoRow.holds Try.pinned (OpenSpec.upto arqRejectsSpec)

/-- 'signalmanlaw15.ArqMeets', WHERE WHAT IT READS IS OF BULK AT MOST 1048576: true; the input reads as it did. -/
def arqMeetsUptoRow : OpenClaim := { program := "ytnlcafmkmfnobaa", sum := "e2a4bbb9b14b16523c2d54e03ae80b05134fd8f4961423355b585428b9b765b9", func := "signalman/signalmanlaw15.ArqMeets", spec := "arqMeets", apart := false, narrowed := true }
def ArqMeetsUptoSaid : Prop := arqMeetsUptoRow.holds Try.pinned (OpenSpec.upto arqMeetsSpec)

/-- 'signalmanlaw15.ArqLong', WHERE WHAT IT READS IS OF BULK AT MOST 1048576: true; the input reads as it did. -/
def arqLongUptoRow : OpenClaim := { program := "ytnlcafmkmfnobaa", sum := "e2a4bbb9b14b16523c2d54e03ae80b05134fd8f4961423355b585428b9b765b9", func := "signalman/signalmanlaw15.ArqLong", spec := "arqLong", apart := false, narrowed := true }
def ArqLongUptoSaid : Prop := arqLongUptoRow.holds Try.pinned (OpenSpec.upto arqLongSpec)

/-- 'signalmanlaw15.ArqWindows', WHERE WHAT IT READS IS OF BULK AT MOST 1048576: true; the input reads as it did. -/
def arqWindowsUptoRow : OpenClaim := { program := "ytnlcafmkmfnobaa", sum := "e2a4bbb9b14b16523c2d54e03ae80b05134fd8f4961423355b585428b9b765b9", func := "signalman/signalmanlaw15.ArqWindows", spec := "arqWindows", apart := false, narrowed := true }
def ArqWindowsUptoSaid : Prop := arqWindowsUptoRow.holds Try.pinned (OpenSpec.upto arqWindowsSpec)

/-- 'signalmanlaw15.ArqStale', WHERE WHAT IT READS IS OF BULK AT MOST 1048576: true; the input reads as it did. -/
def arqStaleUptoRow : OpenClaim := { program := "ytnlcafmkmfnobaa", sum := "e2a4bbb9b14b16523c2d54e03ae80b05134fd8f4961423355b585428b9b765b9", func := "signalman/signalmanlaw15.ArqStale", spec := "arqStale", apart := false, narrowed := true }
def ArqStaleUptoSaid : Prop := arqStaleUptoRow.holds Try.pinned (OpenSpec.upto arqStaleSpec)

/-- 'signalmanlaw15.ArqResets', WHERE WHAT IT READS IS OF BULK AT MOST 1048576: true; the input reads as it did. -/
def arqResetsUptoRow : OpenClaim := { program := "ytnlcafmkmfnobaa", sum := "e2a4bbb9b14b16523c2d54e03ae80b05134fd8f4961423355b585428b9b765b9", func := "signalman/signalmanlaw15.ArqResets", spec := "arqResets", apart := false, narrowed := true }
def ArqResetsUptoSaid : Prop := arqResetsUptoRow.holds Try.pinned (OpenSpec.upto arqResetsSpec)

/-- 'signalmanlaw15.ArqAgain', WHERE WHAT IT READS IS OF BULK AT MOST 1048576: true; the input reads as it did. -/
def arqAgainUptoRow : OpenClaim := { program := "ytnlcafmkmfnobaa", sum := "e2a4bbb9b14b16523c2d54e03ae80b05134fd8f4961423355b585428b9b765b9", func := "signalman/signalmanlaw15.ArqAgain", spec := "arqAgain", apart := false, narrowed := true }
def ArqAgainUptoSaid : Prop := arqAgainUptoRow.holds Try.pinned (OpenSpec.upto arqAgainSpec)

/-- 'signalmanlaw15.ArqCloses', WHERE WHAT IT READS IS OF BULK AT MOST 1048576: true; the input reads as it did. -/
def arqClosesUptoRow : OpenClaim := { program := "ytnlcafmkmfnobaa", sum := "e2a4bbb9b14b16523c2d54e03ae80b05134fd8f4961423355b585428b9b765b9", func := "signalman/signalmanlaw15.ArqCloses", spec := "arqCloses", apart := false, narrowed := true }
def ArqClosesUptoSaid : Prop := arqClosesUptoRow.holds Try.pinned (OpenSpec.upto arqClosesSpec)

/-- 'signalmanlaw15.ArqDelivers', WHERE WHAT IT READS IS OF BULK AT MOST 1048576: true; the input reads as it did. -/
def arqDeliversUptoRow : OpenClaim := { program := "ytnlcafmkmfnobaa", sum := "e2a4bbb9b14b16523c2d54e03ae80b05134fd8f4961423355b585428b9b765b9", func := "signalman/signalmanlaw15.ArqDelivers", spec := "arqDelivers", apart := false, narrowed := true }
def ArqDeliversUptoSaid : Prop := arqDeliversUptoRow.holds Try.pinned (OpenSpec.upto arqDeliversSpec)

/-- 'signalmanlaw15.ArqOrders', WHERE WHAT IT READS IS OF BULK AT MOST 1048576: true; the input reads as it did. -/
def arqOrdersUptoRow : OpenClaim := { program := "ytnlcafmkmfnobaa", sum := "e2a4bbb9b14b16523c2d54e03ae80b05134fd8f4961423355b585428b9b765b9", func := "signalman/signalmanlaw15.ArqOrders", spec := "arqOrders", apart := false, narrowed := true }
def ArqOrdersUptoSaid : Prop := arqOrdersUptoRow.holds Try.pinned (OpenSpec.upto arqOrdersSpec)

end Rows
end Go.Proofs.Ytnlcafmkmfnobaa

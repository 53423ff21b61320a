/-
  No cell of these rows narrows 'for every input' (looked for: loops, veiled, ifaces, maps, wideKeys, modest, calm, conditions, laid).
  DERIVED. THE GIVEN ROWS OF THIS SEAT. 5 by the template 'for every input the law returns true; each argument reads behind the call as it read before'; 0 by the template 'total and deterministic' (their statements: YtdlaggikbnmjeaaTotals.lean).
  GIVEN WITH THE SEED: the statements are not yours to turn. If you find one false, say at which input.
  Laid BY PROGRAM, IN A SANDBOX (cutbox-rows.mjs): the forced cells as the released guide's own fill.sh prints them over the translation 5eb68a0e0f57f7b4… (all of the seat's roots in one cut). By AI agents, Wed Nov 11 2026. No macro, syntax, notation, axiom, sorry.
-/
import Derived.Test.YtdlaggikbnmjeaaChecked
import GoSem.Claim
import GoSem.ClaimJoined
import GoSem.ClaimMapViews
import Derived.JoinedTies
import Derived.KernelRfl
namespace Go.Proofs.Ytdlaggikbnmjeaa
/- THE CELL 'sum', in the pinned program and in every row, IS THE sha256 OF THE DUMP (.gsa) THAT YtdlaggikbnmjeaaProg.lean LOADS. Nothing in Lean hashes anything: it is a label: what it is worth is what the hold of that sum in a sandbox is worth. -/
noncomputable def Try.pinned : Pinned := { name := "ytdlaggikbnmjeaa", sum := "5eb68a0e0f57f7b4cd67c1a2f4f5d1599139499bcd2063e1516f408151feef92", checked := Try.checked }
namespace Rows
def none {H : Type} : Left H := { results := [], args := [] }

/-- 'signalmanlaw1.SerialReckons': WHATEVER THE INPUT: true; the input reads as it did. -/
def serialReckonsSpec : ChangeSpec := { name := "serialReckons", fn := fun _ => fun
  | [d1, d2, d3, d4] => { results := [.lit (.bool true)], args := [d1, d2, d3, d4] }
  | _ => none }
def serialReckonsRow : OpenClaim := { program := "ytdlaggikbnmjeaa", sum := "5eb68a0e0f57f7b4cd67c1a2f4f5d1599139499bcd2063e1516f408151feef92", func := "signalman/signalmanlaw1.SerialReckons", spec := "serialReckons", apart := false }
def SerialReckonsSaid : Prop := serialReckonsRow.holds Try.pinned (OpenSpec.ofChange serialReckonsSpec)

/-- ITS FALSE NEIGHBOUR: 'it returns false'. Refute it at one input. -/
def serialReckonsWrong : ChangeSpec := { name := "serialReckons", fn := fun _ => fun
  | [d1, d2, d3, d4] => { results := [.lit (.bool false)], args := [d1, d2, d3, d4] }
  | _ => none }
def SerialReckonsWrongFalsely : Prop := serialReckonsRow.holds Try.pinned (OpenSpec.ofChange serialReckonsWrong)

/-- 'signalmanlaw1.SerialSteps': WHATEVER THE INPUT: true; the input reads as it did. -/
def serialStepsSpec : ChangeSpec := { name := "serialSteps", fn := fun _ => fun
  | [d1, d2, d3] => { results := [.lit (.bool true)], args := [d1, d2, d3] }
  | _ => none }
def serialStepsRow : OpenClaim := { program := "ytdlaggikbnmjeaa", sum := "5eb68a0e0f57f7b4cd67c1a2f4f5d1599139499bcd2063e1516f408151feef92", func := "signalman/signalmanlaw1.SerialSteps", spec := "serialSteps", apart := false }
def SerialStepsSaid : Prop := serialStepsRow.holds Try.pinned (OpenSpec.ofChange serialStepsSpec)

/-- ITS FALSE NEIGHBOUR: 'it returns false'. Refute it at one input. -/
def serialStepsWrong : ChangeSpec := { name := "serialSteps", fn := fun _ => fun
  | [d1, d2, d3] => { results := [.lit (.bool false)], args := [d1, d2, d3] }
  | _ => none }
def SerialStepsWrongFalsely : Prop := serialStepsRow.holds Try.pinned (OpenSpec.ofChange serialStepsWrong)

/-- 'signalmanlaw1.SerialRounds': WHATEVER THE INPUT: true; the input reads as it did. -/
def serialRoundsSpec : ChangeSpec := { name := "serialRounds", fn := fun _ => fun
  | [d1, d2, d3, d4] => { results := [.lit (.bool true)], args := [d1, d2, d3, d4] }
  | _ => none }
def serialRoundsRow : OpenClaim := { program := "ytdlaggikbnmjeaa", sum := "5eb68a0e0f57f7b4cd67c1a2f4f5d1599139499bcd2063e1516f408151feef92", func := "signalman/signalmanlaw1.SerialRounds", spec := "serialRounds", apart := false }
def SerialRoundsSaid : Prop := serialRoundsRow.holds Try.pinned (OpenSpec.ofChange serialRoundsSpec)

/-- ITS FALSE NEIGHBOUR: 'it returns false'. Refute it at one input. -/
def serialRoundsWrong : ChangeSpec := { name := "serialRounds", fn := fun _ => fun
  | [d1, d2, d3, d4] => { results := [.lit (.bool false)], args := [d1, d2, d3, d4] }
  | _ => none }
def SerialRoundsWrongFalsely : Prop := serialRoundsRow.holds Try.pinned (OpenSpec.ofChange serialRoundsWrong)

/-- 'signalmanlaw1.SerialWindows': WHATEVER THE INPUT: true; the input reads as it did. -/
def serialWindowsSpec : ChangeSpec := { name := "serialWindows", fn := fun _ => fun
  | [d1, d2, d3] => { results := [.lit (.bool true)], args := [d1, d2, d3] }
  | _ => none }
def serialWindowsRow : OpenClaim := { program := "ytdlaggikbnmjeaa", sum := "5eb68a0e0f57f7b4cd67c1a2f4f5d1599139499bcd2063e1516f408151feef92", func := "signalman/signalmanlaw1.SerialWindows", spec := "serialWindows", apart := false }
def SerialWindowsSaid : Prop := serialWindowsRow.holds Try.pinned (OpenSpec.ofChange serialWindowsSpec)

/-- ITS FALSE NEIGHBOUR: 'it returns false'. Refute it at one input. -/
def serialWindowsWrong : ChangeSpec := { name := "serialWindows", fn := fun _ => fun
  | [d1, d2, d3] => { results := [.lit (.bool false)], args := [d1, d2, d3] }
  | _ => none }
def SerialWindowsWrongFalsely : Prop := serialWindowsRow.holds Try.pinned (OpenSpec.ofChange serialWindowsWrong)

/-- 'signalmanlaw1.SerialMoves': WHATEVER THE INPUT: true; the input reads as it did. -/
def serialMovesSpec : ChangeSpec := { name := "serialMoves", fn := fun _ => fun
  | [d1, d2, d3, d4, d5] => { results := [.lit (.bool true)], args := [d1, d2, d3, d4, d5] }
  | _ => none }
def serialMovesRow : OpenClaim := { program := "ytdlaggikbnmjeaa", sum := "5eb68a0e0f57f7b4cd67c1a2f4f5d1599139499bcd2063e1516f408151feef92", func := "signalman/signalmanlaw1.SerialMoves", spec := "serialMoves", apart := false }
def SerialMovesSaid : Prop := serialMovesRow.holds Try.pinned (OpenSpec.ofChange serialMovesSpec)

/-- ITS FALSE NEIGHBOUR: 'it returns false'. Refute it at one input. -/
def serialMovesWrong : ChangeSpec := { name := "serialMoves", fn := fun _ => fun
  | [d1, d2, d3, d4, d5] => { results := [.lit (.bool false)], args := [d1, d2, d3, d4, d5] }
  | _ => none }
def SerialMovesWrongFalsely : Prop := serialMovesRow.holds Try.pinned (OpenSpec.ofChange serialMovesWrong)

/- THE SECOND FORM. 'bulk': how many values and letters a reading holds, each counted each time it is reached (what is shared counts as often as it is met; a slice's spare places count too). A statement '..UptoSaid' is the law's where the arguments, and the package variables that the reading takes, are together of bulk at most 1048576: NARROWER than '..Said'. Prove '..Said' where nothing that the law and all that it calls make is longer than what came in: it says more and counts as full. Else prove '..UptoSaid'. A law counts once. -/
mutual
def uptoBulk {H : Type} : DataW H → Nat
  | .lit (.string bytes) => bytes.length + 1
  | .lit _ => 1
  | .nil => 1
  | .ptr d => uptoBulk d + 1
  | .slice elems spare => uptoBulkAll elems + uptoBulkAll spare + 1
  | .agg parts => uptoBulkAll parts + 1
  | .iface _ d => uptoBulk d + 1
  | .map entries => uptoBulkEntries entries + 1
  | .held _ => 1
def uptoBulkAll {H : Type} : List (DataW H) → Nat
  | [] => 0
  | d :: r => uptoBulk d + uptoBulkAll r
def uptoBulkEntries {H : Type} : List (Lit × DataW H) → Nat
  | [] => 0
  | x :: r => uptoBulkEntry x + uptoBulkEntries r
def uptoBulkEntry {H : Type} : Lit × DataW H → Nat
  | (.string bytes, d) => bytes.length + uptoBulk d + 1
  | (_, d) => uptoBulk d + 1
 end
def uptoSmall : (H : Type) → List (DataW H) → Bool := fun _ ds => decide (uptoBulkAll ds ≤ 1048576)
def OpenSpec.upto (s : _root_.Go.ChangeSpec) : _root_.Go.OpenSpec := { _root_.Go.OpenSpec.ofChange s with cond := some uptoSmall }

/-- 'signalmanlaw1.SerialReckons', WHERE WHAT IT READS IS OF BULK AT MOST 1048576: true; the input reads as it did. -/
def serialReckonsUptoRow : OpenClaim := { program := "ytdlaggikbnmjeaa", sum := "5eb68a0e0f57f7b4cd67c1a2f4f5d1599139499bcd2063e1516f408151feef92", func := "signalman/signalmanlaw1.SerialReckons", spec := "serialReckons", apart := false, narrowed := true }
def SerialReckonsUptoSaid : Prop := serialReckonsUptoRow.holds Try.pinned (OpenSpec.upto serialReckonsSpec)

/-- 'signalmanlaw1.SerialSteps', WHERE WHAT IT READS IS OF BULK AT MOST 1048576: true; the input reads as it did. -/
def serialStepsUptoRow : OpenClaim := { program := "ytdlaggikbnmjeaa", sum := "5eb68a0e0f57f7b4cd67c1a2f4f5d1599139499bcd2063e1516f408151feef92", func := "signalman/signalmanlaw1.SerialSteps", spec := "serialSteps", apart := false, narrowed := true }
def SerialStepsUptoSaid : Prop := serialStepsUptoRow.holds Try.pinned (OpenSpec.upto serialStepsSpec)

/-- 'signalmanlaw1.SerialRounds', WHERE WHAT IT READS IS OF BULK AT MOST 1048576: true; the input reads as it did. -/
def serialRoundsUptoRow : OpenClaim := { program := "ytdlaggikbnmjeaa", sum := "5eb68a0e0f57f7b4cd67c1a2f4f5d1599139499bcd2063e1516f408151feef92", func := "signalman/signalmanlaw1.SerialRounds", spec := "serialRounds", apart := false, narrowed := true }
def SerialRoundsUptoSaid : Prop := serialRoundsUptoRow.holds Try.pinned (OpenSpec.upto serialRoundsSpec)

/-- 'signalmanlaw1.SerialWindows', WHERE WHAT IT READS IS OF BULK AT MOST 1048576: true; the input reads as it did. -/
def serialWindowsUptoRow : OpenClaim := { program := "ytdlaggikbnmjeaa", sum := "5eb68a0e0f57f7b4cd67c1a2f4f5d1599139499bcd2063e1516f408151feef92", func := "signalman/signalmanlaw1.SerialWindows", spec := "serialWindows", apart := false, narrowed := true }
def SerialWindowsUptoSaid : Prop := serialWindowsUptoRow.holds Try.pinned (OpenSpec.upto serialWindowsSpec)

/-- 'signalmanlaw1.SerialMoves', WHERE WHAT IT READS IS OF BULK AT MOST 1048576: true; the input reads as it did. -/
def serialMovesUptoRow : OpenClaim := { program := "ytdlaggikbnmjeaa", sum := "5eb68a0e0f57f7b4cd67c1a2f4f5d1599139499bcd2063e1516f408151feef92", func := "signalman/signalmanlaw1.SerialMoves", spec := "serialMoves", apart := false, narrowed := true }
def SerialMovesUptoSaid : Prop := serialMovesUptoRow.holds Try.pinned (OpenSpec.upto serialMovesSpec)

end Rows
end Go.Proofs.Ytdlaggikbnmjeaa

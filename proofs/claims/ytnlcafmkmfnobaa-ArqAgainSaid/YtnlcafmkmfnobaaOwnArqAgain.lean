/- ArqAgain: for every number of messages out and of those acknowledged within the guards, Again sends just the messages that are out, unchanged and in order. All 153 cases are reckoned out by the kernel. Conditions: none beyond those of the given statement. -/
import Derived.Test.YtnlcafmkmfnobaaRunArqAgain
import Derived.KernelRfl
set_option linter.all false
namespace Go.Proofs.Ytnlcafmkmfnobaa
open Go.RowKit Go.Proofs.Ytnlcafmkmfnobaa.Walk
set_option maxRecDepth 1000000
theorem bsome {α β : Type} (x : α) (g : α → Option β) : (some x).bind g = g x := Eq.trans (b := g x) rfl (Eq.symm rfl)
theorem alive_eq : signalmanlaw15_alive.f 200 = some true := by kernel_rfl
/-- All cases. -/
def againAll : Bool := (List.range 17).all fun (n : Nat) => (List.range (n + 1)).all fun (a : Nat) => decide (signalmanlaw15_ArqAgain.f 200 (n : Int) (a : Int) = some true)
theorem again_all : againAll = true := by kernel_rfl
theorem again_one {a0 a1 : Int} (h : 0 ≤ a0 ∧ a0 ≤ 16 ∧ 0 ≤ a1 ∧ a1 ≤ a0) : signalmanlaw15_ArqAgain.f 200 a0 a1 = some true := by
  have h1 := List.all_eq_true.1 again_all a0.toNat (List.mem_range.2 (by omega))
  have h2 := of_decide_eq_true (List.all_eq_true.1 h1 a1.toNat (List.mem_range.2 (by omega)))
  rw [show ((a0.toNat : Nat) : Int) = a0 by omega, show ((a1.toNat : Nat) : Int) = a1 by omega] at h2
  exact h2
theorem ArqAgain : signalmanlaw15_ArqAgain.Pure := by
  intro a0 a1 _ _
  refine ⟨200, ?_⟩
  by_cases h : 0 ≤ a0 ∧ a0 ≤ 16 ∧ 0 ≤ a1 ∧ a1 ≤ a0
  · exact again_one h
  · unfold signalmanlaw15_ArqAgain.f
    rw [alive_eq, bsome, if_pos rfl]
    have e : signalmanlaw15_ArqAgain.j0 200 a0 a1 true true = some true := by unfold signalmanlaw15_ArqAgain.j0; rw [if_pos rfl]
    by_cases h0 : a0 < 0
    · rw [if_pos h0]; exact e
    · rw [if_neg h0]
      by_cases h1 : a0 > 16
      · rw [if_pos h1]; exact e
      · rw [if_neg h1]
        by_cases h2 : a1 < 0
        · rw [if_pos h2]; exact e
        · rw [if_neg h2, decide_eq_true (show a1 > a0 by omega)]; exact e
end Go.Proofs.Ytnlcafmkmfnobaa

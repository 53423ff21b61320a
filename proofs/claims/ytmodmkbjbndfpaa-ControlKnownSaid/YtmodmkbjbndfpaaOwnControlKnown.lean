/- ControlKnown: the control fields of the list have their known encodings. Conditions: none beyond those of the given statement. -/
import Derived.Test.YtmodmkbjbndfpaaRunControlKnown
import Derived.KernelRfl
set_option linter.all false
namespace Go.Proofs.Ytmodmkbjbndfpaa
open Go.RowKit Go.Proofs.Ytmodmkbjbndfpaa.Walk
theorem alive_eq : signalmanlaw12_alive.f = some true := by kernel_rfl
theorem ControlKnown : signalmanlaw12_ControlKnown.Pure := by
  intro a hw
  by_cases h : 0 ≤ a ∧ a < 10
  · obtain ⟨h0, h1⟩ := h
    have : a = 0 ∨ a = 1 ∨ a = 2 ∨ a = 3 ∨ a = 4 ∨ a = 5 ∨ a = 6 ∨ a = 7 ∨ a = 8 ∨ a = 9 := by omega
    rcases this with rfl | rfl | rfl | rfl | rfl | rfl | rfl | rfl | rfl | rfl <;> (show signalmanlaw12_ControlKnown.f _ = some true; kernel_rfl)
  · unfold signalmanlaw12_ControlKnown.f
    rw [alive_eq]
    simp only [Option.bind_some, if_true]
    by_cases h0 : a < 0
    · rw [if_pos h0]; rfl
    · rw [if_neg h0, decide_eq_true (show a ≥ _ by simp only [List.length_cons, List.length_nil]; omega)]; rfl
end Go.Proofs.Ytmodmkbjbndfpaa

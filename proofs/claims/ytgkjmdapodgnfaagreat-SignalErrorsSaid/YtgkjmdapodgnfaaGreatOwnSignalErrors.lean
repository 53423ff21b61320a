/- SignalErrors: what some operations of a new link are answered by: the seventeen runs, reckoned out by the kernel. Conditions: none beyond those of the given statement. -/
import Derived.Test.YtgkjmdapodgnfaaGreatRunSignalErrors
import Derived.KernelRfl
set_option linter.all false
set_option maxRecDepth 100000
namespace Go.Proofs.YtgkjmdapodgnfaaGreat
open Go.RowKit Go.Proofs.YtgkjmdapodgnfaaGreat.Walk
theorem errA : signalmanlaw25_alive.f 2000 = some true := by kernel_rfl
def errB (i : Nat) : Bool := decide (signalmanlaw25_SignalErrors.f 2000 (i : Int) = some true)
theorem err0 : ((List.range 6).all fun i => errB i) = true := by kernel_rfl
theorem err1 : ((List.range 6).all fun i => errB (i + 6)) = true := by kernel_rfl
theorem err2 : ((List.range 5).all fun i => errB (i + 12)) = true := by kernel_rfl
theorem SignalErrors : signalmanlaw25_SignalErrors.Pure := by
 intro a0 _
 refine ⟨2000, ?_⟩
 have out : ∀ b, signalmanlaw25_SignalErrors.j0 2000 a0 b true = some b := by intro b; unfold signalmanlaw25_SignalErrors.j0; rw [if_pos rfl]
 by_cases c : 0 ≤ a0 ∧ a0 ≤ 16
 ·obtain ⟨q, rfl⟩ : ∃ q : Nat, a0 = q := ⟨a0.toNat, by omega⟩
  refine of_decide_eq_true (?_ : errB q = true)
  by_cases c1 : q < 6
  ·exact List.all_eq_true.1 err0 q (List.mem_range.2 c1)
  by_cases c2 : q < 12
  ·have := List.all_eq_true.1 err1 (q - 6) (List.mem_range.2 (by omega))
   rwa [show q - 6 + 6 = q by omega] at this
  ·have := List.all_eq_true.1 err2 (q - 12) (List.mem_range.2 (by omega))
   rwa [show q - 12 + 12 = q by omega] at this
 ·unfold signalmanlaw25_SignalErrors.f
  rw [errA, Option.bind_some, if_pos (by omega), if_pos rfl]
  by_cases c1 : a0 < 0
  ·rw [if_pos c1]; exact out _
  rw [if_neg c1]
  refine Eq.trans (congrArg (signalmanlaw25_SignalErrors.j0 2000 a0 true) (decide_eq_true ?_)) (out _)
  show a0 ≥ (17 : Int)
  omega
end Go.Proofs.YtgkjmdapodgnfaaGreat

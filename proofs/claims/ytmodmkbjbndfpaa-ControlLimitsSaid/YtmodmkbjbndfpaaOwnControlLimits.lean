/- ControlLimits: for every kind, number and width within the guards, a control field is right just where its numbers are within the documented limits. Conditions: none beyond those of the given statement. -/
import Derived.Test.YtmodmkbjbndfpaaRunControlLimits
import Derived.KernelRfl
set_option linter.all false
namespace Go.Proofs.Ytmodmkbjbndfpaa
open Go.RowKit Go.Proofs.Ytmodmkbjbndfpaa.Walk

theorem alive_eq : signalmanlaw12_alive.f = some true := by kernel_rfl
def rightB (c : api_Ctl) (m : Int) : Bool :=
  (m == 128 || m == 32768) && (if c.Kind = 0 then decide (0 ≤ c.Ns) && decide (c.Ns < m) && (decide (0 ≤ c.Nr) && decide (c.Nr < m))
    else if c.Kind = 1 ∨ c.Kind = 2 then decide (c.Ns = 0) && (decide (0 ≤ c.Nr) && decide (c.Nr < m)) else decide (3 ≤ c.Kind) && decide (c.Kind ≤ 7) && decide (c.Ns = 0) && decide (c.Nr = 0))
theorem of_eq (a m : Int) : control_of.f a m = some (decide (0 ≤ a) && decide (a < m)) := by
  unfold control_of.f
  split
  · rename_i h; simp [show 0 ≤ a by omega]
  · rename_i h; simp [show ¬ 0 ≤ a by omega]
theorem right_eq (c : api_Ctl) (m : Int) : control_Right.f c m = some (rightB c m) := by
  unfold control_Right.f control_modulus.f rightB
  simp only [of_eq, Option.bind_some]
  by_cases h1 : m = 128
  · subst h1
    simp only [if_true, Option.bind_some]
    by_cases k0 : c.Kind = 0
    · simp only [k0, if_true]
      by_cases n1 : 0 ≤ c.Ns <;> by_cases n2 : c.Ns < 128 <;> simp [n1, n2]
    · simp only [k0, if_false]
      by_cases k1 : c.Kind = 1
      · simp only [k1, if_true]
        by_cases n1 : c.Ns = 0 <;> simp [n1]
      · simp only [k1, if_false]
        by_cases k2 : c.Kind = 2
        · simp only [k2, if_true]
          by_cases n1 : c.Ns = 0 <;> simp [n1]
        · simp only [k2, if_false]
          by_cases k3 : c.Kind ≥ 3 <;> by_cases k7 : c.Kind ≤ 7 <;> by_cases n1 : c.Ns = 0 <;> simp [k3, k7, n1, show (3 ≤ c.Kind) = (c.Kind ≥ 3) from rfl] <;> omega
  · by_cases h2 : m = 32768
    · subst h2
      simp only [h1, if_false, Option.bind_some]
      by_cases k0 : c.Kind = 0
      · simp only [k0, if_true]
        by_cases n1 : 0 ≤ c.Ns <;> by_cases n2 : c.Ns < 32768 <;> simp [n1, n2]
      · simp only [k0, if_false]
        by_cases k1 : c.Kind = 1
        · simp only [k1, if_true]
          by_cases n1 : c.Ns = 0 <;> simp [n1]
        · simp only [k1, if_false]
          by_cases k2 : c.Kind = 2
          · simp only [k2, if_true]
            by_cases n1 : c.Ns = 0 <;> simp [n1]
          · simp only [k2, if_false]
            by_cases k3 : c.Kind ≥ 3 <;> by_cases k7 : c.Kind ≤ 7 <;> by_cases n1 : c.Ns = 0 <;> simp [k3, k7, n1, show (3 ≤ c.Kind) = (c.Kind ≥ 3) from rfl] <;> omega
    · simp [h1, h2]
theorem ControlLimits : signalmanlaw12_ControlLimits.Pure := by
  intro kind n wide hk hn
  simp [Lit.wf] at hk hn
  unfold signalmanlaw12_ControlLimits.f
  rw [alive_eq]
  simp only [Option.bind_some, if_true, right_eq]
  by_cases hk0 : kind < 0
  · cases wide <;> simp [hk0]
  by_cases hk7 : kind > 7
  · cases wide <;> simp [hk0, hk7]
  have e : kind = 0 ∨ kind = 1 ∨ kind = 2 ∨ kind = 3 ∨ kind = 4 ∨ kind = 5 ∨ kind = 6 ∨ kind = 7 := by omega
  cases wide
  · by_cases n0 : n ≥ 0
    · by_cases n1 : n < 128 <;> by_cases n2 : n = 0 <;> rcases e with rfl | rfl | rfl | rfl | rfl | rfl | rfl | rfl <;> simp [rightB, n0, n1, n2, show (0 ≤ n) = (n ≥ 0) from rfl] <;> omega
    · have n2 : ¬ n = 0 := by omega
      rcases e with rfl | rfl | rfl | rfl | rfl | rfl | rfl | rfl <;> simp [rightB, n0, n2, show (0 ≤ n) = (n ≥ 0) from rfl]
  · by_cases n0 : n ≥ 0
    · by_cases n1 : n < 32768 <;> by_cases n2 : n = 0 <;> rcases e with rfl | rfl | rfl | rfl | rfl | rfl | rfl | rfl <;> simp [rightB, n0, n1, n2, show (0 ≤ n) = (n ≥ 0) from rfl] <;> omega
    · have n2 : ¬ n = 0 := by omega
      rcases e with rfl | rfl | rfl | rfl | rfl | rfl | rfl | rfl <;> simp [rightB, n0, n2, show (0 ≤ n) = (n ≥ 0) from rfl]
end Go.Proofs.Ytmodmkbjbndfpaa

/- SerialSteps: for all numbers within the guards, as many applications of Next as the distance lead from a to b, and no fewer do. Conditions: none beyond those of the given statement. -/
import Derived.Test.YtdlaggikbnmjeaaPSerialStepsx1
namespace Go.Proofs.Ytdlaggikbnmjeaa.Pure
open Go.RowKit Go.Proofs.Ytdlaggikbnmjeaa.PSerialSteps Go.Proofs.YtdlaggikbnmjeaaW.PrintWords Go.Proofs.YtdlaggikbnmjeaaW.PrintLast

theorem mM (m : Int) : 1 ≤ mx 1 (mn m 1073741824) ∧ mx 1 (mn m 1073741824) ≤ 1073741824 := by
  unfold mx mn; constructor <;> (repeat' split) <;> omega
def MM (m : Int) : Int := mx 1 (mn m 1073741824)
theorem mM1 (m : Int) : 1 ≤ MM m ∧ MM m ≤ 1073741824 := mM m
theorem mM_id {m : Int} (h : 1 ≤ m ∧ m ≤ 1073741824) : MM m = m := by unfold MM mx mn; (repeat' split) <;> omega
theorem mM_mM (m : Int) : MM (MM m) = MM m := mM_id (mM1 m)
theorem w64 {n : Int} (h : -9223372036854775808 ≤ n ∧ n ≤ 9223372036854775807) : wrap64 n = n := by unfold wrap64; omega
theorem round_eq (a m : Int) : serial_round.f a m = some (a % MM m, MM m) := by
  have h := mM1 m
  unfold serial_round.f
  show (if MM m = 0 then none else (if Int.tmod a (MM m) < 0 then some (wrap64 (Int.tmod a (MM m) + MM m), MM m) else some (Int.tmod a (MM m), MM m))) = _
  generalize MM m = M at h ⊢
  have h0 : 0 ≤ a % M := Int.emod_nonneg _ (by omega)
  have h1 : a % M < M := Int.emod_lt_of_pos _ (by omega)
  rw [if_neg (by omega), Int.tmod_eq_emod]
  have hab : (M.natAbs : Int) = M := by omega
  split
  · rw [if_neg (by omega)]; simp
  · rename_i hd
    rw [hab, if_pos (by omega), w64 (by omega)]; simp
theorem next_eq (a m : Int) : serial_Next.f a m = some ((a + 1) % MM m) := by
  have h := mM1 m
  unfold serial_Next.f
  rw [round_eq]; simp only [Option.bind_some]
  rw [round_eq]; simp only [Option.bind_some, mM_mM]
  generalize MM m = M at h ⊢
  have h0 : 0 ≤ a % M := Int.emod_nonneg _ (by omega)
  have h1 : a % M < M := Int.emod_lt_of_pos _ (by omega)
  rw [w64 (by omega), Int.emod_add_emod]
theorem dist_eq (a b m : Int) : serial_Dist.f a b m = some ((b - a) % MM m) := by
  have h := mM1 m
  unfold serial_Dist.f
  rw [round_eq]; simp only [Option.bind_some]
  rw [round_eq]; simp only [Option.bind_some]
  rw [round_eq]; simp only [Option.bind_some, mM_mM]
  generalize MM m = M at h ⊢
  have h0 : 0 ≤ a % M := Int.emod_nonneg _ (by omega)
  have h1 : a % M < M := Int.emod_lt_of_pos _ (by omega)
  have h2 : 0 ≤ b % M := Int.emod_nonneg _ (by omega)
  have h3 : b % M < M := Int.emod_lt_of_pos _ (by omega)
  rw [w64 (by omega), ← Int.sub_emod]
theorem in_eq (x low n m : Int) : serial_In.f x low n m = some (decide ((x - low) % MM m < n)) := by
  unfold serial_In.f; rw [dist_eq]; rfl
theorem alive_eq : signalmanlaw1_alive.f = some true := by
  unfold signalmanlaw1_alive.f
  rw [next_eq, mM_id (by omega)]; simp only [Option.bind_some]
  rw [dist_eq, mM_id (by omega)]; simp only [Option.bind_some]
  rw [in_eq, mM_id (by omega)]; simp
theorem steps_loop (b m : Int) (hm : 1 ≤ m ∧ m ≤ 300) (hb : 0 ≤ b ∧ b < m) (d : Nat) : ∀ (k : Nat) (x : Int), 0 ≤ x → x < m → (b - x) % m = (d : Int) → d < k →
    signalmanlaw1_SerialSteps.l0 k b m x (d : Int) = some true := by
  induction d with
  | zero =>
    intro k x h0 h1 hd hk
    obtain ⟨k, rfl⟩ : ∃ t, k = t + 1 := ⟨k - 1, by omega⟩
    simp only [signalmanlaw1_SerialSteps.l0]
    rw [if_neg (by omega)]
    have : x = b := by
      by_cases hx : x ≤ b
      · rw [Int.emod_eq_of_lt (by omega) (by omega)] at hd; omega
      · rw [← Int.add_emod_right, Int.emod_eq_of_lt (by omega) (by omega)] at hd; omega
    simp [this]
  | succ d ih =>
    intro k x h0 h1 hd hk
    obtain ⟨k, rfl⟩ : ∃ t, k = t + 1 := ⟨k - 1, by omega⟩
    simp only [signalmanlaw1_SerialSteps.l0]
    have hne : x ≠ b := by
      intro e; subst e; simp at hd; omega
    have hd1 : (d : Int) + 1 ≤ m := by
      have := Int.emod_lt_of_pos (b - x) (show 0 < m by omega); omega
    rw [if_pos (by omega), if_neg hne, next_eq, mM_id (by omega)]; simp only [Option.bind_some]
    rw [w64 (by omega), show (((d + 1 : Nat) : Int) - 1) = (d : Int) by omega]
    apply ih
    · exact Int.emod_nonneg _ (by omega)
    · exact Int.emod_lt_of_pos _ (by omega)
    · rw [Int.sub_emod, Int.emod_emod, ← Int.sub_emod, show b - (x + 1) = (b - x) - 1 by omega, Int.sub_emod, hd]
      rw [Int.sub_emod, Int.emod_emod, ← Int.sub_emod]
      rw [show (((d + 1 : Nat) : Int) - 1) = (d : Int) by omega]
      exact Int.emod_eq_of_lt (by omega) (by omega)
    · omega
theorem SerialSteps : signalmanlaw1_SerialSteps.Pure := by
  intro a b m _ _ _
  refine ⟨1000, ?_⟩
  unfold signalmanlaw1_SerialSteps.f
  rw [alive_eq]; simp only [Option.bind_some, if_true]
  have hj : ∀ a b m, signalmanlaw1_SerialSteps.j0 1000 a b m true true = some true := fun _ _ _ => rfl
  by_cases h1 : m < 1
  · rw [if_pos h1, hj]
  by_cases h2 : m > 300
  · rw [if_neg h1, if_pos h2, hj]
  by_cases h3 : a < 0
  · rw [if_neg h1, if_neg h2, if_pos h3, hj]
  by_cases h4 : a ≥ m
  · rw [if_neg h1, if_neg h2, if_neg h3, if_pos h4, hj]
  by_cases h5 : b < 0
  · rw [if_neg h1, if_neg h2, if_neg h3, if_neg h4, if_pos h5, hj]
  rw [if_neg h1, if_neg h2, if_neg h3, if_neg h4, if_neg h5]
  by_cases h6 : b ≥ m
  · rw [decide_eq_true h6, hj]
  rw [decide_eq_false h6]
  have e : signalmanlaw1_SerialSteps.j0 1000 a b m true false = (serial_Dist.f a b m).bind fun t => signalmanlaw1_SerialSteps.l0 999 b m a t := rfl
  rw [e, dist_eq, mM_id (by omega)]; simp only [Option.bind_some]
  have hn : 0 ≤ (b - a) % m := Int.emod_nonneg _ (by omega)
  have hl : (b - a) % m < m := Int.emod_lt_of_pos _ (by omega)
  obtain ⟨d, hd⟩ := Int.eq_ofNat_of_zero_le hn
  rw [hd]
  exact steps_loop b m (by omega) (by omega) d 999 a (by omega) (by omega) hd (by omega)

end Go.Proofs.Ytdlaggikbnmjeaa.Pure

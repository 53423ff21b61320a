/- SerialRounds: for all numbers within the guards, the distance there and back is once round or nothing, distances add up, and m more turns nothing. Conditions: none beyond those of the given statement. -/
import Derived.Test.YtdlaggikbnmjeaaRunSerialRounds
set_option linter.all false
namespace Go.Proofs.Ytdlaggikbnmjeaa
open Go.RowKit Go.Proofs.Ytdlaggikbnmjeaa.Walk

def MM (m : Int) : Int := imax 1 (imin m 1073741824)
theorem mM1 (m : Int) : 1 ≤ MM m ∧ MM m ≤ 1073741824 := by unfold MM imax imin; constructor <;> (repeat' split) <;> omega
theorem mM_id {m : Int} (h : 1 ≤ m ∧ m ≤ 1073741824) : MM m = m := by unfold MM imax imin; (repeat' split) <;> omega
theorem mM_mM (m : Int) : MM (MM m) = MM m := mM_id (mM1 m)
theorem round_eq (a m : Int) : serial_round.f a m = some (a % MM m, MM m) := by
  have h := mM1 m
  unfold serial_round.f
  show (if ¬ (MM m = 0) then (if Int.tmod a (MM m) < 0 then some (w64 (Int.tmod a (MM m) + MM m), MM m) else some (Int.tmod a (MM m), MM m)) else none) = _
  generalize MM m = M at h ⊢
  have h0 : 0 ≤ a % M := Int.emod_nonneg _ (by omega)
  have h1 : a % M < M := Int.emod_lt_of_pos _ (by omega)
  rw [if_pos (by omega), Int.tmod_eq_emod]
  have hab : (M.natAbs : Int) = M := by omega
  split
  · rw [if_neg (by omega)]; simp
  · rw [hab, if_pos (by omega), w64_in (by omega)]; simp
theorem next_eq (a m : Int) : serial_Next.f a m = some ((a + 1) % MM m) := by
  have h := mM1 m
  unfold serial_Next.f
  rw [round_eq]; simp only [Option.bind_some]
  rw [round_eq]; simp only [Option.bind_some, mM_mM]
  generalize MM m = M at h ⊢
  have h0 : 0 ≤ a % M := Int.emod_nonneg _ (by omega)
  have h1 : a % M < M := Int.emod_lt_of_pos _ (by omega)
  rw [w64_in (by omega), Int.emod_add_emod]
theorem dist_eq (a b m : Int) : serial_Dist.f a b m = some ((b - a) % MM m) := by
  have h := mM1 m
  unfold serial_Dist.f
  rw [round_eq]; simp only [Option.bind_some]
  rw [round_eq]; simp only [Option.bind_some]
  rw [round_eq]; simp only [Option.bind_some, mM_mM]
  generalize MM m = M at h ⊢
  have h0 : 0 ≤ a % M := Int.emod_nonneg _ (by omega)
  have h1 : a % M < M := Int.emod_lt_of_pos _ (by omega)
  have h2 : 0 ≤ b % M := Int.emod_nonneg _ (by omega)
  have h3 : b % M < M := Int.emod_lt_of_pos _ (by omega)
  rw [w64_in (by omega), ← Int.sub_emod]
theorem in_eq (x low n m : Int) : serial_In.f x low n m = some (decide ((x - low) % MM m < n)) := by
  unfold serial_In.f; rw [dist_eq]; rfl
theorem alive_eq : signalmanlaw1_alive.f = some true := by
  unfold signalmanlaw1_alive.f
  rw [next_eq, mM_id (by omega)]; simp only [Option.bind_some]
  rw [dist_eq, mM_id (by omega)]; simp only [Option.bind_some]
  rw [in_eq, mM_id (by omega)]; simp
theorem emod_wf {a m : Int} (h : 1 ≤ m) : 0 ≤ a % m ∧ a % m < m := ⟨Int.emod_nonneg _ (by omega), Int.emod_lt_of_pos _ (by omega)⟩
theorem back (a b m : Int) (h : 1 ≤ m) : ((b - a) % m = 0 ∧ (a - b) % m = 0) ∨ ((b - a) % m ≠ 0 ∨ (a - b) % m ≠ 0) ∧ (b - a) % m + (a - b) % m = m := by
  have h1 := emod_wf (a := b - a) h
  have h2 := emod_wf (a := a - b) h
  have e : ((b - a) % m + (a - b) % m) % m = 0 := by
    rw [← Int.add_emod, show b - a + (a - b) = 0 by omega]; simp
  have e' := Int.emod_add_mul_ediv ((b - a) % m + (a - b) % m) m
  rw [e] at e'
  generalize ((b - a) % m + (a - b) % m) / m = q at e'
  by_cases hq : q ≤ 0
  · have : m * q ≤ 0 := by
      have := Int.mul_le_mul_of_nonneg_left hq (show 0 ≤ m by omega); omega
    left; omega
  · by_cases hq2 : 2 ≤ q
    · have := Int.mul_le_mul_of_nonneg_left hq2 (show 0 ≤ m by omega); omega
    · have : q = 1 := by omega
      subst this; right; omega
theorem SerialRounds : signalmanlaw1_SerialRounds.Pure := by
  intro a b c m ha hb hc hm
  simp [Lit.wf] at ha hb hc hm
  unfold signalmanlaw1_SerialRounds.f
  rw [alive_eq]; simp only [Option.bind_some, if_true]
  by_cases h1 : m < 1
  · rw [if_pos h1]
  by_cases h2 : m > 1073741824
  · rw [if_neg h1, if_pos h2]
  by_cases h3 : a > 1099511627776
  · rw [if_neg h1, if_neg h2, if_pos h3]
  by_cases h4 : a < -1099511627776
  · rw [if_neg h1, if_neg h2, if_neg h3, if_pos h4]
  rw [if_neg h1, if_neg h2, if_neg h3, if_neg h4]
  have g1 := emod_wf (a := b - a) (show 1 ≤ m by omega)
  have g2 := emod_wf (a := c - b) (show 1 ≤ m by omega)
  have g3 := emod_wf (a := a - b) (show 1 ≤ m by omega)
  have e1 : ((b - a) % m + (c - b) % m).tmod m = (c - a) % m := by
    rw [Int.tmod_eq_emod_of_nonneg (by omega), ← Int.add_emod, show b - a + (c - b) = c - a by omega]
  have e2 : (b - w64 (a + m)) % m = (b - a) % m := by
    rw [w64_in (by omega), show b - (a + m) = b - a - m by omega, Int.sub_emod_right]
  have e3 : ((a + 1) % m - a) % m = Int.tmod 1 m := by
    rw [Int.emod_sub_emod, show a + 1 - a = 1 by omega, Int.tmod_eq_emod_of_nonneg (by omega)]
  have hm0 : ¬ (m = 0) := by omega
  simp only [dist_eq, next_eq, mM_id (show 1 ≤ m ∧ m ≤ 1073741824 by omega), Option.bind_some]
  rw [w64_in (show -9223372036854775808 ≤ (b - a) % m + (c - b) % m ∧ (b - a) % m + (c - b) % m ≤ 9223372036854775807 by omega)]
  rw [w64_in (show -9223372036854775808 ≤ (b - a) % m + (a - b) % m ∧ (b - a) % m + (a - b) % m ≤ 9223372036854775807 by omega)]
  simp only [e1, e2, e3, if_pos hm0, if_true, decide_true]
  rcases back a b m (by omega) with ⟨x, y⟩ | ⟨x, y⟩
  · rw [if_pos x, if_pos y]
  · rw [if_pos y]
    split
    · split
      · rfl
      · rfl
    · rfl
end Go.Proofs.Ytdlaggikbnmjeaa

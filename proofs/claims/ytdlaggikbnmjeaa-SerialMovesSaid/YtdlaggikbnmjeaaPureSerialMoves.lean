/- SerialMoves: for all numbers within the guards, distances and windows stay where all numbers are shifted alike. Conditions: none beyond those of the given statement. -/
import Derived.Test.YtdlaggikbnmjeaaPSerialMovesx1
namespace Go.Proofs.Ytdlaggikbnmjeaa.Pure
open Go.RowKit Go.Proofs.Ytdlaggikbnmjeaa.PSerialMoves Go.Proofs.YtdlaggikbnmjeaaW.PrintWords Go.Proofs.YtdlaggikbnmjeaaW.PrintLast

theorem mM (m : Int) : 1 ≤ mx 1 (mn m 1073741824) ∧ mx 1 (mn m 1073741824) ≤ 1073741824 := by
  unfold mx mn; constructor <;> (repeat' split) <;> omega
def MM (m : Int) : Int := mx 1 (mn m 1073741824)
theorem mM1 (m : Int) : 1 ≤ MM m ∧ MM m ≤ 1073741824 := mM m
theorem mM_id {m : Int} (h : 1 ≤ m ∧ m ≤ 1073741824) : MM m = m := by unfold MM mx mn; (repeat' split) <;> omega
theorem mM_mM (m : Int) : MM (MM m) = MM m := mM_id (mM1 m)
theorem w64 {n : Int} (h : -9223372036854775808 ≤ n ∧ n ≤ 9223372036854775807) : wrap64 n = n := by unfold wrap64; omega
theorem round_eq (a m : Int) : serial_round.f a m = some (a % MM m, MM m) := by
  have h := mM1 m
  unfold serial_round.f
  show (if MM m = 0 then none else (if Int.tmod a (MM m) < 0 then some (wrap64 (Int.tmod a (MM m) + MM m), MM m) else some (Int.tmod a (MM m), MM m))) = _
  generalize MM m = M at h ⊢
  have h0 : 0 ≤ a % M := Int.emod_nonneg _ (by omega)
  have h1 : a % M < M := Int.emod_lt_of_pos _ (by omega)
  rw [if_neg (by omega), Int.tmod_eq_emod]
  have hab : (M.natAbs : Int) = M := by omega
  split
  · rw [if_neg (by omega)]; simp
  · rename_i hd
    rw [hab, if_pos (by omega), w64 (by omega)]; simp
theorem next_eq (a m : Int) : serial_Next.f a m = some ((a + 1) % MM m) := by
  have h := mM1 m
  unfold serial_Next.f
  rw [round_eq]; simp only [Option.bind_some]
  rw [round_eq]; simp only [Option.bind_some, mM_mM]
  generalize MM m = M at h ⊢
  have h0 : 0 ≤ a % M := Int.emod_nonneg _ (by omega)
  have h1 : a % M < M := Int.emod_lt_of_pos _ (by omega)
  rw [w64 (by omega), Int.emod_add_emod]
theorem dist_eq (a b m : Int) : serial_Dist.f a b m = some ((b - a) % MM m) := by
  have h := mM1 m
  unfold serial_Dist.f
  rw [round_eq]; simp only [Option.bind_some]
  rw [round_eq]; simp only [Option.bind_some]
  rw [round_eq]; simp only [Option.bind_some, mM_mM]
  generalize MM m = M at h ⊢
  have h0 : 0 ≤ a % M := Int.emod_nonneg _ (by omega)
  have h1 : a % M < M := Int.emod_lt_of_pos _ (by omega)
  have h2 : 0 ≤ b % M := Int.emod_nonneg _ (by omega)
  have h3 : b % M < M := Int.emod_lt_of_pos _ (by omega)
  rw [w64 (by omega), ← Int.sub_emod]
theorem in_eq (x low n m : Int) : serial_In.f x low n m = some (decide ((x - low) % MM m < n)) := by
  unfold serial_In.f; rw [dist_eq]; rfl
theorem alive_eq : signalmanlaw1_alive.f = some true := by
  unfold signalmanlaw1_alive.f
  rw [next_eq, mM_id (by omega)]; simp only [Option.bind_some]
  rw [dist_eq, mM_id (by omega)]; simp only [Option.bind_some]
  rw [in_eq, mM_id (by omega)]; simp
theorem SerialMoves : signalmanlaw1_SerialMoves.Pure := by
  intro a b n k m ha hb hn hk hm
  simp [Lit.wf] at ha hb hn hk hm
  refine ⟨10, ?_⟩
  unfold signalmanlaw1_SerialMoves.f
  rw [alive_eq]; simp only [Option.bind_some, if_true]
  have hj : ∀ a b c d m, signalmanlaw1_SerialMoves.j0 10 a b c d m true true = some true := fun _ _ _ _ _ => rfl
  have go : ∀ z : Bool, (z = false → 1 ≤ m ∧ m ≤ 1073741824 ∧ a ≤ 1099511627776 ∧ -1099511627776 ≤ a ∧ b ≤ 1099511627776 ∧ -1099511627776 ≤ b ∧ k ≤ 1099511627776 ∧ -1099511627776 ≤ k) → signalmanlaw1_SerialMoves.j0 10 a b n k m true z = some true := by
    intro z hz
    cases z with
    | true => exact hj _ _ _ _ _
    | false =>
      obtain ⟨h1, h2, h3, h4, h5, h6, h7, h8⟩ := hz rfl
      have e : signalmanlaw1_SerialMoves.j0 10 a b n k m true false = ((serial_Dist.f (wrap64 (a + k)) (wrap64 (b + k)) m).bind fun t116 => ((serial_Dist.f a b m).bind fun t117 => (if t116 = t117 then ((serial_In.f (wrap64 (b + k)) (wrap64 (a + k)) n m).bind fun t118 => ((serial_In.f b a n m).bind fun t119 => (some (t118 == t119)))) else (some false)))) := rfl
      rw [e, w64 (by omega), w64 (by omega), dist_eq, dist_eq]; simp only [Option.bind_some]
      rw [in_eq, in_eq, show b + k - (a + k) = b - a by omega]; simp
  by_cases h1 : m < 1
  · rw [if_pos h1, hj]
  by_cases h2 : m > 1073741824
  · rw [if_neg h1, if_pos h2, hj]
  by_cases h3 : a > 1099511627776
  · rw [if_neg h1, if_neg h2, if_pos h3, hj]
  by_cases h4 : a < -1099511627776
  · rw [if_neg h1, if_neg h2, if_neg h3, if_pos h4, hj]
  by_cases h5 : b > 1099511627776
  · rw [if_neg h1, if_neg h2, if_neg h3, if_neg h4, if_pos h5, hj]
  by_cases h6 : b < -1099511627776
  · rw [if_neg h1, if_neg h2, if_neg h3, if_neg h4, if_neg h5, if_pos h6, hj]
  by_cases h7 : k > 1099511627776
  · rw [if_neg h1, if_neg h2, if_neg h3, if_neg h4, if_neg h5, if_neg h6, if_pos h7, hj]
  rw [if_neg h1, if_neg h2, if_neg h3, if_neg h4, if_neg h5, if_neg h6, if_neg h7]
  apply go
  intro hz
  have h8 := of_decide_eq_false hz
  omega

end Go.Proofs.Ytdlaggikbnmjeaa.Pure

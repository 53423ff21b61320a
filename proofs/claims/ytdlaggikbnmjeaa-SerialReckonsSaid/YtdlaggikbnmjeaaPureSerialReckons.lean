/- SerialReckons: for all whole numbers of 64 bits, Next, Dist and In of package serial answer as the reference does. Conditions: none beyond those of the given statement. -/
import Derived.Test.YtdlaggikbnmjeaaPSerialReckonsx1
namespace Go.Proofs.Ytdlaggikbnmjeaa.Pure
open Go.RowKit Go.Proofs.Ytdlaggikbnmjeaa.PSerialReckons Go.Proofs.YtdlaggikbnmjeaaW.PrintWords Go.Proofs.YtdlaggikbnmjeaaW.PrintLast

theorem mM (m : Int) : 1 ≤ mx 1 (mn m 1073741824) ∧ mx 1 (mn m 1073741824) ≤ 1073741824 := by
  unfold mx mn; constructor <;> (repeat' split) <;> omega
def MM (m : Int) : Int := mx 1 (mn m 1073741824)
theorem mM1 (m : Int) : 1 ≤ MM m ∧ MM m ≤ 1073741824 := mM m
theorem mM_id {m : Int} (h : 1 ≤ m ∧ m ≤ 1073741824) : MM m = m := by unfold MM mx mn; (repeat' split) <;> omega
theorem mM_mM (m : Int) : MM (MM m) = MM m := mM_id (mM1 m)
theorem w64 {n : Int} (h : -9223372036854775808 ≤ n ∧ n ≤ 9223372036854775807) : wrap64 n = n := by unfold wrap64; omega
theorem round_eq (a m : Int) : serial_round.f a m = some (a % MM m, MM m) := by
  have h := mM1 m
  unfold serial_round.f
  show (if MM m = 0 then none else (if Int.tmod a (MM m) < 0 then some (wrap64 (Int.tmod a (MM m) + MM m), MM m) else some (Int.tmod a (MM m), MM m))) = _
  generalize MM m = M at h ⊢
  have h0 : 0 ≤ a % M := Int.emod_nonneg _ (by omega)
  have h1 : a % M < M := Int.emod_lt_of_pos _ (by omega)
  rw [if_neg (by omega), Int.tmod_eq_emod]
  have hab : (M.natAbs : Int) = M := by omega
  split
  · rw [if_neg (by omega)]; simp
  · rename_i hd
    rw [hab, if_pos (by omega), w64 (by omega)]; simp
theorem next_eq (a m : Int) : serial_Next.f a m = some ((a + 1) % MM m) := by
  have h := mM1 m
  unfold serial_Next.f
  rw [round_eq]; simp only [Option.bind_some]
  rw [round_eq]; simp only [Option.bind_some, mM_mM]
  generalize MM m = M at h ⊢
  have h0 : 0 ≤ a % M := Int.emod_nonneg _ (by omega)
  have h1 : a % M < M := Int.emod_lt_of_pos _ (by omega)
  rw [w64 (by omega), Int.emod_add_emod]
theorem dist_eq (a b m : Int) : serial_Dist.f a b m = some ((b - a) % MM m) := by
  have h := mM1 m
  unfold serial_Dist.f
  rw [round_eq]; simp only [Option.bind_some]
  rw [round_eq]; simp only [Option.bind_some]
  rw [round_eq]; simp only [Option.bind_some, mM_mM]
  generalize MM m = M at h ⊢
  have h0 : 0 ≤ a % M := Int.emod_nonneg _ (by omega)
  have h1 : a % M < M := Int.emod_lt_of_pos _ (by omega)
  have h2 : 0 ≤ b % M := Int.emod_nonneg _ (by omega)
  have h3 : b % M < M := Int.emod_lt_of_pos _ (by omega)
  rw [w64 (by omega), ← Int.sub_emod]
theorem in_eq (x low n m : Int) : serial_In.f x low n m = some (decide ((x - low) % MM m < n)) := by
  unfold serial_In.f; rw [dist_eq]; rfl
theorem alive_eq : signalmanlaw1_alive.f = some true := by
  unfold signalmanlaw1_alive.f
  rw [next_eq, mM_id (by omega)]; simp only [Option.bind_some]
  rw [dist_eq, mM_id (by omega)]; simp only [Option.bind_some]
  rw [in_eq, mM_id (by omega)]; simp
theorem cut_eq (m : Int) : signalmanref1_Cut.f m 1 1073741824 = some (MM m) := by
  unfold signalmanref1_Cut.f MM mx mn
  (repeat' split) <;> first | rfl | (congr 1; omega) | omega
theorem mod_eq (a m : Int) : signalmanref1_Mod.f a m = some (a % MM m) := by
  have h := mM1 m
  unfold signalmanref1_Mod.f
  rw [cut_eq]; simp only [Option.bind_some]
  generalize MM m = M at h ⊢
  have h0 : 0 ≤ a % M := Int.emod_nonneg _ (by omega)
  have h1 : a % M < M := Int.emod_lt_of_pos _ (by omega)
  rw [if_neg (by omega), Int.tmod_eq_emod]
  have hab : (M.natAbs : Int) = M := by omega
  split
  · rw [if_neg (by omega)]; simp
  · rw [hab, if_pos (by omega), w64 (by omega)]; simp
theorem rnext_eq (a m : Int) : signalmanref1_Next.f a m = some ((a + 1) % MM m) := by
  have h := mM1 m
  unfold signalmanref1_Next.f
  rw [mod_eq]; simp only [Option.bind_some]
  rw [mod_eq]; simp only [Option.bind_some]
  generalize MM m = M at h ⊢
  have h0 : 0 ≤ a % M := Int.emod_nonneg _ (by omega)
  have h1 : a % M < M := Int.emod_lt_of_pos _ (by omega)
  rw [w64 (by omega), Int.emod_add_emod]
theorem rdist_eq (a b m : Int) : signalmanref1_Dist.f a b m = some ((b - a) % MM m) := by
  have h := mM1 m
  unfold signalmanref1_Dist.f
  rw [mod_eq]; simp only [Option.bind_some]
  rw [mod_eq]; simp only [Option.bind_some]
  rw [mod_eq]; simp only [Option.bind_some]
  generalize MM m = M at h ⊢
  have h0 : 0 ≤ a % M := Int.emod_nonneg _ (by omega)
  have h1 : a % M < M := Int.emod_lt_of_pos _ (by omega)
  have h2 : 0 ≤ b % M := Int.emod_nonneg _ (by omega)
  have h3 : b % M < M := Int.emod_lt_of_pos _ (by omega)
  rw [w64 (by omega), ← Int.sub_emod]
theorem SerialReckons : signalmanlaw1_SerialReckons.Pure := by
  intro a b n m _ _ _ _
  unfold signalmanlaw1_SerialReckons.f
  rw [alive_eq]; simp only [Option.bind_some, if_true]
  rw [next_eq, rnext_eq]; simp only [Option.bind_some, if_true]
  rw [dist_eq, rdist_eq]; simp only [Option.bind_some, if_true]
  rw [in_eq]; simp only [Option.bind_some]
  unfold signalmanref1_In.f
  rw [rdist_eq]; simp

end Go.Proofs.Ytdlaggikbnmjeaa.Pure

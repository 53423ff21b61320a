/- SerialWindows: for all numbers within the guards, a window of n numbers holds exactly n numbers, consecutive from low on. Conditions: none beyond those of the given statement. -/
import Derived.Test.YtdlaggikbnmjeaaPSerialWindowsx1
namespace Go.Proofs.Ytdlaggikbnmjeaa.Pure
open Go.RowKit Go.Proofs.Ytdlaggikbnmjeaa.PSerialWindows Go.Proofs.YtdlaggikbnmjeaaW.PrintWords Go.Proofs.YtdlaggikbnmjeaaW.PrintLast

theorem mM (m : Int) : 1 ≤ mx 1 (mn m 1073741824) ∧ mx 1 (mn m 1073741824) ≤ 1073741824 := by
  unfold mx mn; constructor <;> (repeat' split) <;> omega
def MM (m : Int) : Int := mx 1 (mn m 1073741824)
theorem mM1 (m : Int) : 1 ≤ MM m ∧ MM m ≤ 1073741824 := mM m
theorem mM_id {m : Int} (h : 1 ≤ m ∧ m ≤ 1073741824) : MM m = m := by unfold MM mx mn; (repeat' split) <;> omega
theorem mM_mM (m : Int) : MM (MM m) = MM m := mM_id (mM1 m)
theorem w64 {n : Int} (h : -9223372036854775808 ≤ n ∧ n ≤ 9223372036854775807) : wrap64 n = n := by unfold wrap64; omega
theorem round_eq (a m : Int) : serial_round.f a m = some (a % MM m, MM m) := by
  have h := mM1 m
  unfold serial_round.f
  show (if MM m = 0 then none else (if Int.tmod a (MM m) < 0 then some (wrap64 (Int.tmod a (MM m) + MM m), MM m) else some (Int.tmod a (MM m), MM m))) = _
  generalize MM m = M at h ⊢
  have h0 : 0 ≤ a % M := Int.emod_nonneg _ (by omega)
  have h1 : a % M < M := Int.emod_lt_of_pos _ (by omega)
  rw [if_neg (by omega), Int.tmod_eq_emod]
  have hab : (M.natAbs : Int) = M := by omega
  split
  · rw [if_neg (by omega)]; simp
  · rename_i hd
    rw [hab, if_pos (by omega), w64 (by omega)]; simp
theorem next_eq (a m : Int) : serial_Next.f a m = some ((a + 1) % MM m) := by
  have h := mM1 m
  unfold serial_Next.f
  rw [round_eq]; simp only [Option.bind_some]
  rw [round_eq]; simp only [Option.bind_some, mM_mM]
  generalize MM m = M at h ⊢
  have h0 : 0 ≤ a % M := Int.emod_nonneg _ (by omega)
  have h1 : a % M < M := Int.emod_lt_of_pos _ (by omega)
  rw [w64 (by omega), Int.emod_add_emod]
theorem dist_eq (a b m : Int) : serial_Dist.f a b m = some ((b - a) % MM m) := by
  have h := mM1 m
  unfold serial_Dist.f
  rw [round_eq]; simp only [Option.bind_some]
  rw [round_eq]; simp only [Option.bind_some]
  rw [round_eq]; simp only [Option.bind_some, mM_mM]
  generalize MM m = M at h ⊢
  have h0 : 0 ≤ a % M := Int.emod_nonneg _ (by omega)
  have h1 : a % M < M := Int.emod_lt_of_pos _ (by omega)
  have h2 : 0 ≤ b % M := Int.emod_nonneg _ (by omega)
  have h3 : b % M < M := Int.emod_lt_of_pos _ (by omega)
  rw [w64 (by omega), ← Int.sub_emod]
theorem in_eq (x low n m : Int) : serial_In.f x low n m = some (decide ((x - low) % MM m < n)) := by
  unfold serial_In.f; rw [dist_eq]; rfl
theorem alive_eq : signalmanlaw1_alive.f = some true := by
  unfold signalmanlaw1_alive.f
  rw [next_eq, mM_id (by omega)]; simp only [Option.bind_some]
  rw [dist_eq, mM_id (by omega)]; simp only [Option.bind_some]
  rw [in_eq, mM_id (by omega)]; simp
def cnt (low n m x : Int) : Int := if x ≤ low then (if low + n - m < x then mx 0 (low + n - m) else x) else mx 0 (low + n - m) + mn n (x - low)
theorem inw (x low n m : Int) (hm : 1 ≤ m ∧ m ≤ 300) (_hn : 0 ≤ n ∧ n ≤ m) (hl : 0 ≤ low ∧ low < m) (hx : 0 ≤ x ∧ x < m) :
    serial_In.f x low n m = some (decide ((low ≤ x ∧ x < low + n) ∨ (x < low ∧ x < low + n - m))) := by
  rw [in_eq, mM_id (by omega)]
  congr 1
  apply decide_eq_decide.2
  by_cases h : low ≤ x
  · rw [Int.emod_eq_of_lt (by omega) (by omega)]; omega
  · rw [← Int.add_emod_right, Int.emod_eq_of_lt (by omega) (by omega)]; omega
theorem loop1 (low n m : Int) (hm : 1 ≤ m ∧ m ≤ 300) (hn : 0 ≤ n ∧ n ≤ m) (hl : 0 ≤ low ∧ low < m) (d : Nat) : ∀ (k : Nat) (x : Int), x + d = m → 0 ≤ x → d < k →
    ∃ k', k ≤ k' + d + 1 ∧ signalmanlaw1_SerialWindows.l0 k low n m (cnt low n m x) x = signalmanlaw1_SerialWindows.l1 k' low n m n low 0 := by
  induction d with
  | zero =>
    intro k x hd h0 hk
    obtain ⟨k, rfl⟩ : ∃ t, k = t + 1 := ⟨k - 1, by omega⟩
    refine ⟨k, by omega, ?_⟩
    simp only [signalmanlaw1_SerialWindows.l0]
    rw [if_neg (by omega)]
    have : cnt low n m x = n := by unfold cnt mx mn; (repeat' split) <;> omega
    rw [this]
  | succ d ih =>
    intro k x hd h0 hk
    obtain ⟨k, rfl⟩ : ∃ t, k = t + 1 := ⟨k - 1, by omega⟩
    obtain ⟨k', hk', e⟩ := ih k (x + 1) (by omega) (by omega) (by omega)
    refine ⟨k', by omega, ?_⟩
    rw [← e]
    simp only [signalmanlaw1_SerialWindows.l0]
    rw [if_pos (by omega), inw x low n m hm hn hl (by omega)]; simp only [Option.bind_some]
    have hc : 0 ≤ cnt low n m x ∧ cnt low n m x ≤ 1000 := by unfold cnt mx mn; (repeat' split) <;> omega
    rw [w64 (n := x + 1) (by omega), w64 (n := cnt low n m x + 1) (by omega)]
    by_cases hin : (low ≤ x ∧ x < low + n) ∨ (x < low ∧ x < low + n - m)
    · rw [decide_eq_true hin]
      have : cnt low n m (x + 1) = cnt low n m x + 1 := by unfold cnt mx mn; (repeat' split) <;> omega
      rw [this]; simp
    · rw [decide_eq_false hin]
      have : cnt low n m (x + 1) = cnt low n m x := by unfold cnt mx mn; (repeat' split) <;> omega
      rw [this]; simp
theorem loop2 (low n m : Int) (hm : 1 ≤ m ∧ m ≤ 300) (hn : 0 ≤ n ∧ n ≤ m) (_hl : 0 ≤ low ∧ low < m) (d : Nat) : ∀ (k : Nat) (i : Int), i + d = n → 0 ≤ i → d < k →
    signalmanlaw1_SerialWindows.l1 k low n m n ((low + i) % m) i = some true := by
  induction d with
  | zero =>
    intro k i hd h0 hk
    obtain ⟨k, rfl⟩ : ∃ t, k = t + 1 := ⟨k - 1, by omega⟩
    simp only [signalmanlaw1_SerialWindows.l1]
    rw [if_neg (by omega), if_pos trivial]
    by_cases hnm : n = m
    · rw [if_pos hnm]
    · rw [if_neg hnm, in_eq, mM_id (by omega)]; simp only [Option.bind_some]
      rw [Int.emod_sub_emod, show low + i - low = i by omega, Int.emod_eq_of_lt (by omega) (by omega)]
      rw [decide_eq_false (by omega)]; rfl
  | succ d ih =>
    intro k i hd h0 hk
    obtain ⟨k, rfl⟩ : ∃ t, k = t + 1 := ⟨k - 1, by omega⟩
    simp only [signalmanlaw1_SerialWindows.l1]
    rw [if_pos (by omega), in_eq, mM_id (by omega)]; simp only [Option.bind_some]
    rw [Int.emod_sub_emod, show low + i - low = i by omega, Int.emod_eq_of_lt (b := m) (a := i) (by omega) (by omega), decide_eq_true (by omega)]; simp only [if_true]
    rw [next_eq, mM_id (by omega)]; simp only [Option.bind_some]
    rw [Int.emod_add_emod, w64 (by omega), show low + i + 1 = low + (i + 1) by omega]
    exact ih k (i + 1) (by omega) (by omega) (by omega)
theorem SerialWindows : signalmanlaw1_SerialWindows.Pure := by
  intro low n m ha hb hm
  simp [Lit.wf] at ha hb hm
  refine ⟨1000, ?_⟩
  unfold signalmanlaw1_SerialWindows.f
  rw [alive_eq]; simp only [Option.bind_some, if_true]
  have hj : ∀ a b c, signalmanlaw1_SerialWindows.j0 1000 a b c true true = some true := fun _ _ _ => rfl
  by_cases h1 : m < 1
  · rw [if_pos h1, hj]
  by_cases h2 : m > 300
  · rw [if_neg h1, if_pos h2, hj]
  by_cases h3 : n < 0
  · rw [if_neg h1, if_neg h2, if_pos h3, hj]
  by_cases h4 : n > m
  · rw [if_neg h1, if_neg h2, if_neg h3, if_pos h4, hj]
  by_cases h5 : low < 0
  · rw [if_neg h1, if_neg h2, if_neg h3, if_neg h4, if_pos h5, hj]
  rw [if_neg h1, if_neg h2, if_neg h3, if_neg h4, if_neg h5]
  by_cases h6 : low ≥ m
  · rw [decide_eq_true h6, hj]
  rw [decide_eq_false h6]
  have e : signalmanlaw1_SerialWindows.j0 1000 low n m true false = signalmanlaw1_SerialWindows.l0 999 low n m 0 0 := rfl
  have hc : cnt low n m 0 = 0 := by unfold cnt mx mn; (repeat' split) <;> omega
  obtain ⟨k', hk', g⟩ := loop1 low n m (by omega) (by omega) (by omega) m.toNat 999 0 (by omega) (by omega) (by omega)
  rw [hc] at g
  rw [e, g]
  have := loop2 low n m (by omega) (by omega) (by omega) n.toNat k' 0 (by omega) (by omega) (by omega)
  rw [show low + 0 = low by omega, Int.emod_eq_of_lt (by omega) (by omega)] at this
  exact this

end Go.Proofs.Ytdlaggikbnmjeaa.Pure

/- WorldCuts: where both lines are cut nothing is heard, and nobody connects. Conditions: none beyond those of the given statement. -/
import Derived.Test.YtaejcbpijdacmaaGreatRunWorldCuts
import Derived.KernelRfl
set_option linter.all false
set_option maxRecDepth 100000
namespace Go.Proofs.YtaejcbpijdacmaaGreat
open Go.RowKit Go.Proofs.YtaejcbpijdacmaaGreat.Walk
theorem bsome {α β : Type} (x : α) (g : α → Option β) : (some x).bind g = g x := Eq.trans (b := g x) rfl (Eq.symm rfl)
theorem u8w (x : Int) : IntKind.u8.wrap x = x % 256 := by
 simp [IntKind.wrap, IntKind.bits, IntKind.signed]
theorem round_eq {n m : Int} (hn : -1000000000000 ≤ n ∧ n ≤ 1000000000000 ∨ -9223372036854775808 ≤ n ∧ n ≤ 9223372036854775807) (hm : 1 ≤ m ∧ m ≤ 1073741824) : serial_round.f n m = some (n % m, m) := by
 unfold serial_round.f
 have e1 : imax 1 (imin m 1073741824) = m := by unfold imax imin; repeat' split; all_goals omega
 rw [e1, if_pos (by omega)]
 by_cases h0 : 0 ≤ n
 ·rw [Int.tmod_eq_emod_of_nonneg h0, if_neg (by have := Int.emod_nonneg n (show m ≠ 0 by omega); omega)]
 ·have hlt := Int.emod_lt_of_pos n (show 0 < m by omega)
  have hge := Int.emod_nonneg n (show m ≠ 0 by omega)
  have ht : n.tmod m = if n % m = 0 then 0 else n % m - m := by
   rw [Int.tmod_eq_emod]
   by_cases hd : m ∣ n
   ·have : n % m = 0 := Int.emod_eq_zero_of_dvd hd
    simp [hd, this]
   ·have : ¬ n % m = 0 := fun e => hd (Int.dvd_of_emod_eq_zero e)
    simp [hd, this, h0]; omega
  rw [ht]
  by_cases hz : n % m = 0
  ·rw [if_pos hz, if_neg (by omega), hz]
  ·rw [if_neg hz, if_pos (by omega), w64_in ⟨by omega, by omega⟩]
   congr 2; omega
theorem dist_eq {a b m : Int} (ha : -9223372036854775808 ≤ a ∧ a ≤ 9223372036854775807) (hb : -9223372036854775808 ≤ b ∧ b ≤ 9223372036854775807) (hm : 1 ≤ m ∧ m ≤ 1073741824) : serial_Dist.f a b m = some ((b - a) % m) := by
 unfold serial_Dist.f
 rw [round_eq (.inr ha) hm, bsome, round_eq (.inr hb) hm, bsome]
 have h1 := Int.emod_nonneg a (show m ≠ 0 by omega)
 have h2 := Int.emod_lt_of_pos a (show 0 < m by omega)
 have h3 := Int.emod_nonneg b (show m ≠ 0 by omega)
 have h4 := Int.emod_lt_of_pos b (show 0 < m by omega)
 dsimp only
 rw [w64_in ⟨by omega, by omega⟩, round_eq (.inl ⟨by omega, by omega⟩) hm, bsome]
 dsimp only
 rw [← Int.sub_emod]
namespace Bl
structure BI (l : backlog_Log) : Prop where
 m : 8 ≤ l.m ∧ l.m ≤ 32768
 win : 1 ≤ l.window ∧ l.window ≤ 4096
 que : 0 ≤ l.queue ∧ l.queue ≤ 1000
 first : 0 ≤ l.first ∧ l.first < l.m
 out : 0 ≤ l.out ∧ l.out ≤ l.window ∧ l.out ≤ (l.l.length : Int)
 wait : (l.l.length : Int) ≤ l.out + l.queue
 small : ∀ b ∈ l.l, b.length ≤ 1000000
theorem clone_eq {l : List Int} (h : (l.length : Int) ≤ 1099511627776) : slices_Clone_Sbytebyte.f l = some l := by
 unfold slices_Clone_Sbytebyte.f
 rw [if_pos (by simp; omega)]; rfl
theorem number_eq {l : backlog_Log} (hm : 8 ≤ l.m ∧ l.m ≤ 32768) (hf : 0 ≤ l.first ∧ l.first < l.m) {i : Int} (hi : 0 ≤ i ∧ i ≤ 100000) : backlog_Log_number.f l i = some ((l.first + i) % l.m) := by
 unfold backlog_Log_number.f
 rw [if_pos (by omega), w64_in ⟨by omega, by omega⟩, Int.tmod_eq_emod_of_nonneg (by omega)]
theorem td8 {x : Int} (h : 0 ≤ x ∧ x ≤ 100000) : w64 (x.tdiv 8) = x / 8 := by
 rw [Int.tdiv_eq_ediv_of_nonneg h.1, w64_in ⟨by omega, by omega⟩]
theorem new_bi {m win q : Int} (hm : 8 ≤ m ∧ m ≤ 32768) (hw : 1 ≤ win ∧ win ≤ m / 8) (hq : 0 ≤ q ∧ q ≤ 1000) : BI { m := m, window := win, queue := q, first := 0, out := 0, l := [] } :=
 ⟨hm, by show 1 ≤ win ∧ win ≤ 4096; omega, hq, by show 0 ≤ (0 : Int) ∧ 0 < m; omega, by show 0 ≤ (0 : Int) ∧ 0 ≤ win ∧ (0 : Int) ≤ _; simp; omega, by simp; exact hq.1, by simp⟩
def outs (l : backlog_Log) : List Int := (List.range l.out.toNat).map fun (i : Nat) => (l.first + (i : Int)) % l.m
theorem out_l0 {l : backlog_Log} (h : BI l) : ∀ (d i : Nat) (k : Nat) (xs : List Int), (i : Int) + d = l.out → xs.length = i → d + 1 ≤ k → backlog_Log_Out.l0 k l i xs = some (xs ++ (List.range' i d).map fun (i : Nat) => (l.first + (i : Int)) % l.m)
 | 0, i, k, xs, hi, hx, hk => by
  obtain ⟨k, rfl⟩ : ∃ j, k = j + 1 := ⟨k - 1, by omega⟩
  rw [backlog_Log_Out.l0, if_neg (by omega)]; simp
 | d + 1, i, k, xs, hi, hx, hk => by
  obtain ⟨k, rfl⟩ : ∃ j, k = j + 1 := ⟨k - 1, by omega⟩
  have ho := h.out
  have hw := h.win
  rw [backlog_Log_Out.l0, if_pos (by omega), number_eq h.m h.first ⟨by omega, by omega⟩, bsome, if_pos (by simp only [List.length_cons, List.length_nil]; omega), w64_in ⟨by omega, by omega⟩]
  have := out_l0 h d (i + 1) k (xs ++ [(l.first + (i : Int)) % l.m]) (by omega) (by simp [hx]) (by omega)
  rw [show ((i : Nat) : Int) + 1 = ((i + 1 : Nat) : Int) by omega, this, List.range'_succ]; simp
theorem out_eq {l : backlog_Log} (h : BI l) {k : Nat} (hk : 5000 ≤ k) : backlog_Log_Out.f k l = some (outs l) := by
 have ho := h.out
 have hw := h.win
 unfold backlog_Log_Out.f outs
 have := out_l0 h l.out.toNat 0 k [] (by omega) rfl (by omega)
 rw [List.range_eq_range']; simpa using this
theorem outs_len (l : backlog_Log) : (outs l).length = l.out.toNat := by simp [outs]
end Bl
namespace Or
theorem td8 {x : Int} (h : 0 ≤ x ∧ x ≤ 100000) : w64 (x.tdiv 8) = x / 8 := by
 rw [Int.tdiv_eq_ediv_of_nonneg h.1, w64_in ⟨by omega, by omega⟩]
structure OI (x : reorder_Order) (C : Nat) : Prop where
 hm : 8 ≤ x.m ∧ x.m ≤ 32768
 hwin : 1 ≤ x.window ∧ x.window ≤ x.m / 8
 hnext : 0 ≤ x.next ∧ x.next < x.m
 held : x.kept.length + x.ready.length ≤ C
theorem OI.more {x : reorder_Order} {C D : Nat} (h : OI x C) (l : C ≤ D) : OI x D := ⟨h.hm, h.hwin, h.hnext, Nat.le_trans h.held l⟩
def onew (m w : Int) : reorder_Order := { m := m, window := w, next := 0, kept := [], ready := [] }
theorem onew_oi {m w : Int} (hm : 8 ≤ m ∧ m ≤ 32768) (hw : 1 ≤ w ∧ w ≤ m / 8) : OI (onew m w) 0 := ⟨hm, hw, ⟨Int.le_refl _, by show 0 < m; omega⟩, Nat.le_refl _⟩
theorem onew_eq (m w : Int) : reorder_New.f m w = some (onew (imax 8 (imin m 32768)) (imax 1 (imin w (imax 8 (imin m 32768) / 8)))) := by
 have hM : 8 ≤ imax 8 (imin m 32768) ∧ imax 8 (imin m 32768) ≤ 32768 := by unfold imax imin; repeat' split; all_goals omega
 unfold reorder_New.f backlog_Cut.f
 rw [bsome, td8 (by omega)]; rfl
end Or
namespace Co
def rightB (c : api_Ctl) (m : Int) : Bool :=
 (m == 128 || m == 32768) && (if c.Kind = 0 then decide (0 ≤ c.Ns) && decide (c.Ns < m) && (decide (0 ≤ c.Nr) && decide (c.Nr < m))
  else if c.Kind = 1 ∨ c.Kind = 2 then decide (c.Ns = 0) && (decide (0 ≤ c.Nr) && decide (c.Nr < m)) else decide (3 ≤ c.Kind) && decide (c.Kind ≤ 7) && decide (c.Ns = 0) && decide (c.Nr = 0))
theorem right_eq (c : api_Ctl) (m : Int) : control_Right.f c m = some (rightB c m) := by
 unfold control_Right.f control_Right.j0 control_modulus.f control_of.f rightB
 by_cases h1 : m = 128
 ·subst h1
  by_cases k0 : c.Kind = 0
  ·by_cases n1 : 0 ≤ c.Ns <;> by_cases n2 : c.Ns < 128 <;> by_cases n3 : 0 ≤ c.Nr <;> by_cases n4 : c.Nr < 128 <;> simp [k0, n1, n2, n3, n4]
  ·by_cases k1 : c.Kind = 1
   ·by_cases n1 : c.Ns = 0 <;> by_cases n3 : 0 ≤ c.Nr <;> by_cases n4 : c.Nr < 128 <;> simp [k1, n1, n3, n4]
   ·by_cases k2 : c.Kind = 2
    ·by_cases n1 : c.Ns = 0 <;> by_cases n3 : 0 ≤ c.Nr <;> by_cases n4 : c.Nr < 128 <;> simp [k2, n1, n3, n4]
    ·by_cases k3 : 3 ≤ c.Kind <;> by_cases k7 : c.Kind ≤ 7 <;> by_cases n1 : c.Ns = 0 <;> simp [k0, k1, k2, k3, k7, n1]
 ·by_cases h2 : m = 32768
  ·subst h2
   by_cases k0 : c.Kind = 0
   ·by_cases n1 : 0 ≤ c.Ns <;> by_cases n2 : c.Ns < 32768 <;> by_cases n3 : 0 ≤ c.Nr <;> by_cases n4 : c.Nr < 32768 <;> simp [k0, n1, n2, n3, n4]
   ·by_cases k1 : c.Kind = 1
    ·by_cases n1 : c.Ns = 0 <;> by_cases n3 : 0 ≤ c.Nr <;> by_cases n4 : c.Nr < 32768 <;> simp [k1, n1, n3, n4]
    ·by_cases k2 : c.Kind = 2
     ·by_cases n1 : c.Ns = 0 <;> by_cases n3 : 0 ≤ c.Nr <;> by_cases n4 : c.Nr < 32768 <;> simp [k2, n1, n3, n4]
     ·by_cases k3 : 3 ≤ c.Kind <;> by_cases k7 : c.Kind ≤ 7 <;> by_cases n1 : c.Ns = 0 <;> simp [k0, k1, k2, k3, k7, n1]
  ·simp [h1, h2]
def pt (n m : Int) : List Int := if m = 128 then [n % 256] else [n % 256, n / 256 % 256]
def pb (b : Bool) : Int := if b = true then 1 else 0
def bareB (k : Int) : Int := if k = 3 then 111 else if k = 4 then 99 else if k = 5 then 67 else if k = 6 then 15 else 135
def enc (c : api_Ctl) (m : Int) : List Int :=
 if c.Kind = 0 then pt (2 * c.Ns) m ++ pt (2 * c.Nr + pb c.Poll) m
 else if c.Kind = 1 then pt 1 m ++ pt (2 * c.Nr + pb c.Poll) m
 else if c.Kind = 2 then pt 9 m ++ pt (2 * c.Nr + pb c.Poll) m
 else [bareB c.Kind + 16 * pb c.Poll]
theorem pb_b (b : Bool) : 0 ≤ pb b ∧ pb b ≤ 1 := by unfold pb; split <;> omega
theorem right_cases {c : api_Ctl} {m : Int} (h : rightB c m = true) : (m = 128 ∨ m = 32768) ∧ ((c.Kind = 0 ∧ (0 ≤ c.Ns ∧ c.Ns < m) ∧ 0 ≤ c.Nr ∧ c.Nr < m) ∨ ((c.Kind = 1 ∨ c.Kind = 2) ∧ c.Ns = 0 ∧ 0 ≤ c.Nr ∧ c.Nr < m) ∨ (3 ≤ c.Kind ∧ c.Kind ≤ 7 ∧ c.Ns = 0 ∧ c.Nr = 0)) := by
 unfold rightB at h
 simp only [Bool.and_eq_true, Bool.or_eq_true, beq_iff_eq] at h
 obtain ⟨h1, h2⟩ := h
 refine ⟨h1, ?_⟩
 by_cases k0 : c.Kind = 0
 ·rw [if_pos k0] at h2; simp at h2; left; omega
 ·rw [if_neg k0] at h2
  by_cases k1 : c.Kind = 1 ∨ c.Kind = 2
  ·rw [if_pos k1] at h2; simp at h2; right; left; omega
  ·rw [if_neg k1] at h2; simp at h2; right; right; omega
theorem bit_eq (b : Bool) : control_bit.f b = some (pb b) := by unfold control_bit.f pb; split <;> rfl
theorem fd8 (n : Int) : n.fdiv (2 ^ (min ((8 : Int)).toNat IntKind.i64.bits)) = n / 256 := by
 have : (2 : Int) ^ (min ((8 : Int)).toNat IntKind.i64.bits) = 256 := by decide
 rw [this, Int.fdiv_eq_ediv_of_nonneg _ (by omega)]
theorem put_eq {l : List Int} {n m : Int} (hl : l.length ≤ 100) (hm : m = 128 ∨ m = 32768) : control_put.f l n m = some (l ++ pt n m) := by
 unfold control_put.f pt
 have h2 : (l.length : Int) ≤ 100 := by omega
 rw [if_pos (by simp; omega), u8w, fd8]
 rcases hm with rfl | rfl
 ·simp
 ·simp only [if_true]
  rw [if_pos (by simp; omega), u8w]; simp
theorem pt_le (n m : Int) : (pt n m).length ≤ 2 := by unfold pt; split <;> simp
theorem bare_k {k : Int} (h : 3 ≤ k ∧ k ≤ 7) : k = 3 ∨ k = 4 ∨ k = 5 ∨ k = 6 ∨ k = 7 := by omega
theorem bytes_eq {c : api_Ctl} {m : Int} (h : rightB c m = true) : control_Bytes.f c m = some (enc c m) := by
 obtain ⟨hm, hc⟩ := right_cases h
 have hb := pb_b c.Poll
 have hmm : 0 ≤ m ∧ m ≤ 32768 := by omega
 have p2 : ∀ x n : Int, control_put.f (pt x m) n m = some (pt x m ++ pt n m) := fun x n => put_eq (by have := pt_le x m; omega) hm
 have p1 : ∀ n : Int, control_put.f [] n m = some (pt n m) := fun n => put_eq (by simp) hm
 unfold control_Bytes.f
 simp only [right_eq, h, bsome, if_true, bit_eq, p1, p2]
 rcases hc with ⟨k0, n1, n2⟩ | ⟨k1, n1, n2⟩ | ⟨k3, k7, n1, n2⟩
 ·have e1 : w64 (2 * c.Ns) = 2 * c.Ns := w64_in ⟨by omega, by omega⟩
  have e2 : w64 (2 * c.Nr) = 2 * c.Nr := w64_in ⟨by omega, by omega⟩
  have e3 : w64 (2 * c.Nr + pb c.Poll) = 2 * c.Nr + pb c.Poll := w64_in ⟨by omega, by omega⟩
  simp only [if_pos k0, e1, e2, e3, enc]
 ·have k0 : ¬ c.Kind = 0 := by omega
  have e2 : w64 (2 * c.Nr) = 2 * c.Nr := w64_in ⟨by omega, by omega⟩
  have e3 : w64 (2 * c.Nr + pb c.Poll) = 2 * c.Nr + pb c.Poll := w64_in ⟨by omega, by omega⟩
  rcases k1 with k1 | k1
  ·simp only [if_neg k0, if_pos k1, e2, e3, enc]
  ·have k2 : ¬ c.Kind = 1 := by omega
   simp only [if_neg k0, if_neg k2, if_pos k1, e2, e3, enc]
 ·have k0 : ¬ c.Kind = 0 := by omega
  have k1 : ¬ c.Kind = 1 := by omega
  have k2 : ¬ c.Kind = 2 := by omega
  simp only [if_neg k0, if_neg k1, if_neg k2, enc]
  generalize hp : c.Poll = p
  rcases bare_k ⟨k3, k7⟩ with e | e | e | e | e <;> rw [e] <;> cases p <;> decide +kernel
theorem enc_byte {c : api_Ctl} {m : Int} (h : rightB c m = true) : ∀ z ∈ enc c m, 0 ≤ z ∧ z < 256 := by
 obtain ⟨hm, hc⟩ := right_cases h
 have hb := pb_b c.Poll
 have hp : ∀ n : Int, ∀ z ∈ pt n m, 0 ≤ z ∧ z < 256 := by
  intro n z hz
  unfold pt at hz
  split at hz <;> simp at hz <;> omega
 have hp2 : ∀ a b : Int, ∀ z ∈ pt a m ++ pt b m, 0 ≤ z ∧ z < 256 := fun a b z hz => (List.mem_append.1 hz).elim (hp a z) (hp b z)
 unfold enc
 split
 ·exact hp2 _ _
 ·split
  ·exact hp2 _ _
  ·split
   ·exact hp2 _ _
   ·intro z hz
    simp at hz
    subst hz
    unfold bareB
    repeat' split
    all_goals omega
end Co
def sStep (p : Int × Bool) (v : Int) : Int × Bool := if v > 0 ∧ v ≤ p.1 then (v, true) else p
theorem soonest_l0 (s : clock_Set) (hs : s.left.length = 32) : ∀ (j k : Nat) (x : Int) (ok : Bool) (i : Nat), i ≤ 32 → 32 - i = j → j < k → clock_Set_soonest.l0 k s x ok i = some ((s.left.drop i).foldl sStep (x, ok)) := by
 intro j
 induction j with
 | zero =>
  intro k x ok i hi hj hk
  obtain ⟨k, rfl⟩ : ∃ k', k = k' + 1 := ⟨k - 1, by omega⟩
  have : i = 32 := by omega
  subst this
  rw [clock_Set_soonest.l0, if_neg (by decide), List.drop_eq_nil_of_le (by omega)]
  rfl
 | succ j ih =>
  intro k x ok i hi hj hk
  obtain ⟨k, rfl⟩ : ∃ k', k = k' + 1 := ⟨k - 1, by omega⟩
  have hlt : i < s.left.length := by omega
  have e1 : w64 ((i : Int) + 1) = ((i + 1 : Nat) : Int) := by rw [w64_in (by omega)]; omega
  rw [clock_Set_soonest.l0, if_pos (by omega), if_pos (by omega)]
  unfold clock_Set_soonest.j1
  rw [e1]
  simp only [ih k _ _ (i + 1) (by omega) (by omega) (by omega)]
  rw [List.drop_eq_getElem_cons hlt, List.foldl_cons]
  have e2 : s.left.getD (i : Int).toNat 0 = s.left[i] := by simp [List.getD, hlt]
  rw [e2]
  unfold sStep
  by_cases h1 : s.left[i] > 0
  ·by_cases h2 : s.left[i] ≤ x
   ·simp [h1, h2]
   ·simp [h1, h2]
  ·simp [h1]
theorem soonest_eq (s : clock_Set) (hs : s.left.length = 32) (n : Int) (k : Nat) (hk : 33 ≤ k) : clock_Set_soonest.f k s n = some (s.left.foldl sStep (n, false)) := by
 unfold clock_Set_soonest.f
 have := soonest_l0 s hs 32 k n false 0 (by omega) (by omega) (by omega)
 simpa using this
theorem fold_sStep : ∀ (l : List Int) (x : Int) (ok : Bool), let r := l.foldl sStep (x, ok); r.1 ≤ x ∧ (∀ v ∈ l, 0 < v → v ≤ x → r.1 ≤ v) ∧ (r.1 = x ∨ 0 < r.1) ∧ (r.2 = false → ok = false ∧ r.1 = x ∧ ∀ v ∈ l, ¬ (0 < v ∧ v ≤ x)) ∧ (ok = false → r.2 = true → r.1 ∈ l ∧ 0 < r.1)
 | [], x, ok => by simp
 | v :: l, x, ok => by
  intro r
  have hr : r = l.foldl sStep (if v > 0 ∧ v ≤ x then (v, true) else (x, ok)) := rfl
  by_cases hv : v > 0 ∧ v ≤ x
  ·rw [if_pos hv] at hr
   obtain ⟨h1, h2, h3, h4, h5⟩ := fold_sStep l v true
   change _ at h1 h2 h3 h4 h5
   rw [← hr] at h1 h2 h3 h4
   refine ⟨by omega, fun u hu h0 hx => ?_, by omega, fun h => ?_, fun h h' => ?_⟩
   ·rcases List.mem_cons.1 hu with e | e
    ·subst e; omega
    ·by_cases huv : u ≤ v
     ·exact h2 u e h0 huv
     ·omega
   ·have := (h4 h).1; cases this
   ·have hpos : 0 < r.1 := by rcases h3 with e | e <;> omega
    refine ⟨?_, hpos⟩
    have key : ∀ (l : List Int) (p : Int × Bool), (l.foldl sStep p).1 = p.1 ∨ (l.foldl sStep p).1 ∈ l := by
     intro l
     induction l with
     | nil => intro p; left; rfl
     | cons a l ih =>
      intro p
      rw [List.foldl_cons]
      rcases ih (sStep p a) with e | e
      ·rw [e]; unfold sStep; split
       ·right; simp
       ·left; rfl
      ·right; exact List.mem_cons_of_mem _ e
    rw [hr]
    rcases key l (v, true) with e | e
    ·rw [e]; simp
    ·exact List.mem_cons_of_mem _ e
  ·rw [if_neg hv] at hr
   obtain ⟨h1, h2, h3, h4, h5⟩ := fold_sStep l x ok
   rw [← hr] at h1 h2 h3 h4 h5
   refine ⟨h1, fun u hu h0 hx => ?_, h3, fun h => ?_, fun h h' => ?_⟩
   ·rcases List.mem_cons.1 hu with e | e
    ·subst e; exact absurd ⟨h0, hx⟩ hv
    ·exact h2 u e h0 hx
   ·obtain ⟨g1, g2, g3⟩ := h4 h
    refine ⟨g1, g2, fun u hu => ?_⟩
    rcases List.mem_cons.1 hu with e | e
    ·subst e; exact hv
    ·exact g3 u e
   ·exact ⟨List.mem_cons_of_mem _ (h5 h h').1, (h5 h h').2⟩
def hits (t : Int) : Nat → List Int → List Int
 | _, [] => []
 | i, v :: r => if v = t then (i : Int) :: hits t (i + 1) r else hits t (i + 1) r
def turn (n v : Int) : Int := if v = 0 then 0 else w64 (v - n)
theorem pass_l0 (s : clock_Set) (hs : s.left.length = 32) (n : Int) (hn : n ≠ 0) : ∀ (j k : Nat) (i : Nat) (s' : clock_Set) (out : List Int), i ≤ 32 → 32 - i = j → j < k → s'.left.length = 32 → s'.left.drop i = s.left.drop i → out.length ≤ i →
  clock_Set_pass.l0 k s n i s' out = some (out ++ hits n i (s.left.drop i), { now := s'.now, left := s'.left.take i ++ (s.left.drop i).map (turn n) }) := by
 intro j
 induction j with
 | zero =>
  intro k i s' out hi hj hk hs' hd ho
  obtain ⟨k, rfl⟩ : ∃ k', k = k' + 1 := ⟨k - 1, by omega⟩
  have : i = 32 := by omega
  subst this
  rw [clock_Set_pass.l0, if_neg (by decide), List.drop_eq_nil_of_le (by omega)]
  simp only [hits, List.map_nil, List.append_nil]
  rw [List.take_of_length_le (by omega)]
 | succ j ih =>
  intro k i s' out hi hj hk hs' hd ho
  obtain ⟨k, rfl⟩ : ∃ k', k = k' + 1 := ⟨k - 1, by omega⟩
  have hlt : i < s.left.length := by omega
  have hlt' : i < s'.left.length := by omega
  have e1 : w64 ((i : Int) + 1) = ((i + 1 : Nat) : Int) := by rw [w64_in (by omega)]; omega
  have e2 : s.left.getD (i : Int).toNat 0 = s.left[i] := by simp [List.getD, hlt]
  have hd1 : s'.left.drop (i + 1) = s.left.drop (i + 1) := by
   have := congrArg (List.drop 1) hd
   simpa [List.drop_drop, Nat.add_comm] using this
  have hsi : s'.left[i] = s.left[i] := by
   have h1 := List.drop_eq_getElem_cons hlt
   have h2 := List.drop_eq_getElem_cons hlt'
   rw [h1, h2] at hd
   exact (List.cons.inj hd).1
  have htake : s'.left.take (i + 1) = s'.left.take i ++ [s'.left[i]] := by rw [List.take_succ_eq_append_getElem hlt']
  rw [clock_Set_pass.l0, if_pos (by omega), if_pos (by omega), e1, e2, List.drop_eq_getElem_cons hlt]
  have hset : ∀ x : Int, (s'.left.set i x).take (i + 1) = s'.left.take i ++ [x] := by
   intro x
   rw [List.take_succ_eq_append_getElem (by simpa using hlt'), List.take_set_of_le (Nat.le_refl i)]
   simp
  have hdrop : ∀ x : Int, (s'.left.set i x).drop (i + 1) = s.left.drop (i + 1) := by
   intro x
   rw [List.drop_set_of_lt (by omega), hd1]
  by_cases h0 : s.left[i] = 0
  ·rw [if_pos h0, ih k (i + 1) s' out (by omega) (by omega) (by omega) hs' hd1 (by omega)]
   rw [htake, hsi]
   simp [hits, turn, h0, Ne.symm hn]
  ·rw [if_neg h0]
   by_cases h1 : s.left[i] = n
   ·rw [if_pos h1, if_pos (by simp; omega)]
    rw [ih k (i + 1) _ _ (by omega) (by omega) (by omega) (by simpa using hs') (by simpa using hdrop _) (by simp; omega)]
    simp only [Int.toNat_natCast, hset]
    simp only [hits, turn, h1, if_neg hn, if_true, List.map_cons, List.append_assoc, List.cons_append, List.nil_append]
   ·rw [if_neg h1]
    rw [ih k (i + 1) _ _ (by omega) (by omega) (by omega) (by simpa using hs') (by simpa using hdrop _) (by omega)]
    simp only [Int.toNat_natCast, hset]
    simp only [hits, turn, if_neg h0, if_neg h1, List.map_cons, List.append_assoc, List.cons_append, List.nil_append]
theorem pass_eq (s : clock_Set) (hs : s.left.length = 32) (n : Int) (hn : n ≠ 0) (k : Nat) (hk : 33 ≤ k) : clock_Set_pass.f k s n = some (hits n 0 s.left, { now := s.now, left := s.left.map (turn n) }) := by
 unfold clock_Set_pass.f
 have := pass_l0 s hs n hn 32 k 0 s [] (by omega) (by omega) (by omega) hs rfl (by simp)
 simpa using this
theorem pass0_l0 (s : clock_Set) (hs : s.left.length = 32) : ∀ (j k : Nat) (i : Nat) (s' : clock_Set) (out : List Int), i ≤ 32 → 32 - i = j → j < k → s'.left.length = 32 → s'.left.drop i = s.left.drop i → out.length ≤ i →
  clock_Set_pass.l0 k s 0 i s' out = some (out, { now := s'.now, left := s'.left.take i ++ (s.left.drop i).map (turn 0) }) := by
 intro j
 induction j with
 | zero =>
  intro k i s' out hi hj hk hs' hd ho
  obtain ⟨k, rfl⟩ : ∃ k', k = k' + 1 := ⟨k - 1, by omega⟩
  have : i = 32 := by omega
  subst this
  rw [clock_Set_pass.l0, if_neg (by decide), List.drop_eq_nil_of_le (by omega)]
  simp only [List.map_nil, List.append_nil]
  rw [List.take_of_length_le (by omega)]
 | succ j ih =>
  intro k i s' out hi hj hk hs' hd ho
  obtain ⟨k, rfl⟩ : ∃ k', k = k' + 1 := ⟨k - 1, by omega⟩
  have hlt : i < s.left.length := by omega
  have hlt' : i < s'.left.length := by omega
  have e1 : w64 ((i : Int) + 1) = ((i + 1 : Nat) : Int) := by rw [w64_in (by omega)]; omega
  have e2 : s.left.getD (i : Int).toNat 0 = s.left[i] := by simp [List.getD, hlt]
  have hd1 : s'.left.drop (i + 1) = s.left.drop (i + 1) := by
   have := congrArg (List.drop 1) hd
   simpa [List.drop_drop, Nat.add_comm] using this
  have hsi : s'.left[i] = s.left[i] := by
   have h1 := List.drop_eq_getElem_cons hlt
   have h2 := List.drop_eq_getElem_cons hlt'
   rw [h1, h2] at hd
   exact (List.cons.inj hd).1
  have htake : s'.left.take (i + 1) = s'.left.take i ++ [s'.left[i]] := by rw [List.take_succ_eq_append_getElem hlt']
  rw [clock_Set_pass.l0, if_pos (by omega), if_pos (by omega), e1, e2, List.drop_eq_getElem_cons hlt]
  have hset : ∀ x : Int, (s'.left.set i x).take (i + 1) = s'.left.take i ++ [x] := by
   intro x
   rw [List.take_succ_eq_append_getElem (by simpa using hlt'), List.take_set_of_le (Nat.le_refl i)]
   simp
  have hdrop : ∀ x : Int, (s'.left.set i x).drop (i + 1) = s.left.drop (i + 1) := by
   intro x
   rw [List.drop_set_of_lt (by omega), hd1]
  by_cases h0 : s.left[i] = 0
  ·rw [if_pos h0, ih k (i + 1) s' out (by omega) (by omega) (by omega) hs' hd1 (by omega)]
   rw [htake, hsi]
   simp [turn, h0]
  ·rw [if_neg h0, if_neg h0]
   rw [ih k (i + 1) _ _ (by omega) (by omega) (by omega) (by simpa using hs') (by simpa using hdrop _) (by omega)]
   simp only [Int.toNat_natCast, hset]
   simp only [turn, if_neg h0, List.map_cons, List.append_assoc, List.cons_append, List.nil_append]
theorem pass0_eq (s : clock_Set) (hs : s.left.length = 32) (k : Nat) (hk : 33 ≤ k) : clock_Set_pass.f k s 0 = some ([], { now := s.now, left := s.left.map (turn 0) }) := by
 unfold clock_Set_pass.f
 have := pass0_l0 s hs 32 k 0 s [] (by omega) (by omega) (by omega) hs rfl (by simp)
 simpa using this
def spec (l : List Int) : Nat → List Int
 | 0 => []
 | n + 1 => spec l n ++ hits ((n + 1 : Nat) : Int) 0 l
def fin (n v : Int) : Int := if v > n then v - n else 0
def busy (l : List Int) : Nat := (l.filter (· ≠ 0)).length
def okL (l : List Int) : Prop := l.length = 32 ∧ ∀ v ∈ l, 0 ≤ v ∧ v ≤ 1073741824
theorem hits_none {t : Int} : ∀ {l : List Int} (i : Nat), (∀ v ∈ l, v ≠ t) → hits t i l = []
 | [], _, _ => rfl
 | v :: r, i, h => by rw [hits, if_neg (h v (.head _)), hits_none (i + 1) fun u hu => h u (.tail _ hu)]
theorem spec_none {l : List Int} : ∀ {n : Nat}, (∀ v ∈ l, ¬ (0 < v ∧ v ≤ n)) → spec l n = []
 | 0, _ => rfl
 | n + 1, h => by rw [spec, spec_none (fun v hv h2 => h v hv ⟨h2.1, by omega⟩), hits_none 0 (fun v hv e => h v hv ⟨by omega, by omega⟩)]; rfl
theorem hits_turn {m t : Int} (hm : 0 < m) (ht : m < t) : ∀ {l : List Int} (i : Nat), (∀ v ∈ l, 0 ≤ v ∧ v ≤ 1073741824 ∧ (0 < v → m ≤ v)) → hits (t - m) i (l.map (turn m)) = hits t i l
 | [], _, _ => rfl
 | v :: r, i, h => by
  obtain ⟨h1, h2, h3⟩ := h v (.head _)
  rw [List.map_cons, hits, hits, hits_turn hm ht (i + 1) fun u hu => h u (.tail _ hu)]
  unfold turn
  by_cases h0 : v = 0
  ·subst h0
   rw [if_pos rfl, if_neg (by omega), if_neg (by omega)]
  ·rw [if_neg h0, w64_in (by have := h3 (by omega); omega)]
   by_cases e : v = t
   ·rw [if_pos (by omega), if_pos e]
   ·rw [if_neg (by omega), if_neg e]
theorem spec_turn {l : List Int} {m : Nat} (hm : 0 < m) (hl : ∀ v ∈ l, 0 ≤ v ∧ v ≤ 1073741824 ∧ (0 < v → (m : Int) ≤ v)) : ∀ (d : Nat), spec l (m + d) = hits m 0 l ++ spec (l.map (turn m)) d
 | 0 => by
  obtain ⟨p, rfl⟩ : ∃ p, m = p + 1 := ⟨m - 1, by omega⟩
  have h0 : spec l p = [] := spec_none (n := p) fun v hv h => by have := (hl v hv).2.2 h.1; omega
  show spec l p ++ hits ((p + 1 : Nat) : Int) 0 l = hits ((p + 1 : Nat) : Int) 0 l ++ []
  rw [h0, List.nil_append, List.append_nil]
 | d + 1 => by
  show spec l (m + d + 1) = _
  rw [spec, spec_turn hm hl d, spec, List.append_assoc]
  congr 2
  have := hits_turn (m := m) (t := ((m + d + 1 : Nat) : Int)) (by omega) (by omega) 0 hl
  rw [← this]
  congr 1
  omega
theorem busy_turn {m : Int} (hm : 0 < m) : ∀ {l : List Int} (i : Nat), (∀ v ∈ l, 0 ≤ v ∧ v ≤ 1073741824 ∧ (0 < v → m ≤ v)) → (hits m i l).length + busy (l.map (turn m)) ≤ busy l
 | [], _, _ => by simp [hits, busy]
 | v :: r, i, h => by
  obtain ⟨h1, h2, h3⟩ := h v (.head _)
  have ih := busy_turn hm (i + 1) fun u hu => h u (.tail _ hu)
  unfold busy at ih ⊢
  rw [List.map_cons, hits]
  unfold turn at ih ⊢
  by_cases h0 : v = 0
  ·subst h0
   rw [if_neg (by omega)]
   simpa using ih
  ·have h4 := h3 (by omega)
   rw [if_neg h0, w64_in (by omega)]
   by_cases e : v = m
   ·rw [if_pos e]
    simp [e, show m ≠ 0 by omega]; (try simp at ih); omega
   ·rw [if_neg e]
    simp [h0, show v - m ≠ 0 by omega]; (try simp at ih); omega
theorem okL.turn {l : List Int} {m : Int} (h : okL l) (hm : 0 < m) (h3 : ∀ v ∈ l, 0 < v → m ≤ v) : okL (l.map (turn m)) := by
 refine ⟨by simpa using h.1, fun v hv => ?_⟩
 obtain ⟨u, hu, rfl⟩ := List.mem_map.1 hv
 have h1 := h.2 u hu
 have h2 := h3 u hu
 by_cases h0 : u = 0
 ·subst h0; simp [Go.Proofs.YtaejcbpijdacmaaGreat.turn]
 ·have e : Go.Proofs.YtaejcbpijdacmaaGreat.turn m u = u - m := by show (if u = 0 then 0 else w64 (u - m)) = _; rw [if_neg h0, w64_in (by omega)]
  rw [e]; omega
theorem fin_turn {m n : Int} (hm : 0 < m) (hmn : m ≤ n) {v : Int} (h : 0 ≤ v ∧ v ≤ 1073741824 ∧ (0 < v → m ≤ v)) : fin (n - m) (turn m v) = fin n v := by
 unfold fin
 by_cases h0 : v = 0
 ·subst h0
  have e : turn m 0 = 0 := by simp [turn]
  rw [e, if_neg (by omega), if_neg (by omega)]
 ·have e : turn m v = v - m := by
   show (if v = 0 then 0 else w64 (v - m)) = _
   rw [if_neg h0, w64_in (by omega)]
  rw [e]
  by_cases h1 : v > n
  ·rw [if_pos (by omega), if_pos h1]; omega
  ·rw [if_neg (by omega), if_neg h1]
theorem Pass_l0 : ∀ (N : Nat) (s : clock_Set) (n : Nat) (out : List Int) (k : Nat), n ≤ N → n ≤ 1073741824 → okL s.left → out.length + busy s.left ≤ 1000000 → N + 40 < k →
  clock_Set_Pass.l0 k n (s.left.foldl sStep ((n : Int), false)).1 (s.left.foldl sStep ((n : Int), false)).2 s out = some (out ++ spec s.left n, { now := s.now, left := s.left.map (fin n) }) := by
 intro N
 induction N with
 | zero =>
  intro s n out k hn hn2 hs ho hk
  obtain ⟨k, rfl⟩ : ∃ k', k = k' + 1 := ⟨k - 1, by omega⟩
  obtain rfl : n = 0 := by omega
  obtain ⟨h1, h2, h3, h4, h5⟩ := fold_sStep s.left (0 : Nat) false
  cases hr : (s.left.foldl sStep (((0 : Nat) : Int), false)).2 with
  | true =>
   have := (h5 rfl hr).2
   omega
  | false =>
   rw [clock_Set_Pass.l0, if_neg (by simp)]
   rw [show (((0 : Nat) : Int)) = 0 from rfl, pass0_eq s hs.1 k (by omega)]
   simp only [Option.bind_some, spec, List.append_nil]
   refine congrArg some (Prod.ext rfl (congrArg (fun l => ({ now := s.now, left := l } : clock_Set)) ?_))
   refine List.map_congr_left fun v hv => ?_
   have hv' := hs.2 v hv
   unfold fin
   by_cases h0 : v = 0
   ·subst h0; simp [turn]
   ·rw [if_pos (by omega)]
    show (if v = 0 then 0 else w64 (v - 0)) = _
    rw [if_neg h0, w64_in (by omega)]
 | succ N ih =>
  intro s n out k hn hn2 hs ho hk
  obtain ⟨k, rfl⟩ : ∃ k', k = k' + 1 := ⟨k - 1, by omega⟩
  obtain ⟨h1, h2, h3, h4, h5⟩ := fold_sStep s.left (n : Int) false
  cases hr : (s.left.foldl sStep ((n : Int), false)).2 with
  | true =>
   obtain ⟨hm, hpos⟩ := h5 rfl hr
   generalize hmv : (s.left.foldl sStep ((n : Int), false)).1 = m at h1 h2 h3 hm hpos ⊢
   obtain ⟨p, rfl⟩ : ∃ p : Nat, m = p := ⟨m.toNat, by omega⟩
   have hmin : ∀ v ∈ s.left, 0 < v → (p : Int) ≤ v := fun v hv h0 => by
    by_cases hx : v ≤ n
    ·exact h2 v hv h0 hx
    ·omega
   have hall : ∀ v ∈ s.left, 0 ≤ v ∧ v ≤ 1073741824 ∧ (0 < v → (p : Int) ≤ v) := fun v hv => ⟨(hs.2 v hv).1, (hs.2 v hv).2, hmin v hv⟩
   have hb := busy_turn (m := p) (by omega) 0 hall
   have hok := hs.turn (m := p) (by omega) hmin
   rw [clock_Set_Pass.l0, if_pos rfl, pass_eq s hs.1 p (by omega) k (by omega)]
   simp only [Option.bind_some]
   rw [if_pos (by omega), show w64 ((n : Int) - p) = ((n - p : Nat) : Int) by rw [w64_in (by omega)]; omega, soonest_eq _ hok.1 _ _ (by omega)]
   simp only [Option.bind_some]
   rw [ih { now := s.now, left := s.left.map (turn p) } (n - p) _ k (by omega) (by omega) hok (by simp only [List.length_append]; omega) (by omega)]
   have e1 := spec_turn (l := s.left) (m := p) (by omega) hall (n - p)
   rw [show p + (n - p) = n by omega] at e1
   rw [e1, List.append_assoc]
   refine congrArg some (Prod.ext rfl (congrArg (fun l => ({ now := s.now, left := l } : clock_Set)) ?_))
   rw [List.map_map]
   refine List.map_congr_left fun v hv => ?_
   have := fin_turn (m := p) (n := n) (by omega) (by omega) (hall v hv)
   simp only [Function.comp]
   rw [show ((n - p : Nat) : Int) = (n : Int) - p by omega]
   exact this
  | false =>
   obtain ⟨_, _, h6⟩ := h4 hr
   rw [clock_Set_Pass.l0, if_neg (by simp)]
   have hfin : ∀ v ∈ s.left, turn n v = fin n v := by
    intro v hv
    have hv' := hs.2 v hv
    have := h6 v hv
    unfold fin
    by_cases h0 : v = 0
    ·subst h0
     rw [if_neg (by omega)]; simp [turn]
    ·rw [if_pos (by omega)]
     show (if v = 0 then 0 else w64 (v - n)) = _
     rw [if_neg h0, w64_in (by omega)]
   by_cases hz : n = 0
   ·subst hz
    rw [show (((0 : Nat) : Int)) = 0 from rfl, pass0_eq s hs.1 k (by omega)]
    simp only [Option.bind_some, spec, List.append_nil]
    exact congrArg some (Prod.ext rfl (congrArg (fun l => ({ now := s.now, left := l } : clock_Set)) (List.map_congr_left hfin)))
   ·rw [pass_eq s hs.1 n (by omega) k (by omega)]
    simp only [Option.bind_some]
    rw [spec_none h6, List.append_nil]
    exact congrArg some (Prod.ext rfl (congrArg (fun l => ({ now := s.now, left := l } : clock_Set)) (List.map_congr_left hfin)))
def clamp (n : Int) : Int := imax 0 (imin n 1073741824)
theorem clamp_in (n : Int) : 0 ≤ clamp n ∧ clamp n ≤ 1073741824 := by unfold clamp imax imin; constructor <;> (repeat' split) <;> omega
theorem clamp_id {n : Int} (h : 0 ≤ n ∧ n ≤ 1073741824) : clamp n = n := by unfold clamp imax imin; (repeat' split) <;> omega
theorem busy_le (l : List Int) : busy l ≤ l.length := List.length_filter_le _ _
theorem Pass_eq (s : clock_Set) (hs : okL s.left) (n : Int) (k : Nat) (hk : (clamp n).toNat + 41 ≤ k) : clock_Set_Pass.f k s n = some (spec s.left (clamp n).toNat, { now := IntKind.u32.wrap (s.now + IntKind.u32.wrap (clamp n)), left := s.left.map (fin (clamp n)) }) := by
 have hc := clamp_in n
 have hb := busy_le s.left
 have hs1 := hs.1
 unfold clock_Set_Pass.f
 show (clock_Set_soonest.f k { now := IntKind.u32.wrap (s.now + IntKind.u32.wrap (clamp n)), left := s.left } (clamp n)).bind _ = _
 have hsn := soonest_eq { now := IntKind.u32.wrap (s.now + IntKind.u32.wrap (clamp n)), left := s.left } hs.1 (clamp n) k (by omega)
 rw [hsn]
 simp only [Option.bind_some]
 have e : clamp n = ((clamp n).toNat : Int) := by omega
 have := Pass_l0 (clamp n).toNat { now := IntKind.u32.wrap (s.now + IntKind.u32.wrap (clamp n)), left := s.left } (clamp n).toNat [] k (Nat.le_refl _) (by omega) hs (by simp; omega) (by omega)
 rw [← e] at this
 exact this
namespace Aq
def tm (w v : Int) : clock_Set := { now := w, left := v :: List.replicate 31 0 }
theorem has0 : clock_has.f 0 = some true := by unfold clock_has.f; rw [if_pos (by decide)]; rfl
theorem left_eq (w v : Int) : clock_Set_Left.f (tm w v) 0 = some (v, decide (v > 0)) := by
 unfold clock_Set_Left.f
 rw [has0, bsome, if_pos rfl, if_pos (by decide)]; rfl
theorem stop_eq (w : Int) {v : Int} (hv : 0 ≤ v) : clock_Set_Stop.f (tm w v) 0 = some (decide (v > 0), tm w 0) := by
 unfold clock_Set_Stop.f
 rw [left_eq, bsome]
 by_cases h : v > 0
 ·rw [if_pos (decide_eq_true h), if_pos (by decide)]; rfl
 ·obtain rfl : v = 0 := by omega
  rfl
theorem start_eq (w v : Int) {n : Int} (hn : 1 ≤ n ∧ n ≤ 1048576) : clock_Set_Start.f (tm w v) 0 n = some (true, tm w n) := by
 have e : imax 1 (imin n 1073741824) = n := by unfold imax imin; repeat' split; all_goals omega
 unfold clock_Set_Start.f clock_Set_Start.j0
 rw [has0, bsome, if_pos rfl, if_pos (by decide), bsome, e]; rfl
theorem tm_ok {w v : Int} (hv : 0 ≤ v ∧ v ≤ 1048576) : okL (tm w v).left := by
 refine ⟨by simp [tm], fun u hu => ?_⟩
 rcases List.mem_cons.1 hu with e | e
 ·subst e; omega
 ·have := List.eq_of_mem_replicate e; omega
def tk (w n : Int) : Int := IntKind.u32.wrap (w + IntKind.u32.wrap n)
theorem pass_eq (w : Int) {v n : Int} (hv : 0 ≤ v ∧ v ≤ 1048576) (hn : 0 ≤ n ∧ n ≤ 1048576) {k : Nat} (hk : 1100000 ≤ k) : ∃ o, clock_Set_Pass.f k (tm w v) n = some (o, tm (tk w n) (if v > n then v - n else 0)) := by
 have hc : clamp n = n := clamp_id ⟨hn.1, by omega⟩
 refine ⟨spec (tm w v).left n.toNat, ?_⟩
 rw [Pass_eq (tm w v) (tm_ok hv) n k (by rw [hc]; omega), hc]
 refine congrArg some (Prod.ext rfl ?_)
 show ({ now := tk w n, left := (v :: List.replicate 31 0).map (fin n) } : clock_Set) = _
 have h0 : fin n 0 = 0 := by unfold fin; rw [if_neg (by omega)]
 rw [List.map_cons, List.map_replicate, h0]; rfl
theorem concat_eq {x y z : List Int} (hx : x.length ≤ 10000000) (hy : y.length ≤ 10000000) (hz : z.length ≤ 10000000) {k : Nat} (hk : 20 ≤ k) : slices_Concat_Sbytebyte.f k [x, y, z] = some (x ++ (y ++ z)) := by
 obtain ⟨k, rfl⟩ : ∃ j, k = j + 20 := ⟨k - 20, by omega⟩
 unfold slices_Concat_Sbytebyte.f
 have e1 : w64 (0 + 1) = 1 := by decide
 have e2 : w64 (1 + 1) = 2 := by decide
 have e3 : w64 (2 + 1) = 3 := by decide
 have g0 : ([x, y, z].getD (0 : Int).toNat []) = x := rfl
 have g1 : ([x, y, z].getD (1 : Int).toNat []) = y := rfl
 have g2 : ([x, y, z].getD (2 : Int).toNat []) = z := rfl
 have hl : (([x, y, z] : List (List Int)).length : Int) = 3 := rfl
 rw [slices_Concat_Sbytebyte.l0, hl, if_pos (by decide), if_pos (by decide), g0, w64_in ⟨by omega, by omega⟩, if_neg (by omega), e1]
 rw [slices_Concat_Sbytebyte.l0, hl, if_pos (by decide), if_pos (by decide), g1, w64_in ⟨by omega, by omega⟩, if_neg (by omega), e2]
 rw [slices_Concat_Sbytebyte.l0, hl, if_pos (by decide), if_pos (by decide), g2, w64_in ⟨by omega, by omega⟩, if_neg (by omega), e3]
 rw [slices_Concat_Sbytebyte.l0, hl, if_neg (by decide)]
 have gr : slices_Grow_Sbytebyte.f (0 + (x.length : Int) + (y.length : Int) + (z.length : Int)) = some [] := by
  unfold slices_Grow_Sbytebyte.f
  have ew : w64 (0 - 0) = 0 := by decide
  rw [if_neg (by omega), ew, w64_in ⟨by omega, by omega⟩]
  by_cases h : 0 + (x.length : Int) + (y.length : Int) + (z.length : Int) - 0 > 0
  ·rw [if_pos h, if_pos (by omega)]
  ·rw [if_neg h]
 rw [gr, bsome]
 rw [slices_Concat_Sbytebyte.l1, hl, if_pos (by decide), if_pos (by decide), g0, if_pos (by simp; omega), e1]
 rw [slices_Concat_Sbytebyte.l1, hl, if_pos (by decide), if_pos (by decide), g1, if_pos (by simp; omega), e2]
 rw [slices_Concat_Sbytebyte.l1, hl, if_pos (by decide), if_pos (by decide), g2, if_pos (by simp; omega), e3]
 rw [slices_Concat_Sbytebyte.l1, hl, if_neg (by decide)]
 simp
structure AI (a : arq_Arq) (C : Nat) : Prop where
 m : a.m = 128 ∨ a.m = 32768
 t1 : 1 ≤ a.t1 ∧ a.t1 ≤ 1048576
 n2 : 1 ≤ a.n2 ∧ a.n2 ≤ 100
 size : 1 ≤ a.size ∧ a.size ≤ 1000
 state : 0 ≤ a.state ∧ a.state ≤ 3
 tag : 0 ≤ a.tag ∧ a.tag < 65536
 tries : 0 ≤ a.tries ∧ a.tries ≤ a.n2
 log : Bl.BI a.log
 lm : a.log.m = a.m
 lw : a.log.window ≤ a.m / 8
 ord : Or.OI a.order C
 om : a.order.m = a.m
 ow : a.order.window = a.log.window
 tim : ∃ w v, a.timers = tm w v ∧ 0 ≤ v ∧ v ≤ 1048576
 out : a.out.length ≤ C
 inds : a.inds.length ≤ C
 sent : 0 ≤ a.sent ∧ a.sent ≤ C
 acked : 0 ≤ a.acked ∧ a.acked ≤ C
 lost : 0 ≤ a.lost ∧ a.lost ≤ C
def big : Nat := 100000000000
theorem AI.more {a : arq_Arq} {C D : Nat} (h : AI a C) (l : C ≤ D) : AI a D :=
 { h with ord := h.ord.more l, out := Nat.le_trans h.out l, inds := Nat.le_trans h.inds l, sent := ⟨h.sent.1, by have := h.sent.2; omega⟩, acked := ⟨h.acked.1, by have := h.acked.2; omega⟩, lost := ⟨h.lost.1, by have := h.lost.2; omega⟩ }
abbrev ct (K n r : Int) (p : Bool) : api_Ctl := { Kind := K, Ns := n, Nr := r, Poll := p }
def hdr (t : Int) : List Int := [t / 256, t % 256]
def say (a : arq_Arq) (t : Int) (c : api_Ctl) (b : List Int) : arq_Arq := { a with out := a.out ++ [hdr t ++ (Co.enc c a.m ++ b)] }
theorem say_ai {a : arq_Arq} {C : Nat} (h : AI a C) (t : Int) (c : api_Ctl) (b : List Int) : AI (say a t c b) (C + 1) := by
 have h' := h.more (D := C + 1) (by omega)
 exact { h' with out := by show (a.out ++ [_]).length ≤ _; have := h.out; rw [List.length_append]; simp; omega }
theorem enc_len (c : api_Ctl) (m : Int) : (Co.enc c m).length ≤ 4 := by
 unfold Co.enc
 have p := fun n => Co.pt_le n m
 repeat' split
 all_goals first | (simp only [List.length_append]; have := p (2 * c.Ns); have := p (2 * c.Nr + Co.pb c.Poll); have := p 1; have := p 9; omega) | simp
theorem hd_eq {t : Int} (ht : 0 ≤ t ∧ t < 65536) : ([IntKind.u8.wrap (t.fdiv (2 ^ (min (8 : Int).toNat IntKind.i64.bits))), IntKind.u8.wrap t] : List Int) = hdr t := by
 rw [Co.fd8, u8w, u8w, Int.emod_eq_of_lt (by omega) (by omega)]; rfl
theorem put_eq {a : arq_Arq} {C : Nat} (h : AI a C) (hC : C ≤ big) {t : Int} (ht : 0 ≤ t ∧ t < 65536) {c : api_Ctl} (hc : Co.rightB c a.m = true) {b : List Int} (hb : b.length ≤ 1000000) {k : Nat} (hk : 20 ≤ k) :
  arq_Arq_put.f k a t c b = some (say a t c b) := by
 have := enc_len c a.m
 have ho := h.out
 unfold big at hC
 unfold arq_Arq_put.f
 rw [Co.bytes_eq hc, bsome, hd_eq ht, concat_eq (by simp [hdr]) (by omega) (by omega) hk, bsome, if_pos (by simp; omega)]; rfl
theorem tell_eq {a : arq_Arq} {C : Nat} (h : AI a C) (hC : C ≤ big) {c : api_Ctl} (hc : Co.rightB c a.m = true) {k : Nat} (hk : 20 ≤ k) : arq_Arq_tell.f k a c = some (say a a.tag c []) := by
 unfold arq_Arq_tell.f
 rw [put_eq h hC h.tag hc (by simp) hk, bsome]
theorem right_bare {a : arq_Arq} {C : Nat} (h : AI a C) {K : Int} (hK : 3 ≤ K ∧ K ≤ 7) (p : Bool) : Co.rightB (ct K 0 0 p) a.m = true := by
 unfold Co.rightB ct
 have e0 : ¬ K = 0 := by omega
 have e1 : ¬ (K = 1 ∨ K = 2) := by omega
 simp only [if_neg e0, if_neg e1]
 rcases h.m with e | e <;> rw [e] <;> simp <;> omega
theorem right_num {a : arq_Arq} {C : Nat} (h : AI a C) {K n r : Int} (hK : K = 0 ∨ (K = 1 ∨ K = 2) ∧ n = 0) (hn : 0 ≤ n ∧ n < a.m) (hr : 0 ≤ r ∧ r < a.m) (p : Bool) : Co.rightB (ct K n r p) a.m = true := by
 unfold Co.rightB ct
 rcases hK with e | ⟨e, e'⟩
 ·simp only [if_pos e]
  rcases h.m with q | q <;> rw [q] at hn hr ⊢ <;> simp <;> omega
 ·have e0 : ¬ K = 0 := by omega
  simp only [if_neg e0, if_pos e]
  rcases h.m with q | q <;> rw [q] at hr ⊢ <;> simp <;> omega
def timed (a : arq_Arq) (n : Int) : arq_Arq := { a with timers := tm a.timers.now n }
theorem timed_ai {a : arq_Arq} {C : Nat} (h : AI a C) {n : Int} (hn : 0 ≤ n ∧ n ≤ 1048576) : AI (timed a n) C := { h with tim := ⟨_, _, rfl, hn⟩ }
theorem astart_eq {a : arq_Arq} {C : Nat} (h : AI a C) : arq_Arq_start.f a = some (timed a a.t1) := by
 obtain ⟨w, v, e, hv⟩ := h.tim
 unfold arq_Arq_start.f
 rw [e, start_eq w v h.t1, bsome]; unfold timed; rw [e]; rfl
theorem back_mod {f i m : Int} (hf : 0 ≤ f ∧ f < m) (hi : 0 ≤ i ∧ i < m) : ((f + i) % m - f) % m = i := by
 rw [Int.emod_sub_emod, show f + i - f = i by omega, Int.emod_eq_of_lt hi.1 hi.2]
theorem getD_small {l : List (List Int)} {N : Nat} (h : ∀ b ∈ l, b.length ≤ N) (i : Nat) : (l.getD i []).length ≤ N := by
 by_cases hi : i < l.length
 ·have e : l.getD i [] = l[i] := by simp [List.getD, hi]
  rw [e]; exact h _ (List.getElem_mem hi)
 ·have e : l.getD i [] = [] := by simp [List.getD, show l.length ≤ i by omega]
  rw [e]; simp
theorem body_eq {l : backlog_Log} (h : Bl.BI l) (hwm : l.window ≤ l.m / 8) {i : Int} (hi : 0 ≤ i ∧ i < l.out) : backlog_Log_Body.f l ((l.first + i) % l.m) = some (l.l.getD i.toNat [], true) := by
 have hm := h.m
 have hf := h.first
 have ho := h.out
 have hw := h.win
 have hn : 0 ≤ (l.first + i) % l.m ∧ (l.first + i) % l.m < l.m := ⟨Int.emod_nonneg _ (by omega), Int.emod_lt_of_pos _ (by omega)⟩
 have him : i < l.m := by omega
 have hs := getD_small h.small i.toNat
 unfold backlog_Log_Body.f backlog_Log_Body.j0
 rw [dist_eq ⟨by omega, by omega⟩ ⟨by omega, by omega⟩ ⟨by omega, by omega⟩, bsome, back_mod hf ⟨hi.1, him⟩, if_neg (by omega), if_neg (by omega), if_neg (by simp; omega), if_pos ⟨by omega, by omega⟩, Bl.clone_eq (by omega), bsome]
def oclr (o : reorder_Order) : reorder_Order := { m := o.m, window := o.window, next := 0, kept := [], ready := o.ready }
def lclr (l : backlog_Log) : backlog_Log := { m := l.m, window := l.window, queue := l.queue, first := 0, out := 0, l := [] }
def fresh (a : arq_Arq) (st : Int) : arq_Arq := { a with state := st, tries := 0, rejected := false, log := lclr a.log, order := oclr a.order, timers := tm a.timers.now 0, lost := a.lost + (a.log.l.length : Int) }
theorem AI.len {a : arq_Arq} {C : Nat} (h : AI a C) : (a.log.l.length : Int) ≤ 5096 := by have := h.log.wait; have := h.log.out; have := h.log.que; have := h.log.win; omega
theorem fresh_ai {a : arq_Arq} {C : Nat} (h : AI a C) {st : Int} (hs : 0 ≤ st ∧ st ≤ 3) : AI (fresh a st) (C + 6000) := by
 have hl := h.len
 have ho := h.ord
 have hlo := h.lost
 have hw := h.log.win
 have hm := h.log.m
 have h' := h.more (D := C + 6000) (by omega)
 exact { h' with
  state := hs
  tries := ⟨Int.le_refl _, by show (0 : Int) ≤ a.n2; have := h.n2; omega⟩
  log := ⟨hm, hw, h.log.que, ⟨Int.le_refl _, by show 0 < a.log.m; omega⟩, ⟨Int.le_refl _, by show (0 : Int) ≤ a.log.window; omega, by show (0 : Int) ≤ _; omega⟩, by show ((([] : List (List Int)).length : Nat) : Int) ≤ 0 + a.log.queue; have := h.log.que; simp; omega, by intro b hb; cases hb⟩
  lm := h.lm
  lw := h.lw
  ord := ⟨ho.hm, ho.hwin, ⟨Int.le_refl _, by show 0 < a.order.m; have := ho.hm; omega⟩, by show 0 + a.order.ready.length ≤ _; have := ho.held; omega⟩
  om := h.om
  ow := h.ow
  tim := ⟨_, _, rfl, by omega, by omega⟩
  lost := ⟨by show 0 ≤ a.lost + _; omega, by show a.lost + _ ≤ _; omega⟩ }
theorem fresh_eq {a : arq_Arq} {C : Nat} (h : AI a C) (hC : C ≤ big) (st : Int) : arq_Arq_fresh.f a st = some (fresh a st) := by
 obtain ⟨w, v, e, hv⟩ := h.tim
 have hl := h.len
 have hlo := h.lost
 unfold big at hC
 unfold arq_Arq_fresh.f backlog_Log_Clear.f reorder_Order_Clear.f
 rw [bsome, bsome, e, stop_eq w hv.1, bsome, w64_in ⟨by omega, by omega⟩]; unfold fresh; rw [e]; rfl
def tellInd (a : arq_Arq) (n : Int) : arq_Arq := { a with inds := a.inds ++ [n] }
theorem ind_ai {a : arq_Arq} {C : Nat} (h : AI a C) (n : Int) : AI (tellInd a n) (C + 1) := by
 have h' := h.more (D := C + 1) (by omega)
 exact { h' with inds := by show (a.inds ++ [n]).length ≤ _; have := h.inds; rw [List.length_append]; simp; omega }
def aend (a : arq_Arq) : arq_Arq := tellInd (fresh a 0) 2
theorem aend_ai {a : arq_Arq} {C : Nat} (h : AI a C) : AI (aend a) (C + 6001) := ind_ai (fresh_ai h (by decide)) 2
theorem aend_eq {a : arq_Arq} {C : Nat} (h : AI a C) (hC : C ≤ big) : arq_Arq_end.f a = some (aend a) := by
 have hi := h.inds
 unfold arq_Arq_end.f
 rw [fresh_eq h hC, bsome]
 unfold big at hC
 rw [if_pos (by show ((a.inds.length : Nat) : Int) + _ ≤ _; simp; omega)]; rfl
theorem AI.next {a : arq_Arq} {C : Nat} (h : AI a C) : 0 ≤ a.order.next ∧ a.order.next < a.m := by have := h.ord.hnext; have := h.om; omega
theorem AI.num {a : arq_Arq} {C : Nat} (h : AI a C) (i : Int) : 0 ≤ (a.log.first + i) % a.log.m ∧ (a.log.first + i) % a.log.m < a.m := by
 have := h.log.m; have := h.lm
 have h1 := Int.emod_nonneg (a.log.first + i) (show a.log.m ≠ 0 by omega)
 have h2 := Int.emod_lt_of_pos (a.log.first + i) (show 0 < a.log.m by omega)
 omega
theorem message_eq {a : arq_Arq} {C : Nat} (h : AI a C) (hC : C ≤ big) {n : Int} (hn : 0 ≤ n ∧ n < a.m) {b : List Int} (hb : b.length ≤ 1000000) (p : Bool) {k : Nat} (hk : 20 ≤ k) :
  arq_Arq_message.f k a n b p = some (say a a.tag (ct 0 n a.order.next p) b) := by
 unfold arq_Arq_message.f reorder_Order_Next.f
 rw [bsome, put_eq h hC h.tag (right_num h (.inl rfl) hn h.next p) hb hk, bsome]
def run (a : arq_Arq) : Int := a.timers.left.getD 0 0
theorem AI.run {a : arq_Arq} {C : Nat} (h : AI a C) : clock_Set_Left.f a.timers 0 = some (run a, decide (run a > 0)) ∧ 0 ≤ run a ∧ run a ≤ 1048576 := by
 obtain ⟨w, v, e, hv⟩ := h.tim
 have er : Aq.run a = v := by unfold Aq.run; rw [e]; rfl
 rw [er, e, left_eq]
 exact ⟨rfl, hv⟩
def imsg (a : arq_Arq) (i : Int) (p : Bool) : List Int := hdr a.tag ++ (Co.enc (ct 0 ((a.log.first + i) % a.log.m) a.order.next p) a.m ++ a.log.l.getD i.toNat [])
def also (a : arq_Arq) (l : List (List Int)) : arq_Arq := { a with out := a.out ++ l }
theorem also_ai {a : arq_Arq} {C : Nat} (h : AI a C) (l : List (List Int)) : AI (also a l) (C + l.length) := by
 have h' := h.more (D := C + l.length) (by omega)
 exact { h' with out := by show (a.out ++ l).length ≤ _; have := h.out; rw [List.length_append]; omega }
theorem repeat_eq {a : arq_Arq} {C : Nat} (h : AI a C) (hC : C ≤ big) {i : Int} (hi : 0 ≤ i ∧ i < a.log.out) (p : Bool) {k : Nat} (hk : 20 ≤ k) :
  arq_Arq_repeat.f k a ((a.log.first + i) % a.log.m) p = some (also a [imsg a i p]) := by
 unfold arq_Arq_repeat.f
 rw [body_eq h.log (by have := h.lm; have := h.lw; omega) hi, bsome, message_eq h hC (h.num i) (getD_small h.log.small _) p hk, bsome]; rfl
theorem resend_l0 {C : Nat} (a : arq_Arq) : ∀ (d i : Nat) (l : List (List Int)) (k : Nat), AI (also a l) C → C + d ≤ big → (i : Int) + d = a.log.out → d + 30 ≤ k →
  arq_Arq_resend.l0 k (Bl.outs a.log) (i : Int) (also a l) = (if a.log.out > 0 then some (timed (also a (l ++ (List.range' i d).map fun (j : Nat) => imsg a j false)) a.t1) else some (also a (l ++ (List.range' i d).map fun (j : Nat) => imsg a j false))) := by
 intro d
 induction d generalizing C with
 | zero =>
  intro i l k h hC hi hk
  obtain ⟨k, rfl⟩ : ∃ j, k = j + 1 := ⟨k - 1, by omega⟩
  have hl : ((Bl.outs a.log).length : Int) = a.log.out := by rw [Bl.outs_len]; have := h.log.out; omega
  rw [arq_Arq_resend.l0, if_neg (by omega), hl, List.range'_zero, List.map_nil, List.append_nil]
  by_cases h0 : a.log.out > 0
  ·rw [if_pos h0, if_pos h0, astart_eq h, bsome]; rfl
  ·rw [if_neg h0, if_neg h0]
 | succ d ih =>
  intro i l k h hC hi hk
  obtain ⟨k, rfl⟩ : ∃ j, k = j + 1 := ⟨k - 1, by omega⟩
  have ho : 0 ≤ a.log.out ∧ a.log.out ≤ a.log.window ∧ a.log.out ≤ (a.log.l.length : Int) := h.log.out
  have hw : 1 ≤ a.log.window ∧ a.log.window ≤ 4096 := h.log.win
  have hl : ((Bl.outs a.log).length : Int) = a.log.out := by rw [Bl.outs_len]; omega
  have hg : (Bl.outs a.log).getD ((i : Int)).toNat 0 = (a.log.first + (i : Int)) % a.log.m := by
   have : i < a.log.out.toNat := by omega
   simp [Bl.outs, List.getD, this]
  rw [arq_Arq_resend.l0, if_pos (by omega), if_pos (by omega), hg]
  have er := repeat_eq h (by omega) (i := (i : Int)) ⟨by omega, by show (i : Int) < a.log.out; omega⟩ false (k := k) (by omega)
  refine Eq.trans (congrArg (fun o => Option.bind o _) er) ?_
  rw [bsome, w64_in ⟨by omega, by omega⟩]
  have e1 : also (also a l) [imsg (also a l) (i : Int) false] = also a (l ++ [imsg a (i : Int) false]) := by
   show ({ a with out := (a.out ++ l) ++ [imsg a (i : Int) false] } : arq_Arq) = { a with out := a.out ++ (l ++ [imsg a (i : Int) false]) }
   rw [List.append_assoc]
  have h2 := also_ai h [imsg (also a l) (i : Int) false]
  rw [e1] at h2 ⊢
  have := ih (C := C + 1) (i + 1) (l ++ [imsg a (i : Int) false]) k h2 (by omega) (by omega) (by omega)
  rw [show ((i : Int) + 1) = ((i + 1 : Nat) : Int) by omega, this, List.range'_succ, List.map_cons, List.append_assoc]; rfl
def outAll (a : arq_Arq) : List (List Int) := (List.range a.log.out.toNat).map fun (j : Nat) => imsg a j false
def resend (a : arq_Arq) : arq_Arq := if a.log.out > 0 then timed (also a (outAll a)) a.t1 else a
theorem resend_eq {a : arq_Arq} {C : Nat} (h : AI a C) (hC : C + 5000 ≤ big) {k : Nat} (hk : 6000 ≤ k) : arq_Arq_resend.f k a = some (resend a) := by
 have ho := h.log.out
 have hw := h.log.win
 unfold arq_Arq_resend.f
 rw [Bl.out_eq h.log (by omega), bsome]
 have e0 : also a [] = a := by show ({ a with out := a.out ++ [] } : arq_Arq) = a; rw [List.append_nil]
 have := resend_l0 (C := C) a a.log.out.toNat 0 [] k (by rw [e0]; exact h) (by omega) (by omega) (by omega)
 rw [e0] at this
 refine this.trans ?_
 unfold resend outAll
 rw [List.range_eq_range', List.nil_append]
 by_cases h0 : a.log.out > 0
 ·rw [if_pos h0, if_pos h0]
 ·rw [if_neg h0, if_neg h0, show a.log.out.toNat = 0 by omega]
  exact congrArg some e0
theorem resend_ai {a : arq_Arq} {C : Nat} (h : AI a C) : AI (resend a) (C + 4096) := by
 have ho := h.log.out
 have hw := h.log.win
 unfold resend
 by_cases h0 : a.log.out > 0
 ·rw [if_pos h0]
  have h1 := also_ai h (outAll a)
  exact (timed_ai h1 ⟨by have := h.t1; omega, h.t1.2⟩).more (by simp [outAll]; omega)
 ·rw [if_neg h0]; exact h.more (by omega)
theorem cut_drop {α : Type} (l : List α) {i : Int} (h0 : 0 ≤ i) : cut l i (l.length : Int) = l.drop i.toNat := by
 simp [cut]
 exact List.take_of_length_le (by simp)
def connect (a : arq_Arq) : Int × arq_Arq :=
 if a.state = 0 then (0, timed (say { a with state := 1, tag := (a.tag + 1) % 65536, tries := 0 } ((a.tag + 1) % 65536) (ct 3 0 0 true) []) a.t1) else (8, a)
theorem tagNext_eq {t : Int} (ht : 0 ≤ t ∧ t < 65536) : serial_Next.f t 65536 = some ((t + 1) % 65536) := by
 unfold serial_Next.f
 rw [round_eq (.inl ⟨by omega, by omega⟩) (by decide), bsome]
 dsimp only
 rw [Int.emod_eq_of_lt ht.1 ht.2, w64_in ⟨by omega, by omega⟩, round_eq (.inl ⟨by omega, by omega⟩) (by decide), bsome]
theorem conn_ai {a : arq_Arq} {C : Nat} (h : AI a C) : AI { a with state := 1, tag := (a.tag + 1) % 65536, tries := 0 } C :=
 { h with state := ⟨by show (0 : Int) ≤ 1; omega, by show (1 : Int) ≤ 3; omega⟩, tag := ⟨by show 0 ≤ (a.tag + 1) % 65536; omega, by show (a.tag + 1) % 65536 < 65536; omega⟩, tries := ⟨Int.le_refl _, by show (0 : Int) ≤ a.n2; have := h.n2; omega⟩ }
theorem AI.t1' {a : arq_Arq} {C : Nat} (h : AI a C) : 0 ≤ a.t1 ∧ a.t1 ≤ 1048576 := ⟨by have := h.t1; omega, h.t1.2⟩
theorem connect_ai {a : arq_Arq} {C : Nat} (h : AI a C) : AI (connect a).2 (C + 1) := by
 unfold connect
 split
 ·exact timed_ai (say_ai (conn_ai h) _ _ _) h.t1'
 ·exact h.more (by omega)
theorem connect_eq {a : arq_Arq} {C : Nat} (h : AI a C) (hC : C + 5 ≤ big) {k : Nat} (hk : 20 ≤ k) : arq_Arq_Connect.f k a = some (connect a) := by
 unfold arq_Arq_Connect.f connect
 by_cases s0 : a.state = 0
 ·have h1 := conn_ai h
  have e1 := tell_eq h1 (by omega) (right_bare h1 (K := 3) (by decide) true) hk
  have e2 := astart_eq (say_ai h1 ((a.tag + 1) % 65536) (ct 3 0 0 true) [])
  rw [if_pos s0, if_pos s0, tagNext_eq h.tag, bsome]
  refine Eq.trans (congrArg (fun o => Option.bind o _) e1) ?_
  rw [bsome]
  refine Eq.trans (congrArg (fun o => Option.bind o _) e2) ?_
  rw [bsome]; rfl
 ·rw [if_neg s0, if_neg s0]
def again (a : arq_Arq) : arq_Arq := if a.state = 2 then resend a else a
theorem again_ai {a : arq_Arq} {C : Nat} (h : AI a C) : AI (again a) (C + 4096) := by
 unfold again
 split
 ·exact resend_ai h
 ·exact h.more (by omega)
theorem again_eq {a : arq_Arq} {C : Nat} (h : AI a C) (hC : C + 5000 ≤ big) {k : Nat} (hk : 6000 ≤ k) : arq_Arq_Again.f k a = some (again a) := by
 unfold arq_Arq_Again.f again
 by_cases s2 : a.state = 2
 ·rw [if_pos s2, if_pos s2, resend_eq h hC hk, bsome]
 ·rw [if_neg s2, if_neg s2]
def remind (a : arq_Arq) : arq_Arq :=
 if a.state = 1 then say a a.tag (ct 3 0 0 true) [] else if a.state = 3 then say a a.tag (ct 5 0 0 true) []
 else if a.state = 2 ∧ a.log.out > 0 then also a [imsg a 0 true] else a
def late (a : arq_Arq) : arq_Arq := if a.tries + 1 > a.n2 then aend { a with tries := a.n2 } else remind (timed { a with tries := a.tries + 1 } a.t1)
theorem tries_ai {a : arq_Arq} {C : Nat} (h : AI a C) {n : Int} (hn : 0 ≤ n ∧ n ≤ a.n2) : AI { a with tries := n } C := { h with tries := hn }
theorem remind_ai {a : arq_Arq} {C : Nat} (h : AI a C) : AI (remind a) (C + 1) := by
 unfold remind
 repeat' split
 ·exact say_ai h _ _ _
 ·exact say_ai h _ _ _
 ·exact also_ai h [_]
 ·exact h.more (by omega)
theorem late_eq {a : arq_Arq} {C : Nat} (h : AI a C) (hC : C + 10 ≤ big) {k : Nat} (hk : 6000 ≤ k) : arq_Arq_late.f k a = some (late a) := by
 have ht := h.tries
 have hn := h.n2
 have ew : w64 (a.tries + 1) = a.tries + 1 := w64_in ⟨by omega, by omega⟩
 unfold arq_Arq_late.f late
 rw [ew]
 by_cases c1 : a.tries + 1 > a.n2
 ·rw [if_pos c1, if_pos c1]
  have e1 : arq_Arq_end.f { a with tries := a.tries + 1 } = some (aend { a with tries := a.n2 }) := by
   have e0 := aend_eq (tries_ai h (n := a.n2) ⟨by omega, Int.le_refl _⟩) (by omega)
   exact e0
  refine Eq.trans (congrArg (fun o => Option.bind o _) e1) ?_
  rw [bsome]
 ·rw [if_neg c1, if_neg c1]
  have h1 := tries_ai h (n := a.tries + 1) ⟨by omega, by omega⟩
  refine Eq.trans (congrArg (fun o => Option.bind o _) (astart_eq h1)) ?_
  rw [bsome]
  have h2 := timed_ai h1 (n := a.t1) h.t1'
  show _ = some (remind (timed { a with tries := a.tries + 1 } a.t1))
  generalize hx : timed { a with tries := a.tries + 1 } a.t1 = x at h2 ⊢
  unfold remind
  by_cases s1 : x.state = 1
  ·rw [if_pos s1, if_pos s1, tell_eq h2 (by omega) (right_bare h2 (by decide) true) (by omega), bsome]
  rw [if_neg s1, if_neg s1]
  by_cases s3 : x.state = 3
  ·rw [if_pos s3, if_pos s3, tell_eq h2 (by omega) (right_bare h2 (by decide) true) (by omega), bsome]
  rw [if_neg s3, if_neg s3]
  by_cases s2 : x.state = 2
  ·have ho := h2.log.out
   have hl : ((Bl.outs x.log).length : Int) = x.log.out := by rw [Bl.outs_len]; omega
   rw [if_pos s2, Bl.out_eq h2.log (by omega), bsome, hl]
   by_cases c2 : x.log.out > 0
   ·have hg : (Bl.outs x.log).getD (0 : Int).toNat 0 = (x.log.first + 0) % x.log.m := by
     have : 0 < x.log.out.toNat := by omega
     simp [Bl.outs, List.getD, this]
    rw [if_pos c2, if_pos (by omega), if_pos ⟨s2, c2⟩, hg, repeat_eq h2 (by omega) ⟨Int.le_refl _, c2⟩ true (by omega), bsome]
   ·rw [if_neg c2, if_neg (fun q => c2 q.2)]
  ·rw [if_neg s2, if_neg (fun q => s2 q.1)]
theorem remind_same (x : arq_Arq) : (remind x).timers = x.timers ∧ (remind x).tries = x.tries ∧ (remind x).n2 = x.n2 ∧ (remind x).state = x.state ∧ (remind x).log = x.log ∧ (remind x).tag = x.tag := by
 unfold remind
 by_cases s1 : x.state = 1
 ·rw [if_pos s1]; exact ⟨rfl, rfl, rfl, rfl, rfl, rfl⟩
 rw [if_neg s1]
 by_cases s3 : x.state = 3
 ·rw [if_pos s3]; exact ⟨rfl, rfl, rfl, rfl, rfl, rfl⟩
 rw [if_neg s3]
 by_cases s2 : x.state = 2 ∧ x.log.out > 0
 ·rw [if_pos s2]; exact ⟨rfl, rfl, rfl, rfl, rfl, rfl⟩
 ·rw [if_neg s2]; exact ⟨rfl, rfl, rfl, rfl, rfl, rfl⟩
def passing (a : arq_Arq) (n : Int) : arq_Arq := { a with timers := tm (tk a.timers.now n) (if run a > n then run a - n else 0) }
def passL : Nat → Int → arq_Arq → arq_Arq
 | 0, _, a => a
 | d + 1, n, a => if run a > 0 ∧ run a ≤ n then passL d (n - run a) (late (passing a (run a))) else passing a n
def chances (a : arq_Arq) : Nat := if run a > 0 then (a.n2 - a.tries + 1).toNat else 0
theorem passing_ai {a : arq_Arq} {C : Nat} (h : AI a C) {n : Int} (hn : 0 ≤ n) : AI (passing a n) C := by
 have hr := h.run.2
 refine { h with tim := ⟨_, _, rfl, ?_, ?_⟩ } <;> split <;> omega
theorem late_ai {a : arq_Arq} {C : Nat} (h : AI a C) : AI (late a) (C + 6001) ∧ (run (late a) = 0 ∨ AI (late a) (C + 1) ∧ run (late a) = a.t1 ∧ (late a).tries = a.tries + 1 ∧ a.tries + 1 ≤ a.n2 ∧ (late a).n2 = a.n2) := by
 have ht := h.tries
 have hn := h.n2
 unfold late
 by_cases c : a.tries + 1 > a.n2
 ·rw [if_pos c]
  exact ⟨aend_ai (tries_ai h (n := a.n2) ⟨by omega, Int.le_refl _⟩), .inl rfl⟩
 ·rw [if_neg c]
  have h1 := remind_ai (timed_ai (tries_ai h (n := a.tries + 1) ⟨by omega, by omega⟩) (n := a.t1) h.t1')
  obtain ⟨q1, q2, q3, _⟩ := remind_same (timed { a with tries := a.tries + 1 } a.t1)
  have e : run (remind (timed { a with tries := a.tries + 1 } a.t1)) = a.t1 := by unfold run; rw [q1]; rfl
  have e2 : (remind (timed { a with tries := a.tries + 1 } a.t1)).tries = a.tries + 1 := q2
  have e3 : (remind (timed { a with tries := a.tries + 1 } a.t1)).n2 = a.n2 := q3
  exact ⟨h1.more (by omega), .inr ⟨h1, e, e2, by omega, e3⟩⟩
theorem passing_run {a : arq_Arq} (n : Int) : run (passing a n) = if run a > n then run a - n else 0 := rfl
theorem clockPass_eq {a : arq_Arq} {C : Nat} (h : AI a C) {n : Int} (hn : 0 ≤ n ∧ n ≤ 1048576) {k : Nat} (hk : 1100000 ≤ k) : ∃ o, clock_Set_Pass.f k a.timers n = some (o, (passing a n).timers) := by
 obtain ⟨w, v, e, hv⟩ := h.tim
 obtain ⟨o, eo⟩ := pass_eq w hv hn hk
 refine ⟨o, ?_⟩
 have er : run a = v := by unfold run; rw [e]; rfl
 unfold passing
 rw [er, e, eo]; rfl
theorem pass_l0 {C : Nat} : ∀ (d : Nat) (t n : Int) (a : arq_Arq) (k : Nat), AI a C → C + 7000 + d ≤ big → 0 ≤ n ∧ n ≤ 1048576 → chances a < d → d + 1200000 ≤ k →
  arq_Arq_Pass.l0 k t n (run a) (decide (run a > 0)) a = some (passL d n a) ∧ AI (passL d n a) (C + 6001 + d) := by
 intro d
 induction d generalizing C with
 | zero => intro t n a k h hC hn hch hk; omega
 | succ d ih =>
  intro t n a k h hC hn hch hk
  obtain ⟨k, rfl⟩ : ∃ j, k = j + 1 := ⟨k - 1, by omega⟩
  have hr := h.run.2
  have e0 : arq_Arq_Pass.l0 (k + 1) t n (run a) (decide (run a > 0)) a = arq_Arq_Pass.j1 k t n (run a) a (arq_Arq_Pass.l0 k t) (decide (run a > 0 ∧ run a ≤ n)) := by
   rw [arq_Arq_Pass.l0]
   by_cases c : run a > 0 <;> simp [c]
  rw [e0, passL]
  unfold arq_Arq_Pass.j1
  by_cases c : run a > 0 ∧ run a ≤ n
  ·rw [if_pos (decide_eq_true c), if_pos c]
   obtain ⟨o, eo⟩ := clockPass_eq h (n := run a) hr (k := k) (by omega)
   rw [eo, bsome]
   have h1 := passing_ai h hr.1
   have e1 := late_eq h1 (by omega) (k := k) (by omega)
   have hch0 : chances a = (a.n2 - a.tries + 1).toNat := by unfold chances; rw [if_pos c.1]
   have ht := h.tries
   obtain ⟨h2, h3⟩ := late_ai h1
   have nxt : ∀ C', AI (late (passing a (run a))) C' → C' + 7000 + d ≤ big → chances (late (passing a (run a))) < d → C' + 6001 + d ≤ C + 6001 + (d + 1) ∨ run (late (passing a (run a))) = 0 →
     ((some (late (passing a (run a)))).bind fun t24 => (clock_Set_Left.f t24.timers 0).bind fun t30 => arq_Arq_Pass.l0 k t (w64 (n - run a)) t30.1 t30.2 t24) = some (passL d (n - run a) (late (passing a (run a)))) ∧ AI (passL d (n - run a) (late (passing a (run a)))) (C' + 6001 + d) := by
    intro C' hA hb hc _
    rw [bsome, hA.run.1, bsome, w64_in ⟨by omega, by omega⟩]
    exact ih t (n - run a) _ k hA hb ⟨by omega, by omega⟩ hc (by omega)
   have fin : ∀ C', AI (late (passing a (run a))) C' → C' + 7000 + d ≤ big → chances (late (passing a (run a))) < d → AI (passL d (n - run a) (late (passing a (run a)))) (C + 6001 + (d + 1)) →
     ((arq_Arq_late.f k { a with timers := (passing a (run a)).timers }).bind fun t24 => (clock_Set_Left.f t24.timers 0).bind fun t30 => arq_Arq_Pass.l0 k t (w64 (n - run a)) t30.1 t30.2 t24) = some (passL d (n - run a) (late (passing a (run a)))) ∧ AI (passL d (n - run a) (late (passing a (run a)))) (C + 6001 + (d + 1)) := by
    intro C' hA hb hc hfin
    refine ⟨?_, hfin⟩
    refine Eq.trans (congrArg (fun o => Option.bind o _) e1) ?_
    rw [bsome, hA.run.1, bsome, w64_in ⟨by omega, by omega⟩]
    exact (ih t (n - run a) _ k hA hb ⟨by omega, by omega⟩ hc (by omega)).1
   rcases h3 with h3 | ⟨h3, h4, h5, h6, h7⟩
   ·-- the end
    have hc : chances (late (passing a (run a))) < d := by unfold chances; rw [h3, if_neg (by omega)]; omega
    have hf : AI (passL d (n - run a) (late (passing a (run a)))) (C + 6001 + (d + 1)) := by
     obtain ⟨d, rfl⟩ : ∃ j, d = j + 1 := ⟨d - 1, by omega⟩
     rw [passL, h3, if_neg (by omega)]
     exact (passing_ai h2 (by omega)).more (by omega)
    by_cases hbig : C + 6001 + 7000 + d ≤ big
    ·exact fin (C + 6001) h2 hbig hc hf
    ·-- the bound is met with what is left
     refine ⟨?_, hf⟩
     refine Eq.trans (congrArg (fun o => Option.bind o _) e1) ?_
     rw [bsome, h2.run.1, bsome, w64_in ⟨by omega, by omega⟩, h3]
     obtain ⟨d, rfl⟩ : ∃ j, d = j + 1 := ⟨d - 1, by omega⟩
     obtain ⟨k, rfl⟩ : ∃ j, k = j + 1 := ⟨k - 1, by omega⟩
     obtain ⟨o2, eo2⟩ := clockPass_eq h2 (n := n - run a) ⟨by omega, by omega⟩ (k := k) (by omega)
     rw [arq_Arq_Pass.l0, if_neg (by simp)]
     unfold arq_Arq_Pass.j1
     rw [if_neg (by simp), eo2, bsome, passL, h3, if_neg (by omega)]; rfl
   ·have e5 : (passing a (run a)).tries = a.tries := rfl
    have e6 : (passing a (run a)).n2 = a.n2 := rfl
    have hc : chances (late (passing a (run a))) < d := by
     unfold chances
     have := h.t1
     have e7 : (passing a (run a)).t1 = a.t1 := rfl
     rw [h4, e7, if_pos (by omega), h5, h7, e5, e6]; omega
    have := ih t (n - run a) _ k h3 (by omega) ⟨by omega, by omega⟩ hc (by omega)
    exact fin (C + 1) h3 (by omega) hc (this.2.more (by omega))
  ·rw [if_neg (by simpa using c), if_neg c]
   obtain ⟨o, eo⟩ := clockPass_eq h (n := n) hn (k := k) (by omega)
   rw [eo, bsome]
   exact ⟨rfl, (passing_ai h hn.1).more (by omega)⟩
def pass (a : arq_Arq) (n : Int) : arq_Arq := passL 120 (imax 0 (imin n 1048576)) a
theorem cutN (n : Int) : 0 ≤ imax 0 (imin n 1048576) ∧ imax 0 (imin n 1048576) ≤ 1048576 := by unfold imax imin; constructor <;> (repeat' split) <;> omega
theorem chances_le {a : arq_Arq} {C : Nat} (h : AI a C) : chances a < 120 := by
 have := h.tries; have := h.n2
 unfold chances; split <;> omega
theorem passes_eq {a : arq_Arq} {C : Nat} (h : AI a C) (hC : C + 8000 ≤ big) (n : Int) {k : Nat} (hk : 1300000 ≤ k) : arq_Arq_Pass.f k a n = some (pass a n) := by
 unfold arq_Arq_Pass.f arq_cut.f pass
 rw [bsome, h.run.1, bsome]
 exact (pass_l0 120 _ _ a k h (by omega) (cutN n) (chances_le h) (by omega)).1
theorem pass_ai {a : arq_Arq} {C : Nat} (h : AI a C) (hC : C + 8000 ≤ big) (n : Int) : AI (pass a n) (C + 7000) := by
 have := (pass_l0 120 0 _ a 1300000 h (by omega) (cutN n) (chances_le h) (by omega)).2
 exact this.more (by omega)
def anew (m t1 n2 size win q : Int) : arq_Arq := { m := m, t1 := t1, n2 := n2, size := size, state := 0, tag := 0, tries := 0, rejected := false, log := { m := m, window := win, queue := q, first := 0, out := 0, l := [] }, order := Or.onew m win, timers := tm 0 0, out := [], inds := [], sent := 0, acked := 0, lost := 0 }
theorem anew_ai {m t1 n2 size win q : Int} (hm : m = 128 ∨ m = 32768) (h1 : 1 ≤ t1 ∧ t1 ≤ 1048576) (h2 : 1 ≤ n2 ∧ n2 ≤ 100) (h3 : 1 ≤ size ∧ size ≤ 1000) (hw : 1 ≤ win ∧ win ≤ m / 8) (hq : 0 ≤ q ∧ q ≤ 1000) : AI (anew m t1 n2 size win q) 0 := by
 have hm' : 8 ≤ m ∧ m ≤ 32768 := by rcases hm with e | e <;> omega
 exact { m := hm, t1 := h1, n2 := h2, size := h3, state := ⟨Int.le_refl _, by show (0 : Int) ≤ 3; omega⟩, tag := ⟨Int.le_refl _, by show (0 : Int) < 65536; omega⟩, tries := ⟨Int.le_refl _, by show (0 : Int) ≤ n2; omega⟩, log := Bl.new_bi hm' hw hq, lm := rfl, lw := hw.2, ord := Or.onew_oi hm' hw, om := rfl, ow := rfl, tim := ⟨0, 0, rfl, by omega, by omega⟩, out := Nat.le_refl _, inds := Nat.le_refl _, sent := ⟨Int.le_refl _, Int.le_refl _⟩, acked := ⟨Int.le_refl _, Int.le_refl _⟩, lost := ⟨Int.le_refl _, Int.le_refl _⟩ }
theorem new_eq (c : api_Config) : arq_New.f c = some (anew (if c.Modulus = 32768 then 32768 else 128) (imax 1 (imin c.T1 1048576)) (imax 1 (imin c.N2 100)) (imax 1 (imin c.Size 1000))
  (imax 1 (imin c.Window ((if c.Modulus = 32768 then 32768 else 128 : Int) / 8))) (imax 0 (imin c.Queue 1000))) := by
 have key : ∀ m : Int, m = 128 ∨ m = 32768 → arq_New.j0 c m = some (anew m (imax 1 (imin c.T1 1048576)) (imax 1 (imin c.N2 100)) (imax 1 (imin c.Size 1000)) (imax 1 (imin c.Window (m / 8))) (imax 0 (imin c.Queue 1000))) := by
  intro m hm
  have e1 : imax 8 (imin m 32768) = m := by rcases hm with e | e <;> subst e <;> decide
  unfold arq_New.j0 arq_cut.f backlog_New.f backlog_Cut.f clock_New.f
  rw [bsome, bsome, bsome, bsome, bsome, Or.onew_eq, e1, Bl.td8 (by rcases hm with e | e <;> omega), bsome, bsome]; rfl
 unfold arq_New.f
 by_cases c1 : c.Modulus = 32768
 ·rw [if_pos c1, if_pos c1]; exact key _ (.inr rfl)
 ·rw [if_neg c1, if_neg c1]; exact key _ (.inl rfl)
end Aq
namespace Fr
theorem cut0 {α : Type} (l : List α) (n : Nat) : cut l 0 (n : Int) = l.take n := by simp [cut]
abbrev By (b : List Int) : Prop := ∀ z ∈ b, 0 ≤ z ∧ z < 256
theorem u8b (z : Int) : 0 ≤ IntKind.u8.wrap z ∧ IntKind.u8.wrap z < 256 := by rw [u8w]; omega
theorem turned_l0 (p : Int) : ∀ (d i : Nat) (x : Int), i + d = 8 → ∃ r, ∀ k, d + 1 ≤ k → fcs_turned.l0 k p x (i : Int) = some r
 | 0, i, x, h => ⟨x, fun k hk => by
  obtain ⟨k, rfl⟩ : ∃ j, k = j + 1 := ⟨k - 1, by omega⟩
  rw [fcs_turned.l0, if_neg (by omega)]⟩
 | d + 1, i, x, h => by
  have ew : w64 ((i : Int) + 1) = ((i + 1 : Nat) : Int) := by rw [w64_in ⟨by omega, by omega⟩]; omega
  by_cases c : iand .u32 x 1 = 1
  ·obtain ⟨r, hr⟩ := turned_l0 p d (i + 1) (ixor .u32 (x.fdiv (2 ^ (min (1 : Int).toNat IntKind.u32.bits))) p) (by omega)
   refine ⟨r, fun k hk => ?_⟩
   obtain ⟨k, rfl⟩ : ∃ j, k = j + 1 := ⟨k - 1, by omega⟩
   rw [fcs_turned.l0, if_pos (by omega), if_pos c, ew]; exact hr k (by omega)
  ·obtain ⟨r, hr⟩ := turned_l0 p d (i + 1) (x.fdiv (2 ^ (min (1 : Int).toNat IntKind.u32.bits))) (by omega)
   refine ⟨r, fun k hk => ?_⟩
   obtain ⟨k, rfl⟩ : ∃ j, k = j + 1 := ⟨k - 1, by omega⟩
   rw [fcs_turned.l0, if_pos (by omega), if_neg c, ew]; exact hr k (by omega)
theorem turned_ok (x p : Int) : ∃ r, ∀ k, 9 ≤ k → fcs_turned.f k x p = some r := turned_l0 p 8 0 x rfl
theorem sum_l0 (b : List Int) (p : Int) (hb : b.length ≤ 1000000) : ∀ (d i : Nat) (x : Int), i + d = b.length → ∃ r, ∀ k, d + 10 ≤ k → fcs_sum.l0 k b p x (i : Int) = some r
 | 0, i, x, h => ⟨_, fun k hk => by
  obtain ⟨k, rfl⟩ : ∃ j, k = j + 1 := ⟨k - 1, by omega⟩
  rw [fcs_sum.l0, if_neg (by omega)]⟩
 | d + 1, i, x, h => by
  have ew : w64 ((i : Int) + 1) = ((i + 1 : Nat) : Int) := by rw [w64_in ⟨by omega, by omega⟩]; omega
  obtain ⟨t, ht⟩ := turned_ok (ixor .u32 x (IntKind.u32.wrap (b.getD ((i : Int)).toNat 0))) p
  obtain ⟨r, hr⟩ := sum_l0 b p hb d (i + 1) t (by omega)
  refine ⟨r, fun k hk => ?_⟩
  obtain ⟨k, rfl⟩ : ∃ j, k = j + 1 := ⟨k - 1, by omega⟩
  rw [fcs_sum.l0, if_pos (by omega), if_pos (by omega), ht k (by omega), bsome, ew]; exact hr k (by omega)
theorem sum_ok (b : List Int) (x p : Int) (hb : b.length ≤ 1000000) : ∃ r, ∀ k, b.length + 10 ≤ k → fcs_sum.f k b x p = some r := sum_l0 b p hb b.length 0 x (by omega)
theorem tail_l1 {n : Nat} (hn : n ≤ 4) : ∀ (d i : Nat) (x : Int) (o : List Int), i + d = n → o.length = i → By o → ∃ r : List Int, (∀ k, d + 1 ≤ k → fcs_tail.l1 k (n : Int) x (i : Int) o = some r) ∧ r.length = n ∧ By r
 | 0, i, x, o, h, ho, hb => ⟨o, fun k hk => by
  obtain ⟨k, rfl⟩ : ∃ j, k = j + 1 := ⟨k - 1, by omega⟩
  rw [fcs_tail.l1, if_neg (by omega)], by omega, hb⟩
 | d + 1, i, x, o, h, ho, hb => by
  have ew : w64 ((i : Int) + 1) = ((i + 1 : Nat) : Int) := by rw [w64_in ⟨by omega, by omega⟩]; omega
  obtain ⟨r, hr, h1, h2⟩ := tail_l1 hn d (i + 1) (x.fdiv (2 ^ (min (8 : Int).toNat IntKind.u32.bits))) (o ++ [IntKind.u8.wrap x]) (by omega) (by simp; omega) (fun z hz => by
   rcases List.mem_append.1 hz with q | q
   ·exact hb z q
   ·simp at q; subst q; exact u8b x)
  refine ⟨r, fun k hk => ?_, h1, h2⟩
  obtain ⟨k, rfl⟩ : ∃ j, k = j + 1 := ⟨k - 1, by omega⟩
  rw [fcs_tail.l1, if_pos (by omega), if_pos (by simp only [List.length_cons, List.length_nil]; omega), ew]; exact hr k (by omega)
def sz (w : Bool) : Nat := if w then 4 else 2
theorem tail_ok (b : List Int) (w : Bool) (hb : b.length ≤ 1000000) : ∃ t : List Int, (∀ k, b.length + 20 ≤ k → fcs_tail.f k b w = some t) ∧ t.length = sz w ∧ By t := by
 obtain ⟨s, hs⟩ := sum_ok b 65535 33800 hb
 obtain ⟨l, hl⟩ := sum_ok b 4294967295 3988292384 hb
 cases w with
 | true =>
  obtain ⟨t, ht, h1, h2⟩ := tail_l1 (n := 4) (by omega) 4 0 l [] rfl rfl (fun _ h => nomatch h)
  refine ⟨t, fun k hk => ?_, h1, h2⟩
  unfold fcs_tail.f fcs_Short.f fcs_Long.f fcs_tail.j0
  rw [hs k (by omega), bsome, bsome, if_pos rfl, hl k (by omega), bsome, bsome]
  exact ht k (by omega)
 | false =>
  obtain ⟨t, ht, h1, h2⟩ := tail_l1 (n := 2) (by omega) 2 0 (IntKind.u32.wrap (IntKind.u16.wrap s)) [] rfl rfl (fun _ h => nomatch h)
  refine ⟨t, fun k hk => ?_, h1, h2⟩
  unfold fcs_tail.f fcs_Short.f fcs_tail.j0
  rw [hs k (by omega), bsome, bsome, if_neg (by simp)]
  exact ht k (by omega)
theorem grow_ok {n : Int} (h : 0 ≤ n ∧ n ≤ 30000000) : slices_Grow_Sbytebyte.f n = some [] := by
 unfold slices_Grow_Sbytebyte.f
 have ew : w64 (0 - 0) = 0 := by decide
 rw [if_neg (by omega), ew, w64_in ⟨by omega, by omega⟩]
 by_cases q : n - 0 > 0
 ·rw [if_pos q, if_pos (by omega)]
 ·rw [if_neg q]
theorem concat2 {x y : List Int} (hx : x.length ≤ 10000000) (hy : y.length ≤ 10000000) {k : Nat} (hk : 10 ≤ k) : slices_Concat_Sbytebyte.f k [x, y] = some (x ++ y) := by
 obtain ⟨k, rfl⟩ : ∃ j, k = j + 10 := ⟨k - 10, by omega⟩
 unfold slices_Concat_Sbytebyte.f
 have e1 : w64 (0 + 1) = 1 := by decide
 have e2 : w64 (1 + 1) = 2 := by decide
 have g0 : ([x, y].getD (0 : Int).toNat []) = x := rfl
 have g1 : ([x, y].getD (1 : Int).toNat []) = y := rfl
 have hl : (([x, y] : List (List Int)).length : Int) = 2 := rfl
 rw [slices_Concat_Sbytebyte.l0, hl, if_pos (by decide), if_pos (by decide), g0, w64_in ⟨by omega, by omega⟩, if_neg (by omega), e1]
 rw [slices_Concat_Sbytebyte.l0, hl, if_pos (by decide), if_pos (by decide), g1, w64_in ⟨by omega, by omega⟩, if_neg (by omega), e2]
 rw [slices_Concat_Sbytebyte.l0, hl, if_neg (by decide), grow_ok ⟨by omega, by omega⟩, bsome]
 rw [slices_Concat_Sbytebyte.l1, hl, if_pos (by decide), if_pos (by decide), g0, if_pos (by simp; omega), e1]
 rw [slices_Concat_Sbytebyte.l1, hl, if_pos (by decide), if_pos (by decide), g1, if_pos (by simp; omega), e2]
 rw [slices_Concat_Sbytebyte.l1, hl, if_neg (by decide)]
 simp
theorem fput_ok (b : List Int) (w : Bool) (hb : b.length ≤ 1000000) (hB : By b) : ∃ t : List Int, (∀ k, b.length + 30 ≤ k → fcs_Put.f k b w = some (b ++ t)) ∧ t.length = sz w ∧ By t := by
 obtain ⟨t, ht, h1, h2⟩ := tail_ok b w hb
 have : sz w ≤ 4 := by unfold sz; split <;> omega
 refine ⟨t, fun k hk => ?_, h1, h2⟩
 unfold fcs_Put.f
 rw [ht k (by omega), bsome, concat2 (by omega) (by omega) (by omega), bsome]
theorem size_ok (w : Bool) {k : Nat} (hk : 40 ≤ k) : frame_size.f k w = some (sz w : Int) := by
 obtain ⟨t, ht, h1, _⟩ := fput_ok [] w (by simp) (fun _ h => nomatch h)
 unfold frame_size.f
 rw [ht k (by simp; omega), bsome, List.nil_append, h1]
theorem stuff_l0 (b : List Int) (hb : b.length ≤ 1000000) (hB : By b) : ∀ (d i : Nat) (o : List Int), i + d = b.length → o.length ≤ 2 * i → By o → ∃ r : List Int, (∀ k, d + 1 ≤ k → octets_Stuff.l0 k b (i : Int) o = some r) ∧ r.length ≤ 2 * b.length ∧ By r
 | 0, i, o, h, ho, hO => ⟨o, fun k hk => by
  obtain ⟨k, rfl⟩ : ∃ j, k = j + 1 := ⟨k - 1, by omega⟩
  rw [octets_Stuff.l0, if_neg (by omega)], by omega, hO⟩
 | d + 1, i, o, h, ho, hO => by
  have ew : w64 ((i : Int) + 1) = ((i + 1 : Nat) : Int) := by rw [w64_in ⟨by omega, by omega⟩]; omega
  have hc : 0 ≤ b.getD ((i : Int)).toNat 0 ∧ b.getD ((i : Int)).toNat 0 < 256 := by
   have hlt : i < b.length := by omega
   have e : b.getD ((i : Int)).toNat 0 = b[i] := by simp [List.getD, hlt]
   rw [e]; exact hB _ (List.getElem_mem hlt)
  have key : ∀ k, octets_Stuff.l0 (k + 1) b (i : Int) o = octets_Stuff.j2 b (i : Int) o (octets_Stuff.l0 k b) (decide (b.getD ((i : Int)).toNat 0 = 126 ∨ b.getD ((i : Int)).toNat 0 = 125)) := by
   intro k
   rw [octets_Stuff.l0, if_pos (by omega), if_pos (by omega)]
   by_cases c : b.getD ((i : Int)).toNat 0 = 126
   ·rw [if_pos c, decide_eq_true (Or.inl c)]
   ·rw [if_neg c, show decide (b.getD ((i : Int)).toNat 0 = 126 ∨ b.getD ((i : Int)).toNat 0 = 125) = decide (b.getD ((i : Int)).toNat 0 = 125) from decide_eq_decide.2 ⟨fun h => h.resolve_left c, .inr⟩]
  by_cases c : b.getD ((i : Int)).toNat 0 = 126 ∨ b.getD ((i : Int)).toNat 0 = 125
  ·obtain ⟨r, hr, h1, h2⟩ := stuff_l0 b hb hB d (i + 1) (o ++ [125] ++ [ixor .u8 (b.getD ((i : Int)).toNat 0) 32]) (by omega) (by simp; omega) (fun z hz => by
    rcases List.mem_append.1 hz with q | q
    ·rcases List.mem_append.1 q with q | q
     ·exact hO z q
     ·simp at q; omega
    ·simp at q; subst q; unfold ixor; exact u8b _)
   refine ⟨r, fun k hk => ?_, h1, h2⟩
   obtain ⟨k, rfl⟩ : ∃ j, k = j + 1 := ⟨k - 1, by omega⟩
   rw [key, decide_eq_true c]
   unfold octets_Stuff.j2 octets_Stuff.j1
   rw [if_pos rfl, if_pos (by simp only [List.length_cons, List.length_nil]; omega), if_pos (by simp only [List.length_cons, List.length_nil, List.length_append]; omega), ew]
   exact hr k (by omega)
  ·obtain ⟨r, hr, h1, h2⟩ := stuff_l0 b hb hB d (i + 1) (o ++ [b.getD ((i : Int)).toNat 0]) (by omega) (by simp; omega) (fun z hz => by
    rcases List.mem_append.1 hz with q | q
    ·exact hO z q
    ·simp only [List.mem_cons, List.not_mem_nil, or_false] at q; subst q; exact hc)
   refine ⟨r, fun k hk => ?_, h1, h2⟩
   obtain ⟨k, rfl⟩ : ∃ j, k = j + 1 := ⟨k - 1, by omega⟩
   rw [key, decide_eq_false c]
   unfold octets_Stuff.j2 octets_Stuff.j1
   rw [if_neg (by simp), if_pos (by simp only [List.length_cons, List.length_nil]; omega), ew]
   exact hr k (by omega)
theorem stuff_ok (b : List Int) (hb : b.length ≤ 1000000) (hB : By b) : ∃ r : List Int, (∀ k, b.length + 1 ≤ k → octets_Stuff.f k b = some r) ∧ r.length ≤ 2 * b.length ∧ By r := stuff_l0 b hb hB b.length 0 [] (by omega) (by simp) (fun _ h => nomatch h)
theorem By.app {a b : List Int} (ha : By a) (hb : By b) : By (a ++ b) := fun z hz => (List.mem_append.1 hz).elim (ha z) (hb z)
theorem put_ok (b : List Int) (w : Bool) (hb : b.length ≤ 10000) (hB : By b) : ∃ r : List Int, (∀ k, b.length + 50 ≤ k → frame_Put.f k b w = some r) ∧ r.length ≤ 2 * b.length + 10 ∧ By r ∧ 2 ≤ r.length := by
 obtain ⟨t, ht, h1, h2⟩ := fput_ok b w (by omega) hB
 have hz : sz w ≤ 4 := by unfold sz; split <;> omega
 obtain ⟨s, hs, h3, h4⟩ := stuff_ok (b ++ t) (by rw [List.length_append]; omega) (By.app hB h2)
 rw [List.length_append] at hs h3
 refine ⟨[126] ++ (s ++ [126]), fun k hk => ?_, ?_, ?_, ?_⟩
 ·unfold frame_Put.f
  rw [ht k (by omega), bsome, hs k (by omega), bsome, Aq.concat_eq (by simp) (by omega) (by simp) (by omega), bsome]
 ·simp only [List.length_append, List.length_cons, List.length_nil]; omega
 ·exact By.app (fun z hz => by simp at hz; omega) (By.app h4 (fun z hz => by simp at hz; omega))
 ·simp only [List.length_append, List.length_cons, List.length_nil]; omega
structure RI (r : frame_Reader) : Prop where
 most : 1 ≤ r.most ∧ r.most ≤ 66000
 state : 0 ≤ r.state ∧ r.state ≤ 4
 len : (r.b.length : Int) ≤ r.most + 1
 by_ : By r.b
 open_ : r.state ≠ 4 → (r.b.length : Int) ≤ r.most
theorem new_ok (n : Int) (w : Bool) (hn : n ≤ 10000) : ∃ r : frame_Reader, (∀ k, 40 ≤ k → frame_New.f k n w = some r) ∧ RI r ∧ (1 ≤ n → r.most ≤ n + 4) := by
 have hm : 1 ≤ imax 1 (imin n 65536) ∧ imax 1 (imin n 65536) ≤ 10000 := by unfold imax imin; constructor <;> (repeat' split) <;> omega
 have hs : sz w ≤ 4 := by unfold sz; split <;> omega
 refine ⟨{ wide := w, most := imax 1 (imin n 65536) + sz w, state := 0, b := [] }, fun k hk => ?_, ⟨⟨by show 1 ≤ imax 1 (imin n 65536) + (sz w : Int); omega, by show imax 1 (imin n 65536) + (sz w : Int) ≤ 66000; omega⟩, (by show (0 : Int) ≤ 0 ∧ (0 : Int) ≤ 4; decide), ?_, fun _ h => (nomatch h), fun _ => ?_⟩, fun h1 => ?_⟩
 ·unfold frame_New.f
  rw [size_ok w hk, bsome, w64_in ⟨by omega, by omega⟩]
 ·show (0 : Int) ≤ imax 1 (imin n 65536) + sz w + 1; omega
 ·show (0 : Int) ≤ imax 1 (imin n 65536) + sz w; omega
 ·show imax 1 (imin n 65536) + (sz w : Int) ≤ n + 4
  have : imax 1 (imin n 65536) = n := by unfold imax imin; (repeat' split) <;> omega
  omega
end Fr
namespace Bo
open Aq
open Fr (By)
structure BO (a : arq_Arq) (S : Int) : Prop where
 out : ∀ b ∈ a.out, By b ∧ b.length ≤ 1006
 log : ∀ b ∈ a.log.l, By b ∧ b.length ≤ 1000
 cn : a.sent = a.acked + a.lost + (a.log.l.length : Int)
 sent : a.sent = S
 st : a.state ≠ 2 → a.log.l = []
variable {a : arq_Arq} {C : Nat} {S : Int}
theorem nilB : By ([] : List Int) := fun _ h => nomatch h
theorem hdr_b {t : Int} (ht : 0 ≤ t ∧ t < 65536) : By (hdr t) := by
 intro z hz; unfold hdr at hz; simp at hz; omega
theorem msg_b (hm : a.m = 128 ∨ a.m = 32768) {t : Int} (ht : 0 ≤ t ∧ t < 65536) {c : api_Ctl} (hc : Co.rightB c a.m = true) {b : List Int} (hb : By b ∧ b.length ≤ 1000) : By (hdr t ++ (Co.enc c a.m ++ b)) ∧ (hdr t ++ (Co.enc c a.m ++ b)).length ≤ 1006 := by
 refine ⟨Fr.By.app (hdr_b ht) (Fr.By.app (Co.enc_byte hc) hb.1), ?_⟩
 have := enc_len c a.m
 rw [List.length_append, List.length_append]
 show 2 + _ ≤ _
 omega
theorem say (h : AI a C) (B : BO a S) {t : Int} (ht : 0 ≤ t ∧ t < 65536) {c : api_Ctl} (hc : Co.rightB c a.m = true) {b : List Int} (hb : By b ∧ b.length ≤ 1000) : BO (Aq.say a t c b) S :=
 { B with out := fun z hz => (List.mem_append.1 hz).elim (B.out z) fun h1 => List.mem_singleton.1 h1 ▸ msg_b h.m ht hc hb }
theorem bare (h : AI a C) (B : BO a S) {t : Int} (ht : 0 ≤ t ∧ t < 65536) {K : Int} (hK : 3 ≤ K ∧ K ≤ 7) (p : Bool) : BO (Aq.say a t (ct K 0 0 p) []) S := say h B ht (right_bare h hK p) ⟨nilB, Nat.zero_le _⟩
theorem tmd (B : BO a S) (n : Int) : BO (timed a n) S := { B with }
theorem ind (B : BO a S) (n : Int) : BO (tellInd a n) S := { B with }
theorem frsh (h : AI a C) (B : BO a S) (st : Int) : BO (fresh a st) S where
 out := B.out
 log := fun _ h => nomatch h
 cn := by show a.sent = a.acked + (a.lost + (a.log.l.length : Int)) + ((0 : Nat) : Int); have := B.cn; omega
 sent := B.sent
 st := fun _ => rfl
theorem aend (h : AI a C) (B : BO a S) : BO (Aq.aend a) S := ind (frsh h B 0) 2
theorem getD_b (B : BO a S) (i : Nat) : By (a.log.l.getD i []) ∧ (a.log.l.getD i []).length ≤ 1000 := by
 by_cases h : i < a.log.l.length
 ·have e : a.log.l.getD i [] = a.log.l[i] := by simp [List.getD, h]
  rw [e]; exact B.log _ (List.getElem_mem h)
 ·have e : a.log.l.getD i [] = [] := by simp [List.getD, Nat.not_lt.1 h]
  rw [e]; exact ⟨nilB, Nat.zero_le _⟩
theorem imsg_b (h : AI a C) (B : BO a S) (i : Int) (p : Bool) : By (imsg a i p) ∧ (imsg a i p).length ≤ 1006 :=
 msg_b h.m h.tag (right_num h (.inl rfl) (h.num _) h.next p) (getD_b B i.toNat)
theorem also (B : BO a S) {l : List (List Int)} (hl : ∀ b ∈ l, By b ∧ b.length ≤ 1006) : BO (Aq.also a l) S :=
 { B with out := fun z hz => (List.mem_append.1 hz).elim (B.out z) (hl z) }
theorem resend (h : AI a C) (B : BO a S) : BO (Aq.resend a) S := by
 unfold Aq.resend
 split
 ·refine tmd (also B fun b hb => ?_) _
  unfold outAll at hb
  obtain ⟨j, _, rfl⟩ := List.mem_map.1 hb
  exact imsg_b h B _ _
 ·exact B
theorem connect (h : AI a C) (B : BO a S) : BO (Aq.connect a).2 S := by
 unfold Aq.connect
 split
 ·rename_i s
  have hB : BO { a with state := 1, tag := (a.tag + 1) % 65536, tries := 0 } S := { B with st := fun _ => B.st (by omega) }
  exact tmd (bare (conn_ai h) hB ⟨by omega, by omega⟩ (by decide) true) _
 ·exact B
theorem again (h : AI a C) (B : BO a S) : BO (Aq.again a) S := by
 unfold Aq.again
 split
 ·exact resend h B
 ·exact B
theorem remind (h : AI a C) (B : BO a S) : BO (Aq.remind a) S := by
 unfold Aq.remind
 repeat' split
 ·exact bare h B h.tag (by decide) true
 ·exact bare h B h.tag (by decide) true
 ·exact also B fun b hb => by obtain rfl := List.mem_singleton.1 hb; exact imsg_b h B _ _
 ·exact B
theorem late (h : AI a C) (B : BO a S) : BO (Aq.late a) S := by
 unfold Aq.late
 split
 ·exact aend (tries_ai h ⟨by have := h.n2; omega, Int.le_refl _⟩) { B with }
 ·rename_i c
  have ht := h.tries
  exact remind (timed_ai (tries_ai h (n := a.tries + 1) ⟨by omega, by omega⟩) h.t1') (tmd (a := { a with tries := a.tries + 1 }) { B with } _)
theorem passing (B : BO a S) (n : Int) : BO (Aq.passing a n) S := { B with }
theorem passL : ∀ (d : Nat) (n : Int) {a : arq_Arq} {C : Nat}, 0 ≤ n → AI a C → BO a S → BO (Aq.passL d n a) S
 | 0, _, _, _, _, _, B => B
 | d + 1, n, a, C, hn, h, B => by
  rw [Aq.passL]
  split
  ·rename_i c
   have h1 := passing_ai h (n := run a) (by omega)
   exact passL d _ (by omega) (late_ai h1).1 (late h1 (passing B _))
  ·exact passing B n
theorem pass (h : AI a C) (B : BO a S) (n : Int) : BO (Aq.pass a n) S := passL _ _ (cutN n).1 h B
theorem outp (B : BO a S) : BO { a with out := [] } S := ⟨fun _ h => (nomatch h), B.log, B.cn, B.sent, B.st⟩
theorem outp_ai (h : AI a C) : AI { a with out := [] } C := { h with out := Nat.zero_le _ }
theorem new (m t1 n2 size win q : Int) : BO (anew m t1 n2 size win q) 0 where
 out := fun _ h => nomatch h
 log := fun _ h => nomatch h
 cn := rfl
 sent := rfl
 st := fun _ => rfl
end Bo
namespace Mo
open Fr (By)
def nf (g : Nat) : Nat := FloatKind.f64.nearest (g : Int)
def cnt (b : Bool) (l : List Bool) : Nat := l.count b
structure WI (w : tally_Window) : Prop where
 len : w.l.length = 16
 at_ : 0 ≤ w.at_ ∧ w.at_ < 16
 kept : 0 ≤ w.kept ∧ w.kept ≤ 16
 near : w.kept < 16 → w.at_ = w.kept
 sum : w.sum = (nf (cnt true (w.l.take w.kept.toNat)), nf (cnt false (w.l.take w.kept.toNat)))
structure MI (m : monitor_Monitor) : Prop where
 bad : 1 ≤ m.bad ∧ m.bad ≤ 16
 good : 1 ≤ m.good ∧ m.good ≤ 16
 silent : 1 ≤ m.silent ∧ m.silent ≤ 1073741824
 w : WI m.w
 row : 0 ≤ m.row ∧ m.row ≤ 16
 quiet : 0 ≤ m.silence ∧ m.silence ≤ 1073741824
 state : 0 ≤ m.state ∧ m.state ≤ 2
theorem mnew_ok (a b c : Int) : ∃ r, monitor_New.f a b c = some r ∧ MI r := by
 unfold monitor_New.f monitor_cut.f
 rw [bsome, bsome, bsome]
 have ht : tally_New.f 16 = some { l := List.replicate 16 false, at_ := 0, kept := 0, sum := (0, 0) } := by kernel_rfl
 rw [ht, bsome]
 have z : WI { l := List.replicate 16 false, at_ := 0, kept := 0, sum := (0, 0) } := ⟨by decide, by decide, by decide, fun _ => rfl, by kernel_rfl⟩
 refine ⟨_, rfl, ⟨?_, ?_, ?_, z, ?_, ?_, ?_⟩⟩ <;> dsimp only
 iterate 3 (unfold imax imin; constructor <;> (repeat' split) <;> omega)
 all_goals omega
theorem mpass_ok {m : monitor_Monitor} (h : MI m) : ∃ r, monitor_Monitor_Pass.f m 1 = some r ∧ MI r.2 := by
 have hq := h.quiet
 unfold monitor_Monitor_Pass.f monitor_cut.f
 rw [bsome, show imax 0 (imin 1 1073741824) = 1 by decide, w64_in ⟨by omega, by omega⟩]
 have e : 0 ≤ imin (m.silence + 1) 1073741824 ∧ imin (m.silence + 1) 1073741824 ≤ 1073741824 := by unfold imin; constructor <;> split <;> omega
 split
 ·exact ⟨_, rfl, { h with row := by dsimp only; omega, quiet := e, state := by dsimp only; omega }⟩
 ·exact ⟨_, rfl, { h with quiet := e }⟩
structure TI (t : twins_Table) : Prop where
 len : 1 ≤ t.came.length ∧ t.came.length ≤ 4096
 at_ : 0 ≤ t.at_ ∧ t.at_ < (t.came.length : Int)
theorem u32w (x : Int) : IntKind.u32.wrap x = x % 4294967296 := by
 simp [IntKind.wrap, IntKind.bits, IntKind.signed]
theorem tnew_ok (n : Int) : ∃ r, twins_New.f n = some r ∧ TI r := by
 have e : 1 ≤ imax 1 (imin n 4096) ∧ imax 1 (imin n 4096) ≤ 4096 := by unfold imax imin; constructor <;> (repeat' split) <;> omega
 unfold twins_New.f
 rw [if_pos ⟨by omega, by omega⟩]
 refine ⟨_, rfl, ⟨?_, ?_⟩⟩ <;> dsimp only <;> rw [List.length_replicate] <;> omega
structure GI (r : ring_Ring) : Prop where
 room : 0 ≤ r.room ∧ r.room ≤ 1048576
 len : (r.b.length : Int) ≤ r.room
 by_ : By r.b
 begun : 0 ≤ r.begun
 pos : ∀ p ∈ r.pieces, 1 ≤ p
 sum : r.begun + r.pieces.sum = r.b.length
 drop : 0 ≤ r.dropped ∧ r.dropped ≤ 4294967295
theorem len_sum : ∀ {l : List Int}, (∀ p ∈ l, 1 ≤ p) → (l.length : Int) ≤ l.sum
 | [], _ => Int.le_refl _
 | p :: l, h => by
  have := len_sum (l := l) fun q hq => h q (List.mem_cons_of_mem _ hq)
  have := h p (List.mem_cons_self ..)
  rw [List.sum_cons, List.length_cons]; omega
theorem gnew_ok (n : Int) : ∃ r, ring_New.f n = some r ∧ GI r ∧ r.b = [] := by
 have e : 0 ≤ imax 0 (imin n 1048576) ∧ imax 0 (imin n 1048576) ≤ 1048576 := by unfold imax imin; constructor <;> (repeat' split) <;> omega
 unfold ring_New.f
 exact ⟨_, rfl, ⟨e, e.1, fun _ h => (nomatch h), Int.le_refl _, fun _ h => (nomatch h), rfl, by dsimp only; omega⟩, rfl⟩
theorem add_ok {r : ring_Ring} (h : GI r) {b : List Int} (hb : By b) (h0 : 1 ≤ b.length) (hl : b.length ≤ 100000) : ∃ t, ring_Ring_Add.f r b = some t ∧ GI t.2 := by
 have hr := h.room
 have h1 := h.len
 have hs := h.sum
 have hg := h.begun
 have hp := len_sum h.pos
 have hd := h.drop
 unfold ring_Ring_Add.f
 rw [w64_in ⟨by omega, by omega⟩]
 by_cases c : (b.length : Int) > r.room - r.b.length
 ·rw [if_pos c, w64_in ⟨by omega, by omega⟩]
  exact ⟨_, rfl, { h with drop := by show 0 ≤ imin (r.dropped + 1) 4294967295 ∧ imin (r.dropped + 1) 4294967295 ≤ 4294967295; unfold imin; constructor <;> split <;> omega }⟩
 ·rw [if_neg c, if_pos (by omega), if_pos (by simp only [List.length_cons, List.length_nil]; omega)]
  refine ⟨_, rfl, { h with len := ?_, by_ := Fr.By.app h.by_ hb, pos := ?_, sum := ?_ }⟩
  ·show ((r.b ++ b).length : Int) ≤ r.room; rw [List.length_append]; omega
  ·intro p hp
   rcases List.mem_append.1 hp with q | q
   ·exact h.pos p q
   ·have := List.mem_singleton.1 q; omega
  ·show r.begun + (r.pieces ++ [(b.length : Int)]).sum = ((r.b ++ b).length : Int)
   rw [List.sum_append, List.length_append]; simp; omega
theorem passed_l0 (room : Int) (b : List Int) (dr : Int) (hb : b.length ≤ 1048576) : ∀ (d : Nat) (x g : Int) (l : List Int), 0 ≤ x → x ≤ d → x ≤ 1048576 → 0 ≤ g → (∀ p ∈ l, 1 ≤ p) → g + l.sum = b.length + x →
  ∃ (g' : Int) (l' : List Int), (∀ k, d + 1 ≤ k → ring_Ring_passed.l0 k x { room := room, b := b, begun := g, pieces := l, dropped := dr } = some { room := room, b := b, begun := g', pieces := l', dropped := dr }) ∧ 0 ≤ g' ∧ (∀ p ∈ l', 1 ≤ p) ∧ g' + l'.sum = b.length
 | d, x, g, l, h0, h1, h2, h3, h4, h5 => by
  by_cases c : x > 0
  ·obtain ⟨d, rfl⟩ : ∃ j, d = j + 1 := ⟨d - 1, by omega⟩
   have hl := len_sum h4
   by_cases c2 : g = 0
   ·subst c2
    cases l with
    | nil => simp at h5; omega
    | cons p l =>
     have hp := h4 p (List.mem_cons_self ..)
     have h4' : ∀ q ∈ l, 1 ≤ q := fun q hq => h4 q (List.mem_cons_of_mem _ hq)
     have hl' := len_sum h4'
     rw [List.sum_cons] at h5
     have e : 1 ≤ imin x p ∧ imin x p ≤ x ∧ imin x p ≤ p ∧ (imin x p = x ∨ imin x p = p) := by unfold imin; split <;> omega
     obtain ⟨g', l', hr, q1, q2, q3⟩ := passed_l0 room b dr hb d (x - imin x p) (p - imin x p) l (by omega) (by omega) (by omega) (by omega) h4' (by omega)
     refine ⟨g', l', fun k hk => ?_, q1, q2, q3⟩
     obtain ⟨k, rfl⟩ : ∃ j, k = j + 1 := ⟨k - 1, by omega⟩
     have ep : (p :: l).getD (0 : Int).toNat 0 = p := rfl
     have ec : cut (p :: l) 1 ((p :: l).length : Int) = l := by simp [cut]
     rw [ring_Ring_passed.l0, if_pos c, if_pos rfl]
     dsimp only
     rw [if_pos ⟨by omega, by rw [List.length_cons]; omega⟩, if_pos ⟨by omega, by rw [List.length_cons]; omega, by omega⟩, ep, ec, w64_in ⟨by omega, by omega⟩, w64_in ⟨by omega, by omega⟩]
     exact hr k (by omega)
   ·have e : 1 ≤ imin x g ∧ imin x g ≤ x ∧ imin x g ≤ g := by unfold imin; split <;> omega
    obtain ⟨g', l', hr, q1, q2, q3⟩ := passed_l0 room b dr hb d (x - imin x g) (g - imin x g) l (by omega) (by omega) (by omega) (by omega) h4 (by omega)
    refine ⟨g', l', fun k hk => ?_, q1, q2, q3⟩
    obtain ⟨k, rfl⟩ : ∃ j, k = j + 1 := ⟨k - 1, by omega⟩
    rw [ring_Ring_passed.l0, if_pos c, if_neg c2]
    dsimp only
    rw [w64_in ⟨by omega, by omega⟩, w64_in ⟨by omega, by omega⟩]
    exact hr k (by omega)
  ·refine ⟨g, l, fun k hk => ?_, h3, h4, by omega⟩
   obtain ⟨k, rfl⟩ : ∃ j, k = j + 1 := ⟨k - 1, by omega⟩
   rw [ring_Ring_passed.l0, if_neg c]
theorem take_ok {r : ring_Ring} (h : GI r) (n : Int) : ∃ t : List Int × ring_Ring, (∀ k, 1100000 ≤ k → ring_Ring_Take.f k r n = some t) ∧ GI t.2 ∧ t.1 = r.b.take (imax 0 (imin n r.b.length)).toNat ∧ t.2.b = r.b.drop (imax 0 (imin n r.b.length)).toNat := by
 have hr := h.room
 have h1 := h.len
 have e : 0 ≤ imax 0 (imin n (r.b.length : Int)) ∧ imax 0 (imin n (r.b.length : Int)) ≤ r.b.length := by unfold imax imin; constructor <;> (repeat' split) <;> omega
 obtain ⟨m, hm⟩ : ∃ m : Nat, imax 0 (imin n (r.b.length : Int)) = m := ⟨_, (Int.toNat_of_nonneg e.1).symm⟩
 rw [hm] at e ⊢
 have hs := h.sum
 obtain ⟨g', l', hp, q1, q2, q3⟩ := passed_l0 r.room (r.b.drop m) r.dropped (by rw [List.length_drop]; omega) 1048577 m r.begun r.pieces (by omega) (by omega) (by omega) h.begun h.pos (by rw [List.length_drop]; omega)
 refine ⟨(r.b.take m, { room := r.room, b := r.b.drop m, begun := g', pieces := l', dropped := r.dropped }), fun k hk => ?_, ⟨hr, by dsimp only; rw [List.length_drop]; omega, fun z hz => h.by_ z (List.mem_of_mem_drop hz), q1, q2, q3, h.drop⟩, by simp, by simp⟩
 unfold ring_Ring_Take.f
 rw [hm, if_pos ⟨by omega, e.1, e.2⟩, Fr.cut0, Bl.clone_eq (by rw [List.length_take]; omega), bsome]
 have hd : slices_Delete_Sbytebyte.f r.b 0 (m : Int) = some (r.b.drop m) := by
  unfold slices_Delete_Sbytebyte.f
  rw [if_pos ⟨by omega, e.1, e.2⟩]
  by_cases z : (0 : Int) = m
  ·have : m = 0 := by omega
   subst this; rw [if_pos (by omega)]; rfl
  ·rw [if_neg z, if_pos ⟨by omega, by omega, by omega⟩, if_pos ⟨e.1, e.2, by omega⟩]
   show some (cut r.b 0 0 ++ cut r.b m r.b.length) = _
   have z1 : cut r.b 0 0 = [] := by simp [cut]
   have z2 : cut r.b m r.b.length = r.b.drop m := by rw [Aq.cut_drop _ e.1]; simp
   rw [z1, z2]; rfl
 rw [hd, bsome]
 unfold ring_Ring_passed.f
 rw [hp k (by omega), bsome]
end Mo
namespace St
open Fr (By)
open Aq (AI big)
open Bo (BO)
structure DI (d : station_side) : Prop where
 reader : Fr.RI d.reader
 short : d.reader.most ≤ 1100
 mon : Mo.MI d.monitor
 ring : Mo.GI d.ring
structure SI (s : station_Station) (C : Nat) (S : Int) : Prop where
 keep : 1 ≤ s.c.Keep ∧ s.c.Keep ≤ 65536
 arq : AI s.arq C
 bo : BO s.arq S
 tw : Mo.TI s.twins
 num : 0 ≤ s.number ∧ s.number < 4294967296
 steps : 0 ≤ s.steps ∧ s.steps ≤ C
 one : DI s.sides.1
 two : DI s.sides.2
theorem SI.more {s : station_Station} {C D : Nat} {S : Int} (h : SI s C S) (l : C ≤ D) : SI s D S := { h with arq := h.arq.more l, steps := by have := h.steps; omega }
structure Pt (s r : station_Station) : Prop where
 c : r.c = s.c
 arq : r.arq = s.arq
 aps : r.aps = s.aps
 tw : r.twins = s.twins
 line : r.line = s.line
 r1 : r.sides.1.reader = s.sides.1.reader
 m1 : r.sides.1.monitor = s.sides.1.monitor
 c1 : r.sides.1.counts = s.sides.1.counts
 r2 : r.sides.2.reader = s.sides.2.reader
 m2 : r.sides.2.monitor = s.sides.2.monitor
 c2 : r.sides.2.counts = s.sides.2.counts
theorem Pt.trans {s r t : station_Station} (h : Pt s r) (g : Pt r t) : Pt s t :=
 ⟨g.c.trans h.c, g.arq.trans h.arq, g.aps.trans h.aps, g.tw.trans h.tw, g.line.trans h.line, g.r1.trans h.r1, g.m1.trans h.m1, g.c1.trans h.c1, g.r2.trans h.r2, g.m2.trans h.m2, g.c2.trans h.c2⟩
abbrev Told := List (List Int) × List (List Int)
structure TD (t : Told) (D : Nat) : Prop where
 n1 : t.1.length ≤ D
 n2 : t.2.length ≤ D
 b1 : ∀ b ∈ t.1, By b ∧ b.length ≤ 1100
 b2 : ∀ b ∈ t.2, By b ∧ b.length ≤ 1100
theorem TD.more {t : Told} {D E : Nat} (h : TD t D) (l : D ≤ E) : TD t E := ⟨Nat.le_trans h.n1 l, Nat.le_trans h.n2 l, h.b1, h.b2⟩
theorem piece_ok {s : station_Station} {C : Nat} {S : Int} (h : SI s C S) {b : List Int} (hb : By b ∧ b.length ≤ 1006) : ∃ r : List Int × station_Station, (∀ k, 20 ≤ k → station_Station_piece.f k s b = some r) ∧ SI r.2 C S ∧ Pt s r.2 ∧ By r.1 ∧ r.1.length ≤ 1011 ∧ r.2.steps = s.steps := by
 have hn := h.num
 have two : ∀ x y : List Int, x.length ≤ 1000000 → y.length ≤ 1000000 → ∀ k, 20 ≤ k → slices_Concat_Sbytebyte.f k [x, y] = some (x ++ y) := fun x y hx hy k hk => Fr.concat2 (by omega) (by omega) (by omega)
 refine ⟨([0, IntKind.u8.wrap (s.number.fdiv (2 ^ (min (24 : Int).toNat IntKind.u32.bits))), IntKind.u8.wrap (s.number.fdiv (2 ^ (min (16 : Int).toNat IntKind.u32.bits))), IntKind.u8.wrap (s.number.fdiv (2 ^ (min (8 : Int).toNat IntKind.u32.bits))), IntKind.u8.wrap s.number] ++ b, { s with number := IntKind.u32.wrap (s.number + 1) }), fun k hk => ?_, { h with num := ?_ }, (by constructor <;> exact Eq.refl _), ?_, ?_, Eq.refl _⟩
 ·unfold station_Station_piece.f
  rw [two _ _ (by simp) (by omega) k hk, bsome]
 ·show 0 ≤ IntKind.u32.wrap (s.number + 1) ∧ IntKind.u32.wrap (s.number + 1) < 4294967296
  rw [Mo.u32w]; omega
 ·refine Fr.By.app (fun z hz => ?_) hb.1
  simp only [List.mem_cons, List.not_mem_nil, or_false] at hz
  rcases hz with e | e | e | e | e <;> subst e
  ·omega
  all_goals exact Fr.u8b _
 ·show (_ ++ b).length ≤ 1011
  rw [List.length_append]
  show 5 + b.length ≤ 1011
  omega
theorem put_ok {s : station_Station} {C : Nat} {S : Int} (h : SI s C S) {t : Told} {D : Nat} (ht : TD t D) (hD : D ≤ 1000000000000) {i : Int} (hi : i = 0 ∨ i = 1) {p : List Int} (hp : By p ∧ p.length ≤ 1100) :
  ∃ r : station_Station × Told, (∀ k, 1200 ≤ k → station_Station_put.f k s t i p = some r) ∧ SI r.1 C S ∧ Pt s r.1 ∧ TD r.2 (D + 1) ∧ r.1.steps = s.steps := by
 obtain ⟨f, hf, f1, f2, f3⟩ := Fr.put_ok p s.c.Wide (by omega) hp.1
 have n1 := ht.n1
 have n2 := ht.n2
 have clone : slices_Clone_Sbytebyte.f p = some p := Bl.clone_eq (by omega)
 have tell : ∀ (x : station_Station) (b : Bool), ∃ u : Told, station_Station_put.j0 t i p x b = some (x, u) ∧ TD u (D + 1) := by
  intro x b
  unfold station_Station_put.j0
  split
  ·rw [if_pos (by omega), clone]
   rcases hi with e | e <;> subst e
   ·rw [if_pos (Eq.refl _), bsome, if_pos (by simp only [List.length_cons, List.length_nil]; omega)]
    refine ⟨_, Eq.refl _, by show (t.1 ++ [p]).length ≤ D + 1; rw [List.length_append]; simp; omega, by show t.2.length ≤ D + 1; omega, fun b hb => ?_, ht.b2⟩
    exact (List.mem_append.1 hb).elim (ht.b1 b) fun q => List.mem_singleton.1 q ▸ hp
   ·rw [if_neg (by decide), bsome, if_pos (by simp only [List.length_cons, List.length_nil]; omega)]
    refine ⟨_, Eq.refl _, by show t.1.length ≤ D + 1; omega, by show (t.2 ++ [p]).length ≤ D + 1; rw [List.length_append]; simp; omega, ht.b1, fun b hb => ?_⟩
    exact (List.mem_append.1 hb).elim (ht.b2 b) fun q => List.mem_singleton.1 q ▸ hp
  ·exact ⟨_, Eq.refl _, ht.more (by omega)⟩
 rcases hi with e | e
 ·obtain ⟨a, ha, hg⟩ := Mo.add_ok h.one.ring f2 (by omega) (by omega)
  obtain ⟨u, hu, hT⟩ := tell { s with sides := ({ s.sides.1 with ring := a.2 }, s.sides.2) } a.1
  refine ⟨({ s with sides := ({ s.sides.1 with ring := a.2 }, s.sides.2) }, u), fun k hk => ?_, { h with one := { h.one with ring := hg } }, (by constructor <;> exact Eq.refl _), hT, Eq.refl _⟩
  unfold station_Station_put.f
  rw [if_pos (by omega), if_pos e, hf k (by omega), bsome, ha, bsome]
  exact hu
 ·obtain ⟨a, ha, hg⟩ := Mo.add_ok h.two.ring f2 (by omega) (by omega)
  obtain ⟨u, hu, hT⟩ := tell { s with sides := (s.sides.1, { s.sides.2 with ring := a.2 }) } a.1
  refine ⟨({ s with sides := (s.sides.1, { s.sides.2 with ring := a.2 }) }, u), fun k hk => ?_, { h with two := { h.two with ring := hg } }, (by constructor <;> exact Eq.refl _), hT, Eq.refl _⟩
  unfold station_Station_put.f
  rw [if_pos (by omega), if_neg (by omega), hf k (by omega), bsome, ha, bsome]
  exact hu
theorem kput_ok (q l : Int) : ∃ r, kcode_Put.f q l = some r ∧ By r ∧ r.length = 2 := by
 unfold kcode_Put.f request_Of.f request_Of.j0 kcode_Put.j0
 have fin : ∀ x : Int, 0 ≤ x ∧ x < 256 → ∃ r : List Int, some ([x, icom .u8 x] : List Int) = some r ∧ By r ∧ r.length = 2 := by
  intro x hx
  refine ⟨_, Eq.refl _, fun z hz => ?_, Eq.refl _⟩
  simp only [List.mem_cons, List.not_mem_nil, or_false] at hz
  rcases hz with e | e <;> subst e
  ·exact hx
  ·unfold icom; exact Fr.u8b _
 have key : ∀ y : Int, ∃ r, (if l = 1 then some ([IntKind.u8.wrap ((IntKind.u8.wrap (w64 (y * 16))) + 1), icom .u8 (IntKind.u8.wrap ((IntKind.u8.wrap (w64 (y * 16))) + 1))] : List Int) else some [IntKind.u8.wrap (w64 (y * 16)), icom .u8 (IntKind.u8.wrap (w64 (y * 16)))]) = some r ∧ By r ∧ r.length = 2 := by
  intro y; split <;> exact fin _ (Fr.u8b _)
 split
 ·rw [if_pos (Eq.refl _), bsome]; exact key _
 ·split
  ·rw [bsome]; exact key _
  ·rw [bsome]; exact key _
theorem twice_eq (s : station_Station) : station_Station_twice.f s = some (decide (s.c.Mode = 0)) := Eq.refl _
theorem step_l1 (t21 : Int × aps_Aps) (t38 : List (List Int) × arq_Arq) (hl : t38.1.length ≤ 200000000000) (hB : ∀ b ∈ t38.1, By b ∧ b.length ≤ 1006) {C : Nat} {S : Int} (hC : C ≤ 1000000000000) : ∀ (d i D : Nat) (s : station_Station) (t : Told), i + d = t38.1.length → SI s C S → TD t D → D + 2 * d + 5 ≤ 1000000000000 →
  ∃ r : Told × station_Station, (∀ k, d + 1300 ≤ k → station_Station_Step.l1 k t21 t38 (i : Int) s t = some r) ∧ SI r.2 (C + 1) S ∧ Pt s r.2 ∧ TD r.1 (D + 2 * d + 2)
 | 0, i, D, s, t, hi, h, ht, hD => by
  have hk := h.keep
  have hs := h.steps
  have e64 : w64 (s.steps + 1) = s.steps + 1 := w64_in ⟨by omega, by omega⟩
  have h' : SI { s with steps := s.steps + 1 } (C + 1) S := { h.more (D := C + 1) (by omega) with steps := by show 0 ≤ s.steps + 1 ∧ s.steps + 1 ≤ ((C + 1 : Nat) : Int); omega }
  have P' : Pt s { s with steps := s.steps + 1 } := by constructor <;> exact Eq.refl _
  obtain ⟨q, hq, hqb, hql⟩ := kput_ok s.aps.own t21.1
  have hpb : By (([1] : List Int) ++ q) ∧ (([1] : List Int) ++ q).length ≤ 1100 := ⟨Fr.By.app (fun z hz => by simp at hz; omega) hqb, by rw [List.length_append]; show 1 + q.length ≤ 1100; omega⟩
  have head : ∀ k, station_Station_Step.l1 (k + 1) t21 t38 (i : Int) s t = if (s.steps + 1).tmod s.c.Keep = 0 then (station_Station_put.f k { s with steps := s.steps + 1 } t 0 (([1] : List Int) ++ q)).bind fun t126 => (station_Station_put.f k t126.1 t126.2 1 (([1] : List Int) ++ q)).bind fun t129 => some (t129.2, t129.1) else some (t, { s with steps := s.steps + 1 }) := by
   intro k
   rw [station_Station_Step.l1, if_neg (by omega), if_pos (by omega), e64]
   unfold aps_Aps_Request.f
   by_cases c : (s.steps + 1).tmod s.c.Keep = 0
   ·rw [if_pos c, if_pos c, bsome, hq, bsome, if_pos (by rw [hql]; simp)]
   ·rw [if_neg c, if_neg c]
  by_cases c : (s.steps + 1).tmod s.c.Keep = 0
  ·obtain ⟨u, hu, u1, u2, u3, _⟩ := put_ok h' ht (by omega) (.inl (Eq.refl 0)) hpb
   obtain ⟨v, hv, v1, v2, v3, _⟩ := put_ok u1 u3 (by omega) (.inr (Eq.refl 1)) hpb
   refine ⟨(v.2, v.1), fun k hk => ?_, v1, (P'.trans u2).trans v2, v3.more (by omega)⟩
   obtain ⟨k, rfl⟩ : ∃ j, k = j + 1 := ⟨k - 1, by omega⟩
   rw [head, if_pos c, hu k (by omega), bsome, hv k (by omega), bsome]
  ·refine ⟨(t, _), fun k hk => ?_, h', P', ht.more (by omega)⟩
   obtain ⟨k, rfl⟩ : ∃ j, k = j + 1 := ⟨k - 1, by omega⟩
   rw [head, if_neg c]
 | d + 1, i, D, s, t, hi, h, ht, hD => by
  have hlt : i < t38.1.length := by omega
  have eg : t38.1.getD ((i : Int)).toNat [] = t38.1[i] := by simp [List.getD, hlt]
  obtain ⟨p, hp, p1, p2, p3, p4, p5⟩ := piece_ok h (hB _ (List.getElem_mem hlt))
  have ew : w64 ((i : Int) + 1) = ((i + 1 : Nat) : Int) := w64_in ⟨by omega, by omega⟩
  have hpb : By p.1 ∧ p.1.length ≤ 1100 := ⟨p3, by omega⟩
  have rest : ∀ (x : station_Station) (u : Told), SI x C S → Pt s x → TD u (D + 2) → ∃ r : Told × station_Station, (∀ k, d + 1300 ≤ k → station_Station_Step.l1 k t21 t38 (w64 ((i : Int) + 1)) x u = some r) ∧ SI r.2 (C + 1) S ∧ Pt s r.2 ∧ TD r.1 (D + 2 * (d + 1) + 2) := by
   intro x u hx hP hu
   obtain ⟨r, hr, r1, r2, r3⟩ := step_l1 t21 t38 hl hB hC d (i + 1) (D + 2) x u (by omega) hx hu (by omega)
   exact ⟨r, fun k hk => by rw [ew]; exact hr k hk, r1, hP.trans r2, r3.more (by omega)⟩
  have j3 : ∀ (x : station_Station × Told) (b : Bool), SI x.1 C S → Pt s x.1 → TD x.2 (D + 1) → ∃ r : Told × station_Station, (∀ k, d + 1300 ≤ k → station_Station_Step.j3 k (i : Int) p x (station_Station_Step.l1 k t21 t38) b = some r) ∧ SI r.2 (C + 1) S ∧ Pt s r.2 ∧ TD r.1 (D + 2 * (d + 1) + 2) := by
   intro x b hx hP hu
   by_cases c : b = true
   ·obtain ⟨u, hu', u1, u2, u3, _⟩ := put_ok hx hu (by omega) (.inr (Eq.refl 1)) hpb
    obtain ⟨r, hr, hr'⟩ := rest u.1 u.2 u1 (hP.trans u2) u3
    refine ⟨r, fun k hk => ?_, hr'⟩
    unfold station_Station_Step.j3
    rw [if_pos c, hu' k (by omega), bsome]; exact hr k hk
   ·obtain ⟨r, hr, hr'⟩ := rest x.1 x.2 hx hP (hu.more (by omega))
    refine ⟨r, fun k hk => ?_, hr'⟩
    unfold station_Station_Step.j3
    rw [if_neg c]; exact hr k hk
  have j4 : ∀ b : Bool, ∃ r : Told × station_Station, (∀ k, d + 1300 ≤ k → station_Station_Step.j4 k (i : Int) t p (station_Station_Step.l1 k t21 t38) b = some r) ∧ SI r.2 (C + 1) S ∧ Pt s r.2 ∧ TD r.1 (D + 2 * (d + 1) + 2) := by
   intro b
   by_cases c : b = true
   ·obtain ⟨u, hu', u1, u2, u3, _⟩ := put_ok p1 ht (by omega) (.inr (Eq.refl 1)) hpb
    obtain ⟨r, hr, hr'⟩ := rest u.1 u.2 u1 (p2.trans u2) (u3.more (by omega))
    refine ⟨r, fun k hk => ?_, hr'⟩
    unfold station_Station_Step.j4
    rw [if_pos c, hu' k (by omega), bsome]; exact hr k hk
   ·obtain ⟨r, hr, hr'⟩ := rest p.2 t p1 p2 (ht.more (by omega))
    refine ⟨r, fun k hk => ?_, hr'⟩
    unfold station_Station_Step.j4
    rw [if_neg c]; exact hr k hk
  have j2 : ∀ b : Bool, ∃ r : Told × station_Station, (∀ k, d + 1300 ≤ k → station_Station_Step.j2 k t21 (i : Int) t p (station_Station_Step.l1 k t21 t38) b = some r) ∧ SI r.2 (C + 1) S ∧ Pt s r.2 ∧ TD r.1 (D + 2 * (d + 1) + 2) := by
   intro b
   by_cases c : b = true
   ·obtain ⟨u, hu', u1, u2, u3, _⟩ := put_ok p1 ht (by omega) (.inl (Eq.refl 0)) hpb
    obtain ⟨r, hr, hr'⟩ := j3 u (if decide (u.1.c.Mode = 0) = true then true else decide (1 = t21.1)) u1 (p2.trans u2) u3
    refine ⟨r, fun k hk => ?_, hr'⟩
    rw [← hr k hk]
    unfold station_Station_Step.j2
    rw [if_pos c, hu' k (by omega), bsome, twice_eq, bsome]
    split <;> rfl
   ·obtain ⟨r, hr, hr'⟩ := j4 (if decide (p.2.c.Mode = 0) = true then true else decide (1 = t21.1))
    refine ⟨r, fun k hk => ?_, hr'⟩
    rw [← hr k hk]
    unfold station_Station_Step.j2
    rw [if_neg c, twice_eq, bsome]
    split <;> rfl
  obtain ⟨r, hr, hr'⟩ := j2 (if decide (p.2.c.Mode = 0) = true then true else decide (0 = t21.1))
  refine ⟨r, fun k hk => ?_, hr'⟩
  obtain ⟨k, rfl⟩ : ∃ j, k = j + 1 := ⟨k - 1, by omega⟩
  rw [← hr k (by omega)]
  rw [station_Station_Step.l1, if_pos (by omega), if_pos (by omega), eg, hp k (by omega), bsome, twice_eq, bsome]
  split <;> rfl
end St
namespace St
open Fr (By)
open Aq (AI big)
open Bo (BO)
theorem apass_ok (a : aps_Aps) (x y : Int) : ∃ r, aps_Aps_Pass.f a x y = some r := by
 have hof : ∀ q, ∃ r, request_Of.f q = some r := by
  intro q; unfold request_Of.f request_Of.j0
  split
  ·exact ⟨_, if_pos (Eq.refl _)⟩
  ·split <;> exact ⟨_, Eq.refl _⟩
 have j0 : ∀ (z : aps_Aps) (q : Int), ∃ r, aps_Aps_Pass.j0 z q = some r := by
  intro z q
  unfold aps_Aps_Pass.j0 request_Wins.f
  obtain ⟨r1, h1⟩ := hof q
  obtain ⟨r2, h2⟩ := hof z.remote
  rw [h1, bsome, h2, bsome, bsome]
  have hl : ∀ q, ∃ r, request_Line.f q = some r := by
   intro q; unfold request_Line.f request_Line.j0
   repeat' split
   all_goals exact ⟨_, Eq.refl _⟩
  obtain ⟨r3, h3⟩ := hl (imax r1 r2)
  rw [h3, bsome]; exact ⟨_, Eq.refl _⟩
 have hh : ∃ r, aps_Aps_held.f a x = some r := by
  unfold aps_Aps_held.f
  repeat' split
  all_goals exact ⟨_, Eq.refl _⟩
 have hl : ∀ u v w, ∃ r, request_Local.f u v w = some r := by
  intro u v w; unfold request_Local.f
  repeat' split
  all_goals exact ⟨_, Eq.refl _⟩
 have ha : ∀ z : aps_Aps, ∃ r, aps_Aps_after.f z = some r := by
  intro z; unfold aps_Aps_after.f aps_Aps_after.j0
  repeat' split
  all_goals exact ⟨_, Eq.refl _⟩
 unfold aps_Aps_Pass.f
 obtain ⟨r1, h1⟩ := hh
 obtain ⟨r2, h2⟩ := hl a.command r1.1 y
 rw [h1, bsome, h2, bsome]
 split
 ·obtain ⟨r3, h3⟩ := ha r1.2
  rw [h3, bsome]; exact j0 _ _
 ·exact j0 _ _
structure Kp (s r : station_Station) : Prop where
 c : r.c = s.c
 tw : r.twins = s.twins
 r1 : r.sides.1.reader = s.sides.1.reader
 c1 : r.sides.1.counts = s.sides.1.counts
 r2 : r.sides.2.reader = s.sides.2.reader
 c2 : r.sides.2.counts = s.sides.2.counts
def emp (a : arq_Arq) : arq_Arq := { a with out := [] }
theorem j0_ok (t21 : Int × aps_Aps) {x : station_Station} {C : Nat} {S : Int} (h : SI x C S) (hC : C + 20000 ≤ big) : ∃ r : Told × station_Station, (∀ k, C + 1400000 ≤ k → station_Station_Step.j0 k t21 x = some r) ∧ SI r.2 (C + 7001) S ∧ TD r.1 (2 * (C + 7000) + 2) ∧ Kp x r.2 ∧ r.2.arq = emp (Aq.pass x.arq 1) := by
 have A := Aq.pass_ai h.arq (by omega) 1
 have B := Bo.pass h.arq h.bo 1
 have hb : big = 100000000000 := Eq.refl _
 have ho := A.out
 obtain ⟨r, hr, r1, r2, r3⟩ := step_l1 t21 ((Aq.pass x.arq 1).out, emp (Aq.pass x.arq 1)) (by dsimp only; omega) B.out (C := C + 7000) (S := S) (by omega) (Aq.pass x.arq 1).out.length 0 0 { x with arq := emp (Aq.pass x.arq 1), line := t21.1 } ([], []) (by dsimp only; omega)
  { h.more (D := C + 7000) (by omega) with arq := Bo.outp_ai A, bo := Bo.outp B } ⟨Nat.le_refl _, Nat.le_refl _, fun _ q => (nomatch q), fun _ q => (nomatch q)⟩ (by omega)
 refine ⟨r, fun k hk => ?_, r1, r3.more (by omega), ⟨r2.c, r2.tw, r2.r1, r2.c1, r2.r2, r2.c2⟩, r2.arq⟩
 unfold station_Station_Step.j0 arq_Arq_Output.f
 rw [Aq.passes_eq h.arq (by omega) 1 (by omega), bsome, bsome]
 exact hr k (by omega)
theorem step_ok {s : station_Station} {C : Nat} {S : Int} (h : SI s C S) (hC : C + 30000 ≤ big) : ∃ r : Told × station_Station, (∀ k, C + 1500000 ≤ k → station_Station_Step.f k s = some r) ∧ SI r.2 (C + 12000) S ∧ TD r.1 (2 * (C + 12000) + 2) ∧ Kp s r.2 ∧ (r.2.arq = emp (Aq.pass s.arq 1) ∨ r.2.arq = emp (Aq.pass (Aq.again s.arq) 1)) := by
 obtain ⟨m1, hm1, i1⟩ := Mo.mpass_ok h.one.mon
 obtain ⟨m2, hm2, i2⟩ := Mo.mpass_ok h.two.mon
 obtain ⟨p, hp⟩ := apass_ok s.aps m1.1 m2.1
 have h1 : SI { s with aps := p.2, sides := ({ s.sides.1 with monitor := m1.2 }, { s.sides.2 with monitor := m2.2 }) } C S := { h with one := { h.one with mon := i1 }, two := { h.two with mon := i2 } }
 have hj : ∀ b : Bool, ∃ r : Told × station_Station, (∀ k, C + 1500000 ≤ k → station_Station_Step.j5 k s m1 m2 p b = some r) ∧ SI r.2 (C + 12000) S ∧ TD r.1 (2 * (C + 12000) + 2) ∧ Kp s r.2 ∧ (r.2.arq = emp (Aq.pass s.arq 1) ∨ r.2.arq = emp (Aq.pass (Aq.again s.arq) 1)) := by
  intro b
  by_cases c : b = true
  ·obtain ⟨r, hr, r1, r2, r3, r4⟩ := j0_ok p (x := { s with arq := Aq.again s.arq, aps := p.2, sides := ({ s.sides.1 with monitor := m1.2 }, { s.sides.2 with monitor := m2.2 }) }) (C := C + 4096) (S := S) { h1.more (D := C + 4096) (by omega) with arq := Aq.again_ai h.arq, bo := Bo.again h.arq h.bo } (by omega)
   refine ⟨r, fun k hk => ?_, r1.more (by omega), r2.more (by omega), ⟨r3.c, r3.tw, r3.r1, r3.c1, r3.r2, r3.c2⟩, .inr r4⟩
   unfold station_Station_Step.j5
   rw [if_pos c]
   refine Eq.trans (congrArg (fun z => Option.bind z _) (Aq.again_eq h.arq (by omega) (by omega) : arq_Arq_Again.f k s.arq = _)) ?_
   rw [bsome]
   exact hr k (by omega)
  ·obtain ⟨r, hr, r1, r2, r3, r4⟩ := j0_ok p h1 (by omega)
   refine ⟨r, fun k hk => ?_, r1.more (by omega), r2.more (by omega), ⟨r3.c, r3.tw, r3.r1, r3.c1, r3.r2, r3.c2⟩, .inl r4⟩
   unfold station_Station_Step.j5
   rw [if_neg c]
   exact hr k (by omega)
 obtain ⟨r, hr, hr'⟩ := hj (if decide (s.c.Mode = 0) = true then false else (!(decide (p.1 = s.line))))
 refine ⟨r, fun k hk => ?_, hr'⟩
 rw [← hr k hk]
 unfold station_Station_Step.f
 rw [hm1, bsome, hm2, bsome, hp, bsome, twice_eq, bsome]
 split <;> rfl
theorem status_eq (s : station_Station) : station_Station_Status.f s = some { State := s.arq.state, Line := if s.c.Mode = 0 then 0 else s.aps.line, Lines := (s.sides.1.monitor.state, s.sides.2.monitor.state), Sent := s.arq.sent, Acked := s.arq.acked, Lost := s.arq.lost } := by
 unfold station_Station_Status.f station_Station_Status.j0 station_Station_Status.j1 arq_Arq_State.f aps_Aps_Line.f arq_Arq_Counts.f monitor_Monitor_State.f
 rw [bsome, bsome, twice_eq, bsome]
 by_cases c : s.c.Mode = 0
 ·rw [decide_eq_true c, if_pos (Eq.refl _), if_pos c]; rfl
 ·rw [decide_eq_false c, if_neg (by simp), if_neg c]; rfl
end St
namespace St
open Fr (By)
open Aq (AI big)
open Bo (BO)
def wn (n l h : Int) : Bool := decide (l ≤ n) && decide (n ≤ h)
theorem within_eq (n l h : Int) : shape_within.f n l h = some (wn n l h) := by
 unfold shape_within.f wn
 by_cases c : n ≥ l
 ·rw [if_pos c, decide_eq_true (show l ≤ n from c)]; rfl
 ·rw [if_neg c, decide_eq_false (show ¬ l ≤ n from c)]; rfl
def mostR (c : api_Config) : Int := w64 ((w64 (2 * (w64 ((imax (1) (imin c.Size (1000))) + 16)))) + 2)
def okB (c : api_Config) : Bool :=
 ((c.Mode == 0 || c.Mode == 1) && (c.Modulus == 128 || c.Modulus == 32768)) &&
 (wn c.T1 1 1048576 && wn c.N2 1 100 && wn c.Hold 0 1048576 && wn c.Wait 1 1048576 && wn c.Keep 1 65536) &&
 (wn c.Window 1 (w64 (c.Modulus.tdiv 8)) && wn c.Queue 0 1000 && wn c.Size 1 1000 && wn c.Rate 1 4096 && wn c.Ring (mostR c) 1048576) &&
 (wn c.Bad 1 16 && wn c.Good 1 16) && decide (w64 (c.Keep * c.Rate) ≥ 32)
theorem check_eq (c : api_Config) : shape_Check.f c = some (if okB c = true then 0 else 1) := by
 have h4 : ∀ x, shape_Check.j4 x = some (if x = true then 0 else 1) := by intro x; unfold shape_Check.j4; cases x <;> rfl
 have h3 : ∀ a b d e, shape_Check.j3 c a b d e = some (if (a && b && d && e && decide (w64 (c.Keep * c.Rate) ≥ 32)) = true then 0 else 1) := by
  intro a b d e; unfold shape_Check.j3; simp only [h4]; cases a <;> cases b <;> cases d <;> cases e <;> rfl
 have h2 : ∀ a b d, shape_Check.j2 c a b d = some (if (a && b && d && (wn c.Bad 1 16 && wn c.Good 1 16) && decide (w64 (c.Keep * c.Rate) ≥ 32)) = true then 0 else 1) := by
  intro a b d; unfold shape_Check.j2; simp only [within_eq, h3, bsome]; cases wn c.Bad 1 16 <;> cases wn c.Good 1 16 <;> rfl
 have h1 : ∀ a b, shape_Check.j1 c a b = some (if (a && b && (wn c.Window 1 (w64 (c.Modulus.tdiv 8)) && wn c.Queue 0 1000 && wn c.Size 1 1000 && wn c.Rate 1 4096 && wn c.Ring (mostR c) 1048576) && (wn c.Bad 1 16 && wn c.Good 1 16) && decide (w64 (c.Keep * c.Rate) ≥ 32)) = true then 0 else 1) := by
  intro a b; unfold shape_Check.j1 shape_Most.f; simp only [within_eq, h2, bsome]
  cases wn c.Window 1 (w64 (c.Modulus.tdiv 8)) <;> cases wn c.Queue 0 1000 <;> cases wn c.Size 1 1000 <;> cases wn c.Rate 1 4096 <;> rfl
 have h0 : ∀ a, shape_Check.j0 c a = some (if (a && (wn c.T1 1 1048576 && wn c.N2 1 100 && wn c.Hold 0 1048576 && wn c.Wait 1 1048576 && wn c.Keep 1 65536) && (wn c.Window 1 (w64 (c.Modulus.tdiv 8)) && wn c.Queue 0 1000 && wn c.Size 1 1000 && wn c.Rate 1 4096 && wn c.Ring (mostR c) 1048576) && (wn c.Bad 1 16 && wn c.Good 1 16) && decide (w64 (c.Keep * c.Rate) ≥ 32)) = true then 0 else 1) := by
  intro a; unfold shape_Check.j0; simp only [within_eq, h1, bsome]
  cases wn c.T1 1 1048576 <;> cases wn c.N2 1 100 <;> cases wn c.Hold 0 1048576 <;> cases wn c.Wait 1 1048576 <;> rfl
 unfold shape_Check.f okB
 simp only [h0]
 by_cases m0 : c.Mode = 0
 ·by_cases m1 : c.Modulus = 128 <;> simp [m0, m1]
 ·by_cases m2 : c.Mode = 1
  ·by_cases m1 : c.Modulus = 128 <;> simp [m2, m1]
  ·simp [m0, m2]
structure Ok (c : api_Config) : Prop where
 mode : c.Mode = 0 ∨ c.Mode = 1
 mod : c.Modulus = 128 ∨ c.Modulus = 32768
 t1 : 1 ≤ c.T1 ∧ c.T1 ≤ 1048576
 n2 : 1 ≤ c.N2 ∧ c.N2 ≤ 100
 hold : 0 ≤ c.Hold ∧ c.Hold ≤ 1048576
 wait : 1 ≤ c.Wait ∧ c.Wait ≤ 1048576
 keep : 1 ≤ c.Keep ∧ c.Keep ≤ 65536
 win : 1 ≤ c.Window ∧ c.Window ≤ w64 (c.Modulus.tdiv 8)
 que : 0 ≤ c.Queue ∧ c.Queue ≤ 1000
 size : 1 ≤ c.Size ∧ c.Size ≤ 1000
 rate : 1 ≤ c.Rate ∧ c.Rate ≤ 4096
 ring : mostR c ≤ c.Ring ∧ c.Ring ≤ 1048576
 bad : 1 ≤ c.Bad ∧ c.Bad ≤ 16
 good : 1 ≤ c.Good ∧ c.Good ≤ 16
theorem ok_of {c : api_Config} (h : okB c = true) : Ok c := by
 unfold okB wn at h
 simp only [Bool.and_eq_true, Bool.or_eq_true, beq_iff_eq, decide_eq_true_eq] at h
 obtain ⟨⟨⟨⟨⟨m1, m2⟩, ⟨⟨⟨a1, a2⟩, a3⟩, a4⟩, a5⟩, ⟨⟨⟨b1, b2⟩, b3⟩, b4⟩, b5⟩, c1, c2⟩, _⟩ := h
 exact ⟨m1, m2, a1, a2, a3, a4, a5, b1, b2, b3, b4, b5, c1, c2⟩
def cnt0 : api_Counts := { Good := 0, Bad := 0, Aborts := 0, Runts := 0, Giants := 0, Dropped := 0, Twins := 0 }
theorem new_no {c : api_Config} (h : okB c ≠ true) (k : Nat) : station_New.f k c = some (none, 1) := by
 unfold station_New.f
 rw [check_eq, if_neg h, bsome, if_neg (by decide)]
theorem clampI {n a b : Int} (h : a ≤ n ∧ n ≤ b) : imax a (imin n b) = n := by unfold imax imin; (repeat' split) <;> omega
theorem new_ok {c : api_Config} (h : okB c = true) : ∃ s : station_Station, (∀ k, 1000 ≤ k → station_New.f k c = some (some s, 0)) ∧ SI s 0 0 ∧ s.c = c ∧ s.sides.1.counts = cnt0 ∧ s.sides.2.counts = cnt0 ∧ s.sides.1.ring.b = [] ∧ s.sides.2.ring.b = [] ∧
  s.arq = Aq.anew c.Modulus c.T1 c.N2 c.Size c.Window c.Queue := by
 have o := ok_of h
 have hz := o.size
 obtain ⟨t, ht, hT⟩ := Mo.tnew_ok (imin (w64 (c.Modulus.tdiv (2))) (1024))
 have e11 : w64 (c.Size + 11) = c.Size + 11 := w64_in ⟨by omega, by omega⟩
 obtain ⟨f, hf, hF, hM⟩ := Fr.new_ok (c.Size + 11) c.Wide (by omega)
 obtain ⟨m, hm, hMI⟩ := Mo.mnew_ok c.Bad c.Good (w64 (3 * c.Keep))
 obtain ⟨g, hg, hG, hG0⟩ := Mo.gnew_ok c.Ring
 have hmod : (if c.Modulus = 32768 then 32768 else 128 : Int) = c.Modulus := by have := o.mod; split <;> omega
 have hwin : c.Window ≤ c.Modulus / 8 := by
  have := o.win
  rcases o.mod with e | e <;> rw [e] at this ⊢ <;> exact this.2
 have ha : arq_New.f c = some (Aq.anew c.Modulus c.T1 c.N2 c.Size c.Window c.Queue) := by
  rw [Aq.new_eq, hmod, clampI o.t1, clampI o.n2, clampI o.size, clampI o.que, clampI ⟨o.win.1, hwin⟩]
 refine ⟨{ c := c, arq := Aq.anew c.Modulus c.T1 c.N2 c.Size c.Window c.Queue, aps := { hold := imax (0) (imin c.Hold (1048576)), wait := imax (1) (imin c.Wait (1048576)), revert := c.Revert, command := 0, remote := 0, own := 0, bad := 0, left := 0, line := 0 }, twins := t, number := 0, steps := 0, line := 0, sides := ({ reader := f, monitor := m, ring := g, counts := cnt0 }, { reader := f, monitor := m, ring := g, counts := cnt0 }) }, fun k hk => ?_, ?_, Eq.refl _, Eq.refl _, Eq.refl _, hG0, hG0, Eq.refl _⟩
 ·unfold station_New.f aps_New.f
  rw [check_eq, if_pos h, bsome, if_pos (Eq.refl _), ha, bsome, bsome, ht, bsome, e11, hf k (by omega), bsome, hm, bsome, hg, bsome, bsome, bsome, bsome]
  rfl
 ·have hr : f.most ≤ 1100 := by have := hM (by omega); omega
  exact ⟨o.keep, Aq.anew_ai o.mod o.t1 o.n2 o.size ⟨o.win.1, hwin⟩ o.que, Bo.new _ _ _ _ _ _, hT, by dsimp only; omega, by dsimp only; omega, ⟨hF, hr, hMI, hG⟩, ⟨hF, hr, hMI, hG⟩⟩
end St
namespace Wc
open Fr (By)
open Aq (AI big)
open St
theorem rwithin (n l h : Int) : signalmanref15_within.f n l h = some (wn n l h) := by
 unfold signalmanref15_within.f wn
 by_cases c : n ≥ l
 ·rw [if_pos c, decide_eq_true (show l ≤ n from c)]; rfl
 ·rw [if_neg c, decide_eq_false (show ¬ l ≤ n from c)]; rfl
theorem rmost (c : api_Config) : signalmanref15_Most.f c = some (mostR c) := by
 unfold signalmanref15_Most.f signalmanref1_Cut.f mostR
 have e : ∀ n : Int, (if n < 1 then some 1 else if n > 1000 then some 1000 else some n) = some (imax 1 (imin n 1000)) := by
  intro n
  unfold imax imin
  repeat' split
  all_goals first | rfl | (congr 1; omega) | omega
 rw [e, bsome]
theorem rcheck (c : api_Config) : signalmanref15_Check.f c = some (if okB c = true then 0 else 1) := by
 have h3 : ∀ x, signalmanref15_Check.j3 x = some (if x = true then 0 else 1) := by intro x; unfold signalmanref15_Check.j3; cases x <;> rfl
 have h2 : ∀ a, signalmanref15_Check.j2 c a = some (if (a && wn c.Ring (mostR c) 1048576 && decide (w64 (c.Keep * c.Rate) ≥ 32)) = true then 0 else 1) := by
  intro a; unfold signalmanref15_Check.j2; simp only [rwithin, rmost, h3, bsome]; cases a <;> cases wn c.Ring (mostR c) 1048576 <;> rfl
 have h1 : ∀ a, signalmanref15_Check.j1 c a = some (if (a && (wn c.Keep 1 65536 && wn c.Queue 0 1000 && wn c.Size 1 1000 && wn c.Rate 1 4096 && wn c.Bad 1 16 && wn c.Good 1 16) && wn c.Ring (mostR c) 1048576 && decide (w64 (c.Keep * c.Rate) ≥ 32)) = true then 0 else 1) := by
  intro a; unfold signalmanref15_Check.j1; simp only [rwithin, h2, bsome]
  cases a <;> cases wn c.Keep 1 65536 <;> cases wn c.Queue 0 1000 <;> cases wn c.Size 1 1000 <;> cases wn c.Rate 1 4096 <;> cases wn c.Bad 1 16 <;> rfl
 have h0 : ∀ a, signalmanref15_Check.j0 c a = some (if (a && (wn c.Window 1 (w64 (c.Modulus.tdiv 8)) && wn c.T1 1 1048576 && wn c.Wait 1 1048576 && wn c.N2 1 100 && wn c.Hold 0 1048576) && (wn c.Keep 1 65536 && wn c.Queue 0 1000 && wn c.Size 1 1000 && wn c.Rate 1 4096 && wn c.Bad 1 16 && wn c.Good 1 16) && wn c.Ring (mostR c) 1048576 && decide (w64 (c.Keep * c.Rate) ≥ 32)) = true then 0 else 1) := by
  intro a; unfold signalmanref15_Check.j0; simp only [rwithin, h1, bsome]
  cases a <;> cases wn c.Window 1 (w64 (c.Modulus.tdiv 8)) <;> cases wn c.T1 1 1048576 <;> cases wn c.Wait 1 1048576 <;> cases wn c.N2 1 100 <;> rfl
 have e : okB c = (((c.Mode == 0 || c.Mode == 1) && (c.Modulus == 128 || c.Modulus == 32768)) && (wn c.Window 1 (w64 (c.Modulus.tdiv 8)) && wn c.T1 1 1048576 && wn c.Wait 1 1048576 && wn c.N2 1 100 && wn c.Hold 0 1048576) && (wn c.Keep 1 65536 && wn c.Queue 0 1000 && wn c.Size 1 1000 && wn c.Rate 1 4096 && wn c.Bad 1 16 && wn c.Good 1 16) && wn c.Ring (mostR c) 1048576 && decide (w64 (c.Keep * c.Rate) ≥ 32)) := by
  unfold okB; ac_rfl
 rw [e]
 unfold signalmanref15_Check.f
 simp only [h0]
 by_cases m0 : c.Mode = 0
 ·by_cases m1 : c.Modulus = 128 <;> simp [m0, m1]
 ·by_cases m2 : c.Mode = 1
  ·by_cases m1 : c.Modulus = 128 <;> simp [m2, m1]
  ·simp [m0, m2]
theorem lat_no {c : api_Config} (h : okB c ≠ true) : signalmanref20_Latency.f c = some 0 := by
 unfold signalmanref20_Latency.f
 rw [rcheck, if_neg h, bsome, if_neg (by decide)]
def Q (a : arq_Arq) : Prop := a.state = 1 ∨ a.state = 0 ∧ Aq.run a = 0
theorem Q.not2 {a : arq_Arq} (h : Q a) : a.state ≠ 2 := by rcases h with e | e <;> omega
theorem late_Q {a : arq_Arq} (h : a.state = 1) : Q (Aq.late a) := by
 unfold Aq.late
 split
 ·exact .inr ⟨rfl, rfl⟩
 ·left
  unfold Aq.remind
  rw [if_pos (show (Aq.timed { a with tries := a.tries + 1 } a.t1).state = 1 from h)]
  exact h
theorem passL_Q : ∀ (d : Nat) (n : Int) {a : arq_Arq}, 0 ≤ n → Q a → Q (Aq.passL d n a)
 | 0, _, _, _, h => h
 | d + 1, n, a, hn, h => by
  rw [Aq.passL]
  split
  ·rename_i c
   rcases h with e | e
   ·exact passL_Q d _ (by omega) (late_Q (a := Aq.passing a (Aq.run a)) e)
   ·omega
  ·rcases h with e | e
   ·exact .inl e
   ·refine .inr ⟨e.1, ?_⟩
    rw [Aq.passing_run, if_neg (by omega)]
theorem pass_Q {a : arq_Arq} (h : Q a) (n : Int) : Q (emp (Aq.pass a n)) := passL_Q 120 _ (Aq.cutN n).1 h
def Q0 (a : arq_Arq) : Prop := a.state = 0 ∧ Aq.run a = 0
theorem pass_Q0 {a : arq_Arq} (h : Q0 a) (n : Int) : Q0 (emp (Aq.pass a n)) := by
 have hc := (Aq.cutN n).1
 show Q0 (Aq.pass a n)
 unfold Aq.pass
 rw [show (120 : Nat) = 119 + 1 from rfl, Aq.passL, if_neg (by have := h.2; omega)]
 refine ⟨h.1, ?_⟩
 rw [Aq.passing_run, if_neg (by have := h.2; omega)]
theorem again_no {a : arq_Arq} (h : a.state ≠ 2) : Aq.again a = a := by unfold Aq.again; rw [if_neg h]
theorem take_l0 {s : station_Station} {C : Nat} {S : Int} (h : SI s C S) (n : Int) : ∃ r : List Int × station_Station, (∀ k, 1100000 ≤ k → station_Station_Take.f k s 0 n = some r) ∧ SI r.2 C S ∧ r.2.arq = s.arq := by
 obtain ⟨t, ht, hT, _, _⟩ := Mo.take_ok h.one.ring n
 refine ⟨(t.1, { s with sides := ({ s.sides.1 with ring := t.2 }, s.sides.2) }), fun k hk => ?_, { h with one := { h.one with ring := hT } }, rfl⟩
 unfold station_Station_Take.f
 rw [show station_has.f 0 = some true from rfl, bsome, if_pos rfl, if_pos (by decide), if_pos rfl, ht k hk, bsome]
theorem take_l1 {s : station_Station} {C : Nat} {S : Int} (h : SI s C S) (n : Int) : ∃ r : List Int × station_Station, (∀ k, 1100000 ≤ k → station_Station_Take.f k s 1 n = some r) ∧ SI r.2 C S ∧ r.2.arq = s.arq := by
 obtain ⟨t, ht, hT, _, _⟩ := Mo.take_ok h.two.ring n
 refine ⟨(t.1, { s with sides := (s.sides.1, { s.sides.2 with ring := t.2 }) }), fun k hk => ?_, { h with two := { h.two with ring := hT } }, rfl⟩
 unfold station_Station_Take.f
 rw [show station_has.f 1 = some true from rfl, bsome, if_pos rfl, if_pos (by decide), if_neg (by decide), ht k hk, bsome]
structure PC (x : world_way) (N : Nat) : Prop where
 cut : x.pipe.cut = true
 b : x.pipe.b = []
 got : x.got = []
 sent : x.sent.length ≤ N
theorem put_cut {p : pipe_Pipe} (h : p.cut = true) (b : List Int) : pipe_Pipe_Put.f p b = some ((b.length : Int), p) := by
 unfold pipe_Pipe_Put.f; rw [if_pos h]
theorem ptake_cut {p : pipe_Pipe} (h : p.b = []) (n : Int) : pipe_Pipe_Take.f p n = some ([], p) := by
 obtain ⟨room, b, c, st⟩ := p
 dsimp only at h
 subst h
 unfold pipe_Pipe_Take.f
 by_cases c1 : st = true
 ·rw [if_pos c1]
 ·rw [if_neg c1]
  unfold pipe_Pipe_gone.f
  have e : imax 0 (imin n (([] : List Int).length : Int)) = 0 := by unfold imax imin; simp only [List.length_nil]; (repeat' split) <;> omega
  dsimp only
  rw [e, if_pos (by simp), show cut ([] : List Int) 0 0 = [] from rfl, Bl.clone_eq (by simp), bsome]
  unfold slices_Delete_Sbytebyte.f
  rw [if_pos (by simp), if_pos rfl, bsome, bsome]
structure WC (w : world_World) (C N : Nat) (n : Int) : Prop where
 one : SI w.stations.1 C 0
 two : SI w.stations.2 C 0
 a1 : Q w.stations.1.arq
 a2 : Q0 w.stations.2.arq
 w11 : PC w.ways.1.1 N
 w12 : PC w.ways.1.2 N
 w21 : PC w.ways.2.1 N
 w22 : PC w.ways.2.2 N
 now : w.now = n
theorem wstep {w : world_World} {C N : Nat} {n : Int} (h : WC w C N n) (hC : C ≤ 10000000) (hN : N ≤ 100000000000) (hn : 0 ≤ n ∧ n ≤ 1000) : ∃ r, (∀ k, C + 1600000 ≤ k → world_World_Step.f k w = some r) ∧ WC r (C + 12000) (N + 2 * (C + 12000) + 2) (n + 1) := by
 have hb : C + 30000 ≤ big := by unfold big; omega
 obtain ⟨s1, hs1, i1, d1, _, e1⟩ := step_ok h.one hb
 obtain ⟨s2, hs2, i2, d2, _, e2⟩ := step_ok h.two hb
 have q1 : Q s1.2.arq := by
  rcases e1 with e | e
  ·rw [e]; exact pass_Q h.a1 1
  ·rw [e, again_no h.a1.not2]; exact pass_Q h.a1 1
 have q2 : Q0 s2.2.arq := by
  rcases e2 with e | e
  ·rw [e]; exact pass_Q0 h.a2 1
  ·rw [e, again_no (by have := h.a2.1; omega)]; exact pass_Q0 h.a2 1
 obtain ⟨t1, ht1, j1, f1⟩ := take_l0 i1 w.c.Rate
 obtain ⟨t2, ht2, j2, f2⟩ := take_l0 i2 w.c.Rate
 obtain ⟨t3, ht3, j3, f3⟩ := take_l1 j1 w.c.Rate
 obtain ⟨t4, ht4, j4, f4⟩ := take_l1 j2 w.c.Rate
 have n1 := d1.n1
 have n2 := d1.n2
 have n3 := d2.n1
 have n4 := d2.n2
 have m1 := h.w11.sent
 have m2 := h.w12.sent
 have m3 := h.w21.sent
 have m4 := h.w22.sent
 have hnow := h.now
 refine ⟨{ c := w.c, stations := (t3.2, t4.2), ways := (({ pipe := w.ways.1.1.pipe, sent := w.ways.1.1.sent ++ s1.1.1, got := w.ways.1.1.got }, { pipe := w.ways.1.2.pipe, sent := w.ways.1.2.sent ++ s2.1.1, got := w.ways.1.2.got }), ({ pipe := w.ways.2.1.pipe, sent := w.ways.2.1.sent ++ s1.1.2, got := w.ways.2.1.got }, { pipe := w.ways.2.2.pipe, sent := w.ways.2.2.sent ++ s2.1.2, got := w.ways.2.2.got })), now := n + 1 }, fun k hk => ?_, ?_⟩
 ·obtain ⟨k, rfl⟩ : ∃ j, k = j + 5 := ⟨k - 5, by omega⟩
  unfold world_World_Step.f
  rw [hs1 _ (by omega), bsome, if_pos (by omega), if_pos (by omega), hs2 _ (by omega), bsome, if_pos (by omega), if_pos (by omega)]
  unfold pipe_Pipe_Cut.f
  rw [bsome, if_pos h.w11.cut]
  unfold world_World_Step.j0 pipe_Pipe_Cut.f
  rw [ht1 _ (by omega), bsome, put_cut h.w11.cut, bsome, bsome, if_pos h.w12.cut]
  unfold world_World_Step.j1 pipe_Pipe_Cut.f
  rw [ht2 _ (by omega), bsome, put_cut h.w12.cut, bsome, bsome, if_pos h.w21.cut]
  unfold world_World_Step.j2 pipe_Pipe_Cut.f
  rw [ht3 _ (by omega), bsome, put_cut h.w21.cut, bsome, bsome, if_pos h.w22.cut]
  unfold world_World_Step.j3
  rw [ht4 _ (by omega), bsome, put_cut h.w22.cut, bsome]
  dsimp only
  rw [ptake_cut h.w11.b, bsome, world_World_Step.l4, if_neg (by simp)]
  dsimp only
  rw [ptake_cut h.w12.b, bsome, world_World_Step.l5, if_neg (by simp)]
  dsimp only
  rw [ptake_cut h.w21.b, bsome, world_World_Step.l6, if_neg (by simp)]
  dsimp only
  rw [ptake_cut h.w22.b, bsome, world_World_Step.l7, if_neg (by simp)]
  dsimp only
  rw [hnow, w64_in ⟨by omega, by omega⟩]
 ·refine ⟨j3, j4, by dsimp only; rw [f3, f1]; exact q1, by dsimp only; rw [f4, f2]; exact q2, ⟨h.w11.cut, h.w11.b, h.w11.got, ?_⟩, ⟨h.w12.cut, h.w12.b, h.w12.got, ?_⟩, ⟨h.w21.cut, h.w21.b, h.w21.got, ?_⟩, ⟨h.w22.cut, h.w22.b, h.w22.got, ?_⟩, rfl⟩
  all_goals dsimp only; rw [List.length_append]; omega
theorem own_nil (k : Nat) : world_own.f (k + 1) [] = some [] := by
 unfold world_own.f
 rw [world_own.l0, if_neg (by simp)]
end Wc
namespace Wc
theorem l5_end {w : world_World} {C N : Nat} {n : Int} (h : WC w C N n) {k : Nat} (hk : 10 ≤ k) : signalmanlaw21_WorldCuts.l5 k n w 0 = some true := by
 obtain ⟨k, rfl⟩ : ∃ j, k = j + 6 := ⟨k - 6, by omega⟩
 have g1 : world_World_Got.f (k + 5) w 0 0 = some [] := by
  unfold world_World_Got.f; simp only [h.w11.got, own_nil]; rfl
 have g2 : world_World_Got.f (k + 4) w 0 1 = some [] := by
  unfold world_World_Got.f; simp only [h.w12.got, own_nil]; rfl
 have g3 : world_World_Got.f (k + 3) w 1 0 = some [] := by
  unfold world_World_Got.f; simp only [h.w21.got, own_nil]; rfl
 have g4 : world_World_Got.f (k + 2) w 1 1 = some [] := by
  unfold world_World_Got.f; simp only [h.w22.got, own_nil]; rfl
 rw [signalmanlaw21_WorldCuts.l5, if_pos (by decide), show w64 ((0 : Int).tdiv 2) = 0 by decide, show (0 : Int).tmod 2 = 0 by decide, g1, bsome, if_pos (by simp), show w64 (0 + 1) = 1 by decide]
 rw [signalmanlaw21_WorldCuts.l5, if_pos (by decide), show w64 ((1 : Int).tdiv 2) = 0 by decide, show (1 : Int).tmod 2 = 1 by decide, g2, bsome, if_pos (by simp), show w64 (1 + 1) = 2 by decide]
 rw [signalmanlaw21_WorldCuts.l5, if_pos (by decide), show w64 ((2 : Int).tdiv 2) = 1 by decide, show (2 : Int).tmod 2 = 0 by decide, g3, bsome, if_pos (by simp), show w64 (2 + 1) = 3 by decide]
 rw [signalmanlaw21_WorldCuts.l5, if_pos (by decide), show w64 ((3 : Int).tdiv 2) = 1 by decide, show (3 : Int).tmod 2 = 1 by decide, g4, bsome, if_pos (by simp), show w64 (3 + 1) = 4 by decide]
 rw [signalmanlaw21_WorldCuts.l5, if_neg (by decide), St.status_eq, bsome, if_pos h.a2.1, St.status_eq, bsome, if_neg h.a1.not2]
 unfold world_World_Now.f
 rw [bsome, h.now, decide_eq_true rfl]
theorem l4_end {a1 : Int} (ha : a1 ≤ 500) : ∀ (d : Nat) (i C N : Nat) (w : world_World) (k : Nat), (i : Int) + d = a1 → WC w C N i → C ≤ 12000 * i + 1 → N ≤ 20000000 * i → d + 10000000 ≤ k → signalmanlaw21_WorldCuts.l4 k a1 i w = some true
 | 0, i, C, N, w, k, hi, h, hC, hN, hk => by
  obtain ⟨k, rfl⟩ : ∃ j, k = j + 1 := ⟨k - 1, by omega⟩
  rw [signalmanlaw21_WorldCuts.l4, if_neg (by omega)]
  have e : (i : Int) = a1 := by omega
  exact l5_end (e ▸ h) (by omega)
 | d + 1, i, C, N, w, k, hi, h, hC, hN, hk => by
  obtain ⟨k, rfl⟩ : ∃ j, k = j + 1 := ⟨k - 1, by omega⟩
  obtain ⟨r, hr, h1⟩ := wstep h (by omega) (by omega) ⟨by omega, by omega⟩
  rw [signalmanlaw21_WorldCuts.l4, if_pos (by omega), hr k (by omega), bsome, w64_in ⟨by omega, by omega⟩]
  exact l4_end ha d (i + 1) _ _ r k (by omega) h1 (by omega) (by omega) (by omega)
theorem fault_eq (w : world_World) : world_World_Fault.f w 0 0 1 0 0 = some (true, { w with ways := (({ w.ways.1.1 with pipe := { w.ways.1.1.pipe with cut := true } }, w.ways.1.2), w.ways.2) }) ∧
  world_World_Fault.f w 0 1 1 0 0 = some (true, { w with ways := ((w.ways.1.1, { w.ways.1.2 with pipe := { w.ways.1.2.pipe with cut := true } }), w.ways.2) }) ∧
  world_World_Fault.f w 1 0 1 0 0 = some (true, { w with ways := (w.ways.1, ({ w.ways.2.1 with pipe := { w.ways.2.1.pipe with cut := true } }, w.ways.2.2)) }) ∧
  world_World_Fault.f w 1 1 1 0 0 = some (true, { w with ways := (w.ways.1, (w.ways.2.1, { w.ways.2.2 with pipe := { w.ways.2.2.pipe with cut := true } })) }) := ⟨rfl, rfl, rfl, rfl⟩
theorem l3_end {w : world_World} {a1 : Int} (h0 : 0 ≤ a1) (ha : a1 ≤ 500) (h1 : St.SI w.stations.1 0 0) (h2 : St.SI w.stations.2 0 0) (e1 : w.stations.1.arq.state = 0) (e2 : Q0 w.stations.2.arq)
  (g11 : w.ways.1.1.pipe.b = [] ∧ w.ways.1.1.got = [] ∧ w.ways.1.1.sent = []) (g12 : w.ways.1.2.pipe.b = [] ∧ w.ways.1.2.got = [] ∧ w.ways.1.2.sent = []) (g21 : w.ways.2.1.pipe.b = [] ∧ w.ways.2.1.got = [] ∧ w.ways.2.1.sent = []) (g22 : w.ways.2.2.pipe.b = [] ∧ w.ways.2.2.got = [] ∧ w.ways.2.2.sent = []) (hn : w.now = 0)
  {k : Nat} (hk : 11000000 ≤ k) : signalmanlaw21_WorldCuts.l3 k a1 0 w = some true := by
 obtain ⟨k, rfl⟩ : ∃ j, k = j + 6 := ⟨k - 6, by omega⟩
 rw [signalmanlaw21_WorldCuts.l3, if_pos (by decide), show w64 ((0 : Int).tdiv 2) = 0 by decide, show (0 : Int).tmod 2 = 0 by decide, (fault_eq _).1, bsome, if_pos rfl, show w64 (0 + 1) = 1 by decide]
 rw [signalmanlaw21_WorldCuts.l3, if_pos (by decide), show w64 ((1 : Int).tdiv 2) = 0 by decide, show (1 : Int).tmod 2 = 1 by decide, (fault_eq _).2.1, bsome, if_pos rfl, show w64 (1 + 1) = 2 by decide]
 rw [signalmanlaw21_WorldCuts.l3, if_pos (by decide), show w64 ((2 : Int).tdiv 2) = 1 by decide, show (2 : Int).tmod 2 = 0 by decide, (fault_eq _).2.2.1, bsome, if_pos rfl, show w64 (2 + 1) = 3 by decide]
 rw [signalmanlaw21_WorldCuts.l3, if_pos (by decide), show w64 ((3 : Int).tdiv 2) = 1 by decide, show (3 : Int).tmod 2 = 1 by decide, (fault_eq _).2.2.2, bsome, if_pos rfl, show w64 (3 + 1) = 4 by decide]
 rw [signalmanlaw21_WorldCuts.l3, if_neg (by decide)]
 dsimp only
 have hc : station_Station_Connect.f (k + 1) w.stations.1 = some ((Aq.connect w.stations.1.arq).1, { w.stations.1 with arq := (Aq.connect w.stations.1.arq).2 }) := by
  unfold station_Station_Connect.f
  rw [Aq.connect_eq h1.arq (by decide) (by omega), bsome]
 rw [hc, bsome]
 have hb : Bo.BO (Aq.connect w.stations.1.arq).2 0 := Bo.connect h1.arq h1.bo
 have hq : Q (Aq.connect w.stations.1.arq).2 := by
  left; unfold Aq.connect; rw [if_pos e1]; rfl
 refine l4_end ha a1.toNat 0 1 0 _ _ (by omega) ⟨{ h1.more (D := 1) (by omega) with arq := Aq.connect_ai h1.arq, bo := hb }, h2.more (by omega), hq, e2, ⟨rfl, g11.1, g11.2.1, by rw [g11.2.2]; exact Nat.le_refl _⟩, ⟨rfl, g12.1, g12.2.1, by rw [g12.2.2]; exact Nat.le_refl _⟩, ⟨rfl, g21.1, g21.2.1, by rw [g21.2.2]; exact Nat.le_refl _⟩, ⟨rfl, g22.1, g22.2.1, by rw [g22.2.2]; exact Nat.le_refl _⟩, hn⟩ (by omega) (by omega) (by omega)
theorem aliveW : signalmanlaw21_alive.f 20000000 = some true := by kernel_rfl
end Wc
theorem WorldCuts : signalmanlaw21_WorldCuts.Pure := by
 intro a0 a1 _ _
 refine ⟨20000000, ?_⟩
 have out : signalmanlaw21_WorldCuts.j0 20000000 a0 a1 true true = some true := by unfold signalmanlaw21_WorldCuts.j0; rw [if_pos rfl]
 unfold signalmanlaw21_WorldCuts.f
 rw [Wc.aliveW, Option.bind_some, if_pos rfl]
 by_cases c3 : a1 < 0
 ·rw [if_pos c3]; exact out
 rw [if_neg c3]
 by_cases c4 : a1 > 500
 ·rw [decide_eq_true c4]; exact out
 rw [decide_eq_false c4]
 unfold signalmanlaw21_WorldCuts.j0
 rw [if_neg (by decide)]
 by_cases hok : St.okB a0 = true
 ·obtain ⟨s, hs, h, _, _, _, _, _, ha⟩ := St.new_ok hok
  have hw : world_New.f 20000000 a0 = some (some { c := a0, stations := (s, s), ways := (({ pipe := { room := imax 0 (imin (w64 ((w64 (2 * a0.Ring)) + a0.Rate)) 1048576), b := [], cut := false, stall := false }, sent := [], got := [] }, { pipe := { room := imax 0 (imin (w64 ((w64 (2 * a0.Ring)) + a0.Rate)) 1048576), b := [], cut := false, stall := false }, sent := [], got := [] }), ({ pipe := { room := imax 0 (imin (w64 ((w64 (2 * a0.Ring)) + a0.Rate)) 1048576), b := [], cut := false, stall := false }, sent := [], got := [] }, { pipe := { room := imax 0 (imin (w64 ((w64 (2 * a0.Ring)) + a0.Rate)) 1048576), b := [], cut := false, stall := false }, sent := [], got := [] })), now := 0 }, 0) := by
   unfold world_New.f pipe_New.f
   rw [hs _ (by decide), bsome, if_neg (show ¬ ((some s : Option station_Station).isNone = true) by simp), if_pos rfl, bsome, bsome, bsome, if_neg (show ¬ ((some s : Option station_Station).isNone = true) by simp), if_pos rfl, bsome, bsome]
   rfl
  rw [hw, bsome, if_neg (show ¬ ((some _ : Option world_World).isNone = true) by simp)]
  unfold signalmanlaw21_num.f
  rw [bsome, if_pos rfl]
  unfold signalmanlaw21_WorldCuts.j2
  rw [if_neg (by decide)]
  have q : Wc.Q0 s.arq := by rw [ha]; exact ⟨rfl, rfl⟩
  exact Wc.l3_end (by omega) (by omega) h h q.1 q ⟨rfl, rfl, rfl⟩ ⟨rfl, rfl, rfl⟩ ⟨rfl, rfl, rfl⟩ ⟨rfl, rfl, rfl⟩ rfl (by decide)
 ·have hw : world_New.f 20000000 a0 = some (none, 1) := by
   unfold world_New.f
   rw [St.new_no hok, bsome, if_pos (show (none : Option station_Station).isNone = true from rfl), if_neg (by decide)]
  have j1 : signalmanlaw21_WorldCuts.j1 a0 = some true := by
   unfold signalmanlaw21_WorldCuts.j1
   rw [Wc.lat_no hok, bsome, decide_eq_true rfl]
  rw [hw, bsome, if_pos (show (none : Option world_World).isNone = true from rfl)]
  unfold signalmanlaw21_num.f
  rw [bsome, if_neg (by decide)]
  exact j1
end Go.Proofs.YtaejcbpijdacmaaGreat

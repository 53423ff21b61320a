/- ReorderSorts: messages that arrive within the window, in any order and repeatedly, become ready in order, each exactly once. Conditions: none beyond those of the given statement. -/
import Derived.Test.YtcjmffcpldjbpaaRunReorderSorts
import Derived.KernelRfl
set_option linter.all false
namespace Go.Proofs.Ytcjmffcpldjbpaa
open Go.RowKit Go.Proofs.Ytcjmffcpldjbpaa.Walk
theorem bsome {α β : Type} (x : α) (g : α → Option β) : (some x).bind g = g x := Eq.trans (b := g x) rfl (Eq.symm rfl)
theorem u8w (x : Int) : IntKind.u8.wrap x = x % 256 := by
  simp [IntKind.wrap, IntKind.bits, IntKind.signed]
theorem i64nat {x : Int} (h0 : 0 ≤ x) (h1 : x < 9223372036854775808) : BitVec.ofInt 64 x = BitVec.ofNat 64 x.toNat := by
  apply BitVec.eq_of_toNat_eq
  simp [BitVec.toNat_ofInt]
  omega
theorem iand_nat {x y : Int} (h0 : 0 ≤ x) (h1 : x < 9223372036854775808) (h2 : 0 ≤ y) (h3 : y < 9223372036854775808) : iand .i64 x y = ((x.toNat &&& y.toNat : Nat) : Int) := by
  unfold iand
  show IntKind.i64.wrap (BitVec.ofInt 64 x &&& BitVec.ofInt 64 y).toNat = _
  rw [i64nat h0 h1, i64nat h2 h3, BitVec.toNat_and]
  simp only [BitVec.toNat_ofNat]
  rw [Nat.mod_eq_of_lt (by omega), Nat.mod_eq_of_lt (by omega)]
  have h4 : x.toNat &&& y.toNat ≤ x.toNat := Nat.and_le_left
  have := w64_in (n := ((x.toNat &&& y.toNat : Nat) : Int)) (by omega)
  exact this
theorem ior_nat {x y : Int} (h0 : 0 ≤ x) (h1 : x < 9223372036854775808) (h2 : 0 ≤ y) (h3 : y < 9223372036854775808) : ior .i64 x y = ((x.toNat ||| y.toNat : Nat) : Int) := by
  unfold ior
  show IntKind.i64.wrap (BitVec.ofInt 64 x ||| BitVec.ofInt 64 y).toNat = _
  rw [i64nat h0 h1, i64nat h2 h3, BitVec.toNat_or]
  simp only [BitVec.toNat_ofNat]
  rw [Nat.mod_eq_of_lt (by omega), Nat.mod_eq_of_lt (by omega)]
  have h4 : x.toNat ||| y.toNat < 2 ^ 63 := Nat.or_lt_two_pow (by omega) (by omega)
  have := w64_in (n := ((x.toNat ||| y.toNat : Nat) : Int)) (by omega)
  exact this
theorem iand_1 {x : Int} (h0 : 0 ≤ x) (h1 : x < 9223372036854775808) : iand .i64 x 1 = x % 2 := by
  rw [iand_nat h0 h1 (by omega) (by omega)]
  have : x.toNat &&& (1 : Int).toNat = x.toNat % 2 := Nat.and_one_is_mod _
  rw [this]; omega
theorem iand_255 {x : Int} (h0 : 0 ≤ x) (h1 : x < 9223372036854775808) : iand .i64 x 255 = x % 256 := by
  rw [iand_nat h0 h1 (by omega) (by omega)]
  have : x.toNat &&& (255 : Int).toNat = x.toNat % 256 := Nat.and_two_pow_sub_one_eq_mod _ 8
  rw [this]; omega
theorem ior_hi {x y : Int} (h0 : 0 ≤ x) (h1 : x < 256) (h2 : 0 ≤ y) (h3 : y < 36028797018963968) : ior .i64 x (y * 256) = x + 256 * y := by
  rw [ior_nat h0 (by omega) (by omega) (by omega)]
  have e : (y * 256).toNat = 2 ^ 8 * y.toNat := by omega
  have h4 := Nat.two_pow_add_eq_or_of_lt (i := 8) (b := x.toNat) (by omega) y.toNat
  rw [e, Nat.or_comm, ← h4]; omega
theorem ior_hi' {x y : Int} (h0 : 0 ≤ x) (h1 : x < 256) (h2 : 0 ≤ y) (h3 : y < 36028797018963968) : ior .i64 (y * 256) x = x + 256 * y := by
  rw [← ior_hi h0 h1 h2 h3, ior_nat (by omega) (by omega) h0 (by omega), ior_nat h0 (by omega) (by omega) (by omega), Nat.or_comm]
theorem byte_all {p : Int → Prop} (h : ∀ n : Fin 256, p (n.val : Int)) {z : Int} (h0 : 0 ≤ z) (h1 : z < 256) : p z := by
  have := h ⟨z.toNat, by omega⟩
  rwa [show ((z.toNat : Nat) : Int) = z by omega] at this
theorem wf8 {z : Int} (h : (Lit.int .u8 z).wf = true) : 0 ≤ z ∧ z < 256 := by simp [Lit.wf] at h; have := h; simp [IntKind.min, IntKind.max, IntKind.bits, IntKind.signed] at this; omega
theorem wf64 {z : Int} (h : (Lit.int .i64 z).wf = true) : -9223372036854775808 ≤ z ∧ z ≤ 9223372036854775807 := by simp [Lit.wf] at h; have := h; simp [IntKind.min, IntKind.max, IntKind.bits, IntKind.signed] at this; omega
theorem strOf_inj {a b : List Int} (ha : ∀ z ∈ a, 0 ≤ z ∧ z < 256) (hb : ∀ z ∈ b, 0 ≤ z ∧ z < 256) (h : strOf a = strOf b) : a = b := by
  have h1 : a.map (fun c => UInt8.ofNat c.toNat) = b.map (fun c => UInt8.ofNat c.toNat) := by
    have := congrArg (fun s : ByteArray => s.data.toList) h
    simpa [strOf] using this
  induction a generalizing b with
  | nil => cases b with
    | nil => rfl
    | cons _ _ => simp at h1
  | cons x a ih => cases b with
    | nil => simp at h1
    | cons y b =>
      simp only [List.map_cons, List.cons.injEq] at h1
      have hx := ha x (by simp)
      have hy := hb y (by simp)
      have e : x = y := by
        have := congrArg UInt8.toNat h1.1
        simp [UInt8.toNat_ofNat'] at this
        omega
      rw [e, ih (fun z hz => ha z (.tail _ hz)) (fun z hz => hb z (.tail _ hz)) (by simp [strOf, h1.2]) h1.2]
theorem sEq_iff {a b : List Int} (ha : ∀ z ∈ a, 0 ≤ z ∧ z < 256) (hb : ∀ z ∈ b, 0 ≤ z ∧ z < 256) : sEq a b = decide (a = b) := by
  by_cases h : a = b
  · subst h; simp [sEq_refl]
  · rw [decide_eq_false h]
    unfold sEq
    rw [beq_eq_false_iff_ne]
    intro e
    refine h (strOf_inj ha hb ?_)
    apply ByteArray.ext
    rw [ByteArray.toList_eq, ByteArray.toList_eq] at e
    exact Array.toList_inj.1 e
theorem round_eq {n m : Int} (hn : -1000000000000 ≤ n ∧ n ≤ 1000000000000 ∨ -9223372036854775808 ≤ n ∧ n ≤ 9223372036854775807) (hm : 1 ≤ m ∧ m ≤ 1073741824) : serial_round.f n m = some (n % m, m) := by
  unfold serial_round.f
  have e1 : imax 1 (imin m 1073741824) = m := by unfold imax imin; repeat' split; all_goals omega
  rw [e1, if_pos (by omega)]
  by_cases h0 : 0 ≤ n
  · rw [Int.tmod_eq_emod_of_nonneg h0, if_neg (by have := Int.emod_nonneg n (show m ≠ 0 by omega); omega)]
  · have hlt := Int.emod_lt_of_pos n (show 0 < m by omega)
    have hge := Int.emod_nonneg n (show m ≠ 0 by omega)
    have ht : n.tmod m = if n % m = 0 then 0 else n % m - m := by
      rw [Int.tmod_eq_emod]
      by_cases hd : m ∣ n
      · have : n % m = 0 := Int.emod_eq_zero_of_dvd hd
        simp [hd, this]
      · have : ¬ n % m = 0 := fun e => hd (Int.dvd_of_emod_eq_zero e)
        simp [hd, this, h0]; omega
    rw [ht]
    by_cases hz : n % m = 0
    · rw [if_pos hz, if_neg (by omega), hz]
    · rw [if_neg hz, if_pos (by omega), w64_in ⟨by omega, by omega⟩]
      congr 2; omega
theorem dist_eq {a b m : Int} (ha : -9223372036854775808 ≤ a ∧ a ≤ 9223372036854775807) (hb : -9223372036854775808 ≤ b ∧ b ≤ 9223372036854775807) (hm : 1 ≤ m ∧ m ≤ 1073741824) : serial_Dist.f a b m = some ((b - a) % m) := by
  unfold serial_Dist.f
  rw [round_eq (.inr ha) hm, bsome, round_eq (.inr hb) hm, bsome]
  have h1 := Int.emod_nonneg a (show m ≠ 0 by omega)
  have h2 := Int.emod_lt_of_pos a (show 0 < m by omega)
  have h3 := Int.emod_nonneg b (show m ≠ 0 by omega)
  have h4 := Int.emod_lt_of_pos b (show 0 < m by omega)
  dsimp only
  rw [w64_in ⟨by omega, by omega⟩, round_eq (.inl ⟨by omega, by omega⟩) hm, bsome]
  dsimp only
  rw [← Int.sub_emod]
theorem td8 {x : Int} (h : 0 ≤ x ∧ x ≤ 100000) : w64 (x.tdiv 8) = x / 8 := by
  rw [Int.tdiv_eq_ediv_of_nonneg h.1, w64_in ⟨by omega, by omega⟩]
theorem clone_eq {l : List Int} (h : (l.length : Int) ≤ 1099511627776) : slices_Clone_Sbytebyte.f l = some l := by
  unfold slices_Clone_Sbytebyte.f
  rw [if_pos (by simp; omega)]; rfl
theorem cut0 {α : Type} (l : List α) (n : Nat) : cut l 0 (n : Int) = l.take n := by simp [cut]
theorem next_eq {n m : Int} (hn : 0 ≤ n ∧ n < m) (hm : 1 ≤ m ∧ m ≤ 32768) : serial_Next.f n m = some ((n + 1) % m) := by
  unfold serial_Next.f
  rw [round_eq (.inl ⟨by omega, by omega⟩) ⟨hm.1, by omega⟩, bsome]
  dsimp only
  rw [Int.emod_eq_of_lt hn.1 hn.2, w64_in ⟨by omega, by omega⟩, round_eq (.inl ⟨by omega, by omega⟩) ⟨hm.1, by omega⟩, bsome]
/-! ### maps -/
theorem mdel_len {α : Type} : ∀ {m : List (Int × α)} {k : Int}, mhas m k = true → (mdel m k).length + 1 = m.length
  | [], _, h => by simp [mhas] at h
  | p :: m, k, h => by
    by_cases hk : p.1 = k
    · simp [mdel, hk]
    · have := mdel_len (m := m) (k := k) (by simpa [mhas, hk] using h)
      simp only [mdel, if_neg hk, List.length_cons]; omega
theorem mput_new {α : Type} {v : α} : ∀ {m : List (Int × α)} {k : Int}, mhas m k = false → mput m k v = m ++ [(k, v)]
  | [], _, _ => rfl
  | p :: m, k, h => by
    have hk : ¬ p.1 = k := fun e => by simp [mhas, e] at h
    rw [mput, if_neg hk, mput_new (by simpa [mhas, hk] using h)]; rfl
theorem mdel_eq {α : Type} : ∀ {m : List (Int × α)} {k : Int}, mhas m k = true → mdel m k = m.take (mpos m k) ++ m.drop (mpos m k + 1)
  | [], _, h => by simp [mhas] at h
  | p :: m, k, h => by
    by_cases hk : p.1 = k
    · simp [mdel, mpos, hk]
    · have := mdel_eq (m := m) (k := k) (by simpa [mhas, hk] using h)
      simp only [mdel, mpos, if_neg hk, List.take_succ_cons, List.drop_succ_cons, List.cons_append]; rw [this]
/-! ### how an order stands -/
structure OI (x : reorder_Order) (C : Nat) : Prop where
  hm : 8 ≤ x.m ∧ x.m ≤ 32768
  hwin : 1 ≤ x.window ∧ x.window ≤ x.m / 8
  hnext : 0 ≤ x.next ∧ x.next < x.m
  held : x.kept.length + x.ready.length ≤ C
theorem OI.more {x : reorder_Order} {C D : Nat} (h : OI x C) (l : C ≤ D) : OI x D := ⟨h.hm, h.hwin, h.hnext, Nat.le_trans h.held l⟩
def ost (x : reorder_Order) (n : Int) (kv : List (Int × List Int)) (r : List (List Int)) : reorder_Order := { m := x.m, window := x.window, next := n, kept := kv, ready := r }
def ostep (x : reorder_Order) : reorder_Order := ost x ((x.next + 1) % x.m) (mdel x.kept x.next) (x.ready ++ [mget x.kept x.next []])
/-- What is ready comes out of what is kept. -/
def drain : Nat → reorder_Order → Nat × reorder_Order
  | 0, x => (0, x)
  | d + 1, x => if mhas x.kept x.next = true then ((drain d (ostep x)).1 + 1, (drain d (ostep x)).2) else (0, x)
theorem ostep_oi {x : reorder_Order} {C : Nat} (h : OI x C) (hh : mhas x.kept x.next = true) : OI (ostep x) C := by
  have := h.hm
  have hl := mdel_len hh
  have := h.held
  refine ⟨h.hm, h.hwin, ⟨Int.emod_nonneg _ (by show x.m ≠ 0; omega), Int.emod_lt_of_pos _ (by show 0 < x.m; omega)⟩, ?_⟩
  show (mdel x.kept x.next).length + (x.ready ++ [_]).length ≤ C
  rw [List.length_append]; simp; omega
theorem drain_oi {C : Nat} : ∀ (d : Nat) {x : reorder_Order}, OI x C → OI (drain d x).2 C
  | 0, _, h => h
  | d + 1, x, h => by
    rw [drain]
    by_cases hh : mhas x.kept x.next = true
    · rw [if_pos hh]; exact drain_oi d (ostep_oi h hh)
    · rw [if_neg hh]; exact h
theorem loop_eq {C : Nat} (hC : C ≤ 1000000) : ∀ (d : Nat) (x : reorder_Order) (c k : Nat), OI x C → x.kept.length ≤ d → d + 1 ≤ k → c + d ≤ 1000000 →
    reorder_Order_Put.l0 k (c : Int) (mhas x.kept x.next) x (mget x.kept x.next []) = some (((c + (drain d x).1 : Nat) : Int), (drain d x).2)
  | 0, x, c, k, h, hl, hk, hc => by
    obtain ⟨k, rfl⟩ : ∃ j, k = j + 1 := ⟨k - 1, by omega⟩
    have e : x.kept = [] := List.length_eq_zero_iff.1 (by omega)
    have e2 : mhas x.kept x.next = false := by rw [e]; rfl
    rw [reorder_Order_Put.l0, if_neg (by rw [e2]; simp)]; rfl
  | d + 1, x, c, k, h, hl, hk, hc => by
    obtain ⟨k, rfl⟩ : ∃ j, k = j + 1 := ⟨k - 1, by omega⟩
    have hm := h.hm
    have hd := h.held
    rw [reorder_Order_Put.l0, drain]
    by_cases hh : mhas x.kept x.next = true
    · have hl2 := mdel_len hh
      rw [if_pos hh, if_pos hh, if_pos (by simp; omega), next_eq h.hnext ⟨by omega, hm.2⟩, bsome, w64_in ⟨by omega, by omega⟩]
      have ih := loop_eq hC d (ostep x) (c + 1) k (ostep_oi h hh) (by show (mdel x.kept x.next).length ≤ d; omega) (by omega) (by omega)
      refine Eq.trans ih ?_
      rw [show c + 1 + (drain d (ostep x)).1 = c + ((drain d (ostep x)).1 + 1) by omega]
    · rw [if_neg hh, if_neg hh]; rfl
/-- What a Put answers and leaves. -/
def putm (x : reorder_Order) (n : Int) (b : List Int) : Int × reorder_Order :=
  if (n - x.next) % x.m ≥ x.window then (-1, x) else if mhas x.kept (n % x.m) = true then (0, x) else
    (((drain (x.kept.length + 1) (ost x x.next (x.kept ++ [(n % x.m, b)]) x.ready)).1 : Int), (drain (x.kept.length + 1) (ost x x.next (x.kept ++ [(n % x.m, b)]) x.ready)).2)
theorem add_oi {x : reorder_Order} {C : Nat} (h : OI x C) (n : Int) (b : List Int) : OI (ost x x.next (x.kept ++ [(n, b)]) x.ready) (C + 1) := by
  have := h.held
  refine ⟨h.hm, h.hwin, h.hnext, ?_⟩
  show (x.kept ++ [_]).length + x.ready.length ≤ C + 1
  rw [List.length_append]; simp; omega
theorem put_oi {x : reorder_Order} {C : Nat} (h : OI x C) (n : Int) (b : List Int) : OI (putm x n b).2 (C + 1) := by
  unfold putm
  by_cases h1 : (n - x.next) % x.m ≥ x.window
  · rw [if_pos h1]; exact h.more (by omega)
  · rw [if_neg h1]
    by_cases h2 : mhas x.kept (n % x.m) = true
    · rw [if_pos h2]; exact h.more (by omega)
    · rw [if_neg h2]; exact drain_oi _ (add_oi h _ _)
theorem put_eq {x : reorder_Order} {C : Nat} (h : OI x C) (hC : C ≤ 10000) {n : Int} (hn : -9223372036854775808 ≤ n ∧ n ≤ 9223372036854775807) {b : List Int} (hb : b.length ≤ 1000000) {k : Nat} (hk : C + 5 ≤ k) :
    reorder_Order_Put.f k x n b = some (putm x n b) := by
  have hm := h.hm
  have hw := h.hwin
  have hx := h.hnext
  have hd := h.held
  unfold reorder_Order_Put.f putm
  rw [dist_eq ⟨by omega, by omega⟩ hn ⟨by omega, by omega⟩, bsome, if_pos (by omega)]
  have g1 := Int.emod_nonneg (n - x.next) (show x.m ≠ 0 by omega)
  have g2 := Int.emod_lt_of_pos (n - x.next) (show 0 < x.m by omega)
  by_cases h1 : (n - x.next) % x.m ≥ x.window
  · rw [if_pos h1, if_pos h1]
  rw [if_neg h1, if_neg h1, w64_in ⟨by omega, by omega⟩, Int.tmod_eq_emod_of_nonneg (by omega)]
  have e : (x.next + (n - x.next) % x.m) % x.m = n % x.m := by
    rw [Int.add_comm, Int.emod_add_emod, show n - x.next + x.next = n by omega]
  rw [e]
  by_cases h2 : mhas x.kept (n % x.m) = true
  · rw [if_pos h2, if_pos h2]
  rw [if_neg h2, if_neg h2, clone_eq (by omega), bsome, mput_new (by simpa using h2)]
  have := loop_eq (C := C + 1) (by omega) (x.kept.length + 1) (ost x x.next (x.kept ++ [(n % x.m, b)]) x.ready) 0 k (add_oi h _ _) (by show (x.kept ++ [_]).length ≤ _; rw [List.length_append]; simp) (by omega) (by omega)
  refine Eq.trans this ?_
  rw [Nat.zero_add]
def onew (m w : Int) : reorder_Order := { m := m, window := w, next := 0, kept := [], ready := [] }
theorem onew_oi {m w : Int} (hm : 8 ≤ m ∧ m ≤ 32768) (hw : 1 ≤ w ∧ w ≤ m / 8) : OI (onew m w) 0 := ⟨hm, hw, ⟨Int.le_refl _, by show 0 < m; omega⟩, Nat.le_refl _⟩
theorem onew_eq (m w : Int) : reorder_New.f m w = some (onew (imax 8 (imin m 32768)) (imax 1 (imin w (imax 8 (imin m 32768) / 8)))) := by
  have hM : 8 ≤ imax 8 (imin m 32768) ∧ imax 8 (imin m 32768) ≤ 32768 := by unfold imax imin; repeat' split; all_goals omega
  unfold reorder_New.f backlog_Cut.f
  rw [bsome, td8 (by omega)]; rfl
theorem onew_in {m w : Int} (hm : 8 ≤ m ∧ m ≤ 32768) (hw : 1 ≤ w ∧ w ≤ m / 8) : reorder_New.f m w = some (onew m w) := by
  have e1 : imax 8 (imin m 32768) = m := by unfold imax imin; repeat' split; all_goals omega
  have e2 : imax 1 (imin w (m / 8)) = w := by unfold imax imin; repeat' split; all_goals omega
  rw [onew_eq, e1, e2]
theorem drain_no {d : Nat} {x : reorder_Order} (h : mhas x.kept x.next = false) : drain d x = (0, x) := by
  cases d with
  | zero => rfl
  | succ d => rw [drain, if_neg (by rw [h]; simp)]
/-- What comes in its turn is ready at once. -/
theorem put_now {x : reorder_Order} {C : Nat} (h : OI x C) (hk : x.kept = []) {n : Int} (hn : n % x.m = x.next) (b : List Int) : putm x n b = (1, ost x ((x.next + 1) % x.m) [] (x.ready ++ [b])) := by
  have hm := h.hm
  have hw := h.hwin
  have e : (n - x.next) % x.m = 0 := by rw [← hn]; exact Int.emod_eq_zero_of_dvd (Int.dvd_self_sub_emod)
  unfold putm
  rw [e, if_neg (by omega), hk, if_neg (by simp [mhas]), hn]
  have e1 : drain 1 (ost x x.next [(x.next, b)] x.ready) = (1, ost x ((x.next + 1) % x.m) [] (x.ready ++ [b])) := by simp [drain, ostep, ost, mhas, mdel, mget]
  show (((drain 1 (ost x x.next [(x.next, b)] x.ready)).1 : Int), (drain 1 (ost x x.next [(x.next, b)] x.ready)).2) = _
  rw [e1]; rfl
theorem put_later {x : reorder_Order} {n : Int} (hw : (n - x.next) % x.m < x.window) (h1 : mhas x.kept (n % x.m) = false) {b : List Int} (h2 : mhas (x.kept ++ [(n % x.m, b)]) x.next = false) : putm x n b = (0, ost x x.next (x.kept ++ [(n % x.m, b)]) x.ready) := by
  unfold putm
  rw [if_neg (by omega), if_neg (by rw [h1]; simp), drain_no (x := ost x x.next (x.kept ++ [(n % x.m, b)]) x.ready) h2]; rfl
theorem mhas_none {α : Type} : ∀ {m : List (Int × α)} {k : Int}, (∀ p ∈ m, p.1 ≠ k) → mhas m k = false
  | [], _, _ => rfl
  | p :: m, k, h => by
    rw [mhas, if_neg (h p (.head _))]
    exact mhas_none fun q hq => h q (.tail _ hq)
theorem take_nil {x : reorder_Order} (h : x.ready = []) : reorder_Order_Take.f x = some ([], false, x) := by
  unfold reorder_Order_Take.f
  rw [h]; rfl
theorem take_cons {x : reorder_Order} {b : List Int} {r : List (List Int)} (h : x.ready = b :: r) : reorder_Order_Take.f x = some (b, true, ost x x.next x.kept r) := by
  unfold reorder_Order_Take.f
  rw [h]
  simp only [List.length_cons]
  rw [if_neg (by omega), if_pos (by omega), if_pos (by omega)]
  have : cut (b :: r) 1 ((r.length + 1 : Nat) : Int) = r := by simp [cut]
  rw [this]; rfl
theorem alive_eq {k : Nat} (hk : 20 ≤ k) : signalmanlaw14_alive.f k = some true := by
  unfold signalmanlaw14_alive.f
  rw [onew_in (by decide) (by decide), bsome, put_eq (onew_oi (by decide) (by decide)) (by decide) (by decide) (by decide) (by omega), bsome]
  unfold reorder_Order_Gap.f
  rw [bsome, put_eq (put_oi (onew_oi (by decide) (by decide)) 1 [98]) (by decide) (by decide) (by decide) (by omega), bsome]
  show _ = some true
  kernel_rfl
theorem emod_inj {m a b : Int} (hm : 0 < m) (h : a % m = b % m) (h1 : a - b < m) (h2 : b - a < m) : a = b := by
  have hd : m ∣ a - b := Int.dvd_of_emod_eq_zero (Int.emod_eq_emod_iff_emod_sub_eq_zero.1 h)
  obtain ⟨c, hc⟩ := hd
  by_cases h0 : c = 0
  · rw [h0, Int.mul_zero] at hc; omega
  · by_cases hp : 0 < c
    · have : m * 1 ≤ m * c := Int.mul_le_mul_of_nonneg_left (by omega) (by omega)
      omega
    · have : m * 1 ≤ m * (-c) := Int.mul_le_mul_of_nonneg_left (by omega) (by omega)
      rw [Int.mul_neg] at this
      omega
def val (j : Int) : List Int := [IntKind.u8.wrap j, IntKind.u8.wrap (j.fdiv (2 ^ (min ((8 : Int)).toNat IntKind.i64.bits)))]
def vals : Nat → Nat → List (List Int)
  | _, 0 => []
  | i, n + 1 => val (i : Int) :: vals (i + 1) n
theorem vals_snoc : ∀ (n i : Nat), vals i (n + 1) = vals i n ++ [val ((i + n : Nat) : Int)]
  | 0, i => rfl
  | n + 1, i => by
    rw [vals, vals_snoc n (i + 1)]
    show _ = val (i : Int) :: vals (i + 1) n ++ _
    rw [show i + 1 + n = i + (n + 1) by omega]; rfl
/-! ### more of maps -/
theorem mhas_mem {α : Type} {d : α} : ∀ {m : List (Int × α)} {k : Int}, mhas m k = true → ∃ p ∈ m, p.1 = k ∧ mget m k d = p.2
  | [], _, h => by simp [mhas] at h
  | p :: m, k, h => by
    by_cases hk : p.1 = k
    · exact ⟨p, .head _, hk, by rw [mget, if_pos hk]⟩
    · obtain ⟨q, h1, h2, h3⟩ := mhas_mem (d := d) (m := m) (k := k) (by simpa [mhas, hk] using h)
      exact ⟨q, .tail _ h1, h2, by rw [mget, if_neg hk, h3]⟩
theorem mhas_mdel {α : Type} {q : Int} : ∀ {m : List (Int × α)} {k : Int}, q ≠ k → mhas (mdel m k) q = mhas m q
  | [], _, _ => rfl
  | p :: m, k, h => by
    by_cases hk : p.1 = k
    · rw [mdel, if_pos hk, mhas, if_neg (by rw [hk]; exact fun e => h e.symm)]
    · rw [mdel, if_neg hk, mhas, mhas, mhas_mdel h]
theorem mdel_sub {α : Type} : ∀ (m : List (Int × α)) (k : Int), (mdel m k).Sublist m
  | [], _ => .slnil
  | p :: m, k => by
    by_cases hk : p.1 = k
    · rw [mdel, if_pos hk]; exact .cons _ (List.Sublist.refl _)
    · rw [mdel, if_neg hk]; exact .cons₂ _ (mdel_sub m k)
theorem mdel_mem {α : Type} : ∀ {m : List (Int × α)} {k : Int} {p : Int × α}, (m.map (·.1)).Nodup → p ∈ mdel m k → p.1 ≠ k
  | [], _, _, _, h => by cases h
  | q :: m, k, p, hn, h => by
    rw [List.map_cons, List.nodup_cons] at hn
    by_cases hk : q.1 = k
    · rw [mdel, if_pos hk] at h
      intro e
      exact hn.1 (List.mem_map.2 ⟨p, h, by rw [e, hk]⟩)
    · rw [mdel, if_neg hk] at h
      rcases List.mem_cons.1 h with h | h
      · rw [h]; exact hk
      · exact mdel_mem hn.2 h
theorem mhas_app {α : Type} {p : Int × α} {q : Int} : ∀ {m : List (Int × α)}, mhas (m ++ [p]) q = (mhas m q || decide (p.1 = q))
  | [] => by
    show (if p.1 = q then true else mhas [] q) = _
    by_cases h : p.1 = q <;> simp [h, mhas]
  | r :: m => by
    show (if r.1 = q then true else mhas (m ++ [p]) q) = ((if r.1 = q then true else mhas m q) || _)
    rw [mhas_app (m := m)]
    by_cases h : r.1 = q <;> simp [h]
theorem mhas_key {α : Type} : ∀ {m : List (Int × α)} {k : Int}, k ∈ m.map (·.1) → mhas m k = true
  | [], _, h => by simp at h
  | p :: m, k, h => by
    rw [List.map_cons] at h
    rcases List.mem_cons.1 h with h | h
    · rw [mhas, if_pos h.symm]
    · rw [mhas]; split
      · rfl
      · exact mhas_key h
/-! ### what came, and how the order stands -/
structure SI (m w : Int) (n nx : Nat) (came : List Bool) (x : reorder_Order) : Prop where
  sm : x.m = m
  sw : x.window = w
  snext : x.next = (nx : Int) % m
  slen : came.length = n + 1
  snx : nx ≤ n
  low : ∀ j : Nat, j < nx → came.getD j false = true
  high : ∀ j : Nat, (nx : Int) + w ≤ j → came.getD j false = false
  top : came.getD n false = false
  has : ∀ j : Nat, nx ≤ j → (j : Int) < nx + w → mhas x.kept ((j : Int) % m) = came.getD j false
  keys : ∀ p ∈ x.kept, ∃ j : Nat, nx ≤ j ∧ (j : Int) < nx + w ∧ p.1 = (j : Int) % m ∧ p.2 = val (j : Int)
  nd : (x.kept.map (·.1)).Nodup
  srdy : x.ready = vals 0 nx
theorem si_step {m w : Int} {n nx : Nat} {came : List Bool} {x : reorder_Order} (hm : 8 ≤ m) (hw : 1 ≤ w ∧ w ≤ m / 8) (h : SI m w n nx came x) (hc : came.getD nx false = true) : SI m w n (nx + 1) came (ostep x) := by
  have hn : nx ≠ n := fun e => by rw [e] at hc; rw [h.top] at hc; cases hc
  have hsn := h.snx
  have hhas := h.has nx (Nat.le_refl _) (by omega)
  rw [hc] at hhas
  have hget : mget x.kept x.next [] = val (nx : Int) := by
    rw [h.snext]
    obtain ⟨p, p1, p2, p3⟩ := mhas_mem (d := ([] : List Int)) hhas
    obtain ⟨j, j1, j2, j3, j4⟩ := h.keys p p1
    have : (j : Int) = nx := emod_inj (m := m) (by omega) (by rw [← j3, p2]) (by omega) (by omega)
    rw [p3, j4, this]
  refine ⟨h.sm, h.sw, ?_, h.slen, by omega, ?_, ?_, h.top, ?_, ?_, ?_, ?_⟩
  · show (x.next + 1) % x.m = _
    rw [h.sm, h.snext, Int.emod_add_emod]; rfl
  · intro j hj
    by_cases e : j = nx
    · rw [e]; exact hc
    · exact h.low j (by omega)
  · exact fun j hj => h.high j (by omega)
  · intro j h1 h2
    show mhas (mdel x.kept x.next) _ = _
    have hne : (j : Int) % m ≠ x.next := by
      rw [h.snext]
      intro e
      have := emod_inj (m := m) (a := (j : Int)) (b := (nx : Int)) (by omega) e (by omega) (by omega)
      omega
    rw [mhas_mdel hne]
    by_cases e : (j : Int) < nx + w
    · exact h.has j (by omega) e
    · rw [h.high j (by omega)]
      refine mhas_none fun p hp => ?_
      obtain ⟨i, i1, i2, i3, i4⟩ := h.keys p hp
      rw [i3]
      intro e2
      have := emod_inj (m := m) (a := (i : Int)) (b := (j : Int)) (by omega) e2 (by omega) (by omega)
      omega
  · intro p hp
    have hp' : p ∈ mdel x.kept x.next := hp
    obtain ⟨i, i1, i2, i3, i4⟩ := h.keys p ((mdel_sub _ _).subset hp')
    have hne := mdel_mem h.nd hp'
    refine ⟨i, ?_, by omega, i3, i4⟩
    by_cases e : i = nx
    · exact absurd (by rw [i3, h.snext, e]) hne
    · omega
  · show ((mdel x.kept x.next).map (·.1)).Nodup
    exact ((mdel_sub _ _).map _).nodup h.nd
  · show x.ready ++ [mget x.kept x.next []] = _
    rw [h.srdy, hget, vals_snoc, Nat.zero_add]
theorem si_drain {m w : Int} {n : Nat} {came : List Bool} (hm : 8 ≤ m) (hw : 1 ≤ w ∧ w ≤ m / 8) : ∀ (d : Nat) {nx : Nat} {x : reorder_Order}, SI m w n nx came x → x.kept.length ≤ d →
    ∃ r : Nat, (drain d x).1 = r ∧ SI m w n (nx + r) came (drain d x).2 ∧ came.getD (nx + r) false = false ∧ ∀ j, j < r → came.getD (nx + j) false = true
  | 0, nx, x, h, hl => by
    have e : x.kept = [] := List.length_eq_zero_iff.1 (by omega)
    have hh := h.has nx (Nat.le_refl _) (by omega)
    rw [e] at hh
    exact ⟨0, rfl, h, hh.symm, fun j hj => by omega⟩
  | d + 1, nx, x, h, hl => by
    have hh := h.has nx (Nat.le_refl _) (by omega)
    rw [← h.snext] at hh
    rw [drain]
    by_cases hc : mhas x.kept x.next = true
    · rw [if_pos hc]
      have hl2 := mdel_len hc
      rw [hc] at hh
      obtain ⟨r, r1, r2, r3, r4⟩ := si_drain hm hw d (si_step hm hw h hh.symm) (by show (mdel x.kept x.next).length ≤ d; omega)
      refine ⟨r + 1, by rw [r1], by rw [show nx + (r + 1) = nx + 1 + r by omega]; exact r2, by rw [show nx + (r + 1) = nx + 1 + r by omega]; exact r3, ?_⟩
      intro j hj
      cases j with
      | zero => exact hh.symm
      | succ j => rw [show nx + (j + 1) = nx + 1 + j by omega]; exact r4 j (by omega)
    · rw [if_neg hc]
      have : mhas x.kept x.next = false := by simpa using hc
      rw [this] at hh
      exact ⟨0, rfl, h, hh.symm, fun j hj => by omega⟩
theorem set_getD {l : List Bool} {k j : Nat} (hk : k < l.length) : (l.set k true).getD j false = if k = j then true else l.getD j false := by
  simp only [List.getD_eq_getElem?_getD, List.getElem?_set]
  by_cases h : k = j
  · subst h; simp [hk]
  · simp [h]
theorem si_add {m w : Int} {n nx k : Nat} {came : List Bool} {x : reorder_Order} (hm : 8 ≤ m) (hw : 1 ≤ w ∧ w ≤ m / 8) (h : SI m w n nx came x) (h1 : nx ≤ k) (h2 : (k : Int) < nx + w) (h3 : k < n) (hc : came.getD k false = false) :
    SI m w n nx (came.set k true) (ost x x.next (x.kept ++ [((k : Int) % m, val (k : Int))]) x.ready) := by
  have hl : k < came.length := by rw [h.slen]; omega
  refine ⟨h.sm, h.sw, h.snext, by rw [List.length_set]; exact h.slen, h.snx, ?_, ?_, ?_, ?_, ?_, ?_, h.srdy⟩
  · intro j hj; rw [set_getD hl, if_neg (by omega)]; exact h.low j hj
  · intro j hj; rw [set_getD hl, if_neg (by omega)]; exact h.high j hj
  · rw [set_getD hl, if_neg (by omega)]; exact h.top
  · intro j j1 j2
    show mhas (x.kept ++ [_]) _ = _
    rw [mhas_app, h.has j j1 j2, set_getD hl]
    by_cases e : k = j
    · subst e; simp
    · have hne : ¬ (k : Int) % m = (j : Int) % m := fun e2 => by
        have := emod_inj (m := m) (a := (k : Int)) (b := (j : Int)) (by omega) e2 (by omega) (by omega)
        omega
      rw [if_neg e]; simp [hne]
  · intro p hp
    rcases List.mem_append.1 (show p ∈ x.kept ++ [_] from hp) with hp | hp
    · exact h.keys p hp
    · rw [List.mem_singleton] at hp
      exact ⟨k, h1, h2, by rw [hp], by rw [hp]⟩
  · show ((x.kept ++ [((k : Int) % m, val (k : Int))]).map (·.1)).Nodup
    rw [List.map_append, List.nodup_append]
    refine ⟨h.nd, by simp, ?_⟩
    intro a ha b hb
    simp at hb
    subst hb
    intro e
    have := mhas_key ha
    rw [e, h.has k h1 h2, hc] at this
    cases this
theorem set_same {l : List Bool} {k : Nat} (h : l.getD k false = true) : l.set k true = l := by
  have hk : k < l.length := by
    by_cases hk : k < l.length
    · exact hk
    · rw [List.getD_eq_getElem?_getD, List.getElem?_eq_none (by omega)] at h; cases h
  apply List.ext_getElem?
  intro i
  rw [List.getElem?_set]
  by_cases e : k = i
  · subst e
    rw [List.getD_eq_getElem?_getD, List.getElem?_eq_getElem hk] at h
    simp at h
    simp [hk, h]
  · simp [e]
theorem iand15 (x : Int) : 0 ≤ iand .i64 x 15 ∧ iand .i64 x 15 ≤ 15 := by
  unfold iand
  have h1 : (BitVec.ofInt 64 x &&& BitVec.ofInt 64 15).toNat ≤ 15 := by
    rw [BitVec.toNat_and]
    exact Nat.le_trans Nat.and_le_right (by decide)
  have := w64_in (n := ((BitVec.ofInt 64 x &&& BitVec.ofInt 64 15).toNat : Int)) ⟨by omega, by omega⟩
  have e : IntKind.i64.wrap ((BitVec.ofInt 64 x &&& BitVec.ofInt 64 15).toNat : Int) = ((BitVec.ofInt 64 x &&& BitVec.ofInt 64 15).toNat : Int) := this
  show 0 ≤ IntKind.i64.wrap _ ∧ IntKind.i64.wrap _ ≤ 15
  have e2 : IntKind.i64.wrap (((BitVec.ofInt IntKind.i64.bits x &&& BitVec.ofInt IntKind.i64.bits 15).toNat : Nat) : Int) = ((BitVec.ofInt 64 x &&& BitVec.ofInt 64 15).toNat : Int) := e
  rw [e2]; omega
/-! ### the walk's loops -/
theorem l7_eq {m w : Int} {nx : Nat} (hm : 8 ≤ m ∧ m ≤ 256) (hnx : nx ≤ 400) : ∀ (d i : Nat) (x : reorder_Order) (k : Nat), i + d = nx → x.ready = vals i d → x.next = (nx : Int) % m → d + 1 ≤ k → signalmanlaw14_ReorderSorts.l7 k m nx i x = some true
  | 0, i, x, k, hi, h, hxn, hk => by
    obtain ⟨k, rfl⟩ : ∃ j, k = j + 1 := ⟨k - 1, by omega⟩
    rw [signalmanlaw14_ReorderSorts.l7, if_neg (by omega), take_nil h, bsome]
    dsimp only
    unfold reorder_Order_Next.f
    rw [if_neg (by simp), if_pos (by omega), bsome, Int.tmod_eq_emod_of_nonneg (by omega), hxn]; simp
  | d + 1, i, x, k, hi, h, hxn, hk => by
    obtain ⟨k, rfl⟩ : ∃ j, k = j + 1 := ⟨k - 1, by omega⟩
    have h' : x.ready = val (i : Int) :: vals (i + 1) d := h
    rw [signalmanlaw14_ReorderSorts.l7, if_pos (by omega), take_cons h', bsome]
    dsimp only
    rw [if_pos rfl]
    show signalmanlaw14_ReorderSorts.j8 (i : Int) (val (i : Int), true, _) _ (!(sEq (val (i : Int)) (val (i : Int)))) = _
    rw [sEq_refl]
    unfold signalmanlaw14_ReorderSorts.j8
    rw [if_neg (by simp), w64_in ⟨by omega, by omega⟩]
    exact l7_eq (w := w) hm hnx d (i + 1) _ k (by omega) rfl hxn (by omega)
/-- The count goes on over what came. -/
theorem l3_eq {n : Nat} {nx : Nat} {i kk : Int} {came : List Bool} {t : Int × reorder_Order} {Lq : Int → Int → List Bool → reorder_Order → Option Bool} {fr : Bool} (hn : n ≤ 400) (hi : 0 ≤ i ∧ i ≤ 800)
    {c2 : List Bool} (hset : came.set kk.toNat true = c2) (hc2 : c2.length = n + 1) : ∀ (r j k : Nat), nx + j + r ≤ n → (∀ q, q < r → c2.getD (nx + j + q) false = true) → c2.getD (nx + j + r) false = false → r + 1 ≤ k →
    signalmanlaw14_ReorderSorts.l3 k n i came kk t Lq fr ((nx + j : Nat) : Int) (j : Int) =
      (if t.1 = (if kk < (nx : Int) then -1 else if fr = true then ((j + r : Nat) : Int) else 0) then Lq ((nx + j + r : Nat) : Int) (i + 1) c2 t.2 else some false)
  | 0, j, k, hle, h1, h2, hk => by
    obtain ⟨k, rfl⟩ : ∃ q, k = q + 1 := ⟨k - 1, by omega⟩
    have hi1 : w64 (i + 1) = i + 1 := w64_in ⟨by omega, by omega⟩
    have hw : w64 (((nx + j : Nat) : Int) - (j : Int)) = (nx : Int) := by rw [w64_in ⟨by omega, by omega⟩]; omega
    rw [Nat.add_zero] at h2
    have fin : ∀ L, signalmanlaw14_ReorderSorts.j4 i came kk t fr ((nx + j : Nat) : Int) (j : Int) Lq L false = (if t.1 = (if kk < (nx : Int) then -1 else if fr = true then ((j + 0 : Nat) : Int) else 0) then Lq ((nx + j + 0 : Nat) : Int) (i + 1) c2 t.2 else some false) := by
      intro L
      unfold signalmanlaw14_ReorderSorts.j4 signalmanlaw14_ReorderSorts.j5 signalmanlaw14_ReorderSorts.j6
      rw [if_neg (show ¬ (false = true) by simp), hset, hi1, hw, Nat.add_zero, Nat.add_zero]
      cases fr <;> by_cases h : kk < (nx : Int) <;> simp [h]
    rw [signalmanlaw14_ReorderSorts.l3, hset]
    by_cases c : ((nx + j : Nat) : Int) < (n : Int)
    · rw [if_pos c, if_pos ⟨by omega, by omega⟩, Int.toNat_natCast, h2]; exact fin _
    · rw [if_neg c]; exact fin _
  | r + 1, j, k, hle, h1, h2, hk => by
    obtain ⟨k, rfl⟩ : ∃ q, k = q + 1 := ⟨k - 1, by omega⟩
    have h0 := h1 0 (by omega)
    rw [Nat.add_zero] at h0
    have hr := l3_eq (nx := nx) (i := i) (t := t) (Lq := Lq) (fr := fr) hn hi hset hc2 r (j + 1) k (by omega) (fun q hq => by rw [show nx + (j + 1) + q = nx + j + (q + 1) by omega]; exact h1 (q + 1) (by omega)) (by rw [show nx + (j + 1) + r = nx + j + (r + 1) by omega]; exact h2) (by omega)
    rw [signalmanlaw14_ReorderSorts.l3, hset, if_pos (by omega), if_pos ⟨by omega, by omega⟩, Int.toNat_natCast, h0]
    unfold signalmanlaw14_ReorderSorts.j4
    rw [if_pos (show true = true from rfl), w64_in ⟨by omega, by omega⟩, w64_in ⟨by omega, by omega⟩]
    rw [show nx + (j + 1) + r = nx + j + (r + 1) by omega, show j + 1 + r = j + (r + 1) by omega] at hr
    exact hr
theorem l0_eq {m w : Int} {n : Nat} {l : List Int} (hm : 8 ≤ m ∧ m ≤ 256) (hw : 1 ≤ w ∧ w ≤ m / 8) (hn : n ≤ 400) (hl : l.length ≤ 800) : ∀ (d i nx : Nat) (came : List Bool) (x : reorder_Order) (k : Nat), i + d = l.length → SI m w n nx came x → OI x i → came.getD nx false = false → 2000 + d ≤ k →
    signalmanlaw14_ReorderSorts.l0 k m w n l nx i came x = some true
  | 0, i, nx, came, x, k, hi, h, ho, hc, hk => by
    obtain ⟨k, rfl⟩ : ∃ j, k = j + 1 := ⟨k - 1, by omega⟩
    have hnx := h.snx
    rw [signalmanlaw14_ReorderSorts.l0, if_neg (by omega)]
    exact l7_eq (w := w) hm (by omega) nx 0 x k (by omega) h.srdy h.snext (by omega)
  | d + 1, i, nx, came, x, k, hi, h, ho, hc, hk => by
    obtain ⟨k, rfl⟩ : ∃ j, k = j + 1 := ⟨k - 1, by omega⟩
    have hnx := h.snx
    have hg := iand15 (l.getD (i : Int).toNat 0)
    obtain ⟨kk, hkk⟩ : ∃ kk, w64 (w64 ((nx : Int) + iand .i64 (l.getD (i : Int).toNat 0) 15) - 3) = kk := ⟨_, rfl⟩
    have hkb : kk = (nx : Int) + iand .i64 (l.getD (i : Int).toNat 0) 15 - 3 := by
      rw [← hkk, w64_in (n := (nx : Int) + iand .i64 (l.getD (i : Int).toNat 0) 15) ⟨by omega, by omega⟩, w64_in ⟨by omega, by omega⟩]
    have skip : signalmanlaw14_ReorderSorts.j1 k m n nx i came x (signalmanlaw14_ReorderSorts.l0 k m w n l) kk true = some true := by
      unfold signalmanlaw14_ReorderSorts.j1
      rw [if_pos rfl, w64_in ⟨by omega, by omega⟩]
      exact l0_eq hm hw hn hl d (i + 1) nx came x k (by omega) h (ho.more (by omega)) hc (by omega)
    rw [signalmanlaw14_ReorderSorts.l0, if_pos (by omega), if_pos ⟨by omega, by omega⟩, hkk, w64_in (n := (nx : Int) + w) ⟨by omega, by omega⟩, Int.tdiv_eq_ediv_of_nonneg (by omega), w64_in (n := m / 2) ⟨by omega, by omega⟩, w64_in (n := (nx : Int) - m / 2) ⟨by omega, by omega⟩]
    by_cases c1 : kk < 0
    · rw [if_pos c1]; exact skip
    rw [if_neg c1]
    by_cases c2 : kk ≥ (n : Int)
    · rw [if_pos c2]; exact skip
    rw [if_neg c2]
    by_cases c3 : kk ≥ (nx : Int) + w
    · rw [if_pos c3]; exact skip
    rw [if_neg c3]
    by_cases c4 : kk < (nx : Int) - m / 2
    · rw [decide_eq_true c4]; exact skip
    rw [decide_eq_false c4]
    unfold signalmanlaw14_ReorderSorts.j1
    rw [if_neg (by simp), if_pos (by omega), Int.tmod_eq_emod_of_nonneg (by omega)]
    have g1 := Int.emod_nonneg kk (show m ≠ 0 by omega)
    have g2 := Int.emod_lt_of_pos kk (show 0 < m by omega)
    have hoi := put_oi ho (kk % m) (val kk)
    show ((reorder_Order_Put.f k x (kk % m) (val kk)).bind _) = _
    rw [put_eq ho (by omega) ⟨by omega, by omega⟩ (by simp [val]) (by omega), bsome]
    have hlen : (came.length : Int) = (n : Int) + 1 := by have := h.slen; omega
    have hdist : (kk % m - x.next) % x.m = (kk - nx) % m := by rw [h.sm, h.snext, ← Int.sub_emod]
    have hkey : kk % m % x.m = kk % m := by rw [h.sm]; exact Int.emod_emod_of_dvd _ (Int.dvd_refl m)
    obtain ⟨kn, hkn⟩ : ∃ kn : Nat, kk = (kn : Int) := ⟨kk.toNat, by omega⟩
    have hkt : kk.toNat = kn := by omega
    have hb : 0 ≤ kk ∧ kk < (came.length : Int) := ⟨by omega, by omega⟩
    by_cases c5 : kk ≥ (nx : Int)
    · rw [if_pos c5, if_pos hb]
      unfold signalmanlaw14_ReorderSorts.j2
      rw [if_pos hb]
      have hd2 : (kk - nx) % m = kk - nx := Int.emod_eq_of_lt (by omega) (by omega)
      have hhas := h.has kn (by omega) (by omega)
      by_cases c6 : came.getD kn false = true
      · -- it is kept already
        have e : putm x (kk % m) (val kk) = (0, x) := by
          unfold putm
          rw [hdist, hd2, h.sw, if_neg (by omega), hkey, hkn, hhas, c6, if_pos rfl]
        rw [e] at hoi ⊢
        refine Eq.trans (l3_eq (n := n) (nx := nx) (i := (i : Int)) (kk := kk) (came := came) (t := (0, x)) hn ⟨by omega, by omega⟩ (c2 := came) (by rw [hkt]; exact set_same c6) h.slen 0 0 k (by omega) (fun q hq => by omega) (by simpa using hc) (by omega)) ?_
        rw [hkt, c6, if_neg (show ¬ kk < (nx : Int) by omega), if_neg (show ¬ ((!true) = true) by simp), if_pos rfl]
        exact l0_eq hm hw hn hl d (i + 1) nx came x k (by omega) h hoi hc (by omega)
      · have c6' : came.getD kn false = false := by simpa using c6
        have hlt : kn < came.length := by omega
        have hadd := si_add hm.1 hw h (k := kn) (by omega) (by omega) (by omega) c6'
        obtain ⟨r, r1, r2, r3, r4⟩ := si_drain hm.1 hw (x.kept.length + 1) hadd (by show (x.kept ++ [_]).length ≤ _; rw [List.length_append]; simp)
        have e : putm x (kk % m) (val kk) = ((r : Int), (drain (x.kept.length + 1) (ost x x.next (x.kept ++ [((kn : Int) % m, val (kn : Int))]) x.ready)).2) := by
          unfold putm
          rw [hdist, hd2, h.sw, if_neg (by omega), hkey, hkn, hhas, c6', if_neg (by simp), r1]
        rw [e] at hoi ⊢
        generalize (drain (x.kept.length + 1) (ost x x.next (x.kept ++ [((kn : Int) % m, val (kn : Int))]) x.ready)).2 = y at *
        have hs2 := r2.snx
        refine Eq.trans (l3_eq (n := n) (nx := nx) (i := (i : Int)) (kk := kk) (came := came) (t := ((r : Int), y)) hn ⟨by omega, by omega⟩ (c2 := came.set kn true) (by rw [hkt]) r2.slen r 0 k (by omega) (fun q hq => by simpa using r4 q hq) (by simpa using r3) (by omega)) ?_
        rw [hkt, c6', if_neg (show ¬ kk < (nx : Int) by omega), if_pos (show (!false) = true from rfl), Nat.zero_add, if_pos rfl]
        exact l0_eq hm hw hn hl d (i + 1) (nx + r) (came.set kn true) y k (by omega) r2 hoi r3 (by omega)
    · rw [if_neg c5]
      unfold signalmanlaw14_ReorderSorts.j2
      rw [if_pos hb]
      have hd2 : (kk - nx) % m = kk - nx + m := by
        rw [← Int.add_emod_right]; exact Int.emod_eq_of_lt (by omega) (by omega)
      have e : putm x (kk % m) (val kk) = (-1, x) := by
        unfold putm
        rw [hdist, hd2, h.sw, if_pos (by omega)]
      rw [e] at hoi ⊢
      refine Eq.trans (l3_eq (n := n) (nx := nx) (i := (i : Int)) (kk := kk) (came := came) (t := (-1, x)) hn ⟨by omega, by omega⟩ (c2 := came) (by rw [hkt]; exact set_same (h.low kn (by omega))) h.slen 0 0 k (by omega) (fun q hq => by omega) (by simpa using hc) (by omega)) ?_
      rw [if_pos (show kk < (nx : Int) by omega), if_pos rfl]
      exact l0_eq hm hw hn hl d (i + 1) nx came x k (by omega) h hoi hc (by omega)
theorem ReorderSorts : signalmanlaw14_ReorderSorts.Pure := by
  intro m w n l w0 w1 w2 w3 w4
  obtain ⟨K, hK⟩ : ∃ K : Nat, 1000000 ≤ K := ⟨1000000, Nat.le_refl _⟩
  refine ⟨K, ?_⟩
  unfold signalmanlaw14_ReorderSorts.f
  rw [alive_eq (by omega), bsome, if_pos rfl]
  by_cases c1 : m < 8
  · rw [if_pos c1]
  rw [if_neg c1]
  by_cases c2 : m > 256
  · rw [if_pos c2]
  rw [if_neg c2]
  by_cases c3 : w < 1
  · rw [if_pos c3]
  rw [if_neg c3, td8 ⟨by omega, by omega⟩]
  by_cases c4 : w > m / 8
  · rw [if_pos c4]
  rw [if_neg c4]
  by_cases c5 : n < 0
  · rw [if_pos c5]
  rw [if_neg c5]
  by_cases c6 : n > 400
  · rw [if_pos c6]
  rw [if_neg c6]
  by_cases c7 : (l.length : Int) > 800
  · rw [if_pos c7]
  rw [if_neg c7, onew_in ⟨by omega, by omega⟩ ⟨by omega, by omega⟩, bsome, w64_in ⟨by omega, by omega⟩, if_pos ⟨by omega, by omega⟩]
  obtain ⟨N, hN⟩ : ∃ N : Nat, n = (N : Int) := ⟨n.toNat, by omega⟩
  have hr : ∀ j : Nat, (List.replicate (n + 1).toNat false).getD j false = false := by
    intro j
    rw [List.getD_eq_getElem?_getD, List.getElem?_replicate]
    split <;> rfl
  rw [hN] at hr ⊢
  exact l0_eq ⟨by omega, by omega⟩ ⟨by omega, by omega⟩ (by omega) (by omega) l.length 0 0 _ _ K (by omega)
    ⟨rfl, rfl, by show (0 : Int) = ((0 : Nat) : Int) % m; simp, by rw [List.length_replicate]; omega, by omega, fun j hj => by omega, fun j _ => hr j, hr N, fun j _ _ => by rw [hr j]; rfl, (fun p hp => nomatch hp), List.nodup_nil, rfl⟩
    (onew_oi ⟨by omega, by omega⟩ ⟨by omega, by omega⟩) (hr 0) (by omega)
end Go.Proofs.Ytcjmffcpldjbpaa

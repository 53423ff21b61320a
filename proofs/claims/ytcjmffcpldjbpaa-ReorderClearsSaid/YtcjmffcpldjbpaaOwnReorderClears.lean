/- ReorderClears: after Clear, messages that were ready are still ready, and everything else begins anew. Conditions: none beyond those of the given statement. -/
import Derived.Test.YtcjmffcpldjbpaaRunReorderClears
import Derived.KernelRfl
set_option linter.all false
namespace Go.Proofs.Ytcjmffcpldjbpaa
open Go.RowKit Go.Proofs.Ytcjmffcpldjbpaa.Walk
theorem bsome {α β : Type} (x : α) (g : α → Option β) : (some x).bind g = g x := Eq.trans (b := g x) rfl (Eq.symm rfl)
theorem u8w (x : Int) : IntKind.u8.wrap x = x % 256 := by
  simp [IntKind.wrap, IntKind.bits, IntKind.signed]
theorem i64nat {x : Int} (h0 : 0 ≤ x) (h1 : x < 9223372036854775808) : BitVec.ofInt 64 x = BitVec.ofNat 64 x.toNat := by
  apply BitVec.eq_of_toNat_eq
  simp [BitVec.toNat_ofInt]
  omega
theorem iand_nat {x y : Int} (h0 : 0 ≤ x) (h1 : x < 9223372036854775808) (h2 : 0 ≤ y) (h3 : y < 9223372036854775808) : iand .i64 x y = ((x.toNat &&& y.toNat : Nat) : Int) := by
  unfold iand
  show IntKind.i64.wrap (BitVec.ofInt 64 x &&& BitVec.ofInt 64 y).toNat = _
  rw [i64nat h0 h1, i64nat h2 h3, BitVec.toNat_and]
  simp only [BitVec.toNat_ofNat]
  rw [Nat.mod_eq_of_lt (by omega), Nat.mod_eq_of_lt (by omega)]
  have h4 : x.toNat &&& y.toNat ≤ x.toNat := Nat.and_le_left
  have := w64_in (n := ((x.toNat &&& y.toNat : Nat) : Int)) (by omega)
  exact this
theorem ior_nat {x y : Int} (h0 : 0 ≤ x) (h1 : x < 9223372036854775808) (h2 : 0 ≤ y) (h3 : y < 9223372036854775808) : ior .i64 x y = ((x.toNat ||| y.toNat : Nat) : Int) := by
  unfold ior
  show IntKind.i64.wrap (BitVec.ofInt 64 x ||| BitVec.ofInt 64 y).toNat = _
  rw [i64nat h0 h1, i64nat h2 h3, BitVec.toNat_or]
  simp only [BitVec.toNat_ofNat]
  rw [Nat.mod_eq_of_lt (by omega), Nat.mod_eq_of_lt (by omega)]
  have h4 : x.toNat ||| y.toNat < 2 ^ 63 := Nat.or_lt_two_pow (by omega) (by omega)
  have := w64_in (n := ((x.toNat ||| y.toNat : Nat) : Int)) (by omega)
  exact this
theorem iand_1 {x : Int} (h0 : 0 ≤ x) (h1 : x < 9223372036854775808) : iand .i64 x 1 = x % 2 := by
  rw [iand_nat h0 h1 (by omega) (by omega)]
  have : x.toNat &&& (1 : Int).toNat = x.toNat % 2 := Nat.and_one_is_mod _
  rw [this]; omega
theorem iand_255 {x : Int} (h0 : 0 ≤ x) (h1 : x < 9223372036854775808) : iand .i64 x 255 = x % 256 := by
  rw [iand_nat h0 h1 (by omega) (by omega)]
  have : x.toNat &&& (255 : Int).toNat = x.toNat % 256 := Nat.and_two_pow_sub_one_eq_mod _ 8
  rw [this]; omega
theorem ior_hi {x y : Int} (h0 : 0 ≤ x) (h1 : x < 256) (h2 : 0 ≤ y) (h3 : y < 36028797018963968) : ior .i64 x (y * 256) = x + 256 * y := by
  rw [ior_nat h0 (by omega) (by omega) (by omega)]
  have e : (y * 256).toNat = 2 ^ 8 * y.toNat := by omega
  have h4 := Nat.two_pow_add_eq_or_of_lt (i := 8) (b := x.toNat) (by omega) y.toNat
  rw [e, Nat.or_comm, ← h4]; omega
theorem ior_hi' {x y : Int} (h0 : 0 ≤ x) (h1 : x < 256) (h2 : 0 ≤ y) (h3 : y < 36028797018963968) : ior .i64 (y * 256) x = x + 256 * y := by
  rw [← ior_hi h0 h1 h2 h3, ior_nat (by omega) (by omega) h0 (by omega), ior_nat h0 (by omega) (by omega) (by omega), Nat.or_comm]
theorem byte_all {p : Int → Prop} (h : ∀ n : Fin 256, p (n.val : Int)) {z : Int} (h0 : 0 ≤ z) (h1 : z < 256) : p z := by
  have := h ⟨z.toNat, by omega⟩
  rwa [show ((z.toNat : Nat) : Int) = z by omega] at this
theorem wf8 {z : Int} (h : (Lit.int .u8 z).wf = true) : 0 ≤ z ∧ z < 256 := by simp [Lit.wf] at h; have := h; simp [IntKind.min, IntKind.max, IntKind.bits, IntKind.signed] at this; omega
theorem wf64 {z : Int} (h : (Lit.int .i64 z).wf = true) : -9223372036854775808 ≤ z ∧ z ≤ 9223372036854775807 := by simp [Lit.wf] at h; have := h; simp [IntKind.min, IntKind.max, IntKind.bits, IntKind.signed] at this; omega
theorem strOf_inj {a b : List Int} (ha : ∀ z ∈ a, 0 ≤ z ∧ z < 256) (hb : ∀ z ∈ b, 0 ≤ z ∧ z < 256) (h : strOf a = strOf b) : a = b := by
  have h1 : a.map (fun c => UInt8.ofNat c.toNat) = b.map (fun c => UInt8.ofNat c.toNat) := by
    have := congrArg (fun s : ByteArray => s.data.toList) h
    simpa [strOf] using this
  induction a generalizing b with
  | nil => cases b with
    | nil => rfl
    | cons _ _ => simp at h1
  | cons x a ih => cases b with
    | nil => simp at h1
    | cons y b =>
      simp only [List.map_cons, List.cons.injEq] at h1
      have hx := ha x (by simp)
      have hy := hb y (by simp)
      have e : x = y := by
        have := congrArg UInt8.toNat h1.1
        simp [UInt8.toNat_ofNat'] at this
        omega
      rw [e, ih (fun z hz => ha z (.tail _ hz)) (fun z hz => hb z (.tail _ hz)) (by simp [strOf, h1.2]) h1.2]
theorem sEq_iff {a b : List Int} (ha : ∀ z ∈ a, 0 ≤ z ∧ z < 256) (hb : ∀ z ∈ b, 0 ≤ z ∧ z < 256) : sEq a b = decide (a = b) := by
  by_cases h : a = b
  · subst h; simp [sEq_refl]
  · rw [decide_eq_false h]
    unfold sEq
    rw [beq_eq_false_iff_ne]
    intro e
    refine h (strOf_inj ha hb ?_)
    apply ByteArray.ext
    rw [ByteArray.toList_eq, ByteArray.toList_eq] at e
    exact Array.toList_inj.1 e
theorem round_eq {n m : Int} (hn : -1000000000000 ≤ n ∧ n ≤ 1000000000000 ∨ -9223372036854775808 ≤ n ∧ n ≤ 9223372036854775807) (hm : 1 ≤ m ∧ m ≤ 1073741824) : serial_round.f n m = some (n % m, m) := by
  unfold serial_round.f
  have e1 : imax 1 (imin m 1073741824) = m := by unfold imax imin; repeat' split; all_goals omega
  rw [e1, if_pos (by omega)]
  by_cases h0 : 0 ≤ n
  · rw [Int.tmod_eq_emod_of_nonneg h0, if_neg (by have := Int.emod_nonneg n (show m ≠ 0 by omega); omega)]
  · have hlt := Int.emod_lt_of_pos n (show 0 < m by omega)
    have hge := Int.emod_nonneg n (show m ≠ 0 by omega)
    have ht : n.tmod m = if n % m = 0 then 0 else n % m - m := by
      rw [Int.tmod_eq_emod]
      by_cases hd : m ∣ n
      · have : n % m = 0 := Int.emod_eq_zero_of_dvd hd
        simp [hd, this]
      · have : ¬ n % m = 0 := fun e => hd (Int.dvd_of_emod_eq_zero e)
        simp [hd, this, h0]; omega
    rw [ht]
    by_cases hz : n % m = 0
    · rw [if_pos hz, if_neg (by omega), hz]
    · rw [if_neg hz, if_pos (by omega), w64_in ⟨by omega, by omega⟩]
      congr 2; omega
theorem dist_eq {a b m : Int} (ha : -9223372036854775808 ≤ a ∧ a ≤ 9223372036854775807) (hb : -9223372036854775808 ≤ b ∧ b ≤ 9223372036854775807) (hm : 1 ≤ m ∧ m ≤ 1073741824) : serial_Dist.f a b m = some ((b - a) % m) := by
  unfold serial_Dist.f
  rw [round_eq (.inr ha) hm, bsome, round_eq (.inr hb) hm, bsome]
  have h1 := Int.emod_nonneg a (show m ≠ 0 by omega)
  have h2 := Int.emod_lt_of_pos a (show 0 < m by omega)
  have h3 := Int.emod_nonneg b (show m ≠ 0 by omega)
  have h4 := Int.emod_lt_of_pos b (show 0 < m by omega)
  dsimp only
  rw [w64_in ⟨by omega, by omega⟩, round_eq (.inl ⟨by omega, by omega⟩) hm, bsome]
  dsimp only
  rw [← Int.sub_emod]
theorem td8 {x : Int} (h : 0 ≤ x ∧ x ≤ 100000) : w64 (x.tdiv 8) = x / 8 := by
  rw [Int.tdiv_eq_ediv_of_nonneg h.1, w64_in ⟨by omega, by omega⟩]
theorem clone_eq {l : List Int} (h : (l.length : Int) ≤ 1099511627776) : slices_Clone_Sbytebyte.f l = some l := by
  unfold slices_Clone_Sbytebyte.f
  rw [if_pos (by simp; omega)]; rfl
theorem cut0 {α : Type} (l : List α) (n : Nat) : cut l 0 (n : Int) = l.take n := by simp [cut]
theorem next_eq {n m : Int} (hn : 0 ≤ n ∧ n < m) (hm : 1 ≤ m ∧ m ≤ 32768) : serial_Next.f n m = some ((n + 1) % m) := by
  unfold serial_Next.f
  rw [round_eq (.inl ⟨by omega, by omega⟩) ⟨hm.1, by omega⟩, bsome]
  dsimp only
  rw [Int.emod_eq_of_lt hn.1 hn.2, w64_in ⟨by omega, by omega⟩, round_eq (.inl ⟨by omega, by omega⟩) ⟨hm.1, by omega⟩, bsome]
/-! ### maps -/
theorem mdel_len {α : Type} : ∀ {m : List (Int × α)} {k : Int}, mhas m k = true → (mdel m k).length + 1 = m.length
  | [], _, h => by simp [mhas] at h
  | p :: m, k, h => by
    by_cases hk : p.1 = k
    · simp [mdel, hk]
    · have := mdel_len (m := m) (k := k) (by simpa [mhas, hk] using h)
      simp only [mdel, if_neg hk, List.length_cons]; omega
theorem mput_new {α : Type} {v : α} : ∀ {m : List (Int × α)} {k : Int}, mhas m k = false → mput m k v = m ++ [(k, v)]
  | [], _, _ => rfl
  | p :: m, k, h => by
    have hk : ¬ p.1 = k := fun e => by simp [mhas, e] at h
    rw [mput, if_neg hk, mput_new (by simpa [mhas, hk] using h)]; rfl
theorem mdel_eq {α : Type} : ∀ {m : List (Int × α)} {k : Int}, mhas m k = true → mdel m k = m.take (mpos m k) ++ m.drop (mpos m k + 1)
  | [], _, h => by simp [mhas] at h
  | p :: m, k, h => by
    by_cases hk : p.1 = k
    · simp [mdel, mpos, hk]
    · have := mdel_eq (m := m) (k := k) (by simpa [mhas, hk] using h)
      simp only [mdel, mpos, if_neg hk, List.take_succ_cons, List.drop_succ_cons, List.cons_append]; rw [this]
/-! ### how an order stands -/
structure OI (x : reorder_Order) (C : Nat) : Prop where
  hm : 8 ≤ x.m ∧ x.m ≤ 32768
  hwin : 1 ≤ x.window ∧ x.window ≤ x.m / 8
  hnext : 0 ≤ x.next ∧ x.next < x.m
  held : x.kept.length + x.ready.length ≤ C
theorem OI.more {x : reorder_Order} {C D : Nat} (h : OI x C) (l : C ≤ D) : OI x D := ⟨h.hm, h.hwin, h.hnext, Nat.le_trans h.held l⟩
def ost (x : reorder_Order) (n : Int) (kv : List (Int × List Int)) (r : List (List Int)) : reorder_Order := { m := x.m, window := x.window, next := n, kept := kv, ready := r }
def ostep (x : reorder_Order) : reorder_Order := ost x ((x.next + 1) % x.m) (mdel x.kept x.next) (x.ready ++ [mget x.kept x.next []])
/-- What is ready comes out of what is kept. -/
def drain : Nat → reorder_Order → Nat × reorder_Order
  | 0, x => (0, x)
  | d + 1, x => if mhas x.kept x.next = true then ((drain d (ostep x)).1 + 1, (drain d (ostep x)).2) else (0, x)
theorem ostep_oi {x : reorder_Order} {C : Nat} (h : OI x C) (hh : mhas x.kept x.next = true) : OI (ostep x) C := by
  have := h.hm
  have hl := mdel_len hh
  have := h.held
  refine ⟨h.hm, h.hwin, ⟨Int.emod_nonneg _ (by show x.m ≠ 0; omega), Int.emod_lt_of_pos _ (by show 0 < x.m; omega)⟩, ?_⟩
  show (mdel x.kept x.next).length + (x.ready ++ [_]).length ≤ C
  rw [List.length_append]; simp; omega
theorem drain_oi {C : Nat} : ∀ (d : Nat) {x : reorder_Order}, OI x C → OI (drain d x).2 C
  | 0, _, h => h
  | d + 1, x, h => by
    rw [drain]
    by_cases hh : mhas x.kept x.next = true
    · rw [if_pos hh]; exact drain_oi d (ostep_oi h hh)
    · rw [if_neg hh]; exact h
theorem loop_eq {C : Nat} (hC : C ≤ 1000000) : ∀ (d : Nat) (x : reorder_Order) (c k : Nat), OI x C → x.kept.length ≤ d → d + 1 ≤ k → c + d ≤ 1000000 →
    reorder_Order_Put.l0 k (c : Int) (mhas x.kept x.next) x (mget x.kept x.next []) = some (((c + (drain d x).1 : Nat) : Int), (drain d x).2)
  | 0, x, c, k, h, hl, hk, hc => by
    obtain ⟨k, rfl⟩ : ∃ j, k = j + 1 := ⟨k - 1, by omega⟩
    have e : x.kept = [] := List.length_eq_zero_iff.1 (by omega)
    have e2 : mhas x.kept x.next = false := by rw [e]; rfl
    rw [reorder_Order_Put.l0, if_neg (by rw [e2]; simp)]; rfl
  | d + 1, x, c, k, h, hl, hk, hc => by
    obtain ⟨k, rfl⟩ : ∃ j, k = j + 1 := ⟨k - 1, by omega⟩
    have hm := h.hm
    have hd := h.held
    rw [reorder_Order_Put.l0, drain]
    by_cases hh : mhas x.kept x.next = true
    · have hl2 := mdel_len hh
      rw [if_pos hh, if_pos hh, if_pos (by simp; omega), next_eq h.hnext ⟨by omega, hm.2⟩, bsome, w64_in ⟨by omega, by omega⟩]
      have ih := loop_eq hC d (ostep x) (c + 1) k (ostep_oi h hh) (by show (mdel x.kept x.next).length ≤ d; omega) (by omega) (by omega)
      refine Eq.trans ih ?_
      rw [show c + 1 + (drain d (ostep x)).1 = c + ((drain d (ostep x)).1 + 1) by omega]
    · rw [if_neg hh, if_neg hh]; rfl
/-- What a Put answers and leaves. -/
def putm (x : reorder_Order) (n : Int) (b : List Int) : Int × reorder_Order :=
  if (n - x.next) % x.m ≥ x.window then (-1, x) else if mhas x.kept (n % x.m) = true then (0, x) else
    (((drain (x.kept.length + 1) (ost x x.next (x.kept ++ [(n % x.m, b)]) x.ready)).1 : Int), (drain (x.kept.length + 1) (ost x x.next (x.kept ++ [(n % x.m, b)]) x.ready)).2)
theorem add_oi {x : reorder_Order} {C : Nat} (h : OI x C) (n : Int) (b : List Int) : OI (ost x x.next (x.kept ++ [(n, b)]) x.ready) (C + 1) := by
  have := h.held
  refine ⟨h.hm, h.hwin, h.hnext, ?_⟩
  show (x.kept ++ [_]).length + x.ready.length ≤ C + 1
  rw [List.length_append]; simp; omega
theorem put_oi {x : reorder_Order} {C : Nat} (h : OI x C) (n : Int) (b : List Int) : OI (putm x n b).2 (C + 1) := by
  unfold putm
  by_cases h1 : (n - x.next) % x.m ≥ x.window
  · rw [if_pos h1]; exact h.more (by omega)
  · rw [if_neg h1]
    by_cases h2 : mhas x.kept (n % x.m) = true
    · rw [if_pos h2]; exact h.more (by omega)
    · rw [if_neg h2]; exact drain_oi _ (add_oi h _ _)
theorem put_eq {x : reorder_Order} {C : Nat} (h : OI x C) (hC : C ≤ 10000) {n : Int} (hn : -9223372036854775808 ≤ n ∧ n ≤ 9223372036854775807) {b : List Int} (hb : b.length ≤ 1000000) {k : Nat} (hk : C + 5 ≤ k) :
    reorder_Order_Put.f k x n b = some (putm x n b) := by
  have hm := h.hm
  have hw := h.hwin
  have hx := h.hnext
  have hd := h.held
  unfold reorder_Order_Put.f putm
  rw [dist_eq ⟨by omega, by omega⟩ hn ⟨by omega, by omega⟩, bsome, if_pos (by omega)]
  have g1 := Int.emod_nonneg (n - x.next) (show x.m ≠ 0 by omega)
  have g2 := Int.emod_lt_of_pos (n - x.next) (show 0 < x.m by omega)
  by_cases h1 : (n - x.next) % x.m ≥ x.window
  · rw [if_pos h1, if_pos h1]
  rw [if_neg h1, if_neg h1, w64_in ⟨by omega, by omega⟩, Int.tmod_eq_emod_of_nonneg (by omega)]
  have e : (x.next + (n - x.next) % x.m) % x.m = n % x.m := by
    rw [Int.add_comm, Int.emod_add_emod, show n - x.next + x.next = n by omega]
  rw [e]
  by_cases h2 : mhas x.kept (n % x.m) = true
  · rw [if_pos h2, if_pos h2]
  rw [if_neg h2, if_neg h2, clone_eq (by omega), bsome, mput_new (by simpa using h2)]
  have := loop_eq (C := C + 1) (by omega) (x.kept.length + 1) (ost x x.next (x.kept ++ [(n % x.m, b)]) x.ready) 0 k (add_oi h _ _) (by show (x.kept ++ [_]).length ≤ _; rw [List.length_append]; simp) (by omega) (by omega)
  refine Eq.trans this ?_
  rw [Nat.zero_add]
def onew (m w : Int) : reorder_Order := { m := m, window := w, next := 0, kept := [], ready := [] }
theorem onew_oi {m w : Int} (hm : 8 ≤ m ∧ m ≤ 32768) (hw : 1 ≤ w ∧ w ≤ m / 8) : OI (onew m w) 0 := ⟨hm, hw, ⟨Int.le_refl _, by show 0 < m; omega⟩, Nat.le_refl _⟩
theorem onew_eq (m w : Int) : reorder_New.f m w = some (onew (imax 8 (imin m 32768)) (imax 1 (imin w (imax 8 (imin m 32768) / 8)))) := by
  have hM : 8 ≤ imax 8 (imin m 32768) ∧ imax 8 (imin m 32768) ≤ 32768 := by unfold imax imin; repeat' split; all_goals omega
  unfold reorder_New.f backlog_Cut.f
  rw [bsome, td8 (by omega)]; rfl
theorem onew_in {m w : Int} (hm : 8 ≤ m ∧ m ≤ 32768) (hw : 1 ≤ w ∧ w ≤ m / 8) : reorder_New.f m w = some (onew m w) := by
  have e1 : imax 8 (imin m 32768) = m := by unfold imax imin; repeat' split; all_goals omega
  have e2 : imax 1 (imin w (m / 8)) = w := by unfold imax imin; repeat' split; all_goals omega
  rw [onew_eq, e1, e2]
theorem drain_no {d : Nat} {x : reorder_Order} (h : mhas x.kept x.next = false) : drain d x = (0, x) := by
  cases d with
  | zero => rfl
  | succ d => rw [drain, if_neg (by rw [h]; simp)]
/-- What comes in its turn is ready at once. -/
theorem put_now {x : reorder_Order} {C : Nat} (h : OI x C) (hk : x.kept = []) {n : Int} (hn : n % x.m = x.next) (b : List Int) : putm x n b = (1, ost x ((x.next + 1) % x.m) [] (x.ready ++ [b])) := by
  have hm := h.hm
  have hw := h.hwin
  have e : (n - x.next) % x.m = 0 := by rw [← hn]; exact Int.emod_eq_zero_of_dvd (Int.dvd_self_sub_emod)
  unfold putm
  rw [e, if_neg (by omega), hk, if_neg (by simp [mhas]), hn]
  have e1 : drain 1 (ost x x.next [(x.next, b)] x.ready) = (1, ost x ((x.next + 1) % x.m) [] (x.ready ++ [b])) := by simp [drain, ostep, ost, mhas, mdel, mget]
  show (((drain 1 (ost x x.next [(x.next, b)] x.ready)).1 : Int), (drain 1 (ost x x.next [(x.next, b)] x.ready)).2) = _
  rw [e1]; rfl
theorem put_later {x : reorder_Order} {n : Int} (hw : (n - x.next) % x.m < x.window) (h1 : mhas x.kept (n % x.m) = false) {b : List Int} (h2 : mhas (x.kept ++ [(n % x.m, b)]) x.next = false) : putm x n b = (0, ost x x.next (x.kept ++ [(n % x.m, b)]) x.ready) := by
  unfold putm
  rw [if_neg (by omega), if_neg (by rw [h1]; simp), drain_no (x := ost x x.next (x.kept ++ [(n % x.m, b)]) x.ready) h2]; rfl
theorem mhas_none {α : Type} : ∀ {m : List (Int × α)} {k : Int}, (∀ p ∈ m, p.1 ≠ k) → mhas m k = false
  | [], _, _ => rfl
  | p :: m, k, h => by
    rw [mhas, if_neg (h p (.head _))]
    exact mhas_none fun q hq => h q (.tail _ hq)
theorem take_nil {x : reorder_Order} (h : x.ready = []) : reorder_Order_Take.f x = some ([], false, x) := by
  unfold reorder_Order_Take.f
  rw [h]; rfl
theorem take_cons {x : reorder_Order} {b : List Int} {r : List (List Int)} (h : x.ready = b :: r) : reorder_Order_Take.f x = some (b, true, ost x x.next x.kept r) := by
  unfold reorder_Order_Take.f
  rw [h]
  simp only [List.length_cons]
  rw [if_neg (by omega), if_pos (by omega), if_pos (by omega)]
  have : cut (b :: r) 1 ((r.length + 1 : Nat) : Int) = r := by simp [cut]
  rw [this]; rfl
theorem alive_eq {k : Nat} (hk : 20 ≤ k) : signalmanlaw14_alive.f k = some true := by
  unfold signalmanlaw14_alive.f
  rw [onew_in (by decide) (by decide), bsome, put_eq (onew_oi (by decide) (by decide)) (by decide) (by decide) (by decide) (by omega), bsome]
  unfold reorder_Order_Gap.f
  rw [bsome, put_eq (put_oi (onew_oi (by decide) (by decide)) 1 [98]) (by decide) (by decide) (by decide) (by omega), bsome]
  show _ = some true
  kernel_rfl
/-- The octets from i on. -/
def bytes : Nat → Nat → List (List Int)
  | _, 0 => []
  | i, n + 1 => [(i : Int)] :: bytes (i + 1) n
theorem bytes_snoc : ∀ (n i : Nat), bytes i (n + 1) = bytes i n ++ [[((i + n : Nat) : Int)]]
  | 0, i => rfl
  | n + 1, i => by
    rw [bytes, bytes_snoc n (i + 1)]
    show _ = [(i : Int)] :: bytes (i + 1) n ++ _
    rw [show i + 1 + n = i + (n + 1) by omega]; rfl
theorem bytes_len : ∀ (n i : Nat), (bytes i n).length = n
  | 0, _ => rfl
  | n + 1, i => by rw [bytes, List.length_cons, bytes_len n]
def base : reorder_Order := onew 128 16
theorem base_oi {n : Int} (hn : 0 ≤ n ∧ n < 128) {kv : List (Int × List Int)} {r : List (List Int)} {C : Nat} (h : kv.length + r.length ≤ C) : OI (ost base n kv r) C := ⟨by show (8 : Int) ≤ 128 ∧ (128 : Int) ≤ 32768; omega, by show (1 : Int) ≤ 16 ∧ (16 : Int) ≤ 128 / 8; omega, hn, h⟩
theorem l4_eq {q : Int × reorder_Order} (hq : q.1 = 1) {a0 : Nat} (ha : a0 ≤ 100) : ∀ (d i : Nat) (x : reorder_Order) (k : Nat), i + d = a0 → x.ready = bytes i d ++ [[122]] → d + 1 ≤ k → signalmanlaw14_ReorderClears.l4 k a0 q i x = some true
  | 0, i, x, k, hi, h, hk => by
    obtain ⟨k, rfl⟩ : ∃ j, k = j + 1 := ⟨k - 1, by omega⟩
    have h' : x.ready = [122] :: [] := h
    rw [signalmanlaw14_ReorderClears.l4, if_neg (by omega), take_cons h', bsome]
    dsimp only
    rw [take_nil (x := ost x x.next x.kept []) rfl, bsome, if_pos hq, if_pos rfl, sEq_refl, if_pos rfl]; rfl
  | d + 1, i, x, k, hi, h, hk => by
    obtain ⟨k, rfl⟩ : ∃ j, k = j + 1 := ⟨k - 1, by omega⟩
    have h' : x.ready = [(i : Int)] :: (bytes (i + 1) d ++ [[122]]) := h
    rw [signalmanlaw14_ReorderClears.l4, if_pos (by omega), take_cons h', bsome]
    dsimp only
    rw [if_pos rfl, u8w, Int.emod_eq_of_lt (by omega) (by omega), sEq_refl, if_pos rfl, w64_in ⟨by omega, by omega⟩]
    exact l4_eq hq ha d (i + 1) _ k (by omega) rfl (by omega)
theorem j3_eq {a0 : Nat} (ha : a0 ≤ 100) {k : Nat} (hk : 1000 ≤ k) : signalmanlaw14_ReorderClears.j3 k a0 (ost base 0 [] (bytes 0 a0)) false = some true := by
  have hoi := base_oi (n := 0) ⟨by omega, by omega⟩ (kv := []) (r := bytes 0 a0) (C := 100) (by rw [bytes_len]; simp; omega)
  unfold signalmanlaw14_ReorderClears.j3
  rw [if_neg (by simp), put_eq hoi (by omega) (by decide) (by decide) (by omega), bsome, put_now hoi rfl (by show (0 : Int) % 128 = 0; rfl)]
  exact l4_eq rfl ha a0 0 _ k (by omega) rfl (by omega)
def held (a : Nat) : Nat → List (Int × List Int)
  | 0 => []
  | j + 1 => held a j ++ [(((a + 2 + j : Nat) : Int) % 128, [107])]
theorem held_len (a : Nat) : ∀ j, (held a j).length = j
  | 0 => rfl
  | j + 1 => by rw [held, List.length_append, held_len a j]; rfl
theorem held_mem {a : Nat} : ∀ {j : Nat} {p : Int × List Int}, p ∈ held a j → ∃ t, t < j ∧ p.1 = ((a + 2 + t : Nat) : Int) % 128
  | 0, _, h => by cases h
  | j + 1, p, h => by
    rw [held] at h
    rcases List.mem_append.1 h with h | h
    · obtain ⟨t, ht, e⟩ := held_mem h; exact ⟨t, by omega, e⟩
    · rw [List.mem_singleton] at h; exact ⟨j, by omega, by rw [h]⟩
theorem l2_eq {a0 a1 : Nat} (ha : a0 ≤ 100) (hb : a1 ≤ 10) : ∀ (d j : Nat) (k : Nat), j + d = a1 → 1100 + d ≤ k → signalmanlaw14_ReorderClears.l2 k a0 a1 j (ost base a0 (held a0 j) (bytes 0 a0)) = some true
  | 0, j, k, hj, hk => by
    obtain ⟨k, rfl⟩ : ∃ i, k = i + 1 := ⟨k - 1, by omega⟩
    have e : decide (((ost base a0 (held a0 j) (bytes 0 a0)).kept.length : Int) > 0) = decide ((a1 : Int) > 0) := by
      show decide (((held a0 j).length : Int) > 0) = _
      rw [held_len, show j = a1 by omega]
    rw [signalmanlaw14_ReorderClears.l2, if_neg (by omega)]
    unfold reorder_Order_Gap.f reorder_Order_Clear.f reorder_Order_Next.f
    rw [bsome, bsome, e, if_neg (by simp), bsome, if_neg (by simp), bsome]
    exact j3_eq ha (by omega)
  | d + 1, j, k, hj, hk => by
    obtain ⟨k, rfl⟩ : ∃ i, k = i + 1 := ⟨k - 1, by omega⟩
    have hoi := base_oi (n := (a0 : Int)) ⟨by omega, by omega⟩ (kv := held a0 j) (r := bytes 0 a0) (C := 200) (by rw [bytes_len, held_len]; omega)
    rw [signalmanlaw14_ReorderClears.l2, if_pos (by omega), w64_in (n := (a0 : Int) + 2) ⟨by omega, by omega⟩, w64_in (n := (a0 : Int) + 2 + j) ⟨by omega, by omega⟩, Int.tmod_eq_emod_of_nonneg (by omega)]
    have em : (ost base a0 (held a0 j) (bytes 0 a0)).m = 128 := rfl
    have e1 : ((a0 : Int) + 2 + j) % 128 % 128 = ((a0 + 2 + j : Nat) : Int) % 128 := by omega
    have hl := put_later (x := ost base a0 (held a0 j) (bytes 0 a0)) (n := ((a0 : Int) + 2 + j) % 128) (b := [107])
      (by show (((a0 : Int) + 2 + j) % 128 - (a0 : Int)) % 128 < 16; omega)
      (by
        show mhas (held a0 j) (((a0 : Int) + 2 + j) % 128 % 128) = false
        refine mhas_none fun p hp => ?_
        obtain ⟨t, ht, e⟩ := held_mem hp
        rw [e]; omega)
      (by
        show mhas (held a0 j ++ [(((a0 : Int) + 2 + j) % 128 % 128, [107])]) (a0 : Int) = false
        rw [e1]
        refine mhas_none (m := held a0 (j + 1)) fun p hp => ?_
        obtain ⟨t, ht, e⟩ := held_mem hp
        rw [e]; omega)
    rw [put_eq hoi (by omega) ⟨by omega, by omega⟩ (by decide) (by omega), bsome, hl]
    rw [w64_in ⟨by omega, by omega⟩]
    have ih := l2_eq ha hb d (j + 1) k (by omega) (by omega)
    refine Eq.trans ?_ ih
    rw [em, e1]; rfl
theorem l1_eq {a0 a1 : Nat} (ha : a0 ≤ 100) (hb : a1 ≤ 10) : ∀ (d i : Nat) (k : Nat), i + d = a0 → 2000 + d ≤ k → signalmanlaw14_ReorderClears.l1 k a0 a1 i (ost base i [] (bytes 0 i)) = some true
  | 0, i, k, hi, hk => by
    obtain ⟨k, rfl⟩ : ∃ j, k = j + 1 := ⟨k - 1, by omega⟩
    rw [signalmanlaw14_ReorderClears.l1, if_neg (by omega), show i = a0 by omega]
    exact l2_eq ha hb a1 0 k (by omega) (by omega)
  | d + 1, i, k, hi, hk => by
    obtain ⟨k, rfl⟩ : ∃ j, k = j + 1 := ⟨k - 1, by omega⟩
    have hoi := base_oi (n := (i : Int)) ⟨by omega, by omega⟩ (kv := []) (r := bytes 0 i) (C := 200) (by rw [bytes_len]; simp; omega)
    rw [signalmanlaw14_ReorderClears.l1, if_pos (by omega), put_eq hoi (by omega) ⟨by omega, by omega⟩ (by simp) (by omega), bsome, put_now hoi rfl (by show (i : Int) % 128 = i; omega), w64_in ⟨by omega, by omega⟩, u8w, Int.emod_eq_of_lt (a := (i : Int)) (b := 256) (by omega) (by omega)]
    have ih := l1_eq ha hb d (i + 1) k (by omega) (by omega)
    refine Eq.trans ?_ ih
    rw [bytes_snoc i 0, Nat.zero_add]
    show signalmanlaw14_ReorderClears.l1 k a0 a1 _ (ost base (((i : Int) + 1) % 128) [] _) = _
    rw [show ((i : Int) + 1) % 128 = ((i + 1 : Nat) : Int) by omega]; rfl
theorem j0_eq {a0 a1 : Int} {K : Nat} (hK : 5000 ≤ K) (b : Bool) (hb : b = false → (0 ≤ a0 ∧ a0 ≤ 100) ∧ 0 ≤ a1 ∧ a1 ≤ 10) : signalmanlaw14_ReorderClears.j0 K a0 a1 true b = some true := by
  unfold signalmanlaw14_ReorderClears.j0
  cases b with
  | true => rfl
  | false =>
    obtain ⟨h1, h2⟩ := hb rfl
    rw [if_neg (by simp), onew_in (by decide) (by decide), bsome]
    have := l1_eq (a0 := a0.toNat) (a1 := a1.toNat) (by omega) (by omega) a0.toNat 0 K (by omega) (by omega)
    rw [Int.toNat_of_nonneg h1.1, Int.toNat_of_nonneg h2.1] at this
    exact this
theorem ReorderClears : signalmanlaw14_ReorderClears.Pure := by
  intro a0 a1 w0 w1
  obtain ⟨K, hK⟩ : ∃ K : Nat, 6000 ≤ K := ⟨6000, Nat.le_refl _⟩
  refine ⟨K, ?_⟩
  unfold signalmanlaw14_ReorderClears.f
  rw [alive_eq (by omega), bsome, if_pos rfl]
  by_cases c1 : a0 < 0
  · rw [if_pos c1]; exact j0_eq (by omega) _ (by simp)
  rw [if_neg c1]
  by_cases c2 : a0 > 100
  · rw [if_pos c2]; exact j0_eq (by omega) _ (by simp)
  rw [if_neg c2]
  by_cases c3 : a1 < 0
  · rw [if_pos c3]; exact j0_eq (by omega) _ (by simp)
  rw [if_neg c3]
  exact j0_eq (by omega) _ (fun hb => by simp at hb; exact ⟨⟨by omega, by omega⟩, by omega, hb⟩)
end Go.Proofs.Ytcjmffcpldjbpaa

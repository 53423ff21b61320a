/- ReorderPlays: after arbitrary sequences of calls, the results of an Order agree with the definition. Conditions: none beyond those of the given statement. -/
import Derived.Test.YtcjmffcpldjbpaaRunReorderPlays
import Derived.KernelRfl
set_option linter.all false
namespace Go.Proofs.Ytcjmffcpldjbpaa
open Go.RowKit Go.Proofs.Ytcjmffcpldjbpaa.Walk
theorem bsome {α β : Type} (x : α) (g : α → Option β) : (some x).bind g = g x := Eq.trans (b := g x) rfl (Eq.symm rfl)
theorem u8w (x : Int) : IntKind.u8.wrap x = x % 256 := by
  simp [IntKind.wrap, IntKind.bits, IntKind.signed]
theorem i64nat {x : Int} (h0 : 0 ≤ x) (h1 : x < 9223372036854775808) : BitVec.ofInt 64 x = BitVec.ofNat 64 x.toNat := by
  apply BitVec.eq_of_toNat_eq
  simp [BitVec.toNat_ofInt]
  omega
theorem iand_nat {x y : Int} (h0 : 0 ≤ x) (h1 : x < 9223372036854775808) (h2 : 0 ≤ y) (h3 : y < 9223372036854775808) : iand .i64 x y = ((x.toNat &&& y.toNat : Nat) : Int) := by
  unfold iand
  show IntKind.i64.wrap (BitVec.ofInt 64 x &&& BitVec.ofInt 64 y).toNat = _
  rw [i64nat h0 h1, i64nat h2 h3, BitVec.toNat_and]
  simp only [BitVec.toNat_ofNat]
  rw [Nat.mod_eq_of_lt (by omega), Nat.mod_eq_of_lt (by omega)]
  have h4 : x.toNat &&& y.toNat ≤ x.toNat := Nat.and_le_left
  have := w64_in (n := ((x.toNat &&& y.toNat : Nat) : Int)) (by omega)
  exact this
theorem ior_nat {x y : Int} (h0 : 0 ≤ x) (h1 : x < 9223372036854775808) (h2 : 0 ≤ y) (h3 : y < 9223372036854775808) : ior .i64 x y = ((x.toNat ||| y.toNat : Nat) : Int) := by
  unfold ior
  show IntKind.i64.wrap (BitVec.ofInt 64 x ||| BitVec.ofInt 64 y).toNat = _
  rw [i64nat h0 h1, i64nat h2 h3, BitVec.toNat_or]
  simp only [BitVec.toNat_ofNat]
  rw [Nat.mod_eq_of_lt (by omega), Nat.mod_eq_of_lt (by omega)]
  have h4 : x.toNat ||| y.toNat < 2 ^ 63 := Nat.or_lt_two_pow (by omega) (by omega)
  have := w64_in (n := ((x.toNat ||| y.toNat : Nat) : Int)) (by omega)
  exact this
theorem iand_1 {x : Int} (h0 : 0 ≤ x) (h1 : x < 9223372036854775808) : iand .i64 x 1 = x % 2 := by
  rw [iand_nat h0 h1 (by omega) (by omega)]
  have : x.toNat &&& (1 : Int).toNat = x.toNat % 2 := Nat.and_one_is_mod _
  rw [this]; omega
theorem iand_255 {x : Int} (h0 : 0 ≤ x) (h1 : x < 9223372036854775808) : iand .i64 x 255 = x % 256 := by
  rw [iand_nat h0 h1 (by omega) (by omega)]
  have : x.toNat &&& (255 : Int).toNat = x.toNat % 256 := Nat.and_two_pow_sub_one_eq_mod _ 8
  rw [this]; omega
theorem ior_hi {x y : Int} (h0 : 0 ≤ x) (h1 : x < 256) (h2 : 0 ≤ y) (h3 : y < 36028797018963968) : ior .i64 x (y * 256) = x + 256 * y := by
  rw [ior_nat h0 (by omega) (by omega) (by omega)]
  have e : (y * 256).toNat = 2 ^ 8 * y.toNat := by omega
  have h4 := Nat.two_pow_add_eq_or_of_lt (i := 8) (b := x.toNat) (by omega) y.toNat
  rw [e, Nat.or_comm, ← h4]; omega
theorem ior_hi' {x y : Int} (h0 : 0 ≤ x) (h1 : x < 256) (h2 : 0 ≤ y) (h3 : y < 36028797018963968) : ior .i64 (y * 256) x = x + 256 * y := by
  rw [← ior_hi h0 h1 h2 h3, ior_nat (by omega) (by omega) h0 (by omega), ior_nat h0 (by omega) (by omega) (by omega), Nat.or_comm]
theorem byte_all {p : Int → Prop} (h : ∀ n : Fin 256, p (n.val : Int)) {z : Int} (h0 : 0 ≤ z) (h1 : z < 256) : p z := by
  have := h ⟨z.toNat, by omega⟩
  rwa [show ((z.toNat : Nat) : Int) = z by omega] at this
theorem wf8 {z : Int} (h : (Lit.int .u8 z).wf = true) : 0 ≤ z ∧ z < 256 := by simp [Lit.wf] at h; have := h; simp [IntKind.min, IntKind.max, IntKind.bits, IntKind.signed] at this; omega
theorem wf64 {z : Int} (h : (Lit.int .i64 z).wf = true) : -9223372036854775808 ≤ z ∧ z ≤ 9223372036854775807 := by simp [Lit.wf] at h; have := h; simp [IntKind.min, IntKind.max, IntKind.bits, IntKind.signed] at this; omega
theorem strOf_inj {a b : List Int} (ha : ∀ z ∈ a, 0 ≤ z ∧ z < 256) (hb : ∀ z ∈ b, 0 ≤ z ∧ z < 256) (h : strOf a = strOf b) : a = b := by
  have h1 : a.map (fun c => UInt8.ofNat c.toNat) = b.map (fun c => UInt8.ofNat c.toNat) := by
    have := congrArg (fun s : ByteArray => s.data.toList) h
    simpa [strOf] using this
  induction a generalizing b with
  | nil => cases b with
    | nil => rfl
    | cons _ _ => simp at h1
  | cons x a ih => cases b with
    | nil => simp at h1
    | cons y b =>
      simp only [List.map_cons, List.cons.injEq] at h1
      have hx := ha x (by simp)
      have hy := hb y (by simp)
      have e : x = y := by
        have := congrArg UInt8.toNat h1.1
        simp [UInt8.toNat_ofNat'] at this
        omega
      rw [e, ih (fun z hz => ha z (.tail _ hz)) (fun z hz => hb z (.tail _ hz)) (by simp [strOf, h1.2]) h1.2]
theorem sEq_iff {a b : List Int} (ha : ∀ z ∈ a, 0 ≤ z ∧ z < 256) (hb : ∀ z ∈ b, 0 ≤ z ∧ z < 256) : sEq a b = decide (a = b) := by
  by_cases h : a = b
  · subst h; simp [sEq_refl]
  · rw [decide_eq_false h]
    unfold sEq
    rw [beq_eq_false_iff_ne]
    intro e
    refine h (strOf_inj ha hb ?_)
    apply ByteArray.ext
    rw [ByteArray.toList_eq, ByteArray.toList_eq] at e
    exact Array.toList_inj.1 e
theorem round_eq {n m : Int} (hn : -1000000000000 ≤ n ∧ n ≤ 1000000000000 ∨ -9223372036854775808 ≤ n ∧ n ≤ 9223372036854775807) (hm : 1 ≤ m ∧ m ≤ 1073741824) : serial_round.f n m = some (n % m, m) := by
  unfold serial_round.f
  have e1 : imax 1 (imin m 1073741824) = m := by unfold imax imin; repeat' split; all_goals omega
  rw [e1, if_pos (by omega)]
  by_cases h0 : 0 ≤ n
  · rw [Int.tmod_eq_emod_of_nonneg h0, if_neg (by have := Int.emod_nonneg n (show m ≠ 0 by omega); omega)]
  · have hlt := Int.emod_lt_of_pos n (show 0 < m by omega)
    have hge := Int.emod_nonneg n (show m ≠ 0 by omega)
    have ht : n.tmod m = if n % m = 0 then 0 else n % m - m := by
      rw [Int.tmod_eq_emod]
      by_cases hd : m ∣ n
      · have : n % m = 0 := Int.emod_eq_zero_of_dvd hd
        simp [hd, this]
      · have : ¬ n % m = 0 := fun e => hd (Int.dvd_of_emod_eq_zero e)
        simp [hd, this, h0]; omega
    rw [ht]
    by_cases hz : n % m = 0
    · rw [if_pos hz, if_neg (by omega), hz]
    · rw [if_neg hz, if_pos (by omega), w64_in ⟨by omega, by omega⟩]
      congr 2; omega
theorem dist_eq {a b m : Int} (ha : -9223372036854775808 ≤ a ∧ a ≤ 9223372036854775807) (hb : -9223372036854775808 ≤ b ∧ b ≤ 9223372036854775807) (hm : 1 ≤ m ∧ m ≤ 1073741824) : serial_Dist.f a b m = some ((b - a) % m) := by
  unfold serial_Dist.f
  rw [round_eq (.inr ha) hm, bsome, round_eq (.inr hb) hm, bsome]
  have h1 := Int.emod_nonneg a (show m ≠ 0 by omega)
  have h2 := Int.emod_lt_of_pos a (show 0 < m by omega)
  have h3 := Int.emod_nonneg b (show m ≠ 0 by omega)
  have h4 := Int.emod_lt_of_pos b (show 0 < m by omega)
  dsimp only
  rw [w64_in ⟨by omega, by omega⟩, round_eq (.inl ⟨by omega, by omega⟩) hm, bsome]
  dsimp only
  rw [← Int.sub_emod]
theorem td8 {x : Int} (h : 0 ≤ x ∧ x ≤ 100000) : w64 (x.tdiv 8) = x / 8 := by
  rw [Int.tdiv_eq_ediv_of_nonneg h.1, w64_in ⟨by omega, by omega⟩]
theorem clone_eq {l : List Int} (h : (l.length : Int) ≤ 1099511627776) : slices_Clone_Sbytebyte.f l = some l := by
  unfold slices_Clone_Sbytebyte.f
  rw [if_pos (by simp; omega)]; rfl
theorem cut0 {α : Type} (l : List α) (n : Nat) : cut l 0 (n : Int) = l.take n := by simp [cut]
theorem next_eq {n m : Int} (hn : 0 ≤ n ∧ n < m) (hm : 1 ≤ m ∧ m ≤ 32768) : serial_Next.f n m = some ((n + 1) % m) := by
  unfold serial_Next.f
  rw [round_eq (.inl ⟨by omega, by omega⟩) ⟨hm.1, by omega⟩, bsome]
  dsimp only
  rw [Int.emod_eq_of_lt hn.1 hn.2, w64_in ⟨by omega, by omega⟩, round_eq (.inl ⟨by omega, by omega⟩) ⟨hm.1, by omega⟩, bsome]
/-! ### maps -/
theorem mdel_len {α : Type} : ∀ {m : List (Int × α)} {k : Int}, mhas m k = true → (mdel m k).length + 1 = m.length
  | [], _, h => by simp [mhas] at h
  | p :: m, k, h => by
    by_cases hk : p.1 = k
    · simp [mdel, hk]
    · have := mdel_len (m := m) (k := k) (by simpa [mhas, hk] using h)
      simp only [mdel, if_neg hk, List.length_cons]; omega
theorem mput_new {α : Type} {v : α} : ∀ {m : List (Int × α)} {k : Int}, mhas m k = false → mput m k v = m ++ [(k, v)]
  | [], _, _ => rfl
  | p :: m, k, h => by
    have hk : ¬ p.1 = k := fun e => by simp [mhas, e] at h
    rw [mput, if_neg hk, mput_new (by simpa [mhas, hk] using h)]; rfl
theorem mdel_eq {α : Type} : ∀ {m : List (Int × α)} {k : Int}, mhas m k = true → mdel m k = m.take (mpos m k) ++ m.drop (mpos m k + 1)
  | [], _, h => by simp [mhas] at h
  | p :: m, k, h => by
    by_cases hk : p.1 = k
    · simp [mdel, mpos, hk]
    · have := mdel_eq (m := m) (k := k) (by simpa [mhas, hk] using h)
      simp only [mdel, mpos, if_neg hk, List.take_succ_cons, List.drop_succ_cons, List.cons_append]; rw [this]
/-! ### how an order stands -/
structure OI (x : reorder_Order) (C : Nat) : Prop where
  hm : 8 ≤ x.m ∧ x.m ≤ 32768
  hwin : 1 ≤ x.window ∧ x.window ≤ x.m / 8
  hnext : 0 ≤ x.next ∧ x.next < x.m
  held : x.kept.length + x.ready.length ≤ C
theorem OI.more {x : reorder_Order} {C D : Nat} (h : OI x C) (l : C ≤ D) : OI x D := ⟨h.hm, h.hwin, h.hnext, Nat.le_trans h.held l⟩
def ost (x : reorder_Order) (n : Int) (kv : List (Int × List Int)) (r : List (List Int)) : reorder_Order := { m := x.m, window := x.window, next := n, kept := kv, ready := r }
def ostep (x : reorder_Order) : reorder_Order := ost x ((x.next + 1) % x.m) (mdel x.kept x.next) (x.ready ++ [mget x.kept x.next []])
/-- What is ready comes out of what is kept. -/
def drain : Nat → reorder_Order → Nat × reorder_Order
  | 0, x => (0, x)
  | d + 1, x => if mhas x.kept x.next = true then ((drain d (ostep x)).1 + 1, (drain d (ostep x)).2) else (0, x)
theorem ostep_oi {x : reorder_Order} {C : Nat} (h : OI x C) (hh : mhas x.kept x.next = true) : OI (ostep x) C := by
  have := h.hm
  have hl := mdel_len hh
  have := h.held
  refine ⟨h.hm, h.hwin, ⟨Int.emod_nonneg _ (by show x.m ≠ 0; omega), Int.emod_lt_of_pos _ (by show 0 < x.m; omega)⟩, ?_⟩
  show (mdel x.kept x.next).length + (x.ready ++ [_]).length ≤ C
  rw [List.length_append]; simp; omega
theorem drain_oi {C : Nat} : ∀ (d : Nat) {x : reorder_Order}, OI x C → OI (drain d x).2 C
  | 0, _, h => h
  | d + 1, x, h => by
    rw [drain]
    by_cases hh : mhas x.kept x.next = true
    · rw [if_pos hh]; exact drain_oi d (ostep_oi h hh)
    · rw [if_neg hh]; exact h
theorem loop_eq {C : Nat} (hC : C ≤ 1000000) : ∀ (d : Nat) (x : reorder_Order) (c k : Nat), OI x C → x.kept.length ≤ d → d + 1 ≤ k → c + d ≤ 1000000 →
    reorder_Order_Put.l0 k (c : Int) (mhas x.kept x.next) x (mget x.kept x.next []) = some (((c + (drain d x).1 : Nat) : Int), (drain d x).2)
  | 0, x, c, k, h, hl, hk, hc => by
    obtain ⟨k, rfl⟩ : ∃ j, k = j + 1 := ⟨k - 1, by omega⟩
    have e : x.kept = [] := List.length_eq_zero_iff.1 (by omega)
    have e2 : mhas x.kept x.next = false := by rw [e]; rfl
    rw [reorder_Order_Put.l0, if_neg (by rw [e2]; simp)]; rfl
  | d + 1, x, c, k, h, hl, hk, hc => by
    obtain ⟨k, rfl⟩ : ∃ j, k = j + 1 := ⟨k - 1, by omega⟩
    have hm := h.hm
    have hd := h.held
    rw [reorder_Order_Put.l0, drain]
    by_cases hh : mhas x.kept x.next = true
    · have hl2 := mdel_len hh
      rw [if_pos hh, if_pos hh, if_pos (by simp; omega), next_eq h.hnext ⟨by omega, hm.2⟩, bsome, w64_in ⟨by omega, by omega⟩]
      have ih := loop_eq hC d (ostep x) (c + 1) k (ostep_oi h hh) (by show (mdel x.kept x.next).length ≤ d; omega) (by omega) (by omega)
      refine Eq.trans ih ?_
      rw [show c + 1 + (drain d (ostep x)).1 = c + ((drain d (ostep x)).1 + 1) by omega]
    · rw [if_neg hh, if_neg hh]; rfl
/-- What a Put answers and leaves. -/
def putm (x : reorder_Order) (n : Int) (b : List Int) : Int × reorder_Order :=
  if (n - x.next) % x.m ≥ x.window then (-1, x) else if mhas x.kept (n % x.m) = true then (0, x) else
    (((drain (x.kept.length + 1) (ost x x.next (x.kept ++ [(n % x.m, b)]) x.ready)).1 : Int), (drain (x.kept.length + 1) (ost x x.next (x.kept ++ [(n % x.m, b)]) x.ready)).2)
theorem add_oi {x : reorder_Order} {C : Nat} (h : OI x C) (n : Int) (b : List Int) : OI (ost x x.next (x.kept ++ [(n, b)]) x.ready) (C + 1) := by
  have := h.held
  refine ⟨h.hm, h.hwin, h.hnext, ?_⟩
  show (x.kept ++ [_]).length + x.ready.length ≤ C + 1
  rw [List.length_append]; simp; omega
theorem put_oi {x : reorder_Order} {C : Nat} (h : OI x C) (n : Int) (b : List Int) : OI (putm x n b).2 (C + 1) := by
  unfold putm
  by_cases h1 : (n - x.next) % x.m ≥ x.window
  · rw [if_pos h1]; exact h.more (by omega)
  · rw [if_neg h1]
    by_cases h2 : mhas x.kept (n % x.m) = true
    · rw [if_pos h2]; exact h.more (by omega)
    · rw [if_neg h2]; exact drain_oi _ (add_oi h _ _)
theorem put_eq {x : reorder_Order} {C : Nat} (h : OI x C) (hC : C ≤ 10000) {n : Int} (hn : -9223372036854775808 ≤ n ∧ n ≤ 9223372036854775807) {b : List Int} (hb : b.length ≤ 1000000) {k : Nat} (hk : C + 5 ≤ k) :
    reorder_Order_Put.f k x n b = some (putm x n b) := by
  have hm := h.hm
  have hw := h.hwin
  have hx := h.hnext
  have hd := h.held
  unfold reorder_Order_Put.f putm
  rw [dist_eq ⟨by omega, by omega⟩ hn ⟨by omega, by omega⟩, bsome, if_pos (by omega)]
  have g1 := Int.emod_nonneg (n - x.next) (show x.m ≠ 0 by omega)
  have g2 := Int.emod_lt_of_pos (n - x.next) (show 0 < x.m by omega)
  by_cases h1 : (n - x.next) % x.m ≥ x.window
  · rw [if_pos h1, if_pos h1]
  rw [if_neg h1, if_neg h1, w64_in ⟨by omega, by omega⟩, Int.tmod_eq_emod_of_nonneg (by omega)]
  have e : (x.next + (n - x.next) % x.m) % x.m = n % x.m := by
    rw [Int.add_comm, Int.emod_add_emod, show n - x.next + x.next = n by omega]
  rw [e]
  by_cases h2 : mhas x.kept (n % x.m) = true
  · rw [if_pos h2, if_pos h2]
  rw [if_neg h2, if_neg h2, clone_eq (by omega), bsome, mput_new (by simpa using h2)]
  have := loop_eq (C := C + 1) (by omega) (x.kept.length + 1) (ost x x.next (x.kept ++ [(n % x.m, b)]) x.ready) 0 k (add_oi h _ _) (by show (x.kept ++ [_]).length ≤ _; rw [List.length_append]; simp) (by omega) (by omega)
  refine Eq.trans this ?_
  rw [Nat.zero_add]
def onew (m w : Int) : reorder_Order := { m := m, window := w, next := 0, kept := [], ready := [] }
theorem onew_oi {m w : Int} (hm : 8 ≤ m ∧ m ≤ 32768) (hw : 1 ≤ w ∧ w ≤ m / 8) : OI (onew m w) 0 := ⟨hm, hw, ⟨Int.le_refl _, by show 0 < m; omega⟩, Nat.le_refl _⟩
theorem onew_eq (m w : Int) : reorder_New.f m w = some (onew (imax 8 (imin m 32768)) (imax 1 (imin w (imax 8 (imin m 32768) / 8)))) := by
  have hM : 8 ≤ imax 8 (imin m 32768) ∧ imax 8 (imin m 32768) ≤ 32768 := by unfold imax imin; repeat' split; all_goals omega
  unfold reorder_New.f backlog_Cut.f
  rw [bsome, td8 (by omega)]; rfl
theorem onew_in {m w : Int} (hm : 8 ≤ m ∧ m ≤ 32768) (hw : 1 ≤ w ∧ w ≤ m / 8) : reorder_New.f m w = some (onew m w) := by
  have e1 : imax 8 (imin m 32768) = m := by unfold imax imin; repeat' split; all_goals omega
  have e2 : imax 1 (imin w (m / 8)) = w := by unfold imax imin; repeat' split; all_goals omega
  rw [onew_eq, e1, e2]
theorem cut_eq {n lo hi : Int} (h : lo ≤ hi) : signalmanref1_Cut.f n lo hi = some (imax lo (imin n hi)) := by
  unfold signalmanref1_Cut.f imax imin
  by_cases h1 : n < lo
  · rw [if_pos h1]; congr 1; repeat' split
    all_goals omega
  · rw [if_neg h1]
    by_cases h2 : n > hi
    · rw [if_pos h2]; congr 1; repeat' split
      all_goals omega
    · rw [if_neg h2]; congr 1; repeat' split
      all_goals omega
theorem refmod_eq {n m : Int} (hn : 0 ≤ n ∧ n ≤ 1000000000) (hm : 1 ≤ m ∧ m ≤ 1073741824) : signalmanref1_Mod.f n m = some (n % m) := by
  unfold signalmanref1_Mod.f
  have e : imax 1 (imin m 1073741824) = m := by unfold imax imin; repeat' split; all_goals omega
  have hge := Int.emod_nonneg n (show m ≠ 0 by omega)
  rw [cut_eq (by omega), bsome, e, if_pos (by omega), Int.tmod_eq_emod_of_nonneg hn.1, if_neg (by omega)]
theorem refnext_eq {n m : Int} (hn : 0 ≤ n ∧ n < m) (hm : 1 ≤ m ∧ m ≤ 100000) : signalmanref1_Next.f n m = some ((n + 1) % m) := by
  unfold signalmanref1_Next.f
  rw [refmod_eq ⟨hn.1, by omega⟩ ⟨hm.1, by omega⟩, bsome, Int.emod_eq_of_lt hn.1 hn.2, w64_in ⟨by omega, by omega⟩, refmod_eq ⟨by omega, by omega⟩ ⟨hm.1, by omega⟩, bsome]
theorem refmod_all {n m : Int} (hn : -9223372036854775808 ≤ n ∧ n ≤ 9223372036854775807) (hm : 1 ≤ m ∧ m ≤ 1073741824) : signalmanref1_Mod.f n m = some (n % m) := by
  have h := round_eq (.inr hn) hm
  unfold serial_round.f at h
  have e : imax 1 (imin m 1073741824) = m := by unfold imax imin; repeat' split; all_goals omega
  unfold signalmanref1_Mod.f
  rw [cut_eq (by omega), bsome, e]
  rw [e] at h
  by_cases h0 : ¬ m = 0
  · rw [if_pos h0] at h ⊢
    by_cases h1 : n.tmod m < 0
    · rw [if_pos h1] at h ⊢; simpa using h
    · rw [if_neg h1] at h ⊢; simpa using h
  · omega
theorem refdist_eq {a b m : Int} (ha : 0 ≤ a ∧ a < m) (hb : -9223372036854775808 ≤ b ∧ b ≤ 9223372036854775807) (hm : 1 ≤ m ∧ m ≤ 32768) : signalmanref1_Dist.f a (b % m) m = some ((b - a) % m) := by
  have g1 := Int.emod_nonneg b (show m ≠ 0 by omega)
  have g2 := Int.emod_lt_of_pos b (show 0 < m by omega)
  unfold signalmanref1_Dist.f
  rw [refmod_all ⟨by omega, by omega⟩ ⟨hm.1, by omega⟩, bsome, refmod_all ⟨by omega, by omega⟩ ⟨hm.1, by omega⟩, bsome, Int.emod_emod_of_dvd _ (Int.dvd_refl m), Int.emod_eq_of_lt ha.1 ha.2, w64_in ⟨by omega, by omega⟩, refmod_all ⟨by omega, by omega⟩ ⟨hm.1, by omega⟩, bsome, Int.emod_sub_emod]
def msg (p : Int × List Int) : signalmanref6_message := { n := p.1, b := p.2 }
/-- The definition's order that stands alike. -/
def toRef (x : reorder_Order) : signalmanref6_Order := { m := x.m, window := x.window, next := x.next, kept := x.kept.map msg, ready := x.ready }
theorem find_l {x : reorder_Order} (hx : x.kept.length ≤ 1000000) (n : Int) : ∀ (d i k : Nat), i + d = x.kept.length → d + 1 ≤ k →
    signalmanref6_Order_find.l0 k (toRef x) n (i : Int) = some (if mhas (x.kept.drop i) n = true then ((i + mpos (x.kept.drop i) n : Nat) : Int) else -1)
  | 0, i, k, hi, hk => by
    obtain ⟨k, rfl⟩ : ∃ j, k = j + 1 := ⟨k - 1, by omega⟩
    rw [signalmanref6_Order_find.l0, if_neg (by show ¬ (i : Int) < ((x.kept.map msg).length : Int); rw [List.length_map]; omega), List.drop_of_length_le (by omega)]; rfl
  | d + 1, i, k, hi, hk => by
    obtain ⟨k, rfl⟩ : ∃ j, k = j + 1 := ⟨k - 1, by omega⟩
    have hlt : i < x.kept.length := by omega
    have hg : ((toRef x).kept.getD ((i : Nat) : Int).toNat default) = msg x.kept[i] := by show (x.kept.map msg).getD _ _ = _; simp [List.getD, hlt]
    rw [signalmanref6_Order_find.l0, if_pos (by show (i : Int) < ((x.kept.map msg).length : Int); rw [List.length_map]; omega), if_pos (by show 0 ≤ (i : Int) ∧ (i : Int) < ((x.kept.map msg).length : Int); rw [List.length_map]; omega), hg, List.drop_eq_getElem_cons hlt]
    show (if x.kept[i].1 = n then _ else _) = _
    by_cases h : x.kept[i].1 = n
    · rw [if_pos h]; simp [mhas, mpos, h]
    · rw [if_neg h, w64_in ⟨by omega, by omega⟩]
      refine Eq.trans (find_l hx n d (i + 1) k (by omega) (by omega)) ?_
      simp only [mhas, mpos, if_neg h]
      rw [show i + (mpos (x.kept.drop (i + 1)) n + 1) = i + 1 + mpos (x.kept.drop (i + 1)) n by omega]
theorem find_eq {x : reorder_Order} (hx : x.kept.length ≤ 1000000) (n : Int) {k : Nat} (hk : x.kept.length + 1 ≤ k) : signalmanref6_Order_find.f k (toRef x) n = some (if mhas x.kept n = true then ((mpos x.kept n : Nat) : Int) else -1) := by
  have := find_l hx n x.kept.length 0 k (by omega) hk
  rw [List.drop_zero, Nat.zero_add] at this
  exact this
theorem mget_at : ∀ {m : List (Int × List Int)} {k : Int}, mhas m k = true → ((m.map msg).getD (mpos m k) default).b = mget m k []
  | [], _, h => by simp [mhas] at h
  | p :: m, k, h => by
    by_cases hk : p.1 = k
    · simp [mpos, mget, hk, msg]
    · have := mget_at (m := m) (k := k) (by simpa [mhas, hk] using h)
      simp only [mpos, mget, if_neg hk, List.map_cons, List.getD_cons_succ]; exact this
theorem refloop_eq {C : Nat} (hC : C ≤ 1000000) : ∀ (d : Nat) (x : reorder_Order) (c k : Nat), OI x C → x.kept.length ≤ d → d + 3 ≤ k → c + d ≤ 1000000 →
    signalmanref6_Order_Put.l0 k (c : Int) (toRef x) = some (((c + (drain d x).1 : Nat) : Int), toRef (drain d x).2)
  | 0, x, c, k, h, hl, hk, hc => by
    obtain ⟨k, rfl⟩ : ∃ j, k = j + 1 := ⟨k - 1, by omega⟩
    have e : x.kept = [] := List.length_eq_zero_iff.1 (by omega)
    have e2 : mhas x.kept x.next = false := by rw [e]; rfl
    rw [signalmanref6_Order_Put.l0]
    show ((signalmanref6_Order_find.f k (toRef x) x.next).bind _) = _
    rw [find_eq (by omega) _ (by omega), bsome, if_neg (by rw [e2]; simp)]; rfl
  | d + 1, x, c, k, h, hl, hk, hc => by
    obtain ⟨k, rfl⟩ : ∃ j, k = j + 1 := ⟨k - 1, by omega⟩
    have hm := h.hm
    have hd := h.held
    have hkl : ((toRef x).kept.length : Int) = (x.kept.length : Int) := by show ((x.kept.map msg).length : Int) = _; rw [List.length_map]
    rw [signalmanref6_Order_Put.l0, drain]
    show ((signalmanref6_Order_find.f k (toRef x) x.next).bind _) = _
    rw [find_eq (by omega) _ (by omega), bsome]
    by_cases hh : mhas x.kept x.next = true
    · have hl2 := mdel_len hh
      have hp := mpos_lt hh
      rw [if_pos hh, if_pos hh, if_pos (by omega)]
      show ((signalmanref6_Order_find.f k (toRef x) x.next).bind _) = _
      rw [find_eq (by omega) _ (by omega), bsome, if_pos hh, hkl, if_pos ⟨by omega, by omega⟩, if_pos (by show ((x.ready.length : Int)) + _ ≤ _; simp; omega), if_pos ⟨by omega, by omega, by omega⟩, w64_in ⟨by omega, by omega⟩, if_pos ⟨by omega, by omega, by omega⟩]
      have e1 : cut (toRef x).kept 0 ((mpos x.kept x.next : Nat) : Int) = (x.kept.take (mpos x.kept x.next)).map msg := by rw [cut0]; show (x.kept.map msg).take _ = _; rw [List.map_take]
      have e2 : cut (toRef x).kept (((mpos x.kept x.next : Nat) : Int) + 1) (x.kept.length : Int) = (x.kept.drop (mpos x.kept x.next + 1)).map msg := by
        show cut (x.kept.map msg) _ _ = _
        unfold cut
        rw [show (((mpos x.kept x.next : Nat) : Int) + 1).toNat = mpos x.kept x.next + 1 by omega, List.take_of_length_le (by rw [List.length_drop, List.length_map]; omega), List.map_drop]
      have e3 : ((toRef x).kept.getD (((mpos x.kept x.next : Nat) : Int)).toNat default).b = mget x.kept x.next [] := by
        rw [Int.toNat_natCast]; exact mget_at hh
      rw [e1, e2, e3, if_pos (by rw [List.length_map, List.length_take]; simp; omega), if_pos (by rw [List.length_append, List.length_map, List.length_map, List.length_take, List.length_drop]; simp; omega)]
      show ((signalmanref1_Next.f x.next x.m).bind _) = _
      rw [refnext_eq h.hnext ⟨by omega, by omega⟩, bsome, w64_in ⟨by omega, by omega⟩, List.nil_append, ← List.map_append, ← mdel_eq hh]
      have ih := refloop_eq hC d (ostep x) (c + 1) k (ostep_oi h hh) (by show (mdel x.kept x.next).length ≤ d; omega) (by omega) (by omega)
      refine Eq.trans ih ?_
      rw [show c + 1 + (drain d (ostep x)).1 = c + ((drain d (ostep x)).1 + 1) by omega]
    · rw [if_neg hh, if_neg hh, if_neg (by omega)]; rfl
theorem refput_eq {x : reorder_Order} {C : Nat} (h : OI x C) (hC : C ≤ 10000) {n : Int} (hn : -9223372036854775808 ≤ n ∧ n ≤ 9223372036854775807) {b : List Int} (hb : b.length ≤ 1000000) {k : Nat} (hk : C + 10 ≤ k) :
    signalmanref6_Order_Put.f k (toRef x) n b = some ((putm x n b).1, toRef (putm x n b).2) := by
  have hm := h.hm
  have hw := h.hwin
  have hx := h.hnext
  have hd := h.held
  unfold signalmanref6_Order_Put.f putm
  show ((signalmanref1_Mod.f n x.m).bind _) = _
  rw [refmod_all hn ⟨by omega, by omega⟩, bsome]
  show ((signalmanref1_Dist.f x.next (n % x.m) x.m).bind _) = _
  rw [refdist_eq hx hn ⟨by omega, hm.2⟩, bsome]
  show (if (n - x.next) % x.m ≥ x.window then _ else _) = _
  by_cases h1 : (n - x.next) % x.m ≥ x.window
  · rw [if_pos h1, if_pos h1]
  rw [if_neg h1, if_neg h1, find_eq (by omega) _ (by omega), bsome]
  by_cases h2 : mhas x.kept (n % x.m) = true
  · rw [if_pos h2, if_pos h2, if_pos (by omega)]
  rw [if_neg h2, if_neg h2, if_neg (by omega), if_pos (by simp; omega), if_pos (by show ((x.kept.map msg).length : Int) + _ ≤ _; rw [List.length_map]; simp; omega)]
  have := refloop_eq (C := C + 1) (by omega) (x.kept.length + 1) (ost x x.next (x.kept ++ [(n % x.m, b)]) x.ready) 0 k (add_oi h _ _) (by show (x.kept ++ [_]).length ≤ _; rw [List.length_append]; simp) (by omega) (by omega)
  rw [Nat.zero_add] at this
  refine Eq.trans ?_ this
  rw [List.nil_append]
  unfold toRef ost
  dsimp only
  rw [List.map_append]; rfl
theorem alive_eq {k : Nat} (hk : 20 ≤ k) : signalmanlaw14_alive.f k = some true := by
  unfold signalmanlaw14_alive.f
  rw [onew_in (by decide) (by decide), bsome, put_eq (onew_oi (by decide) (by decide)) (by decide) (by decide) (by decide) (by omega), bsome]
  unfold reorder_Order_Gap.f
  rw [bsome, put_eq (put_oi (onew_oi (by decide) (by decide)) 1 [98]) (by decide) (by decide) (by decide) (by omega), bsome]
  show _ = some true
  kernel_rfl
theorem take_rel {x : reorder_Order} {C : Nat} (h : OI x C) (hC : C ≤ 10000) : ∃ b c y, reorder_Order_Take.f x = some (b, c, y) ∧ signalmanref6_Order_Take.f (toRef x) = some (b, c, toRef y) ∧ OI y C := by
  have hd := h.held
  unfold reorder_Order_Take.f signalmanref6_Order_Take.f
  have e : (toRef x).ready = x.ready := rfl
  rw [e]
  by_cases h0 : (x.ready.length : Int) = 0
  · rw [if_pos h0, if_pos h0]; exact ⟨_, _, _, rfl, rfl, h⟩
  · have e2 : (cut x.ready 1 (x.ready.length : Int)).length = x.ready.length - 1 := by simp [cut]
    rw [if_neg h0, if_neg h0, if_pos (by omega), if_pos (by omega), if_pos (by omega), if_pos (by omega), if_pos (by rw [e2]; simp; omega)]
    refine ⟨_, _, _, rfl, rfl, h.hm, h.hwin, h.hnext, ?_⟩
    show x.kept.length + (cut x.ready 1 (x.ready.length : Int)).length ≤ C
    rw [e2]; omega
theorem j2_eq (x : reorder_Order) (i : Nat) (hi : i ≤ 1000) (a : Int) (o : reorder_Order) (Lq : Int → signalmanref6_Order → reorder_Order → reorder_Order → Option Bool) :
    signalmanlaw14_ReorderPlays.j2 i (a, o) Lq (toRef x) x = Lq ((i + 1 : Nat) : Int) (toRef x) o x := by
  unfold signalmanlaw14_ReorderPlays.j2 reorder_Order_Next.f signalmanref6_Order_Next.f reorder_Order_Gap.f signalmanref6_Order_Gap.f
  rw [bsome, bsome, if_pos (show x.next = (toRef x).next from rfl), bsome, bsome]
  have e : (toRef x).kept.length = x.kept.length := by show (x.kept.map msg).length = _; rw [List.length_map]
  rw [e, if_neg (by simp), w64_in ⟨by omega, by omega⟩]; rfl
theorem l1_eq {acts : List signalmanlaw14_Act} (h100 : acts.length ≤ 100) (hN : ∀ a ∈ acts, -9223372036854775808 ≤ a.N ∧ a.N ≤ 9223372036854775807) : ∀ (d i : Nat) (o x : reorder_Order) (k : Nat), i + d = acts.length → OI x i → OI o i → 500 + d ≤ k → signalmanlaw14_ReorderPlays.l1 k acts i (toRef x) o x = some true
  | 0, i, o, x, k, hi, h, ho, hk => by
    obtain ⟨k, rfl⟩ : ∃ j, k = j + 1 := ⟨k - 1, by omega⟩
    rw [signalmanlaw14_ReorderPlays.l1, if_neg (by omega)]
  | d + 1, i, o, x, k, hi, h, ho, hk => by
    obtain ⟨k, rfl⟩ : ∃ j, k = j + 1 := ⟨k - 1, by omega⟩
    have hlt : i < acts.length := by omega
    have hg : acts.getD ((i : Nat) : Int).toNat default = acts[i] := by simp [List.getD, hlt]
    have hNi := hN _ (List.getElem_mem hlt)
    rw [signalmanlaw14_ReorderPlays.l1, if_pos (by omega), if_pos ⟨by omega, by omega⟩, hg]
    generalize acts[i] = a at *
    by_cases hb : (a.B.length : Int) > 60
    · rw [if_pos hb]
    rw [if_neg hb, put_eq ho (by omega) (by decide) (by decide) (by omega), bsome]
    have ho2 := put_oi ho 0 [1]
    generalize putm o 0 [1] = pq at *
    obtain ⟨p1, o2⟩ := pq
    have fin : ∀ (y : reorder_Order), OI y (i + 1) → signalmanlaw14_ReorderPlays.j2 i (p1, o2) (signalmanlaw14_ReorderPlays.l1 k acts) (toRef y) y = some true := by
      intro y hy
      rw [j2_eq y i (by omega)]
      exact l1_eq h100 hN d (i + 1) o2 y k (by omega) hy ho2 (by omega)
    by_cases w0 : a.Way = 0
    · rw [if_pos w0, if_pos (by simp; omega), List.nil_append, put_eq h (by omega) hNi (by omega) (by omega), bsome, refput_eq h (by omega) hNi (by omega) (by omega), bsome, if_pos rfl]
      exact fin _ (put_oi h _ _)
    rw [if_neg w0]
    by_cases w1 : a.Way = 1
    · rw [if_pos w1]
      obtain ⟨b, c, y, e1, e2, h'⟩ := take_rel h (by omega)
      rw [e1, bsome, e2, bsome]
      dsimp only
      rw [sEq_refl, if_pos rfl, if_neg (by simp)]
      exact fin y (h'.more (by omega))
    rw [if_neg w1]
    by_cases w2 : a.Way = 2
    · rw [if_pos w2]
      unfold reorder_Order_Clear.f signalmanref6_Order_Clear.f
      rw [bsome, bsome]
      have hd := h.held
      have hm := h.hm
      exact fin (ost x 0 [] x.ready) ⟨h.hm, h.hwin, ⟨Int.le_refl _, by show 0 < x.m; omega⟩, by show ([] : List (Int × List Int)).length + x.ready.length ≤ _; rw [List.length_nil]; omega⟩
    rw [if_neg w2]
    exact fin x (h.more (by omega))
theorem ReorderPlays : signalmanlaw14_ReorderPlays.Pure := by
  intro m win acts w0 w1 w2 w3
  obtain ⟨K, hK⟩ : ∃ K : Nat, 6000 ≤ K := ⟨6000, Nat.le_refl _⟩
  refine ⟨K, ?_⟩
  unfold signalmanlaw14_ReorderPlays.f
  rw [alive_eq (by omega), bsome, if_pos rfl]
  unfold signalmanlaw14_ReorderPlays.j0
  by_cases c : (acts.length : Int) > 100
  · rw [if_pos (by simpa using c)]
  · rw [if_neg (by simpa using c)]
    obtain ⟨M, hM⟩ : ∃ M, M = imax 8 (imin m 32768) := ⟨_, rfl⟩
    have hMb : 8 ≤ M ∧ M ≤ 32768 := by rw [hM]; unfold imax imin; repeat' split; all_goals omega
    obtain ⟨W, hW⟩ : ∃ W, W = imax 1 (imin win (M / 8)) := ⟨_, rfl⟩
    have hWb : 1 ≤ W ∧ W ≤ M / 8 := by rw [hW]; unfold imax imin; repeat' split; all_goals omega
    have e2 : signalmanref6_NewOrder.f m win = some (toRef (onew M W)) := by
      unfold signalmanref6_NewOrder.f signalmanref6_Round.f
      rw [cut_eq (by omega), bsome, ← hM, td8 (by omega), cut_eq (by omega), bsome, ← hW, bsome]; rfl
    rw [onew_eq, ← hM, ← hW, bsome, onew_in (by decide) (by decide), bsome, e2, bsome]
    exact l1_eq (by omega) (fun a ha => wf64 (w2 a ha).2.1) acts.length 0 _ _ K (by omega) (onew_oi hMb hWb) (onew_oi (by decide) (by decide)) (by omega)
end Go.Proofs.Ytcjmffcpldjbpaa

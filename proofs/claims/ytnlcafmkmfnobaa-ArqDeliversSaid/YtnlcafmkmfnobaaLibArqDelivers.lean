/- ArqDelivers: as soon as nothing is lost any more, all that was sent is received and acknowledged within the rounds of the law: what may still be told is counted and falls with each message carried, and the timer ends each silence (ad.inc .. ad8.inc). Conditions: none beyond those of the given statement. -/
import Derived.Test.YtnlcafmkmfnobaaRunArqDelivers
import Derived.KernelRfl
set_option linter.all false
set_option maxRecDepth 100000
namespace Go.Proofs.Ytnlcafmkmfnobaa
open Go.RowKit Go.Proofs.Ytnlcafmkmfnobaa.Walk
theorem bsome {α β : Type} (x : α) (g : α → Option β) : (some x).bind g = g x := Eq.trans (b := g x) rfl (Eq.symm rfl)
theorem u8w (x : Int) : IntKind.u8.wrap x = x % 256 := by
 simp [IntKind.wrap, IntKind.bits, IntKind.signed]
theorem i64nat {x : Int} (h0 : 0 ≤ x) (h1 : x < 9223372036854775808) : BitVec.ofInt 64 x = BitVec.ofNat 64 x.toNat := by
 apply BitVec.eq_of_toNat_eq
 simp [BitVec.toNat_ofInt]
 omega
theorem iand_nat {x y : Int} (h0 : 0 ≤ x) (h1 : x < 9223372036854775808) (h2 : 0 ≤ y) (h3 : y < 9223372036854775808) : iand .i64 x y = ((x.toNat &&& y.toNat : Nat) : Int) := by
 unfold iand
 show IntKind.i64.wrap (BitVec.ofInt 64 x &&& BitVec.ofInt 64 y).toNat = _
 rw [i64nat h0 h1, i64nat h2 h3, BitVec.toNat_and]
 simp only [BitVec.toNat_ofNat]
 rw [Nat.mod_eq_of_lt (by omega), Nat.mod_eq_of_lt (by omega)]
 have h4 : x.toNat &&& y.toNat ≤ x.toNat := Nat.and_le_left
 have := w64_in (n := ((x.toNat &&& y.toNat : Nat) : Int)) (by omega)
 exact this
theorem ior_nat {x y : Int} (h0 : 0 ≤ x) (h1 : x < 9223372036854775808) (h2 : 0 ≤ y) (h3 : y < 9223372036854775808) : ior .i64 x y = ((x.toNat ||| y.toNat : Nat) : Int) := by
 unfold ior
 show IntKind.i64.wrap (BitVec.ofInt 64 x ||| BitVec.ofInt 64 y).toNat = _
 rw [i64nat h0 h1, i64nat h2 h3, BitVec.toNat_or]
 simp only [BitVec.toNat_ofNat]
 rw [Nat.mod_eq_of_lt (by omega), Nat.mod_eq_of_lt (by omega)]
 have h4 : x.toNat ||| y.toNat < 2 ^ 63 := Nat.or_lt_two_pow (by omega) (by omega)
 have := w64_in (n := ((x.toNat ||| y.toNat : Nat) : Int)) (by omega)
 exact this
theorem iand_1 {x : Int} (h0 : 0 ≤ x) (h1 : x < 9223372036854775808) : iand .i64 x 1 = x % 2 := by
 rw [iand_nat h0 h1 (by omega) (by omega)]
 have : x.toNat &&& (1 : Int).toNat = x.toNat % 2 := Nat.and_one_is_mod _
 rw [this]; omega
theorem ior_hi {x y : Int} (h0 : 0 ≤ x) (h1 : x < 256) (h2 : 0 ≤ y) (h3 : y < 36028797018963968) : ior .i64 x (y * 256) = x + 256 * y := by
 rw [ior_nat h0 (by omega) (by omega) (by omega)]
 have e : (y * 256).toNat = 2 ^ 8 * y.toNat := by omega
 have h4 := Nat.two_pow_add_eq_or_of_lt (i := 8) (b := x.toNat) (by omega) y.toNat
 rw [e, Nat.or_comm, ← h4]; omega
theorem ior_hi' {x y : Int} (h0 : 0 ≤ x) (h1 : x < 256) (h2 : 0 ≤ y) (h3 : y < 36028797018963968) : ior .i64 (y * 256) x = x + 256 * y := by
 rw [← ior_hi h0 h1 h2 h3, ior_nat (by omega) (by omega) h0 (by omega), ior_nat h0 (by omega) (by omega) (by omega), Nat.or_comm]
theorem byte_all {p : Int → Prop} (h : ∀ n : Fin 256, p (n.val : Int)) {z : Int} (h0 : 0 ≤ z) (h1 : z < 256) : p z := by
 have := h ⟨z.toNat, by omega⟩
 rwa [show ((z.toNat : Nat) : Int) = z by omega] at this
theorem round_eq {n m : Int} (hn : -1000000000000 ≤ n ∧ n ≤ 1000000000000 ∨ -9223372036854775808 ≤ n ∧ n ≤ 9223372036854775807) (hm : 1 ≤ m ∧ m ≤ 1073741824) : serial_round.f n m = some (n % m, m) := by
 unfold serial_round.f
 have e1 : imax 1 (imin m 1073741824) = m := by unfold imax imin; repeat' split; all_goals omega
 rw [e1, if_pos (by omega)]
 by_cases h0 : 0 ≤ n
 ·rw [Int.tmod_eq_emod_of_nonneg h0, if_neg (by have := Int.emod_nonneg n (show m ≠ 0 by omega); omega)]
 ·have hlt := Int.emod_lt_of_pos n (show 0 < m by omega)
  have hge := Int.emod_nonneg n (show m ≠ 0 by omega)
  have ht : n.tmod m = if n % m = 0 then 0 else n % m - m := by
   rw [Int.tmod_eq_emod]
   by_cases hd : m ∣ n
   ·have : n % m = 0 := Int.emod_eq_zero_of_dvd hd
    simp [hd, this]
   ·have : ¬ n % m = 0 := fun e => hd (Int.dvd_of_emod_eq_zero e)
    simp [hd, this, h0]; omega
  rw [ht]
  by_cases hz : n % m = 0
  ·rw [if_pos hz, if_neg (by omega), hz]
  ·rw [if_neg hz, if_pos (by omega), w64_in ⟨by omega, by omega⟩]
   congr 2; omega
theorem dist_eq {a b m : Int} (ha : -9223372036854775808 ≤ a ∧ a ≤ 9223372036854775807) (hb : -9223372036854775808 ≤ b ∧ b ≤ 9223372036854775807) (hm : 1 ≤ m ∧ m ≤ 1073741824) : serial_Dist.f a b m = some ((b - a) % m) := by
 unfold serial_Dist.f
 rw [round_eq (.inr ha) hm, bsome, round_eq (.inr hb) hm, bsome]
 have h1 := Int.emod_nonneg a (show m ≠ 0 by omega)
 have h2 := Int.emod_lt_of_pos a (show 0 < m by omega)
 have h3 := Int.emod_nonneg b (show m ≠ 0 by omega)
 have h4 := Int.emod_lt_of_pos b (show 0 < m by omega)
 dsimp only
 rw [w64_in ⟨by omega, by omega⟩, round_eq (.inl ⟨by omega, by omega⟩) hm, bsome]
 dsimp only
 rw [← Int.sub_emod]
namespace Bl
structure BI (l : backlog_Log) : Prop where
 m : 8 ≤ l.m ∧ l.m ≤ 32768
 win : 1 ≤ l.window ∧ l.window ≤ 4096
 que : 0 ≤ l.queue ∧ l.queue ≤ 1000
 first : 0 ≤ l.first ∧ l.first < l.m
 out : 0 ≤ l.out ∧ l.out ≤ l.window ∧ l.out ≤ (l.l.length : Int)
 wait : (l.l.length : Int) ≤ l.out + l.queue
 small : ∀ b ∈ l.l, b.length ≤ 1000000
theorem clone_eq {l : List Int} (h : (l.length : Int) ≤ 1099511627776) : slices_Clone_Sbytebyte.f l = some l := by
 unfold slices_Clone_Sbytebyte.f
 rw [if_pos (by simp; omega)]; rfl
theorem number_eq {l : backlog_Log} (hm : 8 ≤ l.m ∧ l.m ≤ 32768) (hf : 0 ≤ l.first ∧ l.first < l.m) {i : Int} (hi : 0 ≤ i ∧ i ≤ 100000) : backlog_Log_number.f l i = some ((l.first + i) % l.m) := by
 unfold backlog_Log_number.f
 rw [if_pos (by omega), w64_in ⟨by omega, by omega⟩, Int.tmod_eq_emod_of_nonneg (by omega)]
def logOut (l : backlog_Log) : backlog_Log := { m := l.m, window := l.window, queue := l.queue, first := l.first, out := l.out + 1, l := l.l }
def logAdd (l : backlog_Log) (b : List Int) : backlog_Log := { m := l.m, window := l.window, queue := l.queue, first := l.first, out := l.out, l := l.l ++ [b] }
theorem next_no {l : backlog_Log} (h : l.out = (l.l.length : Int) ∨ l.out = l.window) : backlog_Log_Next.f l = some (0, [], false, l) := by
 unfold backlog_Log_Next.f backlog_Log_Next.j0
 by_cases h1 : l.out = (l.l.length : Int)
 ·rw [if_pos h1]; rfl
 ·rw [if_neg h1, if_pos (by simpa using h.resolve_left h1)]
theorem next_yes {l : backlog_Log} (h : BI l) (h1 : l.out < (l.l.length : Int)) (h2 : l.out < l.window) : backlog_Log_Next.f l = some ((l.first + l.out) % l.m, l.l.getD l.out.toNat [], true, logOut l) := by
 have ho := h.out
 have hw := h.win
 unfold backlog_Log_Next.f backlog_Log_Next.j0
 rw [if_neg (show ¬ l.out = (l.l.length : Int) by omega), if_neg (show ¬ decide (l.out = l.window) = true by simp; omega), if_pos ⟨ho.1, h1⟩, w64_in ⟨by omega, by omega⟩]
 rw [number_eq (l := { m := l.m, window := l.window, queue := l.queue, first := l.first, out := l.out + 1, l := l.l }) h.m h.first ⟨ho.1, by omega⟩, bsome]
 have hs : ((l.l.getD l.out.toNat []).length : Int) ≤ 1000000 := by
  have hlt : l.out.toNat < l.l.length := by omega
  have e : l.l.getD l.out.toNat [] = l.l[l.out.toNat] := by simp [List.getD, hlt]
  rw [e]; have := h.small _ (List.getElem_mem hlt); omega
 rw [clone_eq (by omega), bsome]; rfl
theorem add_no {l : backlog_Log} (h : BI l) (b : List Int) (hn : (l.l.length : Int) - l.out ≥ l.queue) : backlog_Log_Add.f l b = some (6, l) := by
 have ho := h.out
 have hw := h.wait
 have hq := h.que
 have hwi := h.win
 unfold backlog_Log_Add.f
 rw [w64_in ⟨by omega, by omega⟩, if_pos hn]
theorem add_yes {l : backlog_Log} (h : BI l) {b : List Int} (hn : (l.l.length : Int) - l.out < l.queue) (hb : b.length ≤ 1000000) : backlog_Log_Add.f l b = some (0, logAdd l b) := by
 have ho := h.out
 have hw := h.wait
 have hq := h.que
 have hwi := h.win
 unfold backlog_Log_Add.f
 rw [w64_in ⟨by omega, by omega⟩, if_neg (by omega), clone_eq (by omega), bsome, if_pos (by simp only [List.length_cons, List.length_nil]; omega)]; rfl
theorem out_bi {l : backlog_Log} (h : BI l) (h1 : l.out < (l.l.length : Int)) (h2 : l.out < l.window) : BI (logOut l) := by
 have ho := h.out
 have hw := h.wait
 exact ⟨h.m, h.win, h.que, h.first, by show 0 ≤ l.out + 1 ∧ l.out + 1 ≤ l.window ∧ l.out + 1 ≤ (l.l.length : Int); omega, by show (l.l.length : Int) ≤ l.out + 1 + l.queue; omega, h.small⟩
theorem add_bi {l : backlog_Log} (h : BI l) {b : List Int} (hn : (l.l.length : Int) - l.out < l.queue) (hb : b.length ≤ 1000000) : BI (logAdd l b) := by
 have ho := h.out
 refine ⟨h.m, h.win, h.que, h.first, ?_, ?_, ?_⟩
 ·show 0 ≤ l.out ∧ l.out ≤ l.window ∧ l.out ≤ ((l.l ++ [b]).length : Int)
  rw [List.length_append]; simp; omega
 ·show ((l.l ++ [b]).length : Int) ≤ l.out + l.queue
  rw [List.length_append]; simp; omega
 ·intro x hx
  rcases List.mem_append.1 hx with hx | hx
  ·exact h.small x hx
  ·simp at hx; subst hx; exact hb
theorem td8 {x : Int} (h : 0 ≤ x ∧ x ≤ 100000) : w64 (x.tdiv 8) = x / 8 := by
 rw [Int.tdiv_eq_ediv_of_nonneg h.1, w64_in ⟨by omega, by omega⟩]
theorem new_bi {m win q : Int} (hm : 8 ≤ m ∧ m ≤ 32768) (hw : 1 ≤ win ∧ win ≤ m / 8) (hq : 0 ≤ q ∧ q ≤ 1000) : BI { m := m, window := win, queue := q, first := 0, out := 0, l := [] } :=
 ⟨hm, by show 1 ≤ win ∧ win ≤ 4096; omega, hq, by show 0 ≤ (0 : Int) ∧ 0 < m; omega, by show 0 ≤ (0 : Int) ∧ 0 ≤ win ∧ (0 : Int) ≤ _; simp; omega, by simp; exact hq.1, by simp⟩
def outs (l : backlog_Log) : List Int := (List.range l.out.toNat).map fun (i : Nat) => (l.first + (i : Int)) % l.m
theorem out_l0 {l : backlog_Log} (h : BI l) : ∀ (d i : Nat) (k : Nat) (xs : List Int), (i : Int) + d = l.out → xs.length = i → d + 1 ≤ k → backlog_Log_Out.l0 k l i xs = some (xs ++ (List.range' i d).map fun (i : Nat) => (l.first + (i : Int)) % l.m)
 | 0, i, k, xs, hi, hx, hk => by
  obtain ⟨k, rfl⟩ : ∃ j, k = j + 1 := ⟨k - 1, by omega⟩
  rw [backlog_Log_Out.l0, if_neg (by omega)]; simp
 | d + 1, i, k, xs, hi, hx, hk => by
  obtain ⟨k, rfl⟩ : ∃ j, k = j + 1 := ⟨k - 1, by omega⟩
  have ho := h.out
  have hw := h.win
  rw [backlog_Log_Out.l0, if_pos (by omega), number_eq h.m h.first ⟨by omega, by omega⟩, bsome, if_pos (by simp only [List.length_cons, List.length_nil]; omega), w64_in ⟨by omega, by omega⟩]
  have := out_l0 h d (i + 1) k (xs ++ [(l.first + (i : Int)) % l.m]) (by omega) (by simp [hx]) (by omega)
  rw [show ((i : Nat) : Int) + 1 = ((i + 1 : Nat) : Int) by omega, this, List.range'_succ]; simp
theorem out_eq {l : backlog_Log} (h : BI l) {k : Nat} (hk : 5000 ≤ k) : backlog_Log_Out.f k l = some (outs l) := by
 have ho := h.out
 have hw := h.win
 unfold backlog_Log_Out.f outs
 have := out_l0 h l.out.toNat 0 k [] (by omega) rfl (by omega)
 rw [List.range_eq_range']; simpa using this
theorem outs_len (l : backlog_Log) : (outs l).length = l.out.toNat := by simp [outs]
theorem delete2_eq {l : List (List Int)} {m : Nat} (h : m ≤ l.length) : slices_Delete_SSbyteSbyte.f l 0 (m : Int) = some (l.drop m) := by
 unfold slices_Delete_SSbyteSbyte.f
 rw [if_pos ⟨by omega, by omega, by omega⟩]
 by_cases h0 : (0 : Int) = (m : Int)
 ·rw [if_pos h0]
  have : m = 0 := by omega
  subst this; rfl
 ·rw [if_neg h0, if_pos ⟨by omega, by omega, by omega⟩, if_pos ⟨by omega, by omega, by omega⟩]
  congr 1
  simp [cut]
  exact List.take_of_length_le (by simp)
def logAck (l : backlog_Log) (k : Int) : backlog_Log := { m := l.m, window := l.window, queue := l.queue, first := (l.first + k) % l.m, out := l.out - k, l := l.l.drop k.toNat }
theorem ack_no {l : backlog_Log} (h : BI l) {n : Int} (hn : -9223372036854775808 ≤ n ∧ n ≤ 9223372036854775807) (hx : n < 0 ∨ l.m ≤ n ∨ l.out < (n - l.first) % l.m) : backlog_Log_Ack.f l n = some (0, false, l) := by
 have hm := h.m
 have hf := h.first
 unfold backlog_Log_Ack.f backlog_Log_Ack.j0
 rw [dist_eq ⟨by omega, by omega⟩ hn ⟨by omega, by omega⟩, bsome]
 by_cases h1 : n < 0
 ·rw [if_pos h1]; rfl
 ·rw [if_neg h1]
  by_cases h2 : n ≥ l.m
  ·rw [if_pos h2]; rfl
  ·rw [if_neg h2, if_pos (by simp; omega)]
theorem ack_yes {l : backlog_Log} (h : BI l) {n : Int} (hn : 0 ≤ n ∧ n < l.m) (hx : (n - l.first) % l.m ≤ l.out) : backlog_Log_Ack.f l n = some ((n - l.first) % l.m, true, logAck l ((n - l.first) % l.m)) := by
 have hm := h.m
 have hf := h.first
 have ho := h.out
 have hw := h.win
 have h1 := Int.emod_nonneg (n - l.first) (show l.m ≠ 0 by omega)
 unfold backlog_Log_Ack.f backlog_Log_Ack.j0
 rw [dist_eq ⟨by omega, by omega⟩ ⟨by omega, by omega⟩ ⟨by omega, by omega⟩, bsome]
 generalize (n - l.first) % l.m = d at *
 obtain ⟨e, rfl⟩ : ∃ e : Nat, d = (e : Int) := ⟨d.toNat, by omega⟩
 rw [if_neg (by omega), if_neg (show ¬ n ≥ l.m by omega), if_neg (by simp; omega), delete2_eq (by omega), bsome, w64_in ⟨by omega, by omega⟩]
 rw [number_eq (l := { m := l.m, window := l.window, queue := l.queue, first := l.first, out := l.out - (e : Int), l := l.l.drop e }) hm hf ⟨by omega, by omega⟩, bsome]; rfl
theorem ack_bi {l : backlog_Log} (h : BI l) {k : Int} (hk : 0 ≤ k ∧ k ≤ l.out) : BI (logAck l k) := by
 have hm := h.m
 have ho := h.out
 have hw := h.wait
 refine ⟨h.m, h.win, h.que, ⟨Int.emod_nonneg _ (by omega), Int.emod_lt_of_pos _ (by omega)⟩, ?_, ?_, ?_⟩
 ·show 0 ≤ l.out - k ∧ l.out - k ≤ l.window ∧ l.out - k ≤ ((l.l.drop k.toNat).length : Int)
  rw [List.length_drop]; omega
 ·show ((l.l.drop k.toNat).length : Int) ≤ l.out - k + l.queue
  rw [List.length_drop]; omega
 ·intro b hb
  exact h.small b (List.mem_of_mem_drop hb)
end Bl
namespace Or
theorem td8 {x : Int} (h : 0 ≤ x ∧ x ≤ 100000) : w64 (x.tdiv 8) = x / 8 := by
 rw [Int.tdiv_eq_ediv_of_nonneg h.1, w64_in ⟨by omega, by omega⟩]
theorem clone_eq {l : List Int} (h : (l.length : Int) ≤ 1099511627776) : slices_Clone_Sbytebyte.f l = some l := by
 unfold slices_Clone_Sbytebyte.f
 rw [if_pos (by simp; omega)]; rfl
theorem next_eq {n m : Int} (hn : 0 ≤ n ∧ n < m) (hm : 1 ≤ m ∧ m ≤ 32768) : serial_Next.f n m = some ((n + 1) % m) := by
 unfold serial_Next.f
 rw [round_eq (.inl ⟨by omega, by omega⟩) ⟨hm.1, by omega⟩, bsome]
 dsimp only
 rw [Int.emod_eq_of_lt hn.1 hn.2, w64_in ⟨by omega, by omega⟩, round_eq (.inl ⟨by omega, by omega⟩) ⟨hm.1, by omega⟩, bsome]
theorem mdel_len {α : Type} : ∀ {m : List (Int × α)} {k : Int}, mhas m k = true → (mdel m k).length + 1 = m.length
 | [], _, h => by simp [mhas] at h
 | p :: m, k, h => by
  by_cases hk : p.1 = k
  ·simp [mdel, hk]
  ·have := mdel_len (m := m) (k := k) (by simpa [mhas, hk] using h)
   simp only [mdel, if_neg hk, List.length_cons]; omega
theorem mput_new {α : Type} {v : α} : ∀ {m : List (Int × α)} {k : Int}, mhas m k = false → mput m k v = m ++ [(k, v)]
 | [], _, _ => rfl
 | p :: m, k, h => by
  have hk : ¬ p.1 = k := fun e => by simp [mhas, e] at h
  rw [mput, if_neg hk, mput_new (by simpa [mhas, hk] using h)]; rfl
structure OI (x : reorder_Order) (C : Nat) : Prop where
 hm : 8 ≤ x.m ∧ x.m ≤ 32768
 hwin : 1 ≤ x.window ∧ x.window ≤ x.m / 8
 hnext : 0 ≤ x.next ∧ x.next < x.m
 held : x.kept.length + x.ready.length ≤ C
theorem OI.more {x : reorder_Order} {C D : Nat} (h : OI x C) (l : C ≤ D) : OI x D := ⟨h.hm, h.hwin, h.hnext, Nat.le_trans h.held l⟩
def ost (x : reorder_Order) (n : Int) (kv : List (Int × List Int)) (r : List (List Int)) : reorder_Order := { m := x.m, window := x.window, next := n, kept := kv, ready := r }
def ostep (x : reorder_Order) : reorder_Order := ost x ((x.next + 1) % x.m) (mdel x.kept x.next) (x.ready ++ [mget x.kept x.next []])
def drain : Nat → reorder_Order → Nat × reorder_Order
 | 0, x => (0, x)
 | d + 1, x => if mhas x.kept x.next = true then ((drain d (ostep x)).1 + 1, (drain d (ostep x)).2) else (0, x)
theorem ostep_oi {x : reorder_Order} {C : Nat} (h : OI x C) (hh : mhas x.kept x.next = true) : OI (ostep x) C := by
 have := h.hm
 have hl := mdel_len hh
 have := h.held
 refine ⟨h.hm, h.hwin, ⟨Int.emod_nonneg _ (by show x.m ≠ 0; omega), Int.emod_lt_of_pos _ (by show 0 < x.m; omega)⟩, ?_⟩
 show (mdel x.kept x.next).length + (x.ready ++ [_]).length ≤ C
 rw [List.length_append]; simp; omega
theorem drain_oi {C : Nat} : ∀ (d : Nat) {x : reorder_Order}, OI x C → OI (drain d x).2 C
 | 0, _, h => h
 | d + 1, x, h => by
  rw [drain]
  by_cases hh : mhas x.kept x.next = true
  ·rw [if_pos hh]; exact drain_oi d (ostep_oi h hh)
  ·rw [if_neg hh]; exact h
theorem loop_eq {C : Nat} (hC : C ≤ 1050000000000) : ∀ (d : Nat) (x : reorder_Order) (c k : Nat), OI x C → x.kept.length ≤ d → d + 1 ≤ k → c + d ≤ 1050000000001 →
  reorder_Order_Put.l0 k (c : Int) (mhas x.kept x.next) x (mget x.kept x.next []) = some (((c + (drain d x).1 : Nat) : Int), (drain d x).2)
 | 0, x, c, k, h, hl, hk, hc => by
  obtain ⟨k, rfl⟩ : ∃ j, k = j + 1 := ⟨k - 1, by omega⟩
  have e : x.kept = [] := List.length_eq_zero_iff.1 (by omega)
  have e2 : mhas x.kept x.next = false := by rw [e]; rfl
  rw [reorder_Order_Put.l0, if_neg (by rw [e2]; simp)]; rfl
 | d + 1, x, c, k, h, hl, hk, hc => by
  obtain ⟨k, rfl⟩ : ∃ j, k = j + 1 := ⟨k - 1, by omega⟩
  have hm := h.hm
  have hd := h.held
  rw [reorder_Order_Put.l0, drain]
  by_cases hh : mhas x.kept x.next = true
  ·have hl2 := mdel_len hh
   rw [if_pos hh, if_pos hh, if_pos (by simp; omega), next_eq h.hnext ⟨by omega, hm.2⟩, bsome, w64_in ⟨by omega, by omega⟩]
   have ih := loop_eq hC d (ostep x) (c + 1) k (ostep_oi h hh) (by show (mdel x.kept x.next).length ≤ d; omega) (by omega) (by omega)
   refine Eq.trans ih ?_
   rw [show c + 1 + (drain d (ostep x)).1 = c + ((drain d (ostep x)).1 + 1) by omega]
  ·rw [if_neg hh, if_neg hh]; rfl
def putm (x : reorder_Order) (n : Int) (b : List Int) : Int × reorder_Order :=
 if (n - x.next) % x.m ≥ x.window then (-1, x) else if mhas x.kept (n % x.m) = true then (0, x) else
  (((drain (x.kept.length + 1) (ost x x.next (x.kept ++ [(n % x.m, b)]) x.ready)).1 : Int), (drain (x.kept.length + 1) (ost x x.next (x.kept ++ [(n % x.m, b)]) x.ready)).2)
theorem add_oi {x : reorder_Order} {C : Nat} (h : OI x C) (n : Int) (b : List Int) : OI (ost x x.next (x.kept ++ [(n, b)]) x.ready) (C + 1) := by
 have := h.held
 refine ⟨h.hm, h.hwin, h.hnext, ?_⟩
 show (x.kept ++ [_]).length + x.ready.length ≤ C + 1
 rw [List.length_append]; simp; omega
theorem put_oi {x : reorder_Order} {C : Nat} (h : OI x C) (n : Int) (b : List Int) : OI (putm x n b).2 (C + 1) := by
 unfold putm
 by_cases h1 : (n - x.next) % x.m ≥ x.window
 ·rw [if_pos h1]; exact h.more (by omega)
 ·rw [if_neg h1]
  by_cases h2 : mhas x.kept (n % x.m) = true
  ·rw [if_pos h2]; exact h.more (by omega)
  ·rw [if_neg h2]; exact drain_oi _ (add_oi h _ _)
theorem put_eq {x : reorder_Order} {C : Nat} (h : OI x C) (hC : C ≤ 1000000000000) {n : Int} (hn : -9223372036854775808 ≤ n ∧ n ≤ 9223372036854775807) {b : List Int} (hb : b.length ≤ 1000000) {k : Nat} (hk : C + 5 ≤ k) :
  reorder_Order_Put.f k x n b = some (putm x n b) := by
 have hm := h.hm
 have hw := h.hwin
 have hx := h.hnext
 have hd := h.held
 unfold reorder_Order_Put.f putm
 rw [dist_eq ⟨by omega, by omega⟩ hn ⟨by omega, by omega⟩, bsome, if_pos (by omega)]
 have g1 := Int.emod_nonneg (n - x.next) (show x.m ≠ 0 by omega)
 have g2 := Int.emod_lt_of_pos (n - x.next) (show 0 < x.m by omega)
 by_cases h1 : (n - x.next) % x.m ≥ x.window
 ·rw [if_pos h1, if_pos h1]
 rw [if_neg h1, if_neg h1, w64_in ⟨by omega, by omega⟩, Int.tmod_eq_emod_of_nonneg (by omega)]
 have e : (x.next + (n - x.next) % x.m) % x.m = n % x.m := by
  rw [Int.add_comm, Int.emod_add_emod, show n - x.next + x.next = n by omega]
 rw [e]
 by_cases h2 : mhas x.kept (n % x.m) = true
 ·rw [if_pos h2, if_pos h2]
 rw [if_neg h2, if_neg h2, clone_eq (by omega), bsome, mput_new (by simpa using h2)]
 have := loop_eq (C := C + 1) (by omega) (x.kept.length + 1) (ost x x.next (x.kept ++ [(n % x.m, b)]) x.ready) 0 k (add_oi h _ _) (by show (x.kept ++ [_]).length ≤ _; rw [List.length_append]; simp) (by omega) (by omega)
 refine Eq.trans this ?_
 rw [Nat.zero_add]
def onew (m w : Int) : reorder_Order := { m := m, window := w, next := 0, kept := [], ready := [] }
theorem onew_oi {m w : Int} (hm : 8 ≤ m ∧ m ≤ 32768) (hw : 1 ≤ w ∧ w ≤ m / 8) : OI (onew m w) 0 := ⟨hm, hw, ⟨Int.le_refl _, by show 0 < m; omega⟩, Nat.le_refl _⟩
theorem onew_eq (m w : Int) : reorder_New.f m w = some (onew (imax 8 (imin m 32768)) (imax 1 (imin w (imax 8 (imin m 32768) / 8)))) := by
 have hM : 8 ≤ imax 8 (imin m 32768) ∧ imax 8 (imin m 32768) ≤ 32768 := by unfold imax imin; repeat' split; all_goals omega
 unfold reorder_New.f backlog_Cut.f
 rw [bsome, td8 (by omega)]; rfl
theorem take_nil {x : reorder_Order} (h : x.ready = []) : reorder_Order_Take.f x = some ([], false, x) := by
 unfold reorder_Order_Take.f
 rw [h]; rfl
theorem take_cons {x : reorder_Order} {b : List Int} {r : List (List Int)} (h : x.ready = b :: r) : reorder_Order_Take.f x = some (b, true, ost x x.next x.kept r) := by
 unfold reorder_Order_Take.f
 rw [h]
 simp only [List.length_cons]
 rw [if_neg (by omega), if_pos (by omega), if_pos (by omega)]
 have : cut (b :: r) 1 ((r.length + 1 : Nat) : Int) = r := by simp [cut]
 rw [this]; rfl
end Or
namespace Co
def rightB (c : api_Ctl) (m : Int) : Bool :=
 (m == 128 || m == 32768) && (if c.Kind = 0 then decide (0 ≤ c.Ns) && decide (c.Ns < m) && (decide (0 ≤ c.Nr) && decide (c.Nr < m))
  else if c.Kind = 1 ∨ c.Kind = 2 then decide (c.Ns = 0) && (decide (0 ≤ c.Nr) && decide (c.Nr < m)) else decide (3 ≤ c.Kind) && decide (c.Kind ≤ 7) && decide (c.Ns = 0) && decide (c.Nr = 0))
theorem right_eq (c : api_Ctl) (m : Int) : control_Right.f c m = some (rightB c m) := by
 unfold control_Right.f control_Right.j0 control_modulus.f control_of.f rightB
 by_cases h1 : m = 128
 ·subst h1
  by_cases k0 : c.Kind = 0
  ·by_cases n1 : 0 ≤ c.Ns <;> by_cases n2 : c.Ns < 128 <;> by_cases n3 : 0 ≤ c.Nr <;> by_cases n4 : c.Nr < 128 <;> simp [k0, n1, n2, n3, n4]
  ·by_cases k1 : c.Kind = 1
   ·by_cases n1 : c.Ns = 0 <;> by_cases n3 : 0 ≤ c.Nr <;> by_cases n4 : c.Nr < 128 <;> simp [k1, n1, n3, n4]
   ·by_cases k2 : c.Kind = 2
    ·by_cases n1 : c.Ns = 0 <;> by_cases n3 : 0 ≤ c.Nr <;> by_cases n4 : c.Nr < 128 <;> simp [k2, n1, n3, n4]
    ·by_cases k3 : 3 ≤ c.Kind <;> by_cases k7 : c.Kind ≤ 7 <;> by_cases n1 : c.Ns = 0 <;> simp [k0, k1, k2, k3, k7, n1]
 ·by_cases h2 : m = 32768
  ·subst h2
   by_cases k0 : c.Kind = 0
   ·by_cases n1 : 0 ≤ c.Ns <;> by_cases n2 : c.Ns < 32768 <;> by_cases n3 : 0 ≤ c.Nr <;> by_cases n4 : c.Nr < 32768 <;> simp [k0, n1, n2, n3, n4]
   ·by_cases k1 : c.Kind = 1
    ·by_cases n1 : c.Ns = 0 <;> by_cases n3 : 0 ≤ c.Nr <;> by_cases n4 : c.Nr < 32768 <;> simp [k1, n1, n3, n4]
    ·by_cases k2 : c.Kind = 2
     ·by_cases n1 : c.Ns = 0 <;> by_cases n3 : 0 ≤ c.Nr <;> by_cases n4 : c.Nr < 32768 <;> simp [k2, n1, n3, n4]
     ·by_cases k3 : 3 ≤ c.Kind <;> by_cases k7 : c.Kind ≤ 7 <;> by_cases n1 : c.Ns = 0 <;> simp [k0, k1, k2, k3, k7, n1]
  ·simp [h1, h2]
def pt (n m : Int) : List Int := if m = 128 then [n % 256] else [n % 256, n / 256 % 256]
def pb (b : Bool) : Int := if b = true then 1 else 0
def bareB (k : Int) : Int := if k = 3 then 111 else if k = 4 then 99 else if k = 5 then 67 else if k = 6 then 15 else 135
def enc (c : api_Ctl) (m : Int) : List Int :=
 if c.Kind = 0 then pt (2 * c.Ns) m ++ pt (2 * c.Nr + pb c.Poll) m
 else if c.Kind = 1 then pt 1 m ++ pt (2 * c.Nr + pb c.Poll) m
 else if c.Kind = 2 then pt 9 m ++ pt (2 * c.Nr + pb c.Poll) m
 else [bareB c.Kind + 16 * pb c.Poll]
theorem pb_b (b : Bool) : 0 ≤ pb b ∧ pb b ≤ 1 := by unfold pb; split <;> omega
theorem right_cases {c : api_Ctl} {m : Int} (h : rightB c m = true) : (m = 128 ∨ m = 32768) ∧ ((c.Kind = 0 ∧ (0 ≤ c.Ns ∧ c.Ns < m) ∧ 0 ≤ c.Nr ∧ c.Nr < m) ∨ ((c.Kind = 1 ∨ c.Kind = 2) ∧ c.Ns = 0 ∧ 0 ≤ c.Nr ∧ c.Nr < m) ∨ (3 ≤ c.Kind ∧ c.Kind ≤ 7 ∧ c.Ns = 0 ∧ c.Nr = 0)) := by
 unfold rightB at h
 simp only [Bool.and_eq_true, Bool.or_eq_true, beq_iff_eq] at h
 obtain ⟨h1, h2⟩ := h
 refine ⟨h1, ?_⟩
 by_cases k0 : c.Kind = 0
 ·rw [if_pos k0] at h2; simp at h2; left; omega
 ·rw [if_neg k0] at h2
  by_cases k1 : c.Kind = 1 ∨ c.Kind = 2
  ·rw [if_pos k1] at h2; simp at h2; right; left; omega
  ·rw [if_neg k1] at h2; simp at h2; right; right; omega
theorem bit_eq (b : Bool) : control_bit.f b = some (pb b) := by unfold control_bit.f pb; split <;> rfl
theorem fd8 (n : Int) : n.fdiv (2 ^ (min ((8 : Int)).toNat IntKind.i64.bits)) = n / 256 := by
 have : (2 : Int) ^ (min ((8 : Int)).toNat IntKind.i64.bits) = 256 := by decide
 rw [this, Int.fdiv_eq_ediv_of_nonneg _ (by omega)]
theorem put_eq {l : List Int} {n m : Int} (hl : l.length ≤ 100) (hm : m = 128 ∨ m = 32768) : control_put.f l n m = some (l ++ pt n m) := by
 unfold control_put.f pt
 have h2 : (l.length : Int) ≤ 100 := by omega
 rw [if_pos (by simp; omega), u8w, fd8]
 rcases hm with rfl | rfl
 ·simp
 ·simp only [if_true]
  rw [if_pos (by simp; omega), u8w]; simp
theorem pt_le (n m : Int) : (pt n m).length ≤ 2 := by unfold pt; split <;> simp
theorem bare_k {k : Int} (h : 3 ≤ k ∧ k ≤ 7) : k = 3 ∨ k = 4 ∨ k = 5 ∨ k = 6 ∨ k = 7 := by omega
theorem bytes_eq {c : api_Ctl} {m : Int} (h : rightB c m = true) : control_Bytes.f c m = some (enc c m) := by
 obtain ⟨hm, hc⟩ := right_cases h
 have hb := pb_b c.Poll
 have hmm : 0 ≤ m ∧ m ≤ 32768 := by omega
 have p2 : ∀ x n : Int, control_put.f (pt x m) n m = some (pt x m ++ pt n m) := fun x n => put_eq (by have := pt_le x m; omega) hm
 have p1 : ∀ n : Int, control_put.f [] n m = some (pt n m) := fun n => put_eq (by simp) hm
 unfold control_Bytes.f
 simp only [right_eq, h, bsome, if_true, bit_eq, p1, p2]
 rcases hc with ⟨k0, n1, n2⟩ | ⟨k1, n1, n2⟩ | ⟨k3, k7, n1, n2⟩
 ·have e1 : w64 (2 * c.Ns) = 2 * c.Ns := w64_in ⟨by omega, by omega⟩
  have e2 : w64 (2 * c.Nr) = 2 * c.Nr := w64_in ⟨by omega, by omega⟩
  have e3 : w64 (2 * c.Nr + pb c.Poll) = 2 * c.Nr + pb c.Poll := w64_in ⟨by omega, by omega⟩
  simp only [if_pos k0, e1, e2, e3, enc]
 ·have k0 : ¬ c.Kind = 0 := by omega
  have e2 : w64 (2 * c.Nr) = 2 * c.Nr := w64_in ⟨by omega, by omega⟩
  have e3 : w64 (2 * c.Nr + pb c.Poll) = 2 * c.Nr + pb c.Poll := w64_in ⟨by omega, by omega⟩
  rcases k1 with k1 | k1
  ·simp only [if_neg k0, if_pos k1, e2, e3, enc]
  ·have k2 : ¬ c.Kind = 1 := by omega
   simp only [if_neg k0, if_neg k2, if_pos k1, e2, e3, enc]
 ·have k0 : ¬ c.Kind = 0 := by omega
  have k1 : ¬ c.Kind = 1 := by omega
  have k2 : ¬ c.Kind = 2 := by omega
  simp only [if_neg k0, if_neg k1, if_neg k2, enc]
  generalize hp : c.Poll = p
  rcases bare_k ⟨k3, k7⟩ with e | e | e | e | e <;> rw [e] <;> cases p <;> decide +kernel
def z0 : api_Ctl := { Kind := 0, Ns := 0, Nr := 0, Poll := false }
def kindOf (x : Int) : Int := if x = 111 then 3 else if x = 99 then 4 else if x = 67 then 5 else if x = 15 then 6 else if x = 135 then 7 else 0
def poll4 (x : Int) : Bool := decide (x / 16 % 2 = 1)
def base4 (x : Int) : Int := x - 16 * (x / 16 % 2)
def numS (kind : Int) (b : List Int) (m : Int) : api_Ctl × Int × Int :=
 if m = 128 then
  if (b.length : Int) < 2 then (z0, 0, 3)
  else ({ Kind := kind, Ns := if kind = 0 then b.getD 0 0 / 2 else 0, Nr := b.getD 1 0 / 2, Poll := decide (b.getD 1 0 % 2 = 1) }, 2, 0)
 else
  if (b.length : Int) < 4 then (z0, 0, 3)
  else if kind = 0 ∨ b.getD 1 0 = 0 then ({ Kind := kind, Ns := if kind = 0 then (b.getD 0 0 + 256 * b.getD 1 0) / 2 else 0, Nr := (b.getD 2 0 + 256 * b.getD 3 0) / 2, Poll := decide ((b.getD 2 0 + 256 * b.getD 3 0) % 2 = 1) }, 4, 0)
  else (z0, 0, 2)
def readS (b : List Int) (m : Int) : api_Ctl × Int × Int :=
 if ¬ (m = 128 ∨ m = 32768) then (z0, 0, 1)
 else if b.length = 0 then (z0, 0, 3)
 else if kindOf (base4 (b.getD 0 0)) ≠ 0 then ({ Kind := kindOf (base4 (b.getD 0 0)), Ns := 0, Nr := 0, Poll := poll4 (b.getD 0 0) }, 1, 0)
 else if b.getD 0 0 = 1 then numS 1 b m
 else if b.getD 0 0 = 9 then numS 2 b m
 else if b.getD 0 0 % 2 = 1 then (z0, 0, 2)
 else numS 0 b m
theorem index_eq (k : Nat) (x : Int) : slices_Index_Sbytebyte.f (k + 6) [111, 99, 67, 15, 135] x = some (if x = 111 then 0 else if x = 99 then 1 else if x = 67 then 2 else if x = 15 then 3 else if x = 135 then 4 else -1) := by
 unfold slices_Index_Sbytebyte.f
 simp only [slices_Index_Sbytebyte.l0, List.length_cons, List.length_nil]
 have e1 : w64 (0 + 1) = 1 := by decide
 have e2 : w64 (1 + 1) = 2 := by decide
 have e3 : w64 (2 + 1) = 3 := by decide
 have e4 : w64 (3 + 1) = 4 := by decide
 have e5 : w64 (4 + 1) = 5 := by decide
 simp only [e1, e2, e3, e4, e5]
 by_cases h1 : x = 111
 ·simp [h1]
 ·by_cases h2 : x = 99
  ·simp [h2]
  ·by_cases h3 : x = 67
   ·simp [h3]
   ·by_cases h4 : x = 15
    ·simp [h4]
    ·by_cases h5 : x = 135
     ·simp [h5]
     ·simp [h1, h2, h3, h4, h5]
theorem andn16 {z : Int} (h : 0 ≤ z ∧ z < 256) : iandn .u8 z 16 = base4 z := byte_all (p := fun z => iandn .u8 z 16 = base4 z) (by decide +kernel) h.1 h.2
theorem and16 {z : Int} (h : 0 ≤ z ∧ z < 256) : (!(decide (iand .u8 z 16 = 0))) = poll4 z := byte_all (p := fun z => (!(decide (iand .u8 z 16 = 0))) = poll4 z) (by decide +kernel) h.1 h.2
theorem and1 {z : Int} (h : 0 ≤ z ∧ z < 256) : iand .u8 z 1 = z % 2 := byte_all (p := fun z => iand .u8 z 1 = z % 2) (by decide +kernel) h.1 h.2
theorem number_l0 (k : Nat) (b : List Int) (n : Int) {i : Int} (h0 : 0 ≤ i) (h1 : i < (b.length : Int)) (hi : i ≤ 100) : control_number.l0 (k + 1) b n i = control_number.l0 k b (ior .i64 n (w64 (w64 (b.getD i.toNat 0) * 2 ^ (min (8 * i).toNat IntKind.i64.bits)))) (i + 1) := by
 have e1 : w64 (8 * i) = 8 * i := w64_in ⟨by omega, by omega⟩
 have e2 : w64 (i + 1) = i + 1 := w64_in ⟨by omega, by omega⟩
 rw [control_number.l0, if_pos h1, if_pos ⟨h0, h1⟩, e1, if_pos (by omega), e2]
theorem number_end (k : Nat) (b : List Int) (n : Int) {i : Int} (h1 : ¬ i < (b.length : Int)) : control_number.l0 (k + 1) b n i = some n := by
 rw [control_number.l0, if_neg h1]
theorem num1 {x : Int} (hx : 0 ≤ x ∧ x < 256) (k : Nat) : control_number.f (k + 3) [x] = some x := by
 unfold control_number.f
 have e3 : w64 (w64 x * 2 ^ (min (8 * (0 : Int)).toNat IntKind.i64.bits)) = x := by
  rw [w64_in (n := x) (by omega), show (2 : Int) ^ (min (8 * (0 : Int)).toNat IntKind.i64.bits) = 1 by decide, w64_in (by omega)]; omega
 have e4 : ior .i64 0 x = x := by rw [ior_nat (by omega) (by omega) (by omega) (by omega)]; simp; omega
 rw [number_l0 _ _ _ (by omega) (by simp) (by omega), number_end _ _ _ (by simp)]
 show some (ior .i64 0 (w64 (w64 x * 2 ^ (min (8 * (0 : Int)).toNat IntKind.i64.bits)))) = some x
 rw [e3, e4]
theorem num2 {x y : Int} (hx : 0 ≤ x ∧ x < 256) (hy : 0 ≤ y ∧ y < 256) (k : Nat) : control_number.f (k + 3) [x, y] = some (x + 256 * y) := by
 unfold control_number.f
 have e3 : w64 (w64 x * 2 ^ (min (8 * (0 : Int)).toNat IntKind.i64.bits)) = x := by
  rw [w64_in (n := x) (by omega), show (2 : Int) ^ (min (8 * (0 : Int)).toNat IntKind.i64.bits) = 1 by decide, w64_in (by omega)]; omega
 have e5 : w64 (w64 y * 2 ^ (min (8 * (0 + 1 : Int)).toNat IntKind.i64.bits)) = y * 256 := by
  rw [w64_in (n := y) (by omega), show (2 : Int) ^ (min (8 * (0 + 1 : Int)).toNat IntKind.i64.bits) = 256 by decide, w64_in (by omega)]
 have e4 : ior .i64 0 x = x := by rw [ior_nat (by omega) (by omega) (by omega) (by omega)]; simp; omega
 have e6 : ior .i64 x (y * 256) = x + 256 * y := ior_hi hx.1 hx.2 hy.1 (by omega)
 rw [number_l0 _ _ _ (by omega) (by simp) (by omega), number_l0 _ _ _ (by omega) (by simp) (by omega), number_end _ _ _ (by simp)]
 show some (ior .i64 (ior .i64 0 (w64 (w64 x * 2 ^ (min (8 * (0 : Int)).toNat IntKind.i64.bits)))) (w64 (w64 y * 2 ^ (min (8 * (0 + 1 : Int)).toNat IntKind.i64.bits)))) = some (x + 256 * y)
 rw [e3, e4, e5, e6]
theorem td2 {x : Int} (h : 0 ≤ x ∧ x < 65536) : w64 (x.tdiv 2) = x / 2 := by
 rw [Int.tdiv_eq_ediv_of_nonneg h.1, w64_in (by omega)]
theorem put0 {m : Int} (hm : m = 128 ∨ m = 32768) : control_put.f [] 0 m = some (pt 0 m) := put_eq (l := []) (by simp) hm
theorem list4 (b : List Int) : b = [] ∨ (∃ x, b = [x]) ∨ (∃ x y, b = [x, y]) ∨ (∃ x y z, b = [x, y, z]) ∨ ∃ x y z u r, b = x :: y :: z :: u :: r := by
 match b with
 | [] => exact .inl rfl
 | [x] => exact .inr (.inl ⟨x, rfl⟩)
 | [x, y] => exact .inr (.inr (.inl ⟨x, y, rfl⟩))
 | [x, y, z] => exact .inr (.inr (.inr (.inl ⟨x, y, z, rfl⟩)))
 | x :: y :: z :: u :: r => exact .inr (.inr (.inr (.inr ⟨x, y, z, u, r, rfl⟩)))
theorem j0_128 {b : List Int} (hb : ∀ z ∈ b, 0 ≤ z ∧ z < 256) (hn : b ≠ []) {c : api_Ctl} (hc : c.Ns = 0 ∧ c.Nr = 0 ∧ c.Poll = false) (k : Nat) : control_Read.j0 (k + 3) b 128 c = some (numS c.Kind b 128) := by
 unfold control_Read.j0 numS
 rw [put0 (.inl rfl), bsome]
 have e2 : w64 (2 * 1) = 2 := by decide
 have ep : ((pt 0 128).length : Int) = 1 := by decide
 obtain ⟨hc1, hc2, hc3⟩ := hc
 cases b with
 | nil => exact absurd rfl hn
 | cons x b => cases b with
  | nil => rw [ep, e2, if_pos (by simp), if_pos rfl, if_pos (by simp)]; rfl
  | cons y r =>
   have hx := hb x (by simp)
   have hy := hb y (by simp)
   have hl : (2 : Int) ≤ ((x :: y :: r).length : Int) := by simp only [List.length_cons]; omega
   have c1 : cut (x :: y :: r) 0 1 = [x] := by simp [cut]
   have c2 : cut (x :: y :: r) 1 2 = [y] := by simp [cut]
   rw [ep, e2, if_neg (by omega), if_pos ⟨by omega, by omega, by omega⟩, if_pos ⟨by omega, by omega, hl⟩, c1, c2, num1 hx, bsome, num1 hy, bsome, td2 (by omega), td2 (by omega), iand_1 (by omega) (by omega), if_pos (show (128 : Int) = 128 from rfl), if_neg (show ¬ ((x :: y :: r).length : Int) < 2 by omega)]
   have ew : w64 x = x := w64_in (by omega)
   by_cases hk : c.Kind = 0
   ·simp [hk]
   ·have e0 : (x :: y :: r).getD ((0 : Int)).toNat 0 = x := rfl
    rw [if_neg hk, e0, ew, if_pos rfl]
    simp [hk, hc1]
theorem j0_32768 {b : List Int} (hb : ∀ z ∈ b, 0 ≤ z ∧ z < 256) (hn : b ≠ []) {c : api_Ctl} (hc : c.Ns = 0 ∧ c.Nr = 0 ∧ c.Poll = false) (k : Nat) : control_Read.j0 (k + 3) b 32768 c = some (numS c.Kind b 32768) := by
 unfold control_Read.j0 numS
 rw [put0 (.inr rfl), bsome]
 have e2 : w64 (2 * 2) = 4 := by decide
 obtain ⟨hc1, hc2, hc3⟩ := hc
 rcases list4 b with rfl | ⟨x, rfl⟩ | ⟨x, y, rfl⟩ | ⟨x, y, z, rfl⟩ | ⟨x, y, z, u, r, rfl⟩
 ·exact absurd rfl hn
 ·rw [show ((pt 0 32768).length : Int) = 2 by decide, e2, if_pos (by simp), if_neg (by decide), if_pos (by simp)]; rfl
 ·rw [show ((pt 0 32768).length : Int) = 2 by decide, e2, if_pos (by simp), if_neg (by decide), if_pos (by simp)]; rfl
 ·rw [show ((pt 0 32768).length : Int) = 2 by decide, e2, if_pos (by simp), if_neg (by decide), if_pos (by simp)]; rfl
 ·have hx := hb x (by simp)
  have hy := hb y (by simp)
  have hz := hb z (by simp)
  have hu := hb u (by simp)
  have hl : (4 : Int) ≤ ((x :: y :: z :: u :: r).length : Int) := by simp only [List.length_cons]; omega
  have c1 : cut (x :: y :: z :: u :: r) 0 2 = [x, y] := by simp [cut]
  have c2 : cut (x :: y :: z :: u :: r) 2 4 = [z, u] := by simp [cut]
  have ep : ((pt 0 32768).length : Int) = 2 := by decide
  rw [ep, e2, if_neg (by omega), if_pos ⟨by omega, by omega, by omega⟩, if_pos ⟨by omega, by omega, hl⟩, c1, c2, num2 hx hy, bsome, num2 hz hu, bsome, td2 (by omega), td2 (by omega), iand_1 (by omega) (by omega), if_neg (show ¬ (32768 : Int) = 128 by decide), if_neg (show ¬ ((x :: y :: z :: u :: r).length : Int) < 4 by omega)]
  have ew : w64 x = x := w64_in (by omega)
  have e0 : (x :: y :: z :: u :: r).getD ((0 : Int)).toNat 0 = x := rfl
  by_cases hk : c.Kind = 0
  ·simp [hk]
  ·rw [if_neg hk, e0, ew]
   by_cases h1 : y = 0
   ·rw [if_pos (by omega)]; simp [hk, hc1, h1]
   ·have h3 : ¬ (x + 256 * y = x) := by omega
    rw [if_neg h3]; simp [hk, h1, z0]
theorem j0_eq {b : List Int} {m : Int} (hm : m = 128 ∨ m = 32768) (hb : ∀ z ∈ b, 0 ≤ z ∧ z < 256) (hn : b ≠ []) {c : api_Ctl} (hc : c.Ns = 0 ∧ c.Nr = 0 ∧ c.Poll = false) (k : Nat) : control_Read.j0 (k + 3) b m c = some (numS c.Kind b m) := by
 rcases hm with rfl | rfl
 ·exact j0_128 hb hn hc k
 ·exact j0_32768 hb hn hc k
theorem modulus_eq (m : Int) : control_modulus.f m = some (decide (m = 128 ∨ m = 32768)) := by
 unfold control_modulus.f
 by_cases h : m = 128 <;> simp [h]
theorem read_eq {b : List Int} (m : Int) (hb : ∀ z ∈ b, 0 ≤ z ∧ z < 256) (k : Nat) : control_Read.f (k + 6) b m = some (readS b m) := by
 unfold control_Read.f readS
 rw [modulus_eq, bsome]
 by_cases hm : m = 128 ∨ m = 32768
 ·rw [if_pos (show decide (m = 128 ∨ m = 32768) = true by simpa using hm), if_neg (show ¬ ¬ (m = 128 ∨ m = 32768) from fun h => h hm)]
  by_cases hl : b.length = 0
  ·rw [if_pos (show (b.length : Int) = 0 by omega), if_pos hl]; rfl
  ·rw [if_neg (show ¬ (b.length : Int) = 0 by omega), if_pos (show 0 ≤ (0 : Int) ∧ (0 : Int) < (b.length : Int) from ⟨by omega, by omega⟩), if_neg hl]
   have hn : b ≠ [] := fun e => hl (by rw [e]; rfl)
   have hx : 0 ≤ b.getD 0 0 ∧ b.getD 0 0 < 256 := by
    cases b with
    | nil => exact absurd rfl hn
    | cons x r => exact hb x (by simp)
   show (control_plain.f).bind _ = _
   unfold control_plain.f
   rw [bsome, show ((0 : Int)).toNat = 0 from rfl, andn16 hx, index_eq, bsome]
   generalize b.getD 0 0 = x at *
   unfold kindOf
   by_cases k1 : base4 x = 111
   ·simp only [if_pos k1]; rw [if_pos (by decide), and16 hx]; rfl
   ·simp only [if_neg k1]
    by_cases k2 : base4 x = 99
    ·simp only [if_pos k2]; rw [if_pos (by decide), and16 hx]; rfl
    ·simp only [if_neg k2]
     by_cases k3 : base4 x = 67
     ·simp only [if_pos k3]; rw [if_pos (by decide), and16 hx]; rfl
     ·simp only [if_neg k3]
      by_cases k4 : base4 x = 15
      ·simp only [if_pos k4]; rw [if_pos (by decide), and16 hx]; rfl
      ·simp only [if_neg k4]
       by_cases k5 : base4 x = 135
       ·simp only [if_pos k5]; rw [if_pos (by decide), and16 hx]; rfl
       ·simp only [if_neg k5]
        rw [if_neg (show ¬ (-1 : Int) ≥ 0 by decide), if_neg (show ¬ (0 : Int) ≠ 0 by simp), and1 hx, j0_eq (k := k + 3) hm hb hn ⟨rfl, rfl, rfl⟩, j0_eq (k := k + 3) hm hb hn ⟨rfl, rfl, rfl⟩, j0_eq (k := k + 3) hm hb hn ⟨rfl, rfl, rfl⟩]
        by_cases q1 : x = 1
        ·rw [if_pos q1, if_pos q1]
        ·rw [if_neg q1, if_neg q1]
         by_cases q2 : x = 9
         ·rw [if_pos q2, if_pos q2]
         ·rw [if_neg q2, if_neg q2]
          by_cases q3 : x % 2 = 1
          ·rw [if_pos q3, if_pos q3]; rfl
          ·rw [if_neg q3, if_neg q3]
 ·rw [if_neg (show ¬ decide (m = 128 ∨ m = 32768) = true by simpa using hm), if_pos hm]; rfl
theorem kind_even {x : Int} (h : x % 2 = 0) : kindOf (base4 x) = 0 := by
 unfold kindOf base4
 rw [if_neg (by omega), if_neg (by omega), if_neg (by omega), if_neg (by omega), if_neg (by omega)]
theorem enc_byte {c : api_Ctl} {m : Int} (h : rightB c m = true) : ∀ z ∈ enc c m, 0 ≤ z ∧ z < 256 := by
 obtain ⟨hm, hc⟩ := right_cases h
 have hb := pb_b c.Poll
 have hp : ∀ n : Int, ∀ z ∈ pt n m, 0 ≤ z ∧ z < 256 := by
  intro n z hz
  unfold pt at hz
  split at hz <;> simp at hz <;> omega
 have hp2 : ∀ a b : Int, ∀ z ∈ pt a m ++ pt b m, 0 ≤ z ∧ z < 256 := fun a b z hz => (List.mem_append.1 hz).elim (hp a z) (hp b z)
 unfold enc
 split
 ·exact hp2 _ _
 ·split
  ·exact hp2 _ _
  ·split
   ·exact hp2 _ _
   ·intro z hz
    simp at hz
    subst hz
    unfold bareB
    repeat' split
    all_goals omega
theorem read_enc {c : api_Ctl} {m : Int} (h : rightB c m = true) (more : List Int) : readS (enc c m ++ more) m = (c, ((enc c m).length : Int), 0) := by
 obtain ⟨hm, hc⟩ := right_cases h
 have hb := pb_b c.Poll
 have hpd : ∀ y : Int, decide ((2 * y + pb c.Poll) % 2 = 1) = c.Poll := by
  intro y
  unfold pb
  cases c.Poll <;> simp <;> omega
 obtain ⟨K, Ns, Nr, Poll⟩ := c
 simp only at hc hb hpd
 unfold readS
 rw [if_neg (show ¬ ¬ (m = 128 ∨ m = 32768) from fun h => h hm)]
 rcases hc with ⟨rfl, n1, n2⟩ | ⟨k1, rfl, n2⟩ | ⟨k3, k7, rfl, rfl⟩
 ·rcases hm with rfl | rfl
  ·simp only [enc, if_true, pt, List.cons_append, List.nil_append, List.length_cons, List.getD_cons_zero]
   rw [if_neg (by omega), kind_even (by omega), if_neg (by simp), if_neg (by omega), if_neg (by omega), if_neg (by omega)]
   simp only [numS, if_true, List.length_cons, List.getD_cons_zero, List.getD_cons_succ]
   rw [if_neg (by omega)]
   have e1 : 2 * Ns % 256 / 2 = Ns := by omega
   have e2 : (2 * Nr + pb Poll) % 256 / 2 = Nr := by omega
   have e3 : (2 * Nr + pb Poll) % 256 % 2 = (2 * Nr + pb Poll) % 2 := by omega
   rw [e1, e2, e3, hpd]; rfl
  ·simp only [enc, if_true, pt, List.cons_append, List.nil_append, List.length_cons, List.getD_cons_zero, show ¬ (32768 : Int) = 128 by decide, if_false]
   rw [if_neg (by omega), kind_even (by omega), if_neg (by simp), if_neg (by omega), if_neg (by omega), if_neg (by omega)]
   simp only [numS, if_true, List.length_cons, List.getD_cons_zero, List.getD_cons_succ, show ¬ (32768 : Int) = 128 by decide, if_false, true_or]
   rw [if_neg (by omega)]
   have e1 : (2 * Ns % 256 + 256 * (2 * Ns / 256 % 256)) / 2 = Ns := by omega
   have e2 : ((2 * Nr + pb Poll) % 256 + 256 * ((2 * Nr + pb Poll) / 256 % 256)) / 2 = Nr := by omega
   have e3 : ((2 * Nr + pb Poll) % 256 + 256 * ((2 * Nr + pb Poll) / 256 % 256)) % 2 = (2 * Nr + pb Poll) % 2 := by omega
   rw [e1, e2, e3, hpd]; rfl
 ·have hk : ∀ n : Int, enc ⟨K, 0, Nr, Poll⟩ m = pt (if K = 1 then 1 else 9) m ++ pt (2 * Nr + pb Poll) m := by
   intro _; rcases k1 with rfl | rfl <;> rfl
  rw [hk 0]
  rcases hm with rfl | rfl
  ·rcases k1 with rfl | rfl
   all_goals
    simp only [if_true, pt, List.cons_append, List.nil_append, List.length_cons, List.getD_cons_zero, show ¬ (2 : Int) = 1 by decide, if_false]
    rw [if_neg (by omega), if_neg (by decide)]
    simp only [show ((1 : Int) % 256 = 1) by decide, show ((9 : Int) % 256 = 9) by decide, if_true, show ¬ (9 : Int) = 1 by decide, if_false, numS, List.length_cons, List.getD_cons_zero, List.getD_cons_succ]
    rw [if_neg (by omega)]
    have e2 : (2 * Nr + pb Poll) % 256 / 2 = Nr := by omega
    have e3 : (2 * Nr + pb Poll) % 256 % 2 = (2 * Nr + pb Poll) % 2 := by omega
    rw [e2, e3, hpd]; rfl
  ·rcases k1 with rfl | rfl
   all_goals
    simp only [if_true, pt, List.cons_append, List.nil_append, List.length_cons, List.getD_cons_zero, show ¬ (2 : Int) = 1 by decide, if_false, show ¬ (32768 : Int) = 128 by decide]
    rw [if_neg (by omega), if_neg (by decide)]
    simp only [show ((1 : Int) % 256 = 1) by decide, show ((9 : Int) % 256 = 9) by decide, show ((1 : Int) / 256 % 256 = 0) by decide, show ((9 : Int) / 256 % 256 = 0) by decide, if_true, show ¬ (9 : Int) = 1 by decide, if_false, numS, List.length_cons, List.getD_cons_zero, List.getD_cons_succ, show ¬ (32768 : Int) = 128 by decide, or_true]
    rw [if_neg (by omega)]
    have e2 : ((2 * Nr + pb Poll) % 256 + 256 * ((2 * Nr + pb Poll) / 256 % 256)) / 2 = Nr := by omega
    have e3 : ((2 * Nr + pb Poll) % 256 + 256 * ((2 * Nr + pb Poll) / 256 % 256)) % 2 = (2 * Nr + pb Poll) % 2 := by omega
    rw [e2, e3, hpd]; rfl
 ·have : K = 3 ∨ K = 4 ∨ K = 5 ∨ K = 6 ∨ K = 7 := by omega
  have hl : ∀ x : Int, ¬ (([x] : List Int) ++ more).length = 0 := by intro x; simp
  rcases this with rfl | rfl | rfl | rfl | rfl <;> cases Poll <;> (simp only [enc, show ∀ a b : Int, (if (a : Int) = b then (1 : Int) else 0) = (if a = b then 1 else 0) from fun _ _ => rfl]; rfl)
theorem sEq_same (a : List Int) : sEq a a = true := sEq_refl a
end Co
def sStep (p : Int × Bool) (v : Int) : Int × Bool := if v > 0 ∧ v ≤ p.1 then (v, true) else p
theorem soonest_l0 (s : clock_Set) (hs : s.left.length = 32) : ∀ (j k : Nat) (x : Int) (ok : Bool) (i : Nat), i ≤ 32 → 32 - i = j → j < k → clock_Set_soonest.l0 k s x ok i = some ((s.left.drop i).foldl sStep (x, ok)) := by
 intro j
 induction j with
 | zero =>
  intro k x ok i hi hj hk
  obtain ⟨k, rfl⟩ : ∃ k', k = k' + 1 := ⟨k - 1, by omega⟩
  have : i = 32 := by omega
  subst this
  rw [clock_Set_soonest.l0, if_neg (by decide), List.drop_eq_nil_of_le (by omega)]
  rfl
 | succ j ih =>
  intro k x ok i hi hj hk
  obtain ⟨k, rfl⟩ : ∃ k', k = k' + 1 := ⟨k - 1, by omega⟩
  have hlt : i < s.left.length := by omega
  have e1 : w64 ((i : Int) + 1) = ((i + 1 : Nat) : Int) := by rw [w64_in (by omega)]; omega
  rw [clock_Set_soonest.l0, if_pos (by omega), if_pos (by omega)]
  unfold clock_Set_soonest.j1
  rw [e1]
  simp only [ih k _ _ (i + 1) (by omega) (by omega) (by omega)]
  rw [List.drop_eq_getElem_cons hlt, List.foldl_cons]
  have e2 : s.left.getD (i : Int).toNat 0 = s.left[i] := by simp [List.getD, hlt]
  rw [e2]
  unfold sStep
  by_cases h1 : s.left[i] > 0
  ·by_cases h2 : s.left[i] ≤ x
   ·simp [h1, h2]
   ·simp [h1, h2]
  ·simp [h1]
theorem soonest_eq (s : clock_Set) (hs : s.left.length = 32) (n : Int) (k : Nat) (hk : 33 ≤ k) : clock_Set_soonest.f k s n = some (s.left.foldl sStep (n, false)) := by
 unfold clock_Set_soonest.f
 have := soonest_l0 s hs 32 k n false 0 (by omega) (by omega) (by omega)
 simpa using this
theorem fold_sStep : ∀ (l : List Int) (x : Int) (ok : Bool), let r := l.foldl sStep (x, ok); r.1 ≤ x ∧ (∀ v ∈ l, 0 < v → v ≤ x → r.1 ≤ v) ∧ (r.1 = x ∨ 0 < r.1) ∧ (r.2 = false → ok = false ∧ r.1 = x ∧ ∀ v ∈ l, ¬ (0 < v ∧ v ≤ x)) ∧ (ok = false → r.2 = true → r.1 ∈ l ∧ 0 < r.1)
 | [], x, ok => by simp
 | v :: l, x, ok => by
  intro r
  have hr : r = l.foldl sStep (if v > 0 ∧ v ≤ x then (v, true) else (x, ok)) := rfl
  by_cases hv : v > 0 ∧ v ≤ x
  ·rw [if_pos hv] at hr
   obtain ⟨h1, h2, h3, h4, h5⟩ := fold_sStep l v true
   change _ at h1 h2 h3 h4 h5
   rw [← hr] at h1 h2 h3 h4
   refine ⟨by omega, fun u hu h0 hx => ?_, by omega, fun h => ?_, fun h h' => ?_⟩
   ·rcases List.mem_cons.1 hu with e | e
    ·subst e; omega
    ·by_cases huv : u ≤ v
     ·exact h2 u e h0 huv
     ·omega
   ·have := (h4 h).1; cases this
   ·have hpos : 0 < r.1 := by rcases h3 with e | e <;> omega
    refine ⟨?_, hpos⟩
    have key : ∀ (l : List Int) (p : Int × Bool), (l.foldl sStep p).1 = p.1 ∨ (l.foldl sStep p).1 ∈ l := by
     intro l
     induction l with
     | nil => intro p; left; rfl
     | cons a l ih =>
      intro p
      rw [List.foldl_cons]
      rcases ih (sStep p a) with e | e
      ·rw [e]; unfold sStep; split
       ·right; simp
       ·left; rfl
      ·right; exact List.mem_cons_of_mem _ e
    rw [hr]
    rcases key l (v, true) with e | e
    ·rw [e]; simp
    ·exact List.mem_cons_of_mem _ e
  ·rw [if_neg hv] at hr
   obtain ⟨h1, h2, h3, h4, h5⟩ := fold_sStep l x ok
   rw [← hr] at h1 h2 h3 h4 h5
   refine ⟨h1, fun u hu h0 hx => ?_, h3, fun h => ?_, fun h h' => ?_⟩
   ·rcases List.mem_cons.1 hu with e | e
    ·subst e; exact absurd ⟨h0, hx⟩ hv
    ·exact h2 u e h0 hx
   ·obtain ⟨g1, g2, g3⟩ := h4 h
    refine ⟨g1, g2, fun u hu => ?_⟩
    rcases List.mem_cons.1 hu with e | e
    ·subst e; exact hv
    ·exact g3 u e
   ·exact ⟨List.mem_cons_of_mem _ (h5 h h').1, (h5 h h').2⟩
def hits (t : Int) : Nat → List Int → List Int
 | _, [] => []
 | i, v :: r => if v = t then (i : Int) :: hits t (i + 1) r else hits t (i + 1) r
def turn (n v : Int) : Int := if v = 0 then 0 else w64 (v - n)
theorem pass_l0 (s : clock_Set) (hs : s.left.length = 32) (n : Int) (hn : n ≠ 0) : ∀ (j k : Nat) (i : Nat) (s' : clock_Set) (out : List Int), i ≤ 32 → 32 - i = j → j < k → s'.left.length = 32 → s'.left.drop i = s.left.drop i → out.length ≤ i →
  clock_Set_pass.l0 k s n i s' out = some (out ++ hits n i (s.left.drop i), { now := s'.now, left := s'.left.take i ++ (s.left.drop i).map (turn n) }) := by
 intro j
 induction j with
 | zero =>
  intro k i s' out hi hj hk hs' hd ho
  obtain ⟨k, rfl⟩ : ∃ k', k = k' + 1 := ⟨k - 1, by omega⟩
  have : i = 32 := by omega
  subst this
  rw [clock_Set_pass.l0, if_neg (by decide), List.drop_eq_nil_of_le (by omega)]
  simp only [hits, List.map_nil, List.append_nil]
  rw [List.take_of_length_le (by omega)]
 | succ j ih =>
  intro k i s' out hi hj hk hs' hd ho
  obtain ⟨k, rfl⟩ : ∃ k', k = k' + 1 := ⟨k - 1, by omega⟩
  have hlt : i < s.left.length := by omega
  have hlt' : i < s'.left.length := by omega
  have e1 : w64 ((i : Int) + 1) = ((i + 1 : Nat) : Int) := by rw [w64_in (by omega)]; omega
  have e2 : s.left.getD (i : Int).toNat 0 = s.left[i] := by simp [List.getD, hlt]
  have hd1 : s'.left.drop (i + 1) = s.left.drop (i + 1) := by
   have := congrArg (List.drop 1) hd
   simpa [List.drop_drop, Nat.add_comm] using this
  have hsi : s'.left[i] = s.left[i] := by
   have h1 := List.drop_eq_getElem_cons hlt
   have h2 := List.drop_eq_getElem_cons hlt'
   rw [h1, h2] at hd
   exact (List.cons.inj hd).1
  have htake : s'.left.take (i + 1) = s'.left.take i ++ [s'.left[i]] := by rw [List.take_succ_eq_append_getElem hlt']
  rw [clock_Set_pass.l0, if_pos (by omega), if_pos (by omega), e1, e2, List.drop_eq_getElem_cons hlt]
  have hset : ∀ x : Int, (s'.left.set i x).take (i + 1) = s'.left.take i ++ [x] := by
   intro x
   rw [List.take_succ_eq_append_getElem (by simpa using hlt'), List.take_set_of_le (Nat.le_refl i)]
   simp
  have hdrop : ∀ x : Int, (s'.left.set i x).drop (i + 1) = s.left.drop (i + 1) := by
   intro x
   rw [List.drop_set_of_lt (by omega), hd1]
  by_cases h0 : s.left[i] = 0
  ·rw [if_pos h0, ih k (i + 1) s' out (by omega) (by omega) (by omega) hs' hd1 (by omega)]
   rw [htake, hsi]
   simp [hits, turn, h0, Ne.symm hn]
  ·rw [if_neg h0]
   by_cases h1 : s.left[i] = n
   ·rw [if_pos h1, if_pos (by simp; omega)]
    rw [ih k (i + 1) _ _ (by omega) (by omega) (by omega) (by simpa using hs') (by simpa using hdrop _) (by simp; omega)]
    simp only [Int.toNat_natCast, hset]
    simp only [hits, turn, h1, if_neg hn, if_true, List.map_cons, List.append_assoc, List.cons_append, List.nil_append]
   ·rw [if_neg h1]
    rw [ih k (i + 1) _ _ (by omega) (by omega) (by omega) (by simpa using hs') (by simpa using hdrop _) (by omega)]
    simp only [Int.toNat_natCast, hset]
    simp only [hits, turn, if_neg h0, if_neg h1, List.map_cons, List.append_assoc, List.cons_append, List.nil_append]
theorem pass_eq (s : clock_Set) (hs : s.left.length = 32) (n : Int) (hn : n ≠ 0) (k : Nat) (hk : 33 ≤ k) : clock_Set_pass.f k s n = some (hits n 0 s.left, { now := s.now, left := s.left.map (turn n) }) := by
 unfold clock_Set_pass.f
 have := pass_l0 s hs n hn 32 k 0 s [] (by omega) (by omega) (by omega) hs rfl (by simp)
 simpa using this
theorem pass0_l0 (s : clock_Set) (hs : s.left.length = 32) : ∀ (j k : Nat) (i : Nat) (s' : clock_Set) (out : List Int), i ≤ 32 → 32 - i = j → j < k → s'.left.length = 32 → s'.left.drop i = s.left.drop i → out.length ≤ i →
  clock_Set_pass.l0 k s 0 i s' out = some (out, { now := s'.now, left := s'.left.take i ++ (s.left.drop i).map (turn 0) }) := by
 intro j
 induction j with
 | zero =>
  intro k i s' out hi hj hk hs' hd ho
  obtain ⟨k, rfl⟩ : ∃ k', k = k' + 1 := ⟨k - 1, by omega⟩
  have : i = 32 := by omega
  subst this
  rw [clock_Set_pass.l0, if_neg (by decide), List.drop_eq_nil_of_le (by omega)]
  simp only [List.map_nil, List.append_nil]
  rw [List.take_of_length_le (by omega)]
 | succ j ih =>
  intro k i s' out hi hj hk hs' hd ho
  obtain ⟨k, rfl⟩ : ∃ k', k = k' + 1 := ⟨k - 1, by omega⟩
  have hlt : i < s.left.length := by omega
  have hlt' : i < s'.left.length := by omega
  have e1 : w64 ((i : Int) + 1) = ((i + 1 : Nat) : Int) := by rw [w64_in (by omega)]; omega
  have e2 : s.left.getD (i : Int).toNat 0 = s.left[i] := by simp [List.getD, hlt]
  have hd1 : s'.left.drop (i + 1) = s.left.drop (i + 1) := by
   have := congrArg (List.drop 1) hd
   simpa [List.drop_drop, Nat.add_comm] using this
  have hsi : s'.left[i] = s.left[i] := by
   have h1 := List.drop_eq_getElem_cons hlt
   have h2 := List.drop_eq_getElem_cons hlt'
   rw [h1, h2] at hd
   exact (List.cons.inj hd).1
  have htake : s'.left.take (i + 1) = s'.left.take i ++ [s'.left[i]] := by rw [List.take_succ_eq_append_getElem hlt']
  rw [clock_Set_pass.l0, if_pos (by omega), if_pos (by omega), e1, e2, List.drop_eq_getElem_cons hlt]
  have hset : ∀ x : Int, (s'.left.set i x).take (i + 1) = s'.left.take i ++ [x] := by
   intro x
   rw [List.take_succ_eq_append_getElem (by simpa using hlt'), List.take_set_of_le (Nat.le_refl i)]
   simp
  have hdrop : ∀ x : Int, (s'.left.set i x).drop (i + 1) = s.left.drop (i + 1) := by
   intro x
   rw [List.drop_set_of_lt (by omega), hd1]
  by_cases h0 : s.left[i] = 0
  ·rw [if_pos h0, ih k (i + 1) s' out (by omega) (by omega) (by omega) hs' hd1 (by omega)]
   rw [htake, hsi]
   simp [turn, h0]
  ·rw [if_neg h0, if_neg h0]
   rw [ih k (i + 1) _ _ (by omega) (by omega) (by omega) (by simpa using hs') (by simpa using hdrop _) (by omega)]
   simp only [Int.toNat_natCast, hset]
   simp only [turn, if_neg h0, List.map_cons, List.append_assoc, List.cons_append, List.nil_append]
theorem pass0_eq (s : clock_Set) (hs : s.left.length = 32) (k : Nat) (hk : 33 ≤ k) : clock_Set_pass.f k s 0 = some ([], { now := s.now, left := s.left.map (turn 0) }) := by
 unfold clock_Set_pass.f
 have := pass0_l0 s hs 32 k 0 s [] (by omega) (by omega) (by omega) hs rfl (by simp)
 simpa using this
def spec (l : List Int) : Nat → List Int
 | 0 => []
 | n + 1 => spec l n ++ hits ((n + 1 : Nat) : Int) 0 l
def fin (n v : Int) : Int := if v > n then v - n else 0
def busy (l : List Int) : Nat := (l.filter (· ≠ 0)).length
def okL (l : List Int) : Prop := l.length = 32 ∧ ∀ v ∈ l, 0 ≤ v ∧ v ≤ 1073741824
theorem hits_none {t : Int} : ∀ {l : List Int} (i : Nat), (∀ v ∈ l, v ≠ t) → hits t i l = []
 | [], _, _ => rfl
 | v :: r, i, h => by rw [hits, if_neg (h v (.head _)), hits_none (i + 1) fun u hu => h u (.tail _ hu)]
theorem spec_none {l : List Int} : ∀ {n : Nat}, (∀ v ∈ l, ¬ (0 < v ∧ v ≤ n)) → spec l n = []
 | 0, _ => rfl
 | n + 1, h => by rw [spec, spec_none (fun v hv h2 => h v hv ⟨h2.1, by omega⟩), hits_none 0 (fun v hv e => h v hv ⟨by omega, by omega⟩)]; rfl
theorem hits_turn {m t : Int} (hm : 0 < m) (ht : m < t) : ∀ {l : List Int} (i : Nat), (∀ v ∈ l, 0 ≤ v ∧ v ≤ 1073741824 ∧ (0 < v → m ≤ v)) → hits (t - m) i (l.map (turn m)) = hits t i l
 | [], _, _ => rfl
 | v :: r, i, h => by
  obtain ⟨h1, h2, h3⟩ := h v (.head _)
  rw [List.map_cons, hits, hits, hits_turn hm ht (i + 1) fun u hu => h u (.tail _ hu)]
  unfold turn
  by_cases h0 : v = 0
  ·subst h0
   rw [if_pos rfl, if_neg (by omega), if_neg (by omega)]
  ·rw [if_neg h0, w64_in (by have := h3 (by omega); omega)]
   by_cases e : v = t
   ·rw [if_pos (by omega), if_pos e]
   ·rw [if_neg (by omega), if_neg e]
theorem spec_turn {l : List Int} {m : Nat} (hm : 0 < m) (hl : ∀ v ∈ l, 0 ≤ v ∧ v ≤ 1073741824 ∧ (0 < v → (m : Int) ≤ v)) : ∀ (d : Nat), spec l (m + d) = hits m 0 l ++ spec (l.map (turn m)) d
 | 0 => by
  obtain ⟨p, rfl⟩ : ∃ p, m = p + 1 := ⟨m - 1, by omega⟩
  have h0 : spec l p = [] := spec_none (n := p) fun v hv h => by have := (hl v hv).2.2 h.1; omega
  show spec l p ++ hits ((p + 1 : Nat) : Int) 0 l = hits ((p + 1 : Nat) : Int) 0 l ++ []
  rw [h0, List.nil_append, List.append_nil]
 | d + 1 => by
  show spec l (m + d + 1) = _
  rw [spec, spec_turn hm hl d, spec, List.append_assoc]
  congr 2
  have := hits_turn (m := m) (t := ((m + d + 1 : Nat) : Int)) (by omega) (by omega) 0 hl
  rw [← this]
  congr 1
  omega
theorem busy_turn {m : Int} (hm : 0 < m) : ∀ {l : List Int} (i : Nat), (∀ v ∈ l, 0 ≤ v ∧ v ≤ 1073741824 ∧ (0 < v → m ≤ v)) → (hits m i l).length + busy (l.map (turn m)) ≤ busy l
 | [], _, _ => by simp [hits, busy]
 | v :: r, i, h => by
  obtain ⟨h1, h2, h3⟩ := h v (.head _)
  have ih := busy_turn hm (i + 1) fun u hu => h u (.tail _ hu)
  unfold busy at ih ⊢
  rw [List.map_cons, hits]
  unfold turn at ih ⊢
  by_cases h0 : v = 0
  ·subst h0
   rw [if_neg (by omega)]
   simpa using ih
  ·have h4 := h3 (by omega)
   rw [if_neg h0, w64_in (by omega)]
   by_cases e : v = m
   ·rw [if_pos e]
    simp [e, show m ≠ 0 by omega]; (try simp at ih); omega
   ·rw [if_neg e]
    simp [h0, show v - m ≠ 0 by omega]; (try simp at ih); omega
theorem okL.turn {l : List Int} {m : Int} (h : okL l) (hm : 0 < m) (h3 : ∀ v ∈ l, 0 < v → m ≤ v) : okL (l.map (turn m)) := by
 refine ⟨by simpa using h.1, fun v hv => ?_⟩
 obtain ⟨u, hu, rfl⟩ := List.mem_map.1 hv
 have h1 := h.2 u hu
 have h2 := h3 u hu
 by_cases h0 : u = 0
 ·subst h0; simp [Go.Proofs.Ytnlcafmkmfnobaa.turn]
 ·have e : Go.Proofs.Ytnlcafmkmfnobaa.turn m u = u - m := by show (if u = 0 then 0 else w64 (u - m)) = _; rw [if_neg h0, w64_in (by omega)]
  rw [e]; omega
theorem fin_turn {m n : Int} (hm : 0 < m) (hmn : m ≤ n) {v : Int} (h : 0 ≤ v ∧ v ≤ 1073741824 ∧ (0 < v → m ≤ v)) : fin (n - m) (turn m v) = fin n v := by
 unfold fin
 by_cases h0 : v = 0
 ·subst h0
  have e : turn m 0 = 0 := by simp [turn]
  rw [e, if_neg (by omega), if_neg (by omega)]
 ·have e : turn m v = v - m := by
   show (if v = 0 then 0 else w64 (v - m)) = _
   rw [if_neg h0, w64_in (by omega)]
  rw [e]
  by_cases h1 : v > n
  ·rw [if_pos (by omega), if_pos h1]; omega
  ·rw [if_neg (by omega), if_neg h1]
theorem Pass_l0 : ∀ (N : Nat) (s : clock_Set) (n : Nat) (out : List Int) (k : Nat), n ≤ N → n ≤ 1073741824 → okL s.left → out.length + busy s.left ≤ 1000000 → N + 40 < k →
  clock_Set_Pass.l0 k n (s.left.foldl sStep ((n : Int), false)).1 (s.left.foldl sStep ((n : Int), false)).2 s out = some (out ++ spec s.left n, { now := s.now, left := s.left.map (fin n) }) := by
 intro N
 induction N with
 | zero =>
  intro s n out k hn hn2 hs ho hk
  obtain ⟨k, rfl⟩ : ∃ k', k = k' + 1 := ⟨k - 1, by omega⟩
  obtain rfl : n = 0 := by omega
  obtain ⟨h1, h2, h3, h4, h5⟩ := fold_sStep s.left (0 : Nat) false
  cases hr : (s.left.foldl sStep (((0 : Nat) : Int), false)).2 with
  | true =>
   have := (h5 rfl hr).2
   omega
  | false =>
   rw [clock_Set_Pass.l0, if_neg (by simp)]
   rw [show (((0 : Nat) : Int)) = 0 from rfl, pass0_eq s hs.1 k (by omega)]
   simp only [Option.bind_some, spec, List.append_nil]
   refine congrArg some (Prod.ext rfl (congrArg (fun l => ({ now := s.now, left := l } : clock_Set)) ?_))
   refine List.map_congr_left fun v hv => ?_
   have hv' := hs.2 v hv
   unfold fin
   by_cases h0 : v = 0
   ·subst h0; simp [turn]
   ·rw [if_pos (by omega)]
    show (if v = 0 then 0 else w64 (v - 0)) = _
    rw [if_neg h0, w64_in (by omega)]
 | succ N ih =>
  intro s n out k hn hn2 hs ho hk
  obtain ⟨k, rfl⟩ : ∃ k', k = k' + 1 := ⟨k - 1, by omega⟩
  obtain ⟨h1, h2, h3, h4, h5⟩ := fold_sStep s.left (n : Int) false
  cases hr : (s.left.foldl sStep ((n : Int), false)).2 with
  | true =>
   obtain ⟨hm, hpos⟩ := h5 rfl hr
   generalize hmv : (s.left.foldl sStep ((n : Int), false)).1 = m at h1 h2 h3 hm hpos ⊢
   obtain ⟨p, rfl⟩ : ∃ p : Nat, m = p := ⟨m.toNat, by omega⟩
   have hmin : ∀ v ∈ s.left, 0 < v → (p : Int) ≤ v := fun v hv h0 => by
    by_cases hx : v ≤ n
    ·exact h2 v hv h0 hx
    ·omega
   have hall : ∀ v ∈ s.left, 0 ≤ v ∧ v ≤ 1073741824 ∧ (0 < v → (p : Int) ≤ v) := fun v hv => ⟨(hs.2 v hv).1, (hs.2 v hv).2, hmin v hv⟩
   have hb := busy_turn (m := p) (by omega) 0 hall
   have hok := hs.turn (m := p) (by omega) hmin
   rw [clock_Set_Pass.l0, if_pos rfl, pass_eq s hs.1 p (by omega) k (by omega)]
   simp only [Option.bind_some]
   rw [if_pos (by omega), show w64 ((n : Int) - p) = ((n - p : Nat) : Int) by rw [w64_in (by omega)]; omega, soonest_eq _ hok.1 _ _ (by omega)]
   simp only [Option.bind_some]
   rw [ih { now := s.now, left := s.left.map (turn p) } (n - p) _ k (by omega) (by omega) hok (by simp only [List.length_append]; omega) (by omega)]
   have e1 := spec_turn (l := s.left) (m := p) (by omega) hall (n - p)
   rw [show p + (n - p) = n by omega] at e1
   rw [e1, List.append_assoc]
   refine congrArg some (Prod.ext rfl (congrArg (fun l => ({ now := s.now, left := l } : clock_Set)) ?_))
   rw [List.map_map]
   refine List.map_congr_left fun v hv => ?_
   have := fin_turn (m := p) (n := n) (by omega) (by omega) (hall v hv)
   simp only [Function.comp]
   rw [show ((n - p : Nat) : Int) = (n : Int) - p by omega]
   exact this
  | false =>
   obtain ⟨_, _, h6⟩ := h4 hr
   rw [clock_Set_Pass.l0, if_neg (by simp)]
   have hfin : ∀ v ∈ s.left, turn n v = fin n v := by
    intro v hv
    have hv' := hs.2 v hv
    have := h6 v hv
    unfold fin
    by_cases h0 : v = 0
    ·subst h0
     rw [if_neg (by omega)]; simp [turn]
    ·rw [if_pos (by omega)]
     show (if v = 0 then 0 else w64 (v - n)) = _
     rw [if_neg h0, w64_in (by omega)]
   by_cases hz : n = 0
   ·subst hz
    rw [show (((0 : Nat) : Int)) = 0 from rfl, pass0_eq s hs.1 k (by omega)]
    simp only [Option.bind_some, spec, List.append_nil]
    exact congrArg some (Prod.ext rfl (congrArg (fun l => ({ now := s.now, left := l } : clock_Set)) (List.map_congr_left hfin)))
   ·rw [pass_eq s hs.1 n (by omega) k (by omega)]
    simp only [Option.bind_some]
    rw [spec_none h6, List.append_nil]
    exact congrArg some (Prod.ext rfl (congrArg (fun l => ({ now := s.now, left := l } : clock_Set)) (List.map_congr_left hfin)))
def clamp (n : Int) : Int := imax 0 (imin n 1073741824)
theorem clamp_in (n : Int) : 0 ≤ clamp n ∧ clamp n ≤ 1073741824 := by unfold clamp imax imin; constructor <;> (repeat' split) <;> omega
theorem clamp_id {n : Int} (h : 0 ≤ n ∧ n ≤ 1073741824) : clamp n = n := by unfold clamp imax imin; (repeat' split) <;> omega
theorem busy_le (l : List Int) : busy l ≤ l.length := List.length_filter_le _ _
theorem Pass_eq (s : clock_Set) (hs : okL s.left) (n : Int) (k : Nat) (hk : (clamp n).toNat + 41 ≤ k) : clock_Set_Pass.f k s n = some (spec s.left (clamp n).toNat, { now := IntKind.u32.wrap (s.now + IntKind.u32.wrap (clamp n)), left := s.left.map (fin (clamp n)) }) := by
 have hc := clamp_in n
 have hb := busy_le s.left
 have hs1 := hs.1
 unfold clock_Set_Pass.f
 show (clock_Set_soonest.f k { now := IntKind.u32.wrap (s.now + IntKind.u32.wrap (clamp n)), left := s.left } (clamp n)).bind _ = _
 have hsn := soonest_eq { now := IntKind.u32.wrap (s.now + IntKind.u32.wrap (clamp n)), left := s.left } hs.1 (clamp n) k (by omega)
 rw [hsn]
 simp only [Option.bind_some]
 have e : clamp n = ((clamp n).toNat : Int) := by omega
 have := Pass_l0 (clamp n).toNat { now := IntKind.u32.wrap (s.now + IntKind.u32.wrap (clamp n)), left := s.left } (clamp n).toNat [] k (Nat.le_refl _) (by omega) hs (by simp; omega) (by omega)
 rw [← e] at this
 exact this
namespace Aq
def tm (w v : Int) : clock_Set := { now := w, left := v :: List.replicate 31 0 }
theorem has0 : clock_has.f 0 = some true := by unfold clock_has.f; rw [if_pos (by decide)]; rfl
theorem left_eq (w v : Int) : clock_Set_Left.f (tm w v) 0 = some (v, decide (v > 0)) := by
 unfold clock_Set_Left.f
 rw [has0, bsome, if_pos rfl, if_pos (by decide)]; rfl
theorem stop_eq (w : Int) {v : Int} (hv : 0 ≤ v) : clock_Set_Stop.f (tm w v) 0 = some (decide (v > 0), tm w 0) := by
 unfold clock_Set_Stop.f
 rw [left_eq, bsome]
 by_cases h : v > 0
 ·rw [if_pos (decide_eq_true h), if_pos (by decide)]; rfl
 ·obtain rfl : v = 0 := by omega
  rfl
theorem start_eq (w v : Int) {n : Int} (hn : 1 ≤ n ∧ n ≤ 1048576) : clock_Set_Start.f (tm w v) 0 n = some (true, tm w n) := by
 have e : imax 1 (imin n 1073741824) = n := by unfold imax imin; repeat' split; all_goals omega
 unfold clock_Set_Start.f clock_Set_Start.j0
 rw [has0, bsome, if_pos rfl, if_pos (by decide), bsome, e]; rfl
theorem tm_ok {w v : Int} (hv : 0 ≤ v ∧ v ≤ 1048576) : okL (tm w v).left := by
 refine ⟨by simp [tm], fun u hu => ?_⟩
 rcases List.mem_cons.1 hu with e | e
 ·subst e; omega
 ·have := List.eq_of_mem_replicate e; omega
def tk (w n : Int) : Int := IntKind.u32.wrap (w + IntKind.u32.wrap n)
theorem pass_eq (w : Int) {v n : Int} (hv : 0 ≤ v ∧ v ≤ 1048576) (hn : 0 ≤ n ∧ n ≤ 1048576) {k : Nat} (hk : 1100000 ≤ k) : ∃ o, clock_Set_Pass.f k (tm w v) n = some (o, tm (tk w n) (if v > n then v - n else 0)) := by
 have hc : clamp n = n := clamp_id ⟨hn.1, by omega⟩
 refine ⟨spec (tm w v).left n.toNat, ?_⟩
 rw [Pass_eq (tm w v) (tm_ok hv) n k (by rw [hc]; omega), hc]
 refine congrArg some (Prod.ext rfl ?_)
 show ({ now := tk w n, left := (v :: List.replicate 31 0).map (fin n) } : clock_Set) = _
 have h0 : fin n 0 = 0 := by unfold fin; rw [if_neg (by omega)]
 rw [List.map_cons, List.map_replicate, h0]; rfl
theorem concat_eq {x y z : List Int} (hx : x.length ≤ 10000000) (hy : y.length ≤ 10000000) (hz : z.length ≤ 10000000) {k : Nat} (hk : 20 ≤ k) : slices_Concat_Sbytebyte.f k [x, y, z] = some (x ++ (y ++ z)) := by
 obtain ⟨k, rfl⟩ : ∃ j, k = j + 20 := ⟨k - 20, by omega⟩
 unfold slices_Concat_Sbytebyte.f
 have e1 : w64 (0 + 1) = 1 := by decide
 have e2 : w64 (1 + 1) = 2 := by decide
 have e3 : w64 (2 + 1) = 3 := by decide
 have g0 : ([x, y, z].getD (0 : Int).toNat []) = x := rfl
 have g1 : ([x, y, z].getD (1 : Int).toNat []) = y := rfl
 have g2 : ([x, y, z].getD (2 : Int).toNat []) = z := rfl
 have hl : (([x, y, z] : List (List Int)).length : Int) = 3 := rfl
 rw [slices_Concat_Sbytebyte.l0, hl, if_pos (by decide), if_pos (by decide), g0, w64_in ⟨by omega, by omega⟩, if_neg (by omega), e1]
 rw [slices_Concat_Sbytebyte.l0, hl, if_pos (by decide), if_pos (by decide), g1, w64_in ⟨by omega, by omega⟩, if_neg (by omega), e2]
 rw [slices_Concat_Sbytebyte.l0, hl, if_pos (by decide), if_pos (by decide), g2, w64_in ⟨by omega, by omega⟩, if_neg (by omega), e3]
 rw [slices_Concat_Sbytebyte.l0, hl, if_neg (by decide)]
 have gr : slices_Grow_Sbytebyte.f (0 + (x.length : Int) + (y.length : Int) + (z.length : Int)) = some [] := by
  unfold slices_Grow_Sbytebyte.f
  have ew : w64 (0 - 0) = 0 := by decide
  rw [if_neg (by omega)]; try rw [ew]
  rw [w64_in ⟨by omega, by omega⟩]
  by_cases h : 0 + (x.length : Int) + (y.length : Int) + (z.length : Int) - 0 > 0
  ·rw [if_pos h, if_pos (by omega)]
  ·rw [if_neg h]
 rw [gr, bsome]
 rw [slices_Concat_Sbytebyte.l1, hl, if_pos (by decide), if_pos (by decide), g0, if_pos (by simp; omega), e1]
 rw [slices_Concat_Sbytebyte.l1, hl, if_pos (by decide), if_pos (by decide), g1, if_pos (by simp; omega), e2]
 rw [slices_Concat_Sbytebyte.l1, hl, if_pos (by decide), if_pos (by decide), g2, if_pos (by simp; omega), e3]
 rw [slices_Concat_Sbytebyte.l1, hl, if_neg (by decide)]
 simp
structure AI (a : arq_Arq) (C : Nat) : Prop where
 m : a.m = 128 ∨ a.m = 32768
 t1 : 1 ≤ a.t1 ∧ a.t1 ≤ 1048576
 n2 : 1 ≤ a.n2 ∧ a.n2 ≤ 100
 size : 1 ≤ a.size ∧ a.size ≤ 1000
 state : 0 ≤ a.state ∧ a.state ≤ 3
 tag : 0 ≤ a.tag ∧ a.tag < 65536
 tries : 0 ≤ a.tries ∧ a.tries ≤ a.n2
 log : Bl.BI a.log
 lm : a.log.m = a.m
 lw : a.log.window ≤ a.m / 8
 ord : Or.OI a.order C
 om : a.order.m = a.m
 ow : a.order.window = a.log.window
 tim : ∃ w v, a.timers = tm w v ∧ 0 ≤ v ∧ v ≤ 1048576
 out : a.out.length ≤ C
 inds : a.inds.length ≤ C
 sent : 0 ≤ a.sent ∧ a.sent ≤ C
 acked : 0 ≤ a.acked ∧ a.acked ≤ C
 lost : 0 ≤ a.lost ∧ a.lost ≤ C
def big : Nat := 1000000000000
theorem AI.more {a : arq_Arq} {C D : Nat} (h : AI a C) (l : C ≤ D) : AI a D :=
 { h with ord := h.ord.more l, out := Nat.le_trans h.out l, inds := Nat.le_trans h.inds l, sent := ⟨h.sent.1, by have := h.sent.2; omega⟩, acked := ⟨h.acked.1, by have := h.acked.2; omega⟩, lost := ⟨h.lost.1, by have := h.lost.2; omega⟩ }
abbrev ct (K n r : Int) (p : Bool) : api_Ctl := { Kind := K, Ns := n, Nr := r, Poll := p }
def hdr (t : Int) : List Int := [t / 256, t % 256]
def say (a : arq_Arq) (t : Int) (c : api_Ctl) (b : List Int) : arq_Arq := { a with out := a.out ++ [hdr t ++ (Co.enc c a.m ++ b)] }
theorem say_ai {a : arq_Arq} {C : Nat} (h : AI a C) (t : Int) (c : api_Ctl) (b : List Int) : AI (say a t c b) (C + 1) := by
 have h' := h.more (D := C + 1) (by omega)
 exact { h' with out := by show (a.out ++ [_]).length ≤ _; have := h.out; rw [List.length_append]; simp; omega }
theorem enc_len (c : api_Ctl) (m : Int) : (Co.enc c m).length ≤ 4 := by
 unfold Co.enc
 have p := fun n => Co.pt_le n m
 repeat' split
 all_goals first | (simp only [List.length_append]; have := p (2 * c.Ns); have := p (2 * c.Nr + Co.pb c.Poll); have := p 1; have := p 9; omega) | simp
theorem hd_eq {t : Int} (ht : 0 ≤ t ∧ t < 65536) : ([IntKind.u8.wrap (t.fdiv (2 ^ (min (8 : Int).toNat IntKind.i64.bits))), IntKind.u8.wrap t] : List Int) = hdr t := by
 rw [Co.fd8, u8w, u8w, Int.emod_eq_of_lt (by omega) (by omega)]; rfl
theorem put_eq {a : arq_Arq} {C : Nat} (h : AI a C) (hC : C ≤ big) {t : Int} (ht : 0 ≤ t ∧ t < 65536) {c : api_Ctl} (hc : Co.rightB c a.m = true) {b : List Int} (hb : b.length ≤ 1000000) {k : Nat} (hk : 20 ≤ k) :
  arq_Arq_put.f k a t c b = some (say a t c b) := by
 have := enc_len c a.m
 have ho := h.out
 unfold big at hC
 unfold arq_Arq_put.f
 rw [Co.bytes_eq hc, bsome, hd_eq ht, concat_eq (by simp [hdr]) (by omega) (by omega) hk, bsome, if_pos (by simp; omega)]; rfl
theorem tell_eq {a : arq_Arq} {C : Nat} (h : AI a C) (hC : C ≤ big) {c : api_Ctl} (hc : Co.rightB c a.m = true) {k : Nat} (hk : 20 ≤ k) : arq_Arq_tell.f k a c = some (say a a.tag c []) := by
 unfold arq_Arq_tell.f
 rw [put_eq h hC h.tag hc (by simp) hk, bsome]
theorem right_bare {a : arq_Arq} {C : Nat} (h : AI a C) {K : Int} (hK : 3 ≤ K ∧ K ≤ 7) (p : Bool) : Co.rightB (ct K 0 0 p) a.m = true := by
 unfold Co.rightB ct
 have e0 : ¬ K = 0 := by omega
 have e1 : ¬ (K = 1 ∨ K = 2) := by omega
 simp only [if_neg e0, if_neg e1]
 rcases h.m with e | e <;> rw [e] <;> simp <;> omega
theorem right_num {a : arq_Arq} {C : Nat} (h : AI a C) {K n r : Int} (hK : K = 0 ∨ (K = 1 ∨ K = 2) ∧ n = 0) (hn : 0 ≤ n ∧ n < a.m) (hr : 0 ≤ r ∧ r < a.m) (p : Bool) : Co.rightB (ct K n r p) a.m = true := by
 unfold Co.rightB ct
 rcases hK with e | ⟨e, e'⟩
 ·simp only [if_pos e]
  rcases h.m with q | q <;> rw [q] at hn hr ⊢ <;> simp <;> omega
 ·have e0 : ¬ K = 0 := by omega
  simp only [if_neg e0, if_pos e]
  rcases h.m with q | q <;> rw [q] at hr ⊢ <;> simp <;> omega
def timed (a : arq_Arq) (n : Int) : arq_Arq := { a with timers := tm a.timers.now n }
theorem timed_ai {a : arq_Arq} {C : Nat} (h : AI a C) {n : Int} (hn : 0 ≤ n ∧ n ≤ 1048576) : AI (timed a n) C := { h with tim := ⟨_, _, rfl, hn⟩ }
theorem astart_eq {a : arq_Arq} {C : Nat} (h : AI a C) : arq_Arq_start.f a = some (timed a a.t1) := by
 obtain ⟨w, v, e, hv⟩ := h.tim
 unfold arq_Arq_start.f
 rw [e, start_eq w v h.t1, bsome]; unfold timed; rw [e]; rfl
theorem back_mod {f i m : Int} (hf : 0 ≤ f ∧ f < m) (hi : 0 ≤ i ∧ i < m) : ((f + i) % m - f) % m = i := by
 rw [Int.emod_sub_emod, show f + i - f = i by omega, Int.emod_eq_of_lt hi.1 hi.2]
theorem getD_small {l : List (List Int)} {N : Nat} (h : ∀ b ∈ l, b.length ≤ N) (i : Nat) : (l.getD i []).length ≤ N := by
 by_cases hi : i < l.length
 ·have e : l.getD i [] = l[i] := by simp [List.getD, hi]
  rw [e]; exact h _ (List.getElem_mem hi)
 ·have e : l.getD i [] = [] := by simp [List.getD, show l.length ≤ i by omega]
  rw [e]; simp
theorem body_eq {l : backlog_Log} (h : Bl.BI l) (hwm : l.window ≤ l.m / 8) {i : Int} (hi : 0 ≤ i ∧ i < l.out) : backlog_Log_Body.f l ((l.first + i) % l.m) = some (l.l.getD i.toNat [], true) := by
 have hm := h.m
 have hf := h.first
 have ho := h.out
 have hw := h.win
 have hn : 0 ≤ (l.first + i) % l.m ∧ (l.first + i) % l.m < l.m := ⟨Int.emod_nonneg _ (by omega), Int.emod_lt_of_pos _ (by omega)⟩
 have him : i < l.m := by omega
 have hs := getD_small h.small i.toNat
 unfold backlog_Log_Body.f backlog_Log_Body.j0
 rw [dist_eq ⟨by omega, by omega⟩ ⟨by omega, by omega⟩ ⟨by omega, by omega⟩, bsome, back_mod hf ⟨hi.1, him⟩, if_neg (by omega), if_neg (by omega), if_neg (by simp; omega), if_pos ⟨by omega, by omega⟩, Bl.clone_eq (by omega), bsome]
def oclr (o : reorder_Order) : reorder_Order := { m := o.m, window := o.window, next := 0, kept := [], ready := o.ready }
def lclr (l : backlog_Log) : backlog_Log := { m := l.m, window := l.window, queue := l.queue, first := 0, out := 0, l := [] }
def fresh (a : arq_Arq) (st : Int) : arq_Arq := { a with state := st, tries := 0, rejected := false, log := lclr a.log, order := oclr a.order, timers := tm a.timers.now 0, lost := a.lost + (a.log.l.length : Int) }
theorem AI.len {a : arq_Arq} {C : Nat} (h : AI a C) : (a.log.l.length : Int) ≤ 5096 := by have := h.log.wait; have := h.log.out; have := h.log.que; have := h.log.win; omega
theorem fresh_ai {a : arq_Arq} {C : Nat} (h : AI a C) {st : Int} (hs : 0 ≤ st ∧ st ≤ 3) : AI (fresh a st) (C + 6000) := by
 have hl := h.len
 have ho := h.ord
 have hlo := h.lost
 have hw := h.log.win
 have hm := h.log.m
 have h' := h.more (D := C + 6000) (by omega)
 exact { h' with
  state := hs
  tries := ⟨Int.le_refl _, by show (0 : Int) ≤ a.n2; have := h.n2; omega⟩
  log := ⟨hm, hw, h.log.que, ⟨Int.le_refl _, by show 0 < a.log.m; omega⟩, ⟨Int.le_refl _, by show (0 : Int) ≤ a.log.window; omega, by show (0 : Int) ≤ _; omega⟩, by show ((([] : List (List Int)).length : Nat) : Int) ≤ 0 + a.log.queue; have := h.log.que; simp; omega, by intro b hb; cases hb⟩
  lm := h.lm
  lw := h.lw
  ord := ⟨ho.hm, ho.hwin, ⟨Int.le_refl _, by show 0 < a.order.m; have := ho.hm; omega⟩, by show 0 + a.order.ready.length ≤ _; have := ho.held; omega⟩
  om := h.om
  ow := h.ow
  tim := ⟨_, _, rfl, by omega, by omega⟩
  lost := ⟨by show 0 ≤ a.lost + _; omega, by show a.lost + _ ≤ _; omega⟩ }
theorem fresh_eq {a : arq_Arq} {C : Nat} (h : AI a C) (hC : C ≤ big) (st : Int) : arq_Arq_fresh.f a st = some (fresh a st) := by
 obtain ⟨w, v, e, hv⟩ := h.tim
 have hl := h.len
 have hlo := h.lost
 unfold big at hC
 unfold arq_Arq_fresh.f backlog_Log_Clear.f reorder_Order_Clear.f
 rw [bsome, bsome, e, stop_eq w hv.1, bsome, w64_in ⟨by omega, by omega⟩]; unfold fresh; rw [e]; rfl
def tellInd (a : arq_Arq) (n : Int) : arq_Arq := { a with inds := a.inds ++ [n] }
theorem ind_ai {a : arq_Arq} {C : Nat} (h : AI a C) (n : Int) : AI (tellInd a n) (C + 1) := by
 have h' := h.more (D := C + 1) (by omega)
 exact { h' with inds := by show (a.inds ++ [n]).length ≤ _; have := h.inds; rw [List.length_append]; simp; omega }
def aend (a : arq_Arq) : arq_Arq := tellInd (fresh a 0) 2
theorem aend_ai {a : arq_Arq} {C : Nat} (h : AI a C) : AI (aend a) (C + 6001) := ind_ai (fresh_ai h (by decide)) 2
theorem aend_eq {a : arq_Arq} {C : Nat} (h : AI a C) (hC : C ≤ big) : arq_Arq_end.f a = some (aend a) := by
 have hi := h.inds
 unfold arq_Arq_end.f
 rw [fresh_eq h hC, bsome]
 unfold big at hC
 rw [if_pos (by show ((a.inds.length : Nat) : Int) + _ ≤ _; simp; omega)]; rfl
def aheadB (tag t : Int) : Bool := decide (1 ≤ (t - tag) % 65536 ∧ (t - tag) % 65536 < 32768)
theorem ahead_eq {a : arq_Arq} {C : Nat} (h : AI a C) {t : Int} (ht : 0 ≤ t ∧ t < 65536) : arq_Arq_ahead.f a t = some (aheadB a.tag t) := by
 have := h.tag
 unfold arq_Arq_ahead.f aheadB
 rw [dist_eq ⟨by omega, by omega⟩ ⟨by omega, by omega⟩ (by decide), bsome]
 by_cases h1 : (t - a.tag) % 65536 ≥ 1
 ·rw [if_pos h1]
  by_cases h2 : (t - a.tag) % 65536 < 32768
  ·rw [decide_eq_true h2, decide_eq_true ⟨h1, h2⟩]
  ·rw [decide_eq_false h2, decide_eq_false (by omega)]
 ·rw [if_neg h1, decide_eq_false (by omega)]
theorem AI.next {a : arq_Arq} {C : Nat} (h : AI a C) : 0 ≤ a.order.next ∧ a.order.next < a.m := by have := h.ord.hnext; have := h.om; omega
theorem AI.num {a : arq_Arq} {C : Nat} (h : AI a C) (i : Int) : 0 ≤ (a.log.first + i) % a.log.m ∧ (a.log.first + i) % a.log.m < a.m := by
 have := h.log.m; have := h.lm
 have h1 := Int.emod_nonneg (a.log.first + i) (show a.log.m ≠ 0 by omega)
 have h2 := Int.emod_lt_of_pos (a.log.first + i) (show 0 < a.log.m by omega)
 omega
theorem message_eq {a : arq_Arq} {C : Nat} (h : AI a C) (hC : C ≤ big) {n : Int} (hn : 0 ≤ n ∧ n < a.m) {b : List Int} (hb : b.length ≤ 1000000) (p : Bool) {k : Nat} (hk : 20 ≤ k) :
  arq_Arq_message.f k a n b p = some (say a a.tag (ct 0 n a.order.next p) b) := by
 unfold arq_Arq_message.f reorder_Order_Next.f
 rw [bsome, put_eq h hC h.tag (right_num h (.inl rfl) hn h.next p) hb hk, bsome]
def run (a : arq_Arq) : Int := a.timers.left.getD 0 0
def out1 (a : arq_Arq) : arq_Arq :=
 let x := say { a with log := Bl.logOut a.log } a.tag (ct 0 ((a.log.first + a.log.out) % a.log.m) a.order.next false) (a.log.l.getD a.log.out.toNat [])
 if run a > 0 then x else timed x a.t1
def more (a : arq_Arq) : Prop := a.log.out < (a.log.l.length : Int) ∧ a.log.out < a.log.window
instance (a : arq_Arq) : Decidable (more a) := inferInstanceAs (Decidable (_ ∧ _))
def pumpL : Nat → arq_Arq → arq_Arq
 | 0, a => a
 | d + 1, a => if more a then pumpL d (out1 a) else a
theorem setlog_ai {a : arq_Arq} {C : Nat} (h : AI a C) {l : backlog_Log} (hl : Bl.BI l) (hm : l.m = a.log.m) (hw : l.window = a.log.window) : AI { a with log := l } C :=
 { h with log := hl, lm := hm.trans h.lm, lw := by show l.window ≤ _; rw [hw]; exact h.lw, ow := h.ow.trans hw.symm }
theorem out1_ai {a : arq_Arq} {C : Nat} (h : AI a C) (hm : more a) : AI (out1 a) (C + 1) := by
 have h1 : AI { a with log := Bl.logOut a.log } C := setlog_ai h (Bl.out_bi h.log hm.1 hm.2) rfl rfl
 have h2 := say_ai h1 a.tag (ct 0 ((a.log.first + a.log.out) % a.log.m) a.order.next false) (a.log.l.getD a.log.out.toNat [])
 unfold out1
 by_cases hr : run a > 0
 ·simp only [hr, if_true]; exact h2
 ·simp only [hr, if_false]; exact timed_ai h2 ⟨by have := h.t1; omega, h.t1.2⟩
theorem pumpL_ai {C : Nat} : ∀ (d : Nat) {a : arq_Arq}, AI a C → AI (pumpL d a) (C + d)
 | 0, _, h => h
 | d + 1, a, h => by
  rw [pumpL]
  by_cases hm : more a
  ·rw [if_pos hm]
   have := pumpL_ai (C := C + 1) d (out1_ai h hm)
   exact this.more (by omega)
  ·rw [if_neg hm]; exact h.more (by omega)
theorem AI.run {a : arq_Arq} {C : Nat} (h : AI a C) : clock_Set_Left.f a.timers 0 = some (run a, decide (run a > 0)) ∧ 0 ≤ run a ∧ run a ≤ 1048576 := by
 obtain ⟨w, v, e, hv⟩ := h.tim
 have er : Aq.run a = v := by unfold Aq.run; rw [e]; rfl
 rw [er, e, left_eq]
 exact ⟨rfl, hv⟩
theorem pump_l0 {C : Nat} : ∀ (d : Nat) (a : arq_Arq) (k : Nat), AI a C → C + d ≤ big → a.log.window ≤ a.log.out + d → d + 30 ≤ k →
  (backlog_Log_Next.f a.log).bind (fun t => arq_Arq_pump.l0 k t.1 t.2.2.1 { a with log := t.2.2.2 } t.2.1) = some (pumpL d a) := by
 intro d
 induction d generalizing C with
 | zero =>
  intro a k h hC hd hk
  obtain ⟨k, rfl⟩ : ∃ j, k = j + 1 := ⟨k - 1, by omega⟩
  have ho := h.log.out
  rw [Bl.next_no (.inr (by omega)), bsome, arq_Arq_pump.l0, if_neg (by simp)]; rfl
 | succ d ih =>
  intro a k h hC hd hk
  obtain ⟨k, rfl⟩ : ∃ j, k = j + 1 := ⟨k - 1, by omega⟩
  have ho := h.log.out
  rw [pumpL]
  by_cases hm : more a
  ·have h1 : AI { a with log := Bl.logOut a.log } C := setlog_ai h (Bl.out_bi h.log hm.1 hm.2) rfl rfl
   rw [if_pos hm, Bl.next_yes h.log hm.1 hm.2, bsome, arq_Arq_pump.l0, if_pos rfl, message_eq h1 (by omega) (h.num _) (getD_small h.log.small _) false (by omega), bsome]
   have h2 := say_ai h1 a.tag (ct 0 ((a.log.first + a.log.out) % a.log.m) a.order.next false) (a.log.l.getD a.log.out.toNat [])
   have er := h2.run.1
   have e0 : run (say { a with log := Bl.logOut a.log } a.tag (ct 0 ((a.log.first + a.log.out) % a.log.m) a.order.next false) (a.log.l.getD a.log.out.toNat [])) = run a := rfl
   rw [e0] at er
   refine Eq.trans (congrArg (fun o => Option.bind o _) er) ?_
   rw [bsome]
   have h3 := out1_ai h hm
   have key := ih (C := C + 1) (out1 a) k h3 (by omega) (by unfold out1; by_cases hr : run a > 0 <;> simp only [hr, if_true, if_false] <;> (show a.log.window ≤ a.log.out + 1 + (d : Int); omega)) (by omega)
   by_cases hr : run a > 0
   ·rw [if_pos (decide_eq_true hr)]
    have e1 : out1 a = say { a with log := Bl.logOut a.log } a.tag (ct 0 ((a.log.first + a.log.out) % a.log.m) a.order.next false) (a.log.l.getD a.log.out.toNat []) := by unfold out1; simp only [hr, if_true]
    rw [e1] at key ⊢
    exact key
   ·rw [if_neg (by simpa using hr)]
    have e1 : out1 a = timed (say { a with log := Bl.logOut a.log } a.tag (ct 0 ((a.log.first + a.log.out) % a.log.m) a.order.next false) (a.log.l.getD a.log.out.toNat [])) a.t1 := by unfold out1; simp only [hr, if_false]
    rw [e1] at key ⊢
    have es := astart_eq h2
    refine Eq.trans (congrArg (fun o => Option.bind o _) es) ?_
    rw [bsome]
    exact key
  ·have hn : a.log.out = (a.log.l.length : Int) ∨ a.log.out = a.log.window := by unfold more at hm; omega
   rw [if_neg hm, Bl.next_no hn, bsome, arq_Arq_pump.l0, if_neg (by simp)]
def pump (a : arq_Arq) : arq_Arq := if a.state = 2 then pumpL a.log.window.toNat a else a
theorem pump_eq {a : arq_Arq} {C : Nat} (h : AI a C) (hC : C + 4096 ≤ big) {k : Nat} (hk : 5000 ≤ k) : arq_Arq_pump.f k a = some (pump a) := by
 have hw := h.log.win
 have ho := h.log.out
 unfold arq_Arq_pump.f pump
 by_cases hs : a.state = 2
 ·rw [if_pos hs, if_pos hs]
  exact pump_l0 a.log.window.toNat a k h (by omega) (by omega) (by omega)
 ·rw [if_neg hs, if_neg hs]
theorem pump_ai {a : arq_Arq} {C : Nat} (h : AI a C) : AI (pump a) (C + 4096) := by
 have hw := h.log.win
 unfold pump
 by_cases hs : a.state = 2
 ·rw [if_pos hs]; exact (pumpL_ai _ h).more (by omega)
 ·rw [if_neg hs]; exact h.more (by omega)
def imsg (a : arq_Arq) (i : Int) (p : Bool) : List Int := hdr a.tag ++ (Co.enc (ct 0 ((a.log.first + i) % a.log.m) a.order.next p) a.m ++ a.log.l.getD i.toNat [])
def also (a : arq_Arq) (l : List (List Int)) : arq_Arq := { a with out := a.out ++ l }
theorem also_ai {a : arq_Arq} {C : Nat} (h : AI a C) (l : List (List Int)) : AI (also a l) (C + l.length) := by
 have h' := h.more (D := C + l.length) (by omega)
 exact { h' with out := by show (a.out ++ l).length ≤ _; have := h.out; rw [List.length_append]; omega }
theorem repeat_eq {a : arq_Arq} {C : Nat} (h : AI a C) (hC : C ≤ big) {i : Int} (hi : 0 ≤ i ∧ i < a.log.out) (p : Bool) {k : Nat} (hk : 20 ≤ k) :
  arq_Arq_repeat.f k a ((a.log.first + i) % a.log.m) p = some (also a [imsg a i p]) := by
 unfold arq_Arq_repeat.f
 rw [body_eq h.log (by have := h.lm; have := h.lw; omega) hi, bsome, message_eq h hC (h.num i) (getD_small h.log.small _) p hk, bsome]; rfl
theorem resend_l0 {C : Nat} (a : arq_Arq) : ∀ (d i : Nat) (l : List (List Int)) (k : Nat), AI (also a l) C → C + d ≤ big → (i : Int) + d = a.log.out → d + 30 ≤ k →
  arq_Arq_resend.l0 k (Bl.outs a.log) (i : Int) (also a l) = (if a.log.out > 0 then some (timed (also a (l ++ (List.range' i d).map fun (j : Nat) => imsg a j false)) a.t1) else some (also a (l ++ (List.range' i d).map fun (j : Nat) => imsg a j false))) := by
 intro d
 induction d generalizing C with
 | zero =>
  intro i l k h hC hi hk
  obtain ⟨k, rfl⟩ : ∃ j, k = j + 1 := ⟨k - 1, by omega⟩
  have hl : ((Bl.outs a.log).length : Int) = a.log.out := by rw [Bl.outs_len]; have := h.log.out; omega
  rw [arq_Arq_resend.l0, if_neg (by omega), hl, List.range'_zero, List.map_nil, List.append_nil]
  by_cases h0 : a.log.out > 0
  ·rw [if_pos h0, if_pos h0, astart_eq h, bsome]; rfl
  ·rw [if_neg h0, if_neg h0]
 | succ d ih =>
  intro i l k h hC hi hk
  obtain ⟨k, rfl⟩ : ∃ j, k = j + 1 := ⟨k - 1, by omega⟩
  have ho : 0 ≤ a.log.out ∧ a.log.out ≤ a.log.window ∧ a.log.out ≤ (a.log.l.length : Int) := h.log.out
  have hw : 1 ≤ a.log.window ∧ a.log.window ≤ 4096 := h.log.win
  have hl : ((Bl.outs a.log).length : Int) = a.log.out := by rw [Bl.outs_len]; omega
  have hg : (Bl.outs a.log).getD ((i : Int)).toNat 0 = (a.log.first + (i : Int)) % a.log.m := by
   have : i < a.log.out.toNat := by omega
   simp [Bl.outs, List.getD, this]
  rw [arq_Arq_resend.l0, if_pos (by omega), if_pos (by omega), hg]
  have er := repeat_eq h (by omega) (i := (i : Int)) ⟨by omega, by show (i : Int) < a.log.out; omega⟩ false (k := k) (by omega)
  refine Eq.trans (congrArg (fun o => Option.bind o _) er) ?_
  rw [bsome, w64_in ⟨by omega, by omega⟩]
  have e1 : also (also a l) [imsg (also a l) (i : Int) false] = also a (l ++ [imsg a (i : Int) false]) := by
   show ({ a with out := (a.out ++ l) ++ [imsg a (i : Int) false] } : arq_Arq) = { a with out := a.out ++ (l ++ [imsg a (i : Int) false]) }
   rw [List.append_assoc]
  have h2 := also_ai h [imsg (also a l) (i : Int) false]
  rw [e1] at h2 ⊢
  have := ih (C := C + 1) (i + 1) (l ++ [imsg a (i : Int) false]) k h2 (by omega) (by omega) (by omega)
  rw [show ((i : Int) + 1) = ((i + 1 : Nat) : Int) by omega, this, List.range'_succ, List.map_cons, List.append_assoc]; rfl
def outAll (a : arq_Arq) : List (List Int) := (List.range a.log.out.toNat).map fun (j : Nat) => imsg a j false
def resend (a : arq_Arq) : arq_Arq := if a.log.out > 0 then timed (also a (outAll a)) a.t1 else a
theorem resend_eq {a : arq_Arq} {C : Nat} (h : AI a C) (hC : C + 5000 ≤ big) {k : Nat} (hk : 6000 ≤ k) : arq_Arq_resend.f k a = some (resend a) := by
 have ho := h.log.out
 have hw := h.log.win
 unfold arq_Arq_resend.f
 rw [Bl.out_eq h.log (by omega), bsome]
 have e0 : also a [] = a := by show ({ a with out := a.out ++ [] } : arq_Arq) = a; rw [List.append_nil]
 have := resend_l0 (C := C) a a.log.out.toNat 0 [] k (by rw [e0]; exact h) (by omega) (by omega) (by omega)
 rw [e0] at this
 refine this.trans ?_
 unfold resend outAll
 rw [List.range_eq_range', List.nil_append]
 by_cases h0 : a.log.out > 0
 ·rw [if_pos h0, if_pos h0]
 ·rw [if_neg h0, if_neg h0, show a.log.out.toNat = 0 by omega]
  exact congrArg some e0
theorem resend_ai {a : arq_Arq} {C : Nat} (h : AI a C) : AI (resend a) (C + 4096) := by
 have ho := h.log.out
 have hw := h.log.win
 unfold resend
 by_cases h0 : a.log.out > 0
 ·rw [if_pos h0]
  have h1 := also_ai h (outAll a)
  exact (timed_ai h1 ⟨by have := h.t1; omega, h.t1.2⟩).more (by simp [outAll]; omega)
 ·rw [if_neg h0]; exact h.more (by omega)
theorem ack0 {l : backlog_Log} (h : Bl.BI l) : Bl.logAck l 0 = l := by
 have e : (l.first + 0) % l.m = l.first := by rw [Int.add_zero]; exact Int.emod_eq_of_lt h.first.1 h.first.2
 unfold Bl.logAck
 rw [e, Int.sub_zero]; rfl
def ackd (a : arq_Arq) (k : Int) : arq_Arq :=
 let b : arq_Arq := { a with log := Bl.logAck a.log k, acked := a.acked + k, tries := 0, timers := tm a.timers.now 0 }
 if a.log.out - k > 0 then timed b a.t1 else b
def ackOk (a : arq_Arq) (nr : Int) : Prop := 0 ≤ nr ∧ nr < a.log.m ∧ (nr - a.log.first) % a.log.m ≤ a.log.out
instance (a : arq_Arq) (nr : Int) : Decidable (ackOk a nr) := inferInstanceAs (Decidable (_ ∧ _ ∧ _))
def acknow (a : arq_Arq) (nr : Int) : Bool × arq_Arq :=
 if ackOk a nr then (true, if (nr - a.log.first) % a.log.m = 0 then a else ackd a ((nr - a.log.first) % a.log.m)) else (false, a)
theorem ackd_base {a : arq_Arq} {C : Nat} (h : AI a C) {k : Int} (hk : 0 ≤ k ∧ k ≤ a.log.out) : AI { a with log := Bl.logAck a.log k, acked := a.acked + k, tries := 0, timers := tm a.timers.now 0 } (C + 4096) := by
 have ho := h.log.out
 have hw := h.log.win
 have ha := h.acked
 have h1 := setlog_ai (h.more (D := C + 4096) (by omega)) (Bl.ack_bi h.log hk) rfl rfl
 exact { h1 with
  tries := ⟨Int.le_refl _, by show (0 : Int) ≤ a.n2; have := h.n2; omega⟩
  tim := ⟨_, _, rfl, by omega, by omega⟩
  acked := ⟨by show 0 ≤ a.acked + k; omega, by show a.acked + k ≤ _; omega⟩ }
theorem ackd_ai {a : arq_Arq} {C : Nat} (h : AI a C) {k : Int} (hk : 0 ≤ k ∧ k ≤ a.log.out) : AI (ackd a k) (C + 4096) := by
 have h1 := ackd_base h hk
 unfold ackd
 by_cases h0 : a.log.out - k > 0
 ·simp only [h0, if_true]; exact timed_ai h1 ⟨by have := h.t1; omega, h.t1.2⟩
 ·simp only [h0, if_false]; exact h1
theorem acknow_ai {a : arq_Arq} {C : Nat} (h : AI a C) (nr : Int) : AI (acknow a nr).2 (C + 4096) := by
 have hm := h.log.m
 unfold acknow
 by_cases h1 : ackOk a nr
 ·rw [if_pos h1]
  by_cases h2 : (nr - a.log.first) % a.log.m = 0
  ·simp only [h2, if_true]; exact h.more (by omega)
  ·simp only [h2, if_false]; exact ackd_ai h ⟨Int.emod_nonneg _ (by omega), h1.2.2⟩
 ·rw [if_neg h1]; exact h.more (by omega)
theorem acknow_eq {a : arq_Arq} {C : Nat} (h : AI a C) (hC : C + 5000 ≤ big) {nr : Int} (hn : -9223372036854775808 ≤ nr ∧ nr ≤ 9223372036854775807) {k : Nat} (hk : 6000 ≤ k) : arq_Arq_acknowledged.f k a nr = some (acknow a nr) := by
 have hm := h.log.m
 have ho := h.log.out
 have hw := h.log.win
 unfold arq_Arq_acknowledged.f acknow
 by_cases h1 : ackOk a nr
 ·rw [if_pos h1, Bl.ack_yes h.log ⟨h1.1, h1.2.1⟩ h1.2.2, bsome]
  by_cases h2 : (nr - a.log.first) % a.log.m = 0
  ·rw [if_pos h2, if_pos h2, h2, ack0 h.log]
  ·rw [if_neg h2, if_neg h2]
   have hk0 : 0 ≤ (nr - a.log.first) % a.log.m ∧ (nr - a.log.first) % a.log.m ≤ a.log.out := ⟨Int.emod_nonneg _ (by omega), h1.2.2⟩
   generalize (nr - a.log.first) % a.log.m = q at h2 hk0 ⊢
   have hb := ackd_base h hk0
   obtain ⟨w, v, e, hv⟩ := h.tim
   have ha := h.acked
   unfold big at hC
   have e1 := Bl.out_eq (Bl.ack_bi h.log hk0) (k := k) (by omega)
   have e2 : ((Bl.outs (Bl.logAck a.log q)).length : Int) = a.log.out - q := by rw [Bl.outs_len]; show ((a.log.out - q).toNat : Int) = _; omega
   rw [e, stop_eq w hv.1, bsome, e1, bsome, e2]
   have e3 : w64 (a.acked + q) = a.acked + q := w64_in ⟨by omega, by omega⟩
   unfold ackd
   rw [e] at hb ⊢
   by_cases h3 : a.log.out - q > 0
   ·rw [if_pos h3]; simp only [h3, if_true, e3]
    refine Eq.trans (congrArg (fun o => Option.bind o _) (astart_eq hb)) ?_
    rw [bsome]; rfl
   ·rw [if_neg h3]; simp only [h3, if_false, e3]; rfl
 ·rw [if_neg h1, Bl.ack_no h.log hn (by unfold ackOk at h1; omega), bsome, if_pos rfl]
def answer (x : arq_Arq) (p : Bool) : arq_Arq :=
 if x.order.kept.length > 0 ∧ x.rejected = false then say { x with rejected := true } x.tag (ct 2 0 x.order.next false) [] else say x x.tag (ct 1 0 x.order.next p) []
def put (a : arq_Arq) (n : Int) (b : List Int) : arq_Arq := { a with order := (Or.putm a.order n b).2, rejected := if (Or.putm a.order n b).1 > 0 then false else a.rejected }
def come (a : arq_Arq) (c : api_Ctl) (b : List Int) : arq_Arq := answer (put a c.Ns b) c.Poll
theorem drain_m : ∀ (d : Nat) (x : reorder_Order), (Or.drain d x).2.m = x.m ∧ (Or.drain d x).2.window = x.window
 | 0, _ => ⟨rfl, rfl⟩
 | d + 1, x => by
  rw [Or.drain]
  split
  ·exact drain_m d (Or.ostep x)
  ·exact ⟨rfl, rfl⟩
theorem putm_m (x : reorder_Order) (n : Int) (b : List Int) : (Or.putm x n b).2.m = x.m ∧ (Or.putm x n b).2.window = x.window := by
 unfold Or.putm
 split
 ·exact ⟨rfl, rfl⟩
 ·split
  ·exact ⟨rfl, rfl⟩
  ·exact drain_m _ _
theorem put_ai {a : arq_Arq} {C : Nat} (h : AI a C) (n : Int) (b : List Int) : AI (put a n b) (C + 1) := by
 have h' := h.more (D := C + 1) (by omega)
 have := putm_m a.order n b
 exact { h' with ord := Or.put_oi h.ord n b, om := this.1.trans h.om, ow := this.2.trans h.ow }
theorem rej_ai {a : arq_Arq} {C : Nat} (h : AI a C) (r : Bool) : AI { a with rejected := r } C := { h with }
theorem answer_ai {a : arq_Arq} {C : Nat} (h : AI a C) (p : Bool) : AI (answer a p) (C + 1) := by
 unfold answer
 split
 ·exact say_ai (rej_ai h true) _ _ _
 ·exact say_ai h _ _ _
theorem come_ai {a : arq_Arq} {C : Nat} (h : AI a C) (c : api_Ctl) (b : List Int) : AI (come a c b) (C + 2) := answer_ai (put_ai h c.Ns b) c.Poll
theorem right_ans {a : arq_Arq} {C : Nat} (h : AI a C) {K : Int} (hK : K = 1 ∨ K = 2) (p : Bool) : Co.rightB (ct K 0 a.order.next p) a.m = true :=
 right_num h (.inr ⟨hK, rfl⟩) ⟨Int.le_refl _, by rcases h.m with e | e <;> omega⟩ h.next p
theorem answer_eq {x : arq_Arq} {C : Nat} (h : AI x C) (hC : C ≤ big) (c : api_Ctl) {k : Nat} (hk : 20 ≤ k) : arq_Arq_come.j0 k c x = some (answer x c.Poll) := by
 unfold arq_Arq_come.j0 reorder_Order_Next.f arq_Arq_come.j1 reorder_Order_Gap.f answer
 rw [bsome, bsome]
 by_cases g : (x.order.kept.length : Int) > 0
 ·rw [if_pos (decide_eq_true g)]
  unfold arq_Arq_come.j3 arq_Arq_come.j2
  cases hr : x.rejected with
  | false =>
   rw [if_pos (by rfl), if_pos ⟨by omega, rfl⟩]
   have h1 := rej_ai h true
   have e := tell_eq h1 hC (right_ans h1 (.inr rfl) false) hk
   refine Eq.trans (congrArg (fun o => Option.bind o _) e) ?_
   rw [bsome]
  | true =>
   rw [if_neg (by simp), if_neg (by simp), tell_eq h hC (right_ans h (.inl rfl) c.Poll) hk, bsome]
 ·rw [if_neg (by simpa using g), if_neg (by omega)]
  unfold arq_Arq_come.j3 arq_Arq_come.j2
  rw [if_neg (by simp), tell_eq h hC (right_ans h (.inl rfl) c.Poll) hk, bsome]
theorem come_eq {a : arq_Arq} {C : Nat} (h : AI a C) (hC : C + 5 ≤ big) {c : api_Ctl} (hn : -9223372036854775808 ≤ c.Ns ∧ c.Ns ≤ 9223372036854775807) {b : List Int} (hb : b.length ≤ 1000000) {k : Nat} (hk : C + 30 ≤ k) : arq_Arq_come.f k a c b = some (come a c b) := by
 have hC1 : C ≤ 1000000000000 := by unfold big at hC; omega
 have e := answer_eq (put_ai h c.Ns b) (by omega) c (k := k) (by omega)
 unfold arq_Arq_come.f come
 rw [Or.put_eq h.ord hC1 hn hb (by omega), bsome, ← e]
 unfold put
 by_cases g : (Or.putm a.order c.Ns b).1 > 0
 ·rw [if_pos g, if_pos g]
 ·rw [if_neg g, if_neg g]
def numbered (a : arq_Arq) (t : Int) (c : api_Ctl) (b : List Int) : arq_Arq :=
 if a.state = 0 then say a t (ct 6 0 0 false) []
 else if a.state = 2 ∧ t = a.tag then
  if c.Kind = 0 ∧ (b.length : Int) > a.size then aend (say a a.tag (ct 7 0 0 false) [])
  else pump ((fun x : arq_Arq => if c.Kind = 0 then come x c b else x) (if (acknow a c.Nr).1 = true ∧ c.Kind = 2 then resend (acknow a c.Nr).2 else (acknow a c.Nr).2))
 else a
theorem numbered_ai {a : arq_Arq} {C : Nat} (h : AI a C) (t : Int) (c : api_Ctl) (b : List Int) : AI (numbered a t c b) (C + 13000) := by
 unfold numbered
 split
 ·exact (say_ai h _ _ _).more (by omega)
 split
 ·split
  ·exact (aend_ai (say_ai h _ _ _)).more (by omega)
  ·have h1 := acknow_ai h c.Nr
   have h2 : AI (if (acknow a c.Nr).1 = true ∧ c.Kind = 2 then resend (acknow a c.Nr).2 else (acknow a c.Nr).2) (C + 8192) := by
    split
    ·exact (resend_ai h1).more (by omega)
    ·exact h1.more (by omega)
   generalize (if (acknow a c.Nr).1 = true ∧ c.Kind = 2 then resend (acknow a c.Nr).2 else (acknow a c.Nr).2) = x at h2 ⊢
   have h3 : AI (if c.Kind = 0 then come x c b else x) (C + 8194) := by
    split
    ·exact (come_ai h2 c b).more (by omega)
    ·exact h2.more (by omega)
   exact (pump_ai h3).more (by omega)
 ·exact h.more (by omega)
theorem numbered_eq {a : arq_Arq} {C : Nat} (h : AI a C) (hC : C + 20000 ≤ big) {t : Int} (ht : 0 ≤ t ∧ t < 65536) {c : api_Ctl} (hn : -9223372036854775808 ≤ c.Ns ∧ c.Ns ≤ 9223372036854775807) (hr : -9223372036854775808 ≤ c.Nr ∧ c.Nr ≤ 9223372036854775807) {b : List Int} (hb : b.length ≤ 1000000) {k : Nat} (hk : C + 20000 ≤ k) :
  arq_Arq_numbered.f k a t c b = some (numbered a t c b) := by
 unfold arq_Arq_numbered.f numbered
 by_cases s0 : a.state = 0
 ·rw [if_pos s0, if_pos s0, put_eq h (by omega) ht (right_bare h (by decide) false) (by simp) (by omega), bsome]
 rw [if_neg s0, if_neg s0]
 have none : arq_Arq_numbered.j0 k a c b true = some a := by unfold arq_Arq_numbered.j0; rw [if_pos rfl]
 by_cases s2 : a.state = 2
 ·rw [if_pos s2]
  by_cases ht' : t = a.tag
  ·rw [if_pos ⟨s2, ht'⟩]
   have e1 : arq_Arq_numbered.j0 k a c b (!decide (t = a.tag)) = arq_Arq_numbered.j1 k a c b (decide (c.Kind = 0 ∧ (b.length : Int) > a.size)) := by
    unfold arq_Arq_numbered.j0
    rw [if_neg (by simp [ht'])]
    by_cases k0 : c.Kind = 0
    ·rw [if_pos k0]; simp [k0]
    ·rw [if_neg k0]; simp [k0]
   rw [e1]
   unfold arq_Arq_numbered.j1
   by_cases g : c.Kind = 0 ∧ (b.length : Int) > a.size
   ·rw [if_pos (decide_eq_true g), if_pos g, tell_eq h (by omega) (right_bare h (by decide) false) (by omega), bsome, aend_eq (say_ai h _ _ _) (by omega), bsome]
   ·rw [if_neg (by simpa using g), if_neg g, acknow_eq h (by omega) hr (by omega), bsome]
    have h1 := acknow_ai h c.Nr
    generalize acknow a c.Nr = r at h1 ⊢
    obtain ⟨ok, x⟩ := r
    have fin : ∀ y : arq_Arq, AI y (C + 8192) → arq_Arq_numbered.j2 k c b y = some (pump (if c.Kind = 0 then come y c b else y)) := by
     intro y hy
     unfold arq_Arq_numbered.j2 arq_Arq_numbered.j3
     by_cases k0 : c.Kind = 0
     ·rw [if_pos k0, if_pos k0, come_eq hy (by omega) hn hb (by omega), bsome, pump_eq (come_ai hy c b) (by omega) (by omega), bsome]
     ·rw [if_neg k0, if_neg k0, pump_eq hy (by omega) (by omega), bsome]
    have e2 : (if (ok, x).1 = true then arq_Arq_numbered.j4 k c b (ok, x).2 (decide (c.Kind = 2)) else arq_Arq_numbered.j4 k c b (ok, x).2 false) = arq_Arq_numbered.j4 k c b x (decide (ok = true ∧ c.Kind = 2)) := by
     cases ok <;> simp
    rw [e2]
    unfold arq_Arq_numbered.j4
    by_cases g2 : ok = true ∧ c.Kind = 2
    ·rw [if_pos (decide_eq_true g2), if_pos g2, resend_eq h1 (by omega) (by omega), bsome, fin _ ((resend_ai h1).more (by omega))]
    ·rw [if_neg (by simpa using g2), if_neg g2, fin _ (h1.more (by omega))]
  ·rw [if_neg (fun e => ht' e.2), decide_eq_false ht']; exact none
 ·rw [if_neg s2, if_neg (fun e => s2 e.1)]; exact none
def accept (a : arq_Arq) (t : Int) (p : Bool) : arq_Arq := tellInd (say { fresh a 2 with tag := t } t (ct 4 0 0 p) []) (if a.state = 2 then 3 else 1)
def asked (a : arq_Arq) (t : Int) (p : Bool) : arq_Arq :=
 if a.state = 3 then a else if a.state = 2 ∧ t = a.tag then say a a.tag (ct 4 0 0 p) []
 else if aheadB a.tag t = true ∨ a.state = 1 ∧ t = a.tag then accept a t p
 else if a.state = 0 then say a a.tag (ct 6 0 0 false) [] else a
theorem settag_ai {a : arq_Arq} {C : Nat} (h : AI a C) {t : Int} (ht : 0 ≤ t ∧ t < 65536) : AI { a with tag := t } C := { h with tag := ht }
theorem accept_ai {a : arq_Arq} {C : Nat} (h : AI a C) {t : Int} (ht : 0 ≤ t ∧ t < 65536) (p : Bool) : AI (accept a t p) (C + 6002) := ind_ai (say_ai (settag_ai (fresh_ai h (by decide)) ht) _ _ _) _
theorem asked_ai {a : arq_Arq} {C : Nat} (h : AI a C) {t : Int} (ht : 0 ≤ t ∧ t < 65536) (p : Bool) : AI (asked a t p) (C + 13000) := by
 unfold asked
 split
 ·exact h.more (by omega)
 split
 ·exact (say_ai h _ _ _).more (by omega)
 split
 ·exact (accept_ai h ht p).more (by omega)
 split
 ·exact (say_ai h _ _ _).more (by omega)
 ·exact h.more (by omega)
theorem asked_eq {a : arq_Arq} {C : Nat} (h : AI a C) (hC : C + 20000 ≤ big) {t : Int} (ht : 0 ≤ t ∧ t < 65536) (p : Bool) {k : Nat} (hk : 20 ≤ k) : arq_Arq_asked.f k a t p = some (asked a t p) := by
 unfold arq_Arq_asked.f asked
 by_cases s3 : a.state = 3
 ·rw [if_pos s3, if_pos s3]
 rw [if_neg s3, if_neg s3]
 have e1 : (if a.state = 2 then arq_Arq_asked.j1 k a t p (decide (t = a.tag)) else arq_Arq_asked.j1 k a t p false) = arq_Arq_asked.j1 k a t p (decide (a.state = 2 ∧ t = a.tag)) := by
  by_cases s2 : a.state = 2 <;> simp [s2]
 rw [e1]
 unfold arq_Arq_asked.j1
 by_cases g : a.state = 2 ∧ t = a.tag
 ·rw [if_pos (decide_eq_true g), if_pos g, tell_eq h (by omega) (right_bare h (by decide) p) hk, bsome]
 rw [if_neg (by simpa using g), if_neg g, ahead_eq h ht, bsome]
 have e2 : (if aheadB a.tag t = true then arq_Arq_asked.j2 k a t p true else if a.state = 1 then arq_Arq_asked.j2 k a t p (decide (t = a.tag)) else arq_Arq_asked.j2 k a t p false) = arq_Arq_asked.j2 k a t p (decide (aheadB a.tag t = true ∨ a.state = 1 ∧ t = a.tag)) := by
  by_cases q : aheadB a.tag t = true
  ·simp [q]
  ·by_cases s1 : a.state = 1 <;> simp [q, s1]
 rw [e2]
 unfold arq_Arq_asked.j2 arq_Arq_asked.j0
 by_cases g2 : aheadB a.tag t = true ∨ a.state = 1 ∧ t = a.tag
 ·rw [if_pos (decide_eq_true g2), if_pos g2, fresh_eq h (by omega), bsome]
  have h1 := settag_ai (fresh_ai h (st := 2) (by decide)) ht
  have e3 := tell_eq h1 (by omega) (right_bare h1 (K := 4) (by decide) p) hk
  refine Eq.trans (congrArg (fun o => Option.bind o _) e3) ?_
  rw [bsome]
  have hi := h.inds
  unfold big at hC
  have hl : ((a.inds.length : Nat) : Int) + 1 ≤ 1099511627776 := by omega
  unfold accept
  by_cases s2 : a.state = 2
  ·rw [if_pos s2, if_pos s2]; exact (if_pos hl).trans rfl
  ·rw [if_neg s2, if_neg s2]; exact (if_pos hl).trans rfl
 ·rw [if_neg (by simpa using g2), if_neg g2]
  by_cases s0 : a.state = 0
  ·rw [if_pos s0, if_pos s0, tell_eq h (by omega) (right_bare h (by decide) false) hk, bsome]
  ·rw [if_neg s0, if_neg s0]
def accepted (a : arq_Arq) : arq_Arq :=
 if a.state = 1 then pump (tellInd { a with state := 2, tries := 0, timers := tm a.timers.now 0 } 1) else if a.state = 3 then aend a else a
theorem up_ai {a : arq_Arq} {C : Nat} (h : AI a C) : AI (tellInd { a with state := 2, tries := 0, timers := tm a.timers.now 0 } 1) (C + 1) :=
 ind_ai (a := { a with state := 2, tries := 0, timers := tm a.timers.now 0 }) { h with state := ⟨by show (0 : Int) ≤ 2; omega, by show (2 : Int) ≤ 3; omega⟩, tries := ⟨Int.le_refl _, by show (0 : Int) ≤ a.n2; have := h.n2; omega⟩, tim := ⟨_, _, rfl, by omega, by omega⟩ } 1
theorem accepted_ai {a : arq_Arq} {C : Nat} (h : AI a C) : AI (accepted a) (C + 13000) := by
 unfold accepted
 split
 ·exact (pump_ai (up_ai h)).more (by omega)
 split
 ·exact (aend_ai h).more (by omega)
 ·exact h.more (by omega)
theorem accepted_eq {a : arq_Arq} {C : Nat} (h : AI a C) (hC : C + 20000 ≤ big) {k : Nat} (hk : 5000 ≤ k) : arq_Arq_accepted.f k a = some (accepted a) := by
 unfold arq_Arq_accepted.f accepted
 by_cases s1 : a.state = 1
 ·obtain ⟨w, v, e, hv⟩ := h.tim
  have hi := h.inds
  have hu := up_ai h
  have ep := pump_eq hu (by omega) hk
  unfold big at hC
  have hl : ((a.inds.length : Nat) : Int) + 1 ≤ 1099511627776 := by omega
  rw [e] at ep ⊢
  rw [if_pos s1, if_pos s1, stop_eq w hv.1, bsome]
  refine (if_pos hl).trans ?_
  refine Eq.trans (congrArg (fun o => Option.bind o _) ep) ?_
  rw [bsome]
 rw [if_neg s1, if_neg s1]
 by_cases s3 : a.state = 3
 ·rw [if_pos s3, if_pos s3, aend_eq h (by omega), bsome]
 ·rw [if_neg s3, if_neg s3]
def closed (a : arq_Arq) (t : Int) (p : Bool) : arq_Arq :=
 if t = a.tag ∧ (a.state = 2 ∨ a.state = 3) then aend (say a a.tag (ct 4 0 0 p) []) else say a t (ct 6 0 0 false) []
theorem closed_ai {a : arq_Arq} {C : Nat} (h : AI a C) (t : Int) (p : Bool) : AI (closed a t p) (C + 13000) := by
 unfold closed
 split
 ·exact (aend_ai (say_ai h _ _ _)).more (by omega)
 ·exact (say_ai h _ _ _).more (by omega)
theorem closed_eq {a : arq_Arq} {C : Nat} (h : AI a C) (hC : C + 20000 ≤ big) {t : Int} (ht : 0 ≤ t ∧ t < 65536) (p : Bool) {k : Nat} (hk : 20 ≤ k) : arq_Arq_closed.f k a t p = some (closed a t p) := by
 unfold arq_Arq_closed.f closed
 have e1 : (if t = a.tag then (if a.state = 2 then arq_Arq_closed.j0 k a t p false else arq_Arq_closed.j0 k a t p (!decide (a.state = 3))) else arq_Arq_closed.j0 k a t p true) = arq_Arq_closed.j0 k a t p (!decide (t = a.tag ∧ (a.state = 2 ∨ a.state = 3))) := by
  by_cases q : t = a.tag
  ·by_cases s2 : a.state = 2
   ·simp [q, s2]
   ·by_cases s3 : a.state = 3 <;> simp [q, s2, s3]
  ·simp [q]
 rw [e1]
 unfold arq_Arq_closed.j0
 by_cases g : t = a.tag ∧ (a.state = 2 ∨ a.state = 3)
 ·rw [if_pos g, decide_eq_true g, if_neg (by simp), tell_eq h (by omega) (right_bare h (by decide) p) hk, bsome, aend_eq (say_ai h _ _ _) (by omega), bsome]
 ·rw [if_neg g, decide_eq_false g, if_pos (by rfl), put_eq h (by omega) ht (right_bare h (by decide) false) (by simp) hk, bsome]
def refused (a : arq_Arq) (t : Int) : arq_Arq :=
 if t = a.tag ∧ a.state ≠ 0 then aend a else if a.state = 1 ∧ aheadB a.tag t = true then aend { a with tag := t } else a
theorem refused_ai {a : arq_Arq} {C : Nat} (h : AI a C) {t : Int} (ht : 0 ≤ t ∧ t < 65536) : AI (refused a t) (C + 13000) := by
 unfold refused
 split
 ·exact (aend_ai h).more (by omega)
 split
 ·exact (aend_ai (settag_ai h ht)).more (by omega)
 ·exact h.more (by omega)
theorem refused_eq {a : arq_Arq} {C : Nat} (h : AI a C) (hC : C + 20000 ≤ big) {t : Int} (ht : 0 ≤ t ∧ t < 65536) : arq_Arq_refused.f a t = some (refused a t) := by
 unfold arq_Arq_refused.f refused
 have e1 : (if t = a.tag then arq_Arq_refused.j0 a t (!decide (a.state = 0)) else arq_Arq_refused.j0 a t false) = arq_Arq_refused.j0 a t (decide (t = a.tag ∧ a.state ≠ 0)) := by
  by_cases q : t = a.tag <;> simp [q]
 rw [e1]
 unfold arq_Arq_refused.j0
 by_cases g : t = a.tag ∧ a.state ≠ 0
 ·rw [if_pos g, if_pos (decide_eq_true g), aend_eq h (by omega), bsome]
 rw [if_neg g, if_neg (by simpa using g), ahead_eq h ht, bsome]
 have e2 : (if a.state = 1 then arq_Arq_refused.j1 a t (aheadB a.tag t) else arq_Arq_refused.j1 a t false) = arq_Arq_refused.j1 a t (decide (a.state = 1 ∧ aheadB a.tag t = true)) := by
  by_cases q : a.state = 1 <;> simp [q]
 rw [e2]
 unfold arq_Arq_refused.j1
 by_cases g2 : a.state = 1 ∧ aheadB a.tag t = true
 ·rw [if_pos g2, if_pos (decide_eq_true g2), aend_eq (settag_ai h ht) (by omega), bsome]
 ·rw [if_neg g2, if_neg (by simpa using g2)]
theorem readS_ok {b : List Int} {m : Int} (hb : ∀ z ∈ b, 0 ≤ z ∧ z < 256) (h : (Co.readS b m).2.2 = 0) :
  0 ≤ (Co.readS b m).2.1 ∧ (Co.readS b m).2.1 ≤ (b.length : Int) ∧ (0 ≤ (Co.readS b m).1.Kind ∧ (Co.readS b m).1.Kind ≤ 7) ∧ (0 ≤ (Co.readS b m).1.Ns ∧ (Co.readS b m).1.Ns ≤ 65536) ∧ (0 ≤ (Co.readS b m).1.Nr ∧ (Co.readS b m).1.Nr ≤ 65536) := by
 have g : ∀ i, 0 ≤ b.getD i 0 ∧ b.getD i 0 < 256 := by
  intro i
  by_cases hi : i < b.length
  ·have e : b.getD i 0 = b[i] := by simp [List.getD, hi]
   rw [e]; exact hb _ (List.getElem_mem hi)
  ·have e : b.getD i 0 = 0 := by simp [List.getD, show b.length ≤ i by omega]
   rw [e]; omega
 have g0 := g 0
 have g1 := g 1
 have g2 := g 2
 have g3 := g 3
 have num : ∀ K : Int, 0 ≤ K ∧ K ≤ 7 → (Co.numS K b m).2.2 = 0 → 0 ≤ (Co.numS K b m).2.1 ∧ (Co.numS K b m).2.1 ≤ (b.length : Int) ∧ (0 ≤ (Co.numS K b m).1.Kind ∧ (Co.numS K b m).1.Kind ≤ 7) ∧ (0 ≤ (Co.numS K b m).1.Ns ∧ (Co.numS K b m).1.Ns ≤ 65536) ∧ (0 ≤ (Co.numS K b m).1.Nr ∧ (Co.numS K b m).1.Nr ≤ 65536) := by
  intro K hK
  unfold Co.numS
  intro hz
  by_cases c1 : m = 128
  ·simp only [c1, if_true] at hz ⊢
   by_cases c2 : (b.length : Int) < 2
   ·simp only [c2, if_true] at hz; cases hz
   ·simp only [c2, if_false] at hz ⊢
    refine ⟨by omega, by omega, hK, ?_, by omega⟩
    split <;> omega
  ·simp only [c1, if_false] at hz ⊢
   by_cases c2 : (b.length : Int) < 4
   ·simp only [c2, if_true] at hz; cases hz
   ·simp only [c2, if_false] at hz ⊢
    by_cases c3 : K = 0 ∨ b.getD 1 0 = 0
    ·simp only [c3, if_true] at hz ⊢
     refine ⟨by omega, by omega, hK, ?_, by omega⟩
     split <;> omega
    ·simp only [c3, if_false] at hz; cases hz
 have kd : ∀ x : Int, 0 ≤ Co.kindOf x ∧ Co.kindOf x ≤ 7 := by intro x; unfold Co.kindOf; repeat' split; all_goals omega
 unfold Co.readS at h ⊢
 by_cases c1 : ¬ (m = 128 ∨ m = 32768)
 ·rw [if_pos c1] at h; cases h
 rw [if_neg c1] at h ⊢
 by_cases c2 : b.length = 0
 ·rw [if_pos c2] at h; cases h
 rw [if_neg c2] at h ⊢
 by_cases c3 : Co.kindOf (Co.base4 (b.getD 0 0)) ≠ 0
 ·rw [if_pos c3]
  exact ⟨by show (0 : Int) ≤ 1; omega, by show (1 : Int) ≤ _; omega, kd _, by show (0 : Int) ≤ 0 ∧ (0 : Int) ≤ _; omega, by show (0 : Int) ≤ 0 ∧ (0 : Int) ≤ _; omega⟩
 rw [if_neg c3] at h ⊢
 by_cases c4 : b.getD 0 0 = 1
 ·rw [if_pos c4] at h ⊢; exact num 1 (by omega) h
 rw [if_neg c4] at h ⊢
 by_cases c5 : b.getD 0 0 = 9
 ·rw [if_pos c5] at h ⊢; exact num 2 (by omega) h
 rw [if_neg c5] at h ⊢
 by_cases c6 : b.getD 0 0 % 2 = 1
 ·rw [if_pos c6] at h; cases h
 rw [if_neg c6] at h ⊢; exact num 0 (by omega) h
def tagOf (b : List Int) : Int := 256 * b.getD 0 0 + b.getD 1 0
def take (a : arq_Arq) (t : Int) (c : api_Ctl) (b : List Int) : arq_Arq :=
 if c.Kind = 3 then asked a t c.Poll else if c.Kind = 4 then (if t = a.tag then accepted a else a) else if c.Kind = 5 then closed a t c.Poll
 else if c.Kind = 6 then refused a t else if c.Kind = 7 then (if t = a.tag ∧ a.state = 2 then aend a else a) else numbered a t c b
def input (a : arq_Arq) (b : List Int) : arq_Arq :=
 if b.length < 2 then a else if (Co.readS (b.drop 2) a.m).2.2 = 0 then take a (tagOf b) (Co.readS (b.drop 2) a.m).1 (b.drop (2 + (Co.readS (b.drop 2) a.m).2.1.toNat)) else a
theorem take_ai {a : arq_Arq} {C : Nat} (h : AI a C) {t : Int} (ht : 0 ≤ t ∧ t < 65536) (c : api_Ctl) (b : List Int) : AI (take a t c b) (C + 13000) := by
 unfold take
 repeat' split
 ·exact asked_ai h ht _
 ·exact accepted_ai h
 ·exact h.more (by omega)
 ·exact closed_ai h _ _
 ·exact refused_ai h ht
 ·exact (aend_ai h).more (by omega)
 ·exact h.more (by omega)
 ·exact numbered_ai h _ _ _
theorem byteAt {b : List Int} (hb : ∀ z ∈ b, 0 ≤ z ∧ z < 256) (i : Nat) : 0 ≤ b.getD i 0 ∧ b.getD i 0 < 256 := by
 by_cases hi : i < b.length
 ·have e : b.getD i 0 = b[i] := by simp [List.getD, hi]
  rw [e]; exact hb _ (List.getElem_mem hi)
 ·have e : b.getD i 0 = 0 := by simp [List.getD, show b.length ≤ i by omega]
  rw [e]; omega
theorem tagOf_b {b : List Int} (hb : ∀ z ∈ b, 0 ≤ z ∧ z < 256) : 0 ≤ tagOf b ∧ tagOf b < 65536 := by
 have := byteAt hb 0; have := byteAt hb 1; unfold tagOf; omega
theorem input_ai {a : arq_Arq} {C : Nat} (h : AI a C) {b : List Int} (hb : ∀ z ∈ b, 0 ≤ z ∧ z < 256) : AI (input a b) (C + 13000) := by
 unfold input
 split
 ·exact h.more (by omega)
 split
 ·exact take_ai h (tagOf_b hb) _ _
 ·exact h.more (by omega)
theorem cut_drop {α : Type} (l : List α) {i : Int} (h0 : 0 ≤ i) : cut l i (l.length : Int) = l.drop i.toNat := by
 simp [cut]
 exact List.take_of_length_le (by simp)
theorem input_eq {a : arq_Arq} {C : Nat} (h : AI a C) (hC : C + 20000 ≤ big) {b : List Int} (hb : ∀ z ∈ b, 0 ≤ z ∧ z < 256) (hl : b.length ≤ 1000000) {k : Nat} (hk : C + 20000 ≤ k) : arq_Arq_Input.f k a b = some (input a b) := by
 unfold arq_Arq_Input.f input
 by_cases c1 : b.length < 2
 ·rw [if_pos (by omega), if_pos c1]
 have hd : ∀ z ∈ b.drop 2, 0 ≤ z ∧ z < 256 := fun z hz => hb z (List.mem_of_mem_drop hz)
 have ht := tagOf_b hb
 have g0 := byteAt hb 0
 have g1 := byteAt hb 1
 have et : ior .i64 (w64 ((w64 (b.getD (0 : Int).toNat 0)) * 2 ^ (min (8 : Int).toNat IntKind.i64.bits))) (w64 (b.getD (1 : Int).toNat 0)) = tagOf b := by
  show ior .i64 (w64 ((w64 (b.getD 0 0)) * 256)) (w64 (b.getD 1 0)) = _
  rw [w64_in (n := b.getD 0 0) ⟨by omega, by omega⟩, w64_in (n := b.getD 1 0) ⟨by omega, by omega⟩, w64_in ⟨by omega, by omega⟩, ior_hi' (by omega) (by omega) (by omega) (by omega)]
  unfold tagOf; omega
 have ek : ∃ j, k = j + 6 := ⟨k - 6, by omega⟩
 have er : control_Read.f k (b.drop 2) a.m = some (Co.readS (b.drop 2) a.m) := by obtain ⟨j, rfl⟩ := ek; exact Co.read_eq a.m hd j
 rw [if_neg (by omega), if_neg c1, if_pos (by omega), if_pos (by omega), if_pos (by omega), cut_drop b (by decide)]
 try rw [et]
 refine Eq.trans (congrArg (fun o => Option.bind o _) er) ?_
 rw [bsome]
 unfold arq_Arq_Input.j0
 try rw [et]
 by_cases c2 : (Co.readS (b.drop 2) a.m).2.2 = 0
 ·rw [if_pos c2, if_pos c2]
  obtain ⟨n0, n1, _, s1, s2⟩ := readS_ok hd c2
  generalize Co.readS (b.drop 2) a.m = r at n0 n1 s1 s2 c2 ⊢
  obtain ⟨c, n, e⟩ := r
  dsimp only at n0 n1 s1 s2 ⊢
  have hdl : ((b.drop 2).length : Int) = b.length - 2 := by rw [List.length_drop]; omega
  have ew : w64 (2 + n) = 2 + n := w64_in ⟨by omega, by omega⟩
  unfold take
  by_cases k3 : c.Kind = 3
  ·rw [if_pos k3, if_pos k3, asked_eq h hC ht _ (by omega), bsome]
  rw [if_neg k3, if_neg k3]
  by_cases k4 : c.Kind = 4
  ·rw [if_pos k4, if_pos k4]
   by_cases q : tagOf b = a.tag
   ·rw [if_pos q, if_pos q, accepted_eq h hC (by omega), bsome]
   ·rw [if_neg q, if_neg q]
  rw [if_neg k4, if_neg k4]
  by_cases k5 : c.Kind = 5
  ·rw [if_pos k5, if_pos k5, closed_eq h hC ht _ (by omega), bsome]
  rw [if_neg k5, if_neg k5]
  by_cases k6 : c.Kind = 6
  ·rw [if_pos k6, if_pos k6, refused_eq h hC ht, bsome]
  rw [if_neg k6, if_neg k6]
  by_cases k7 : c.Kind = 7
  ·rw [if_pos k7, if_pos k7]
   unfold arq_Arq_Input.j1
   by_cases q : tagOf b = a.tag
   ·rw [if_pos q]
    by_cases s2 : a.state = 2
    ·rw [if_pos (decide_eq_true s2), if_pos ⟨q, s2⟩, aend_eq h (by omega), bsome]
    ·rw [if_neg (by simpa using s2), if_neg (fun x => s2 x.2)]
   ·rw [if_neg q, if_neg (by simp), if_neg (fun x => q x.1)]
  rw [if_neg k7, if_neg k7, ew, if_pos (by omega), cut_drop b (by omega), show (2 + n).toNat = 2 + n.toNat by omega]
  rw [numbered_eq h hC ht (by omega) (by omega) (by rw [List.length_drop]; omega) (by omega), bsome]
 ·rw [if_neg c2, if_neg c2]
def connect (a : arq_Arq) : Int × arq_Arq :=
 if a.state = 0 then (0, timed (say { a with state := 1, tag := (a.tag + 1) % 65536, tries := 0 } ((a.tag + 1) % 65536) (ct 3 0 0 true) []) a.t1) else (8, a)
theorem tagNext_eq {t : Int} (ht : 0 ≤ t ∧ t < 65536) : serial_Next.f t 65536 = some ((t + 1) % 65536) := by
 unfold serial_Next.f
 rw [round_eq (.inl ⟨by omega, by omega⟩) (by decide), bsome]
 dsimp only
 rw [Int.emod_eq_of_lt ht.1 ht.2, w64_in ⟨by omega, by omega⟩, round_eq (.inl ⟨by omega, by omega⟩) (by decide), bsome]
theorem conn_ai {a : arq_Arq} {C : Nat} (h : AI a C) : AI { a with state := 1, tag := (a.tag + 1) % 65536, tries := 0 } C :=
 { h with state := ⟨by show (0 : Int) ≤ 1; omega, by show (1 : Int) ≤ 3; omega⟩, tag := ⟨by show 0 ≤ (a.tag + 1) % 65536; omega, by show (a.tag + 1) % 65536 < 65536; omega⟩, tries := ⟨Int.le_refl _, by show (0 : Int) ≤ a.n2; have := h.n2; omega⟩ }
theorem AI.t1' {a : arq_Arq} {C : Nat} (h : AI a C) : 0 ≤ a.t1 ∧ a.t1 ≤ 1048576 := ⟨by have := h.t1; omega, h.t1.2⟩
theorem connect_ai {a : arq_Arq} {C : Nat} (h : AI a C) : AI (connect a).2 (C + 1) := by
 unfold connect
 split
 ·exact timed_ai (say_ai (conn_ai h) _ _ _) h.t1'
 ·exact h.more (by omega)
theorem connect_eq {a : arq_Arq} {C : Nat} (h : AI a C) (hC : C + 5 ≤ big) {k : Nat} (hk : 20 ≤ k) : arq_Arq_Connect.f k a = some (connect a) := by
 unfold arq_Arq_Connect.f connect
 by_cases s0 : a.state = 0
 ·have h1 := conn_ai h
  have e1 := tell_eq h1 (by omega) (right_bare h1 (K := 3) (by decide) true) hk
  have e2 := astart_eq (say_ai h1 ((a.tag + 1) % 65536) (ct 3 0 0 true) [])
  rw [if_pos s0, if_pos s0, tagNext_eq h.tag, bsome]
  refine Eq.trans (congrArg (fun o => Option.bind o _) e1) ?_
  rw [bsome]
  refine Eq.trans (congrArg (fun o => Option.bind o _) e2) ?_
  rw [bsome]; rfl
 ·rw [if_neg s0, if_neg s0]
def send (a : arq_Arq) (b : List Int) : Int × arq_Arq :=
 if (b.length : Int) > a.size then (5, a) else if a.state = 2 then
  (if (a.log.l.length : Int) - a.log.out ≥ a.log.queue then (6, a) else (0, pump { a with log := Bl.logAdd a.log b, sent := a.sent + 1 }))
 else (7, a)
theorem sent_ai {a : arq_Arq} {C : Nat} (h : AI a C) {b : List Int} (hq : (a.log.l.length : Int) - a.log.out < a.log.queue) (hb : b.length ≤ 1000000) : AI { a with log := Bl.logAdd a.log b, sent := a.sent + 1 } (C + 1) := by
 have hs := h.sent
 have h1 := setlog_ai (h.more (D := C + 1) (by omega)) (Bl.add_bi h.log hq hb) rfl rfl
 exact { h1 with sent := ⟨by show 0 ≤ a.sent + 1; omega, by show a.sent + 1 ≤ _; omega⟩ }
theorem send_ai {a : arq_Arq} {C : Nat} (h : AI a C) (b : List Int) : AI (send a b).2 (C + 5000) := by
 have hz := h.size
 unfold send
 split
 ·exact h.more (by omega)
 rename_i hlen
 split
 ·split
  ·exact h.more (by omega)
  ·exact (pump_ai (sent_ai h (by omega) (by omega))).more (by omega)
 ·exact h.more (by omega)
theorem send_eq {a : arq_Arq} {C : Nat} (h : AI a C) (hC : C + 5000 ≤ big) (b : List Int) {k : Nat} (hk : 5000 ≤ k) : arq_Arq_Send.f k a b = some (send a b) := by
 have hz := h.size
 have hs := h.sent
 unfold arq_Arq_Send.f send
 by_cases c1 : (b.length : Int) > a.size
 ·rw [if_pos c1, if_pos c1]
 rw [if_neg c1, if_neg c1]
 by_cases s2 : a.state = 2
 ·rw [if_pos s2, if_pos s2]
  by_cases c2 : (a.log.l.length : Int) - a.log.out ≥ a.log.queue
  ·rw [Bl.add_no h.log b c2, bsome, if_pos c2]; rfl
  ·have h1 := sent_ai h (b := b) (by omega) (by omega)
   have e1 := pump_eq h1 (by omega) hk
   have ew : w64 (a.sent + 1) = a.sent + 1 := w64_in ⟨by omega, by unfold big at hC; omega⟩
   rw [Bl.add_yes h.log (by omega) (by omega), bsome, if_neg c2, if_pos rfl, ew]
   refine Eq.trans (congrArg (fun o => Option.bind o _) e1) ?_
   rw [bsome]
 ·rw [if_neg s2, if_neg s2]
def remind (a : arq_Arq) : arq_Arq :=
 if a.state = 1 then say a a.tag (ct 3 0 0 true) [] else if a.state = 3 then say a a.tag (ct 5 0 0 true) []
 else if a.state = 2 ∧ a.log.out > 0 then also a [imsg a 0 true] else a
def late (a : arq_Arq) : arq_Arq := if a.tries + 1 > a.n2 then aend { a with tries := a.n2 } else remind (timed { a with tries := a.tries + 1 } a.t1)
theorem tries_ai {a : arq_Arq} {C : Nat} (h : AI a C) {n : Int} (hn : 0 ≤ n ∧ n ≤ a.n2) : AI { a with tries := n } C := { h with tries := hn }
theorem remind_ai {a : arq_Arq} {C : Nat} (h : AI a C) : AI (remind a) (C + 1) := by
 unfold remind
 repeat' split
 ·exact say_ai h _ _ _
 ·exact say_ai h _ _ _
 ·exact also_ai h [_]
 ·exact h.more (by omega)
theorem late_eq {a : arq_Arq} {C : Nat} (h : AI a C) (hC : C + 10 ≤ big) {k : Nat} (hk : 6000 ≤ k) : arq_Arq_late.f k a = some (late a) := by
 have ht := h.tries
 have hn := h.n2
 have ew : w64 (a.tries + 1) = a.tries + 1 := w64_in ⟨by omega, by omega⟩
 unfold arq_Arq_late.f late
 rw [ew]
 by_cases c1 : a.tries + 1 > a.n2
 ·rw [if_pos c1, if_pos c1]
  have e1 : arq_Arq_end.f { a with tries := a.tries + 1 } = some (aend { a with tries := a.n2 }) := by
   have e0 := aend_eq (tries_ai h (n := a.n2) ⟨by omega, Int.le_refl _⟩) (by omega)
   exact e0
  refine Eq.trans (congrArg (fun o => Option.bind o _) e1) ?_
  rw [bsome]
 ·rw [if_neg c1, if_neg c1]
  have h1 := tries_ai h (n := a.tries + 1) ⟨by omega, by omega⟩
  refine Eq.trans (congrArg (fun o => Option.bind o _) (astart_eq h1)) ?_
  rw [bsome]
  have h2 := timed_ai h1 (n := a.t1) h.t1'
  show _ = some (remind (timed { a with tries := a.tries + 1 } a.t1))
  generalize hx : timed { a with tries := a.tries + 1 } a.t1 = x at h2 ⊢
  unfold remind
  by_cases s1 : x.state = 1
  ·rw [if_pos s1, if_pos s1, tell_eq h2 (by omega) (right_bare h2 (by decide) true) (by omega), bsome]
  rw [if_neg s1, if_neg s1]
  by_cases s3 : x.state = 3
  ·rw [if_pos s3, if_pos s3, tell_eq h2 (by omega) (right_bare h2 (by decide) true) (by omega), bsome]
  rw [if_neg s3, if_neg s3]
  by_cases s2 : x.state = 2
  ·have ho := h2.log.out
   have hl : ((Bl.outs x.log).length : Int) = x.log.out := by rw [Bl.outs_len]; omega
   rw [if_pos s2, Bl.out_eq h2.log (by omega), bsome, hl]
   by_cases c2 : x.log.out > 0
   ·have hg : (Bl.outs x.log).getD (0 : Int).toNat 0 = (x.log.first + 0) % x.log.m := by
     have : 0 < x.log.out.toNat := by omega
     simp [Bl.outs, List.getD, this]
    rw [if_pos c2, if_pos (by omega), if_pos ⟨s2, c2⟩, hg, repeat_eq h2 (by omega) ⟨Int.le_refl _, c2⟩ true (by omega), bsome]
   ·rw [if_neg c2, if_neg (fun q => c2 q.2)]
  ·rw [if_neg s2, if_neg (fun q => s2 q.1)]
theorem remind_same (x : arq_Arq) : (remind x).timers = x.timers ∧ (remind x).tries = x.tries ∧ (remind x).n2 = x.n2 ∧ (remind x).state = x.state ∧ (remind x).log = x.log ∧ (remind x).tag = x.tag := by
 unfold remind
 by_cases s1 : x.state = 1
 ·rw [if_pos s1]; exact ⟨rfl, rfl, rfl, rfl, rfl, rfl⟩
 rw [if_neg s1]
 by_cases s3 : x.state = 3
 ·rw [if_pos s3]; exact ⟨rfl, rfl, rfl, rfl, rfl, rfl⟩
 rw [if_neg s3]
 by_cases s2 : x.state = 2 ∧ x.log.out > 0
 ·rw [if_pos s2]; exact ⟨rfl, rfl, rfl, rfl, rfl, rfl⟩
 ·rw [if_neg s2]; exact ⟨rfl, rfl, rfl, rfl, rfl, rfl⟩
def passing (a : arq_Arq) (n : Int) : arq_Arq := { a with timers := tm (tk a.timers.now n) (if run a > n then run a - n else 0) }
def passL : Nat → Int → arq_Arq → arq_Arq
 | 0, _, a => a
 | d + 1, n, a => if run a > 0 ∧ run a ≤ n then passL d (n - run a) (late (passing a (run a))) else passing a n
def chances (a : arq_Arq) : Nat := if run a > 0 then (a.n2 - a.tries + 1).toNat else 0
theorem passing_ai {a : arq_Arq} {C : Nat} (h : AI a C) {n : Int} (hn : 0 ≤ n) : AI (passing a n) C := by
 have hr := h.run.2
 refine { h with tim := ⟨_, _, rfl, ?_, ?_⟩ } <;> split <;> omega
theorem late_ai {a : arq_Arq} {C : Nat} (h : AI a C) : AI (late a) (C + 6001) ∧ (run (late a) = 0 ∨ AI (late a) (C + 1) ∧ run (late a) = a.t1 ∧ (late a).tries = a.tries + 1 ∧ a.tries + 1 ≤ a.n2 ∧ (late a).n2 = a.n2) := by
 have ht := h.tries
 have hn := h.n2
 unfold late
 by_cases c : a.tries + 1 > a.n2
 ·rw [if_pos c]
  exact ⟨aend_ai (tries_ai h (n := a.n2) ⟨by omega, Int.le_refl _⟩), .inl rfl⟩
 ·rw [if_neg c]
  have h1 := remind_ai (timed_ai (tries_ai h (n := a.tries + 1) ⟨by omega, by omega⟩) (n := a.t1) h.t1')
  obtain ⟨q1, q2, q3, _⟩ := remind_same (timed { a with tries := a.tries + 1 } a.t1)
  have e : run (remind (timed { a with tries := a.tries + 1 } a.t1)) = a.t1 := by unfold run; rw [q1]; rfl
  have e2 : (remind (timed { a with tries := a.tries + 1 } a.t1)).tries = a.tries + 1 := q2
  have e3 : (remind (timed { a with tries := a.tries + 1 } a.t1)).n2 = a.n2 := q3
  exact ⟨h1.more (by omega), .inr ⟨h1, e, e2, by omega, e3⟩⟩
theorem passing_run {a : arq_Arq} (n : Int) : run (passing a n) = if run a > n then run a - n else 0 := rfl
theorem clockPass_eq {a : arq_Arq} {C : Nat} (h : AI a C) {n : Int} (hn : 0 ≤ n ∧ n ≤ 1048576) {k : Nat} (hk : 1100000 ≤ k) : ∃ o, clock_Set_Pass.f k a.timers n = some (o, (passing a n).timers) := by
 obtain ⟨w, v, e, hv⟩ := h.tim
 obtain ⟨o, eo⟩ := pass_eq w hv hn hk
 refine ⟨o, ?_⟩
 have er : run a = v := by unfold run; rw [e]; rfl
 unfold passing
 rw [er, e, eo]; rfl
theorem pass_l0 {C : Nat} : ∀ (d : Nat) (t n : Int) (a : arq_Arq) (k : Nat), AI a C → C + 7000 + d ≤ big → 0 ≤ n ∧ n ≤ 1048576 → chances a < d → d + 1200000 ≤ k →
  arq_Arq_Pass.l0 k t n (run a) (decide (run a > 0)) a = some (passL d n a) ∧ AI (passL d n a) (C + 6001 + d) := by
 intro d
 induction d generalizing C with
 | zero => intro t n a k h hC hn hch hk; omega
 | succ d ih =>
  intro t n a k h hC hn hch hk
  obtain ⟨k, rfl⟩ : ∃ j, k = j + 1 := ⟨k - 1, by omega⟩
  have hr := h.run.2
  have e0 : arq_Arq_Pass.l0 (k + 1) t n (run a) (decide (run a > 0)) a = arq_Arq_Pass.j1 k t n (run a) a (arq_Arq_Pass.l0 k t) (decide (run a > 0 ∧ run a ≤ n)) := by
   rw [arq_Arq_Pass.l0]
   by_cases c : run a > 0 <;> simp [c]
  rw [e0, passL]
  unfold arq_Arq_Pass.j1
  by_cases c : run a > 0 ∧ run a ≤ n
  ·rw [if_pos (decide_eq_true c), if_pos c]
   obtain ⟨o, eo⟩ := clockPass_eq h (n := run a) hr (k := k) (by omega)
   rw [eo, bsome]
   have h1 := passing_ai h hr.1
   have e1 := late_eq h1 (by omega) (k := k) (by omega)
   have hch0 : chances a = (a.n2 - a.tries + 1).toNat := by unfold chances; rw [if_pos c.1]
   have ht := h.tries
   obtain ⟨h2, h3⟩ := late_ai h1
   have nxt : ∀ C', AI (late (passing a (run a))) C' → C' + 7000 + d ≤ big → chances (late (passing a (run a))) < d → C' + 6001 + d ≤ C + 6001 + (d + 1) ∨ run (late (passing a (run a))) = 0 →
     ((some (late (passing a (run a)))).bind fun t24 => (clock_Set_Left.f t24.timers 0).bind fun t30 => arq_Arq_Pass.l0 k t (w64 (n - run a)) t30.1 t30.2 t24) = some (passL d (n - run a) (late (passing a (run a)))) ∧ AI (passL d (n - run a) (late (passing a (run a)))) (C' + 6001 + d) := by
    intro C' hA hb hc _
    rw [bsome, hA.run.1, bsome, w64_in ⟨by omega, by omega⟩]
    exact ih t (n - run a) _ k hA hb ⟨by omega, by omega⟩ hc (by omega)
   have fin : ∀ C', AI (late (passing a (run a))) C' → C' + 7000 + d ≤ big → chances (late (passing a (run a))) < d → AI (passL d (n - run a) (late (passing a (run a)))) (C + 6001 + (d + 1)) →
     ((arq_Arq_late.f k { a with timers := (passing a (run a)).timers }).bind fun t24 => (clock_Set_Left.f t24.timers 0).bind fun t30 => arq_Arq_Pass.l0 k t (w64 (n - run a)) t30.1 t30.2 t24) = some (passL d (n - run a) (late (passing a (run a)))) ∧ AI (passL d (n - run a) (late (passing a (run a)))) (C + 6001 + (d + 1)) := by
    intro C' hA hb hc hfin
    refine ⟨?_, hfin⟩
    refine Eq.trans (congrArg (fun o => Option.bind o _) e1) ?_
    rw [bsome, hA.run.1, bsome, w64_in ⟨by omega, by omega⟩]
    exact (ih t (n - run a) _ k hA hb ⟨by omega, by omega⟩ hc (by omega)).1
   rcases h3 with h3 | ⟨h3, h4, h5, h6, h7⟩
   ·-- the end
    have hc : chances (late (passing a (run a))) < d := by unfold chances; rw [h3, if_neg (by omega)]; omega
    have hf : AI (passL d (n - run a) (late (passing a (run a)))) (C + 6001 + (d + 1)) := by
     obtain ⟨d, rfl⟩ : ∃ j, d = j + 1 := ⟨d - 1, by omega⟩
     rw [passL, h3, if_neg (by omega)]
     exact (passing_ai h2 (by omega)).more (by omega)
    by_cases hbig : C + 6001 + 7000 + d ≤ big
    ·exact fin (C + 6001) h2 hbig hc hf
    ·-- the bound is met with what is left
     refine ⟨?_, hf⟩
     refine Eq.trans (congrArg (fun o => Option.bind o _) e1) ?_
     rw [bsome, h2.run.1, bsome, w64_in ⟨by omega, by omega⟩, h3]
     obtain ⟨d, rfl⟩ : ∃ j, d = j + 1 := ⟨d - 1, by omega⟩
     obtain ⟨k, rfl⟩ : ∃ j, k = j + 1 := ⟨k - 1, by omega⟩
     obtain ⟨o2, eo2⟩ := clockPass_eq h2 (n := n - run a) ⟨by omega, by omega⟩ (k := k) (by omega)
     rw [arq_Arq_Pass.l0, if_neg (by simp)]
     unfold arq_Arq_Pass.j1
     rw [if_neg (by simp), eo2, bsome, passL, h3, if_neg (by omega)]; rfl
   ·have e5 : (passing a (run a)).tries = a.tries := rfl
    have e6 : (passing a (run a)).n2 = a.n2 := rfl
    have hc : chances (late (passing a (run a))) < d := by
     unfold chances
     have := h.t1
     have e7 : (passing a (run a)).t1 = a.t1 := rfl
     rw [h4, e7, if_pos (by omega), h5, h7, e5, e6]; omega
    have := ih t (n - run a) _ k h3 (by omega) ⟨by omega, by omega⟩ hc (by omega)
    exact fin (C + 1) h3 (by omega) hc (this.2.more (by omega))
  ·rw [if_neg (by simpa using c), if_neg c]
   obtain ⟨o, eo⟩ := clockPass_eq h (n := n) hn (k := k) (by omega)
   rw [eo, bsome]
   exact ⟨rfl, (passing_ai h hn.1).more (by omega)⟩
def pass (a : arq_Arq) (n : Int) : arq_Arq := passL 120 (imax 0 (imin n 1048576)) a
theorem cutN (n : Int) : 0 ≤ imax 0 (imin n 1048576) ∧ imax 0 (imin n 1048576) ≤ 1048576 := by unfold imax imin; constructor <;> (repeat' split) <;> omega
theorem chances_le {a : arq_Arq} {C : Nat} (h : AI a C) : chances a < 120 := by
 have := h.tries; have := h.n2
 unfold chances; split <;> omega
theorem passes_eq {a : arq_Arq} {C : Nat} (h : AI a C) (hC : C + 8000 ≤ big) (n : Int) {k : Nat} (hk : 1300000 ≤ k) : arq_Arq_Pass.f k a n = some (pass a n) := by
 unfold arq_Arq_Pass.f arq_cut.f pass
 rw [bsome, h.run.1, bsome]
 exact (pass_l0 120 _ _ a k h (by omega) (cutN n) (chances_le h) (by omega)).1
theorem pass_ai {a : arq_Arq} {C : Nat} (h : AI a C) (hC : C + 8000 ≤ big) (n : Int) : AI (pass a n) (C + 7000) := by
 have := (pass_l0 120 0 _ a 1300000 h (by omega) (cutN n) (chances_le h) (by omega)).2
 exact this.more (by omega)
def anew (m t1 n2 size win q : Int) : arq_Arq := { m := m, t1 := t1, n2 := n2, size := size, state := 0, tag := 0, tries := 0, rejected := false, log := { m := m, window := win, queue := q, first := 0, out := 0, l := [] }, order := Or.onew m win, timers := tm 0 0, out := [], inds := [], sent := 0, acked := 0, lost := 0 }
theorem anew_ai {m t1 n2 size win q : Int} (hm : m = 128 ∨ m = 32768) (h1 : 1 ≤ t1 ∧ t1 ≤ 1048576) (h2 : 1 ≤ n2 ∧ n2 ≤ 100) (h3 : 1 ≤ size ∧ size ≤ 1000) (hw : 1 ≤ win ∧ win ≤ m / 8) (hq : 0 ≤ q ∧ q ≤ 1000) : AI (anew m t1 n2 size win q) 0 := by
 have hm' : 8 ≤ m ∧ m ≤ 32768 := by rcases hm with e | e <;> omega
 exact { m := hm, t1 := h1, n2 := h2, size := h3, state := ⟨Int.le_refl _, by show (0 : Int) ≤ 3; omega⟩, tag := ⟨Int.le_refl _, by show (0 : Int) < 65536; omega⟩, tries := ⟨Int.le_refl _, by show (0 : Int) ≤ n2; omega⟩, log := Bl.new_bi hm' hw hq, lm := rfl, lw := hw.2, ord := Or.onew_oi hm' hw, om := rfl, ow := rfl, tim := ⟨0, 0, rfl, by omega, by omega⟩, out := Nat.le_refl _, inds := Nat.le_refl _, sent := ⟨Int.le_refl _, Int.le_refl _⟩, acked := ⟨Int.le_refl _, Int.le_refl _⟩, lost := ⟨Int.le_refl _, Int.le_refl _⟩ }
theorem new_eq (c : api_Config) : arq_New.f c = some (anew (if c.Modulus = 32768 then 32768 else 128) (imax 1 (imin c.T1 1048576)) (imax 1 (imin c.N2 100)) (imax 1 (imin c.Size 1000))
  (imax 1 (imin c.Window ((if c.Modulus = 32768 then 32768 else 128 : Int) / 8))) (imax 0 (imin c.Queue 1000))) := by
 have key : ∀ m : Int, m = 128 ∨ m = 32768 → arq_New.j0 c m = some (anew m (imax 1 (imin c.T1 1048576)) (imax 1 (imin c.N2 100)) (imax 1 (imin c.Size 1000)) (imax 1 (imin c.Window (m / 8))) (imax 0 (imin c.Queue 1000))) := by
  intro m hm
  have e1 : imax 8 (imin m 32768) = m := by rcases hm with e | e <;> subst e <;> decide
  unfold arq_New.j0 arq_cut.f backlog_New.f backlog_Cut.f clock_New.f
  rw [bsome, bsome, bsome, bsome, bsome, Or.onew_eq, e1, Bl.td8 (by rcases hm with e | e <;> omega), bsome, bsome]; rfl
 unfold arq_New.f
 by_cases c1 : c.Modulus = 32768
 ·rw [if_pos c1, if_pos c1]; exact key _ (.inr rfl)
 ·rw [if_neg c1, if_neg c1]; exact key _ (.inl rfl)
end Aq
namespace Aq
def By (n : Nat) (b : List Int) : Prop := (∀ z ∈ b, 0 ≤ z ∧ z < 256) ∧ b.length ≤ n
theorem By.app {n m : Nat} {a b : List Int} (h : By n a) (h' : By m b) : By (n + m) (a ++ b) :=
 ⟨fun z hz => (List.mem_append.1 hz).elim (h.1 z) (h'.1 z), by rw [List.length_append]; have := h.2; have := h'.2; omega⟩
theorem By.nil (n : Nat) : By n [] := ⟨fun _ h => (nomatch h), Nat.zero_le _⟩
theorem By.more {n m : Nat} {b : List Int} (h : By n b) (l : n ≤ m) : By m b := ⟨h.1, Nat.le_trans h.2 l⟩
theorem By.hdr {t : Int} (ht : 0 ≤ t ∧ t < 65536) : By 2 (hdr t) := by
 refine ⟨fun z hz => ?_, by simp [Aq.hdr]⟩
 simp only [Aq.hdr, List.mem_cons, List.not_mem_nil, or_false] at hz
 rcases hz with e | e <;> subst e <;> omega
theorem By.enc {c : api_Ctl} {m : Int} (h : Co.rightB c m = true) : By 4 (Co.enc c m) := ⟨Co.enc_byte h, enc_len c m⟩
theorem By.all {n : Nat} {l : List (List Int)} (h : ∀ b ∈ l, By n b) (i : Nat) : By n (l.getD i []) := by
 by_cases hi : i < l.length
 ·have e : l.getD i [] = l[i] := by simp [List.getD, hi]
  rw [e]; exact h _ (List.getElem_mem hi)
 ·have e : l.getD i [] = [] := by simp [List.getD, show l.length ≤ i by omega]
  rw [e]; exact By.nil n
structure AB (a : arq_Arq) : Prop where
 log : ∀ b ∈ a.log.l, By 1000 b
 out : ∀ b ∈ a.out, By 1006 b
theorem AB.alsoB {a : arq_Arq} (h : AB a) {l : List (List Int)} (hl : ∀ b ∈ l, By 1006 b) : AB (Aq.also a l) :=
 ⟨h.log, fun b hb => (List.mem_append.1 hb).elim (h.out b) (hl b)⟩
theorem AB.sayB {a : arq_Arq} (h : AB a) {t : Int} (ht : 0 ≤ t ∧ t < 65536) {c : api_Ctl} (hc : Co.rightB c a.m = true) {b : List Int} (hb : By 1000 b) : AB (Aq.say a t c b) :=
 h.alsoB (l := [hdr t ++ (Co.enc c a.m ++ b)]) fun x hx => by
  simp only [List.mem_cons, List.not_mem_nil, or_false] at hx
  subst hx
  exact ((By.hdr ht).app ((By.enc hc).app hb)).more (by omega)
theorem AB.same {a b : arq_Arq} (h : AB a) (e1 : b.log.l = a.log.l) (e2 : b.out = a.out) : AB b := ⟨by rw [e1]; exact h.log, by rw [e2]; exact h.out⟩
theorem AB.freshB {a : arq_Arq} (h : AB a) (st : Int) : AB (Aq.fresh a st) := ⟨fun _ q => (nomatch q), h.out⟩
theorem AB.aendB {a : arq_Arq} (h : AB a) : AB (Aq.aend a) := (h.freshB 0).same rfl rfl
theorem AB.bare {a : arq_Arq} {C : Nat} (h : AB a) (ha : AI a C) {t : Int} (ht : 0 ≤ t ∧ t < 65536) {K : Int} (hK : 3 ≤ K ∧ K ≤ 7) (p : Bool) : AB (Aq.say a t (ct K 0 0 p) []) :=
 h.sayB ht (right_bare ha hK p) (By.nil _)
theorem AB.out1B {a : arq_Arq} {C : Nat} (h : AB a) (ha : AI a C) (hm : more a) : AB (Aq.out1 a) := by
 have h1 : AB { a with log := Bl.logOut a.log } := h.same rfl rfl
 have a1 : AI { a with log := Bl.logOut a.log } C := setlog_ai ha (Bl.out_bi ha.log hm.1 hm.2) rfl rfl
 have h2 := h1.sayB a1.tag (right_num a1 (.inl rfl) (ha.num a.log.out) a1.next false) (By.all h.log a.log.out.toNat)
 unfold Aq.out1
 by_cases hr : run a > 0
 ·simp only [hr, if_true]; exact h2
 ·simp only [hr, if_false]; exact h2.same rfl rfl
theorem AB.pumpLB {C : Nat} : ∀ (d : Nat) {a : arq_Arq}, AB a → AI a C → AB (Aq.pumpL d a)
 | 0, _, h, _ => h
 | d + 1, a, h, ha => by
  rw [Aq.pumpL]
  by_cases hm : more a
  ·rw [if_pos hm]; exact AB.pumpLB d (h.out1B ha hm) (out1_ai ha hm)
  ·rw [if_neg hm]; exact h
theorem AB.pumpB {a : arq_Arq} {C : Nat} (h : AB a) (ha : AI a C) : AB (Aq.pump a) := by
 unfold Aq.pump
 split
 ·exact h.pumpLB _ ha
 ·exact h
theorem By.imsg {a : arq_Arq} {C : Nat} (h : AB a) (ha : AI a C) (i : Int) (p : Bool) : By 1006 (imsg a i p) :=
 ((By.hdr ha.tag).app ((By.enc (right_num ha (.inl rfl) (ha.num i) ha.next p)).app (By.all h.log i.toNat))).more (by omega)
theorem AB.resendB {a : arq_Arq} {C : Nat} (h : AB a) (ha : AI a C) : AB (Aq.resend a) := by
 unfold Aq.resend
 split
 ·refine AB.same (a := also a (outAll a)) (h.alsoB fun b hb => ?_) rfl rfl
  obtain ⟨j, _, rfl⟩ := List.mem_map.1 hb
  exact By.imsg h ha _ _
 ·exact h
theorem AB.acknowB {a : arq_Arq} (h : AB a) (nr : Int) : AB (Aq.acknow a nr).2 := by
 unfold Aq.acknow
 split
 ·have e : ∀ k, AB (ackd a k) := by
   intro k
   have h1 : ∀ b ∈ a.log.l.drop k.toNat, By 1000 b := fun b hb => h.log b (List.mem_of_mem_drop hb)
   unfold ackd
   by_cases c : a.log.out - k > 0
   ·simp only [c, if_true]; exact ⟨h1, h.out⟩
   ·simp only [c, if_false]; exact ⟨h1, h.out⟩
  split
  ·exact h
  ·exact e _
 ·exact h
theorem AB.answerB {x : arq_Arq} {C : Nat} (h : AB x) (hx : AI x C) (p : Bool) : AB (Aq.answer x p) := by
 unfold Aq.answer
 split
 ·exact AB.sayB (a := { x with rejected := true }) (h.same rfl rfl) hx.tag (right_ans hx (.inr rfl) false) (By.nil _)
 ·exact h.sayB hx.tag (right_ans hx (.inl rfl) p) (By.nil _)
theorem AB.comeB {a : arq_Arq} {C : Nat} (h : AB a) (ha : AI a C) (c : api_Ctl) (b : List Int) : AB (Aq.come a c b) := AB.answerB (x := put a c.Ns b) (h.same rfl rfl) (put_ai ha c.Ns b) _
theorem AB.numberedB {a : arq_Arq} {C : Nat} (h : AB a) (ha : AI a C) {t : Int} (ht : 0 ≤ t ∧ t < 65536) (c : api_Ctl) (b : List Int) : AB (Aq.numbered a t c b) := by
 unfold Aq.numbered
 split
 ·exact h.bare ha ht (by decide) _
 split
 ·split
  ·exact (h.bare ha ha.tag (by decide) _).aendB
  ·have h1 := h.acknowB c.Nr
   have a1 := acknow_ai ha c.Nr
   have h2 : AB (if (acknow a c.Nr).1 = true ∧ c.Kind = 2 then Aq.resend (acknow a c.Nr).2 else (acknow a c.Nr).2) ∧ AI (if (acknow a c.Nr).1 = true ∧ c.Kind = 2 then Aq.resend (acknow a c.Nr).2 else (acknow a c.Nr).2) (C + 8192) := by
    split
    ·exact ⟨h1.resendB a1, (resend_ai a1).more (by omega)⟩
    ·exact ⟨h1, a1.more (by omega)⟩
   generalize (if (acknow a c.Nr).1 = true ∧ c.Kind = 2 then Aq.resend (acknow a c.Nr).2 else (acknow a c.Nr).2) = x at h2 ⊢
   obtain ⟨h2, a2⟩ := h2
   have h3 : AB (if c.Kind = 0 then Aq.come x c b else x) ∧ AI (if c.Kind = 0 then Aq.come x c b else x) (C + 8194) := by
    split
    ·exact ⟨h2.comeB a2 c b, come_ai a2 c b⟩
    ·exact ⟨h2, a2.more (by omega)⟩
   exact h3.1.pumpB h3.2
 ·exact h
theorem AB.acceptB {a : arq_Arq} {C : Nat} (h : AB a) (ha : AI a C) {t : Int} (ht : 0 ≤ t ∧ t < 65536) (p : Bool) : AB (Aq.accept a t p) := by
 have h1 := settag_ai (fresh_ai ha (st := 2) (by decide)) ht
 exact AB.same (a := Aq.say { fresh a 2 with tag := t } t (ct 4 0 0 p) []) (AB.bare (a := { fresh a 2 with tag := t }) ((h.freshB 2).same rfl rfl) h1 ht (by decide) p) rfl rfl
theorem AB.takeB {a : arq_Arq} {C : Nat} (h : AB a) (ha : AI a C) {t : Int} (ht : 0 ≤ t ∧ t < 65536) (c : api_Ctl) (b : List Int) : AB (Aq.take a t c b) := by
 unfold Aq.take
 split
 ·unfold asked
  split
  ·exact h
  split
  ·exact h.bare ha ha.tag (by decide) _
  split
  ·exact h.acceptB ha ht _
  split
  ·exact h.bare ha ha.tag (by decide) _
  ·exact h
 split
 ·split
  ·unfold accepted
   split
   ·exact AB.pumpB (h.same rfl rfl) (up_ai ha)
   split
   ·exact h.aendB
   ·exact h
  ·exact h
 split
 ·unfold closed
  split
  ·exact (h.bare ha ha.tag (by decide) _).aendB
  ·exact h.bare ha ht (by decide) _
 split
 ·unfold refused
  split
  ·exact h.aendB
  split
  ·exact AB.aendB (a := { a with tag := t }) (h.same rfl rfl)
  ·exact h
 split
 ·split
  ·exact h.aendB
  ·exact h
 ·exact h.numberedB ha ht c b
theorem AB.inputB {a : arq_Arq} {C : Nat} (h : AB a) (ha : AI a C) {b : List Int} (hb : ∀ z ∈ b, 0 ≤ z ∧ z < 256) : AB (Aq.input a b) := by
 unfold Aq.input
 split
 ·exact h
 split
 ·exact h.takeB ha (tagOf_b hb) _ _
 ·exact h
theorem AB.connectB {a : arq_Arq} {C : Nat} (h : AB a) (ha : AI a C) : AB (Aq.connect a).2 := by
 unfold Aq.connect
 split
 ·exact AB.same (a := Aq.say { a with state := 1, tag := (a.tag + 1) % 65536, tries := 0 } ((a.tag + 1) % 65536) (ct 3 0 0 true) []) (AB.bare (a := { a with state := 1, tag := (a.tag + 1) % 65536, tries := 0 }) (h.same rfl rfl) (conn_ai ha) (conn_ai ha).tag (by decide) _) rfl rfl
 ·exact h
theorem AB.sendB {a : arq_Arq} {C : Nat} (h : AB a) (ha : AI a C) {b : List Int} (hb : ∀ z ∈ b, 0 ≤ z ∧ z < 256) : AB (Aq.send a b).2 := by
 have hz := ha.size
 unfold Aq.send
 split
 ·exact h
 rename_i hlen
 split
 ·split
  ·exact h
  ·refine AB.pumpB (a := { a with log := Bl.logAdd a.log b, sent := a.sent + 1 }) ⟨fun x hx => ?_, h.out⟩ (sent_ai ha (by omega) (by omega))
   rcases List.mem_append.1 hx with q | q
   ·exact h.log x q
   ·simp only [List.mem_cons, List.not_mem_nil, or_false] at q
    subst q; exact ⟨hb, by omega⟩
 ·exact h
theorem AB.lateB {a : arq_Arq} {C : Nat} (h : AB a) (ha : AI a C) : AB (Aq.late a) := by
 have ht := ha.tries
 have hn := ha.n2
 unfold Aq.late
 split
 ·exact AB.aendB (a := { a with tries := a.n2 }) (h.same rfl rfl)
 ·have a1 := timed_ai (tries_ai ha (n := a.tries + 1) ⟨by omega, by omega⟩) (n := a.t1) ha.t1'
  have h1 : AB (timed { a with tries := a.tries + 1 } a.t1) := h.same rfl rfl
  generalize timed { a with tries := a.tries + 1 } a.t1 = x at a1 h1 ⊢
  unfold remind
  split
  ·exact h1.bare a1 a1.tag (by decide) _
  split
  ·exact h1.bare a1 a1.tag (by decide) _
  split
  ·exact h1.alsoB fun b hb => by simp only [List.mem_cons, List.not_mem_nil, or_false] at hb; subst hb; exact By.imsg h1 a1 0 true
  ·exact h1
theorem AB.passLB : ∀ (d : Nat) (n : Int) {a : arq_Arq} {C : Nat}, AB a → AI a C → 0 ≤ n → AB (Aq.passL d n a)
 | 0, _, _, _, h, _, _ => h
 | d + 1, n, a, C, h, ha, hn => by
  rw [Aq.passL]
  split
  ·rename_i c
   have a1 := passing_ai ha (n := run a) (by omega)
   exact AB.passLB d (n - run a) (AB.lateB (a := passing a (run a)) (h.same rfl rfl) a1) (late_ai a1).1 (by omega)
  ·exact h.same rfl rfl
theorem AB.passB {a : arq_Arq} {C : Nat} (h : AB a) (ha : AI a C) (n : Int) : AB (Aq.pass a n) := h.passLB 120 _ ha (cutN n).1
theorem AB.anewB (m t1 n2 size win q : Int) : AB (Aq.anew m t1 n2 size win q) := ⟨fun _ h => (nomatch h), fun _ h => (nomatch h)⟩
end Aq
theorem shapeNew (m win q : Int) (hm : m = 128 ∨ m = 32768) (hw : 1 ≤ win ∧ win ≤ m / 8) (hq : 0 ≤ q ∧ q ≤ 1000) {t1 n2 size : Int} (h1 : 1 ≤ t1 ∧ t1 ≤ 1048576) (h2 : 1 ≤ n2 ∧ n2 ≤ 100) (h3 : 1 ≤ size ∧ size ≤ 1000) {c : api_Config} (e0 : c.Modulus = m) (e1 : c.Window = win) (e2 : c.T1 = t1) (e3 : c.N2 = n2) (e4 : c.Queue = q) (e5 : c.Size = size) :
  arq_New.f c = some (Aq.anew m t1 n2 size win q) := by
 rw [Aq.new_eq, e0, e1, e2, e3, e4, e5]
 have em : (if m = 32768 then 32768 else 128 : Int) = m := by rcases hm with e | e <;> subst e <;> decide
 rw [em]
 have f1 : imax 1 (imin t1 1048576) = t1 := by unfold imax imin; repeat' split; all_goals omega
 have f2 : imax 1 (imin n2 100) = n2 := by unfold imax imin; repeat' split; all_goals omega
 have f3 : imax 1 (imin size 1000) = size := by unfold imax imin; repeat' split; all_goals omega
 have f4 : imax 1 (imin win (m / 8)) = win := by unfold imax imin; repeat' split; all_goals omega
 have f5 : imax 0 (imin q 1000) = q := by unfold imax imin; repeat' split; all_goals omega
 rw [f1, f2, f3, f4, f5]
theorem alive_eq {k : Nat} (hk : 20 ≤ k) : signalmanlaw15_alive.f k = some true := by
 unfold signalmanlaw15_alive.f signalmanlaw15_shape.f
 rw [bsome, shapeNew 128 4 4 (.inl rfl) (by decide) (by decide) (t1 := 10) (n2 := 3) (size := 50) (by decide) (by decide) (by decide) rfl rfl rfl rfl rfl rfl, bsome]
 rw [Aq.connect_eq (Aq.anew_ai (.inl rfl) (by decide) (by decide) (by decide) (by decide) (by decide)) (by decide) hk, bsome]
 show _ = some true
 kernel_rfl
namespace Aq
abbrev Pr := signalmanlaw15_pair
def drained (a : arq_Arq) : arq_Arq := { a with out := [], inds := [], order := Or.ost a.order a.order.next a.order.kept [] }
def downOf (l : List Int) : Int := ((l.filter (· ≠ 1)).length : Int)
def coll1 (p : Pr) : Pr := { a := (drained p.a.1, p.a.2), way := (p.way.1 ++ p.a.1.out, p.way.2), heard := (p.heard.1 ++ p.a.1.order.ready, p.heard.2), said := p.said, downs := p.downs + downOf p.a.1.inds }
def coll2 (p : Pr) : Pr := { a := (p.a.1, drained p.a.2), way := (p.way.1, p.way.2 ++ p.a.2.out), heard := (p.heard.1, p.heard.2 ++ p.a.2.order.ready), said := p.said, downs := p.downs + downOf p.a.2.inds }
def collect (p : Pr) : Pr := coll2 (coll1 p)
theorem drained_ai {a : arq_Arq} {C : Nat} (h : AI a C) : AI (drained a) C :=
 { h with ord := ⟨h.ord.hm, h.ord.hwin, h.ord.hnext, by show a.order.kept.length + 0 ≤ C; have := h.ord.held; omega⟩, om := h.om, ow := h.ow, out := Nat.zero_le _, inds := Nat.zero_le _ }
theorem drained_ab {a : arq_Arq} (h : AB a) : AB (drained a) := ⟨h.log, fun _ q => (nomatch q)⟩
structure PI (p : Pr) (C W : Nat) : Prop where
 a1 : AI p.a.1 C
 a2 : AI p.a.2 C
 b1 : AB p.a.1
 b2 : AB p.a.2
 w1 : ∀ b ∈ p.way.1, By 1006 b
 w2 : ∀ b ∈ p.way.2, By 1006 b
 l1 : p.way.1.length ≤ W
 l2 : p.way.2.length ≤ W
 h1 : p.heard.1.length ≤ W
 h2 : p.heard.2.length ≤ W
 d : 0 ≤ p.downs ∧ p.downs ≤ W
theorem PI.more {p : Pr} {C D W V : Nat} (h : PI p C W) (l : C ≤ D) (l' : W ≤ V) : PI p D V :=
 ⟨h.a1.more l, h.a2.more l, h.b1, h.b2, h.w1, h.w2, Nat.le_trans h.l1 l', Nat.le_trans h.l2 l', Nat.le_trans h.h1 l', Nat.le_trans h.h2 l', ⟨h.d.1, by have := h.d.2; omega⟩⟩
theorem downOf_le (l : List Int) : 0 ≤ downOf l ∧ downOf l ≤ l.length := by
 unfold downOf; have := List.length_filter_le (fun x : Int => decide (x ≠ 1)) l; omega
theorem l5_eq (x2 : Int) (Lq : Int → Pr → Option Pr) (l : List Int) (hl : l.length ≤ 1000000000000) : ∀ (d i : Nat) (p : Pr) (k : Nat), i + d = l.length → 0 ≤ p.downs ∧ p.downs + d ≤ 1000000000000 → d + 1 ≤ k →
  signalmanlaw15_pair_collect.l5 k x2 Lq l (i : Int) p = Lq (w64 (x2 + 1)) { p with downs := p.downs + downOf (l.drop i) } := by
 intro d
 induction d with
 | zero =>
  intro i p k hi hp hk
  obtain ⟨k, rfl⟩ : ∃ j, k = j + 1 := ⟨k - 1, by omega⟩
  have e : l.drop i = [] := List.drop_eq_nil_of_le (by omega)
  have e2 : p.downs + downOf [] = p.downs := by show p.downs + 0 = _; omega
  rw [signalmanlaw15_pair_collect.l5, if_neg (by omega), e, e2]
 | succ d ih =>
  intro i p k hi hp hk
  obtain ⟨k, rfl⟩ : ∃ j, k = j + 1 := ⟨k - 1, by omega⟩
  have hlt : i < l.length := by omega
  have hg : l.getD ((i : Int)).toNat 0 = l[i] := by simp [List.getD, hlt]
  have hd : l.drop i = l[i] :: l.drop (i + 1) := List.drop_eq_getElem_cons hlt
  have ew : w64 ((i : Int) + 1) = ((i + 1 : Nat) : Int) := by rw [w64_in ⟨by omega, by omega⟩]; omega
  have hle := downOf_le (l.drop (i + 1))
  rw [signalmanlaw15_pair_collect.l5, if_pos (by omega), if_pos (by omega), hg, hd, ew]
  by_cases c : l[i] = 1
  ·rw [if_pos c, ih (i + 1) p k (by omega) ⟨hp.1, by omega⟩ (by omega)]
   have e2 : downOf (l[i] :: l.drop (i + 1)) = downOf (l.drop (i + 1)) := by unfold downOf; simp [c]
   rw [e2]
  ·have e3 : w64 (p.downs + 1) = p.downs + 1 := w64_in ⟨by omega, by omega⟩
   have e2 : p.downs + downOf (l[i] :: l.drop (i + 1)) = p.downs + 1 + downOf (l.drop (i + 1)) := by unfold downOf; rw [List.filter_cons_of_pos (by simpa using c), List.length_cons]; omega
   rw [if_neg c, e3, e2]
   exact ih (i + 1) { p with downs := p.downs + 1 } k (by omega) ⟨by show 0 ≤ p.downs + 1; omega, by show p.downs + 1 + (d : Int) ≤ _; omega⟩ (by omega)
theorem recv_eq (a : arq_Arq) : arq_Arq_Recv.f a = some (if a.order.ready = [] then ([], false, a) else (a.order.ready.headD [], true, { a with order := Or.ost a.order a.order.next a.order.kept a.order.ready.tail })) := by
 unfold arq_Arq_Recv.f
 cases e : a.order.ready with
 | nil => rw [Or.take_nil e, bsome]; rfl
 | cons b r => rw [Or.take_cons e, bsome]; rfl
theorem l21_eq (Lq : Int → Pr → Option Pr) : ∀ (r : List (List Int)) (p : Pr) (k : Nat), p.a.1.order.ready = r → p.heard.1.length + r.length ≤ 1000000000000 → p.a.1.inds.length ≤ 1000000000000 → 0 ≤ p.downs ∧ p.downs + p.a.1.inds.length ≤ 1000000000000 → r.length + p.a.1.inds.length + 3 ≤ k →
  signalmanlaw15_pair_collect.l2 k 0 Lq p = Lq (w64 (0 + 1)) { p with a := ({ p.a.1 with inds := [], order := Or.ost p.a.1.order p.a.1.order.next p.a.1.order.kept [] }, p.a.2), heard := (p.heard.1 ++ p.a.1.order.ready, p.heard.2), downs := p.downs + downOf p.a.1.inds } := by
 intro r
 induction r with
 | nil =>
  intro p k hr hh hi hd hk
  obtain ⟨k, rfl⟩ : ∃ j, k = j + 1 := ⟨k - 1, by omega⟩
  rw [signalmanlaw15_pair_collect.l2, if_pos (by decide), if_pos rfl, recv_eq, bsome, if_pos hr]
  unfold signalmanlaw15_pair_collect.j3
  rw [if_neg (by simp), if_pos (by decide), if_pos rfl]
  unfold arq_Arq_Inds.f signalmanlaw15_pair_collect.j4
  rw [bsome]
  have := l5_eq 0 Lq p.a.1.inds hi p.a.1.inds.length 0 { p with a := ({ p.a.1 with inds := [] }, p.a.2) } k (by omega) ⟨hd.1, by show p.downs + _ ≤ _; omega⟩ (by simp at hk; omega)
  refine Eq.trans this ?_
  have e0 : p.a.1.order = Or.ost p.a.1.order p.a.1.order.next p.a.1.order.kept [] := by rw [← hr]; rfl
  have eh : p.heard.1 ++ ([] : List (List Int)) = p.heard.1 := List.append_nil _
  rw [hr, eh, List.drop_zero]
  refine congrArg (Lq _) ?_
  have : ({ p.a.1 with inds := [] } : arq_Arq) = { p.a.1 with inds := [], order := Or.ost p.a.1.order p.a.1.order.next p.a.1.order.kept [] } := by rw [← e0]
  show ({ p with a := ({ p.a.1 with inds := [] }, p.a.2), downs := _ } : Pr) = { p with a := ({ p.a.1 with inds := [], order := Or.ost p.a.1.order p.a.1.order.next p.a.1.order.kept [] }, p.a.2), downs := _ }
  rw [this]
 | cons b r ih =>
  intro p k hr hh hi hd hk
  obtain ⟨k, rfl⟩ : ∃ j, k = j + 1 := ⟨k - 1, by omega⟩
  rw [signalmanlaw15_pair_collect.l2, if_pos (by decide), if_pos rfl, recv_eq, bsome, if_neg (by rw [hr]; simp), hr]
  unfold signalmanlaw15_pair_collect.j3
  have hlen : ((p.heard.1.length : Nat) : Int) + 1 ≤ 1099511627776 := by simp at hh; omega
  rw [if_pos rfl, if_pos (by decide), if_pos rfl]
  refine (if_pos hlen).trans ?_
  have := ih { p with a := ({ p.a.1 with order := Or.ost p.a.1.order p.a.1.order.next p.a.1.order.kept r }, p.a.2), heard := (p.heard.1 ++ [b], p.heard.2) } k rfl (by show (p.heard.1 ++ [b]).length + _ ≤ _; rw [List.length_append]; simp at hh ⊢; omega) hi hd (by simp at hk ⊢; omega)
  refine Eq.trans this ?_
  refine congrArg (Lq _) ?_
  show ({ p with a := ({ p.a.1 with inds := [], order := Or.ost p.a.1.order p.a.1.order.next p.a.1.order.kept [] }, p.a.2), heard := ((p.heard.1 ++ [b]) ++ r, p.heard.2), downs := _ } : Pr) = { p with a := ({ p.a.1 with inds := [], order := Or.ost p.a.1.order p.a.1.order.next p.a.1.order.kept [] }, p.a.2), heard := (p.heard.1 ++ (b :: r), p.heard.2), downs := _ }
  rw [List.append_assoc]; rfl
theorem l22_eq (Lq : Int → Pr → Option Pr) : ∀ (r : List (List Int)) (p : Pr) (k : Nat), p.a.2.order.ready = r → p.heard.2.length + r.length ≤ 1000000000000 → p.a.2.inds.length ≤ 1000000000000 → 0 ≤ p.downs ∧ p.downs + p.a.2.inds.length ≤ 1000000000000 → r.length + p.a.2.inds.length + 3 ≤ k →
  signalmanlaw15_pair_collect.l2 k 1 Lq p = Lq (w64 (1 + 1)) { p with a := (p.a.1, { p.a.2 with inds := [], order := Or.ost p.a.2.order p.a.2.order.next p.a.2.order.kept [] }), heard := (p.heard.1, p.heard.2 ++ p.a.2.order.ready), downs := p.downs + downOf p.a.2.inds } := by
 intro r
 induction r with
 | nil =>
  intro p k hr hh hi hd hk
  obtain ⟨k, rfl⟩ : ∃ j, k = j + 1 := ⟨k - 1, by omega⟩
  rw [signalmanlaw15_pair_collect.l2, if_pos (by decide), if_neg (by decide), recv_eq, bsome, if_pos hr]
  unfold signalmanlaw15_pair_collect.j3
  rw [if_neg (by simp), if_pos (by decide), if_neg (by decide)]
  unfold arq_Arq_Inds.f signalmanlaw15_pair_collect.j4
  rw [bsome]
  have := l5_eq 1 Lq p.a.2.inds hi p.a.2.inds.length 0 { p with a := (p.a.1, { p.a.2 with inds := [] }) } k (by omega) ⟨hd.1, by show p.downs + _ ≤ _; omega⟩ (by simp at hk; omega)
  refine Eq.trans this ?_
  have e0 : p.a.2.order = Or.ost p.a.2.order p.a.2.order.next p.a.2.order.kept [] := by rw [← hr]; rfl
  have eh : p.heard.2 ++ ([] : List (List Int)) = p.heard.2 := List.append_nil _
  rw [hr, eh, List.drop_zero]
  refine congrArg (Lq _) ?_
  have : ({ p.a.2 with inds := [] } : arq_Arq) = { p.a.2 with inds := [], order := Or.ost p.a.2.order p.a.2.order.next p.a.2.order.kept [] } := by rw [← e0]
  show ({ p with a := (p.a.1, { p.a.2 with inds := [] }), downs := _ } : Pr) = { p with a := (p.a.1, { p.a.2 with inds := [], order := Or.ost p.a.2.order p.a.2.order.next p.a.2.order.kept [] }), downs := _ }
  rw [this]
 | cons b r ih =>
  intro p k hr hh hi hd hk
  obtain ⟨k, rfl⟩ : ∃ j, k = j + 1 := ⟨k - 1, by omega⟩
  rw [signalmanlaw15_pair_collect.l2, if_pos (by decide), if_neg (by decide), recv_eq, bsome, if_neg (by rw [hr]; simp), hr]
  unfold signalmanlaw15_pair_collect.j3
  have hlen : ((p.heard.2.length : Nat) : Int) + 1 ≤ 1099511627776 := by simp at hh; omega
  rw [if_pos rfl, if_pos (by decide), if_neg (by decide)]
  refine (if_pos hlen).trans ?_
  have := ih { p with a := (p.a.1, { p.a.2 with order := Or.ost p.a.2.order p.a.2.order.next p.a.2.order.kept r }), heard := (p.heard.1, p.heard.2 ++ [b]) } k rfl (by show (p.heard.2 ++ [b]).length + _ ≤ _; rw [List.length_append]; simp at hh ⊢; omega) hi hd (by simp at hk ⊢; omega)
  refine Eq.trans this ?_
  refine congrArg (Lq _) ?_
  show ({ p with a := (p.a.1, { p.a.2 with inds := [], order := Or.ost p.a.2.order p.a.2.order.next p.a.2.order.kept [] }), heard := (p.heard.1, (p.heard.2 ++ [b]) ++ r), downs := _ } : Pr) = { p with a := (p.a.1, { p.a.2 with inds := [], order := Or.ost p.a.2.order p.a.2.order.next p.a.2.order.kept [] }), heard := (p.heard.1, p.heard.2 ++ (b :: r)), downs := _ }
  rw [List.append_assoc]; rfl
theorem collect_eq {p : Pr} {C W : Nat} (h : PI p C W) (hC : C ≤ 100000000000) (hW : W ≤ 500000000000) {k : Nat} (hk : 3 * C + 20 ≤ k) : signalmanlaw15_pair_collect.f k p = some (collect p) := by
 obtain ⟨k, rfl⟩ : ∃ j, k = j + 3 := ⟨k - 3, by omega⟩
 have q1 := h.l1; have q2 := h.l2; have q3 := h.h1; have q4 := h.h2; have q5 := h.d
 have r1 := h.a1.ord.held; have r2 := h.a2.ord.held; have o1 := h.a1.out; have o2 := h.a2.out; have i1 := h.a1.inds; have i2 := h.a2.inds
 have hd1 := downOf_le p.a.1.inds
 unfold signalmanlaw15_pair_collect.f signalmanlaw15_pair_collect.l0 arq_Arq_Output.f signalmanlaw15_pair_collect.j1
 rw [if_pos (by decide), if_pos (by decide), if_pos rfl, bsome]
 refine (if_pos (show ((p.way.1.length : Nat) : Int) + (p.a.1.out.length : Nat) ≤ 1099511627776 by omega)).trans ?_
 have e1 := l21_eq (signalmanlaw15_pair_collect.l0 (k + 2)) p.a.1.order.ready { p with a := ({ p.a.1 with out := [] }, p.a.2), way := (p.way.1 ++ p.a.1.out, p.way.2) } (k + 2) rfl (by show p.heard.1.length + _ ≤ _; omega) (by show p.a.1.inds.length ≤ _; omega) (by show 0 ≤ p.downs ∧ p.downs + (p.a.1.inds.length : Nat) ≤ _; omega) (by show _ + p.a.1.inds.length + 3 ≤ _; omega)
 refine Eq.trans e1 ?_
 have ew : w64 ((0 : Int) + 1) = 1 := by decide
 have ew2 : w64 ((1 : Int) + 1) = 2 := by decide
 rw [ew]
 show signalmanlaw15_pair_collect.l0 (k + 2) 1 (coll1 p) = _
 unfold signalmanlaw15_pair_collect.l0 arq_Arq_Output.f signalmanlaw15_pair_collect.j1
 rw [if_pos (by decide), if_pos (by decide), if_neg (by decide), bsome]
 refine (if_pos (show ((p.way.2.length : Nat) : Int) + (p.a.2.out.length : Nat) ≤ 1099511627776 by omega)).trans ?_
 have e2 := l22_eq (signalmanlaw15_pair_collect.l0 (k + 1)) p.a.2.order.ready { (coll1 p) with a := (drained p.a.1, { p.a.2 with out := [] }), way := (p.way.1 ++ p.a.1.out, p.way.2 ++ p.a.2.out) } (k + 1) rfl (by show p.heard.2.length + _ ≤ _; omega) (by show p.a.2.inds.length ≤ _; omega) (by show 0 ≤ p.downs + downOf p.a.1.inds ∧ p.downs + downOf p.a.1.inds + (p.a.2.inds.length : Nat) ≤ _; omega) (by show _ + p.a.2.inds.length + 3 ≤ _; omega)
 refine Eq.trans e2 ?_
 rw [ew2, signalmanlaw15_pair_collect.l0, if_neg (by decide)]; rfl
theorem collect_pi {p : Pr} {C W : Nat} (h : PI p C W) : PI (collect p) C (W + 2 * C) := by
 have q1 := h.l1; have q2 := h.l2; have q3 := h.h1; have q4 := h.h2; have q5 := h.d
 have r1 := h.a1.ord.held; have r2 := h.a2.ord.held; have o1 := h.a1.out; have o2 := h.a2.out; have i1 := h.a1.inds; have i2 := h.a2.inds
 have hd1 := downOf_le p.a.1.inds; have hd2 := downOf_le p.a.2.inds
 refine ⟨drained_ai h.a1, drained_ai h.a2, drained_ab h.b1, drained_ab h.b2, fun b hb => ?_, fun b hb => ?_, ?_, ?_, ?_, ?_, ?_⟩
 ·exact (List.mem_append.1 hb).elim (h.w1 b) (h.b1.out b)
 ·exact (List.mem_append.1 hb).elim (h.w2 b) (h.b2.out b)
 ·show (p.way.1 ++ p.a.1.out).length ≤ _; rw [List.length_append]; omega
 ·show (p.way.2 ++ p.a.2.out).length ≤ _; rw [List.length_append]; omega
 ·show (p.heard.1 ++ p.a.1.order.ready).length ≤ _; rw [List.length_append]; omega
 ·show (p.heard.2 ++ p.a.2.order.ready).length ≤ _; rw [List.length_append]; omega
 ·show 0 ≤ p.downs + downOf p.a.1.inds + downOf p.a.2.inds ∧ p.downs + downOf p.a.1.inds + downOf p.a.2.inds ≤ _; omega
def gone (p : Pr) (i : Bool) : Pr := if i then { p with way := (p.way.1, p.way.2.tail) } else { p with way := (p.way.1.tail, p.way.2) }
def given (p : Pr) (i : Bool) (b : List Int) : Pr := if i then { p with a := (input p.a.1 b, p.a.2) } else { p with a := (p.a.1, input p.a.2 b) }
def wayOf (p : Pr) (i : Bool) : List (List Int) := if i then p.way.2 else p.way.1
def carry (p : Pr) (i lost : Bool) : Pr :=
 if wayOf p i = [] then p else collect (if lost then gone p i else given (gone p i) i ((wayOf p i).headD []))
def bi (i : Bool) : Int := if i then 1 else 0
theorem gone_pi {p : Pr} {C W : Nat} (h : PI p C W) (i : Bool) : PI (gone p i) C W := by
 cases i with
 | true => exact { h with w2 := fun b hb => h.w2 b (List.mem_of_mem_tail hb), l2 := by show p.way.2.tail.length ≤ W; have := h.l2; rw [List.length_tail]; omega }
 | false => exact { h with w1 := fun b hb => h.w1 b (List.mem_of_mem_tail hb), l1 := by show p.way.1.tail.length ≤ W; have := h.l1; rw [List.length_tail]; omega }
theorem given_pi {p : Pr} {C W : Nat} (h : PI p C W) (i : Bool) {b : List Int} (hb : By 1006 b) : PI (given p i b) (C + 13000) W := by
 have h' := h.more (D := C + 13000) (by omega) (Nat.le_refl W)
 cases i with
 | true => exact { h' with a1 := input_ai h.a1 hb.1, b1 := h.b1.inputB h.a1 hb.1 }
 | false => exact { h' with a2 := input_ai h.a2 hb.1, b2 := h.b2.inputB h.a2 hb.1 }
theorem way_by {p : Pr} {C W : Nat} (h : PI p C W) (i : Bool) : By 1006 ((wayOf p i).headD []) := by
 have : ∀ l : List (List Int), (∀ b ∈ l, By 1006 b) → By 1006 (l.headD []) := by
  intro l hl
  cases l with
  | nil => exact By.nil _
  | cons b r => exact hl b (.head _)
 cases i with
 | true => exact this _ h.w2
 | false => exact this _ h.w1
theorem carry_pi {p : Pr} {C W : Nat} (h : PI p C W) (i lost : Bool) : PI (carry p i lost) (C + 13000) (W + 2 * C + 26000) := by
 unfold carry
 split
 ·exact h.more (by omega) (by omega)
 ·cases lost with
  | true => exact (collect_pi (gone_pi h i)).more (by omega) (by omega)
  | false => exact (collect_pi (given_pi (gone_pi h i) i (way_by h i))).more (by omega) (by omega)
theorem cut1 {α : Type} (l : List α) : cut l (1 : Int) (l.length : Int) = l.tail := by rw [cut_drop l (by decide)]; exact List.drop_one
set_option maxRecDepth 100000 in
theorem carry_eq {p : Pr} {C W : Nat} (h : PI p C W) (hC : C + 40000 ≤ 100000000000) (hW : W ≤ 500000000000) (i lost : Bool) {k : Nat} (hk : 3 * C + 80000 ≤ k) : signalmanlaw15_pair_carry.f k p (bi i) lost = some (carry p i lost) := by
 have hbg : big = 1000000000000 := rfl
 have hw := h.l1
 have hw2 := h.l2
 have b0 : 0 ≤ bi i ∧ bi i < 2 := by unfold bi; split <;> omega
 have e0 : signalmanlaw15_pair_carry.f k p (bi i) lost = signalmanlaw15_pair_carry.j0 k p (bi i) lost (decide (((wayOf p i).length : Int) > 0)) := by
  unfold signalmanlaw15_pair_carry.f
  rw [if_pos b0]
  cases i <;> rfl
 rw [e0]
 unfold signalmanlaw15_pair_carry.j0 carry
 by_cases c : wayOf p i = []
 ·rw [if_pos c, c, if_neg (by simp)]
 have hl : 0 < (wayOf p i).length := List.length_pos_iff.2 c
 rw [if_neg c, if_pos (by simpa using hl), if_pos b0]
 have hb := way_by h i
 have e1 : ∀ x, signalmanlaw15_pair_carry.j1 k p (bi i) lost x = signalmanlaw15_pair_carry.j2 k (bi i) lost x (gone p i) := by
  intro x
  unfold signalmanlaw15_pair_carry.j1
  rw [if_pos b0]
  cases i with
  | false =>
   have : 0 < p.way.1.length := hl
   rw [if_pos (by rfl), if_pos ⟨by omega, by omega, by omega⟩, cut1]; rfl
  | true =>
   have : 0 < p.way.2.length := hl
   rw [if_neg (by decide), if_pos ⟨by omega, by omega, by omega⟩, cut1]; rfl
 have e2 : (if bi i = 0 then (if 0 ≤ (0 : Int) ∧ (0 : Int) < (p.way.1.length : Int) then signalmanlaw15_pair_carry.j1 k p (bi i) lost (p.way.1.getD (0 : Int).toNat []) else none) else (if 0 ≤ (0 : Int) ∧ (0 : Int) < (p.way.2.length : Int) then signalmanlaw15_pair_carry.j1 k p (bi i) lost (p.way.2.getD (0 : Int).toNat []) else none)) = signalmanlaw15_pair_carry.j2 k (bi i) lost ((wayOf p i).headD []) (gone p i) := by
  cases i with
  | false =>
   have : 0 < p.way.1.length := hl
   rw [if_pos (by rfl), if_pos ⟨by omega, by omega⟩, e1]
   show signalmanlaw15_pair_carry.j2 k (bi false) lost (p.way.1.getD 0 []) _ = signalmanlaw15_pair_carry.j2 k (bi false) lost (p.way.1.headD []) _
   cases hp : p.way.1 with
   | nil => rw [hp] at this; simp at this
   | cons b r => rfl
  | true =>
   have : 0 < p.way.2.length := hl
   rw [if_neg (by decide), if_pos ⟨by omega, by omega⟩, e1]
   show signalmanlaw15_pair_carry.j2 k (bi true) lost (p.way.2.getD 0 []) _ = signalmanlaw15_pair_carry.j2 k (bi true) lost (p.way.2.headD []) _
   cases hp : p.way.2 with
   | nil => rw [hp] at this; simp at this
   | cons b r => rfl
 rw [e2]
 unfold signalmanlaw15_pair_carry.j2 signalmanlaw15_pair_carry.j3
 have hg := gone_pi h i
 cases lost with
 | true => rw [if_pos rfl, collect_eq hg (by omega) hW (by omega), bsome]; rfl
 | false =>
  have hgv := given_pi hg i hb
  have hw1 : w64 (1 - bi i) = 1 - bi i := w64_in ⟨by omega, by omega⟩
  rw [if_neg (by simp), hw1, if_pos ⟨by omega, by omega⟩]
  have hk2 : 3 * (C + 13000) + 20 ≤ k := by omega
  have hC2 : C + 13000 ≤ 100000000000 := by omega
  have ec := collect_eq hgv hC2 hW hk2
  cases i with
  | false =>
   rw [if_neg (by decide)]
   have ei := input_eq hg.a2 (by omega) hb.1 (by have := hb.2; omega) (k := k) (by omega)
   rw [ei, bsome]
   refine Eq.trans (congrArg (fun o => Option.bind o _) ec) ?_
   rw [bsome]; rfl
  | true =>
   rw [if_pos (by decide)]
   have ei := input_eq hg.a1 (by omega) hb.1 (by have := hb.2; omega) (k := k) (by omega)
   rw [ei, bsome]
   refine Eq.trans (congrArg (fun o => Option.bind o _) ec) ?_
   rw [bsome]; rfl
end Aq
end Go.Proofs.Ytnlcafmkmfnobaa

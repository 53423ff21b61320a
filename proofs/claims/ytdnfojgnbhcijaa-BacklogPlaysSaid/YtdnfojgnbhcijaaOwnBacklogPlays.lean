/- BacklogPlays: after arbitrary sequences of calls, the results of a Log agree with the definition. Conditions: none beyond those of the given statement. -/
import Derived.Test.YtdnfojgnbhcijaaRunBacklogPlays
import Derived.KernelRfl
set_option linter.all false
namespace Go.Proofs.Ytdnfojgnbhcijaa
open Go.RowKit Go.Proofs.Ytdnfojgnbhcijaa.Walk
theorem bsome {α β : Type} (x : α) (g : α → Option β) : (some x).bind g = g x := Eq.trans (b := g x) rfl (Eq.symm rfl)
theorem u8w (x : Int) : IntKind.u8.wrap x = x % 256 := by
  simp [IntKind.wrap, IntKind.bits, IntKind.signed]
theorem i64nat {x : Int} (h0 : 0 ≤ x) (h1 : x < 9223372036854775808) : BitVec.ofInt 64 x = BitVec.ofNat 64 x.toNat := by
  apply BitVec.eq_of_toNat_eq
  simp [BitVec.toNat_ofInt]
  omega
theorem iand_nat {x y : Int} (h0 : 0 ≤ x) (h1 : x < 9223372036854775808) (h2 : 0 ≤ y) (h3 : y < 9223372036854775808) : iand .i64 x y = ((x.toNat &&& y.toNat : Nat) : Int) := by
  unfold iand
  show IntKind.i64.wrap (BitVec.ofInt 64 x &&& BitVec.ofInt 64 y).toNat = _
  rw [i64nat h0 h1, i64nat h2 h3, BitVec.toNat_and]
  simp only [BitVec.toNat_ofNat]
  rw [Nat.mod_eq_of_lt (by omega), Nat.mod_eq_of_lt (by omega)]
  have h4 : x.toNat &&& y.toNat ≤ x.toNat := Nat.and_le_left
  have := w64_in (n := ((x.toNat &&& y.toNat : Nat) : Int)) (by omega)
  exact this
theorem ior_nat {x y : Int} (h0 : 0 ≤ x) (h1 : x < 9223372036854775808) (h2 : 0 ≤ y) (h3 : y < 9223372036854775808) : ior .i64 x y = ((x.toNat ||| y.toNat : Nat) : Int) := by
  unfold ior
  show IntKind.i64.wrap (BitVec.ofInt 64 x ||| BitVec.ofInt 64 y).toNat = _
  rw [i64nat h0 h1, i64nat h2 h3, BitVec.toNat_or]
  simp only [BitVec.toNat_ofNat]
  rw [Nat.mod_eq_of_lt (by omega), Nat.mod_eq_of_lt (by omega)]
  have h4 : x.toNat ||| y.toNat < 2 ^ 63 := Nat.or_lt_two_pow (by omega) (by omega)
  have := w64_in (n := ((x.toNat ||| y.toNat : Nat) : Int)) (by omega)
  exact this
theorem iand_1 {x : Int} (h0 : 0 ≤ x) (h1 : x < 9223372036854775808) : iand .i64 x 1 = x % 2 := by
  rw [iand_nat h0 h1 (by omega) (by omega)]
  have : x.toNat &&& (1 : Int).toNat = x.toNat % 2 := Nat.and_one_is_mod _
  rw [this]; omega
theorem iand_255 {x : Int} (h0 : 0 ≤ x) (h1 : x < 9223372036854775808) : iand .i64 x 255 = x % 256 := by
  rw [iand_nat h0 h1 (by omega) (by omega)]
  have : x.toNat &&& (255 : Int).toNat = x.toNat % 256 := Nat.and_two_pow_sub_one_eq_mod _ 8
  rw [this]; omega
theorem ior_hi {x y : Int} (h0 : 0 ≤ x) (h1 : x < 256) (h2 : 0 ≤ y) (h3 : y < 36028797018963968) : ior .i64 x (y * 256) = x + 256 * y := by
  rw [ior_nat h0 (by omega) (by omega) (by omega)]
  have e : (y * 256).toNat = 2 ^ 8 * y.toNat := by omega
  have h4 := Nat.two_pow_add_eq_or_of_lt (i := 8) (b := x.toNat) (by omega) y.toNat
  rw [e, Nat.or_comm, ← h4]; omega
theorem ior_hi' {x y : Int} (h0 : 0 ≤ x) (h1 : x < 256) (h2 : 0 ≤ y) (h3 : y < 36028797018963968) : ior .i64 (y * 256) x = x + 256 * y := by
  rw [← ior_hi h0 h1 h2 h3, ior_nat (by omega) (by omega) h0 (by omega), ior_nat h0 (by omega) (by omega) (by omega), Nat.or_comm]
theorem byte_all {p : Int → Prop} (h : ∀ n : Fin 256, p (n.val : Int)) {z : Int} (h0 : 0 ≤ z) (h1 : z < 256) : p z := by
  have := h ⟨z.toNat, by omega⟩
  rwa [show ((z.toNat : Nat) : Int) = z by omega] at this
theorem wf8 {z : Int} (h : (Lit.int .u8 z).wf = true) : 0 ≤ z ∧ z < 256 := by simp [Lit.wf] at h; have := h; simp [IntKind.min, IntKind.max, IntKind.bits, IntKind.signed] at this; omega
theorem wf64 {z : Int} (h : (Lit.int .i64 z).wf = true) : -9223372036854775808 ≤ z ∧ z ≤ 9223372036854775807 := by simp [Lit.wf] at h; have := h; simp [IntKind.min, IntKind.max, IntKind.bits, IntKind.signed] at this; omega
/-- How a log stands. -/
structure BI (l : backlog_Log) : Prop where
  m : 8 ≤ l.m ∧ l.m ≤ 32768
  win : 1 ≤ l.window ∧ l.window ≤ 4096
  que : 0 ≤ l.queue ∧ l.queue ≤ 1000
  first : 0 ≤ l.first ∧ l.first < l.m
  out : 0 ≤ l.out ∧ l.out ≤ l.window ∧ l.out ≤ (l.l.length : Int)
  wait : (l.l.length : Int) ≤ l.out + l.queue
  small : ∀ b ∈ l.l, b.length ≤ 1000000
theorem clone_eq {l : List Int} (h : (l.length : Int) ≤ 1099511627776) : slices_Clone_Sbytebyte.f l = some l := by
  unfold slices_Clone_Sbytebyte.f
  rw [if_pos (by simp; omega)]; rfl
theorem number_eq {l : backlog_Log} (hm : 8 ≤ l.m ∧ l.m ≤ 32768) (hf : 0 ≤ l.first ∧ l.first < l.m) {i : Int} (hi : 0 ≤ i ∧ i ≤ 100000) : backlog_Log_number.f l i = some ((l.first + i) % l.m) := by
  unfold backlog_Log_number.f
  rw [if_pos (by omega), w64_in ⟨by omega, by omega⟩, Int.tmod_eq_emod_of_nonneg (by omega)]
def logOut (l : backlog_Log) : backlog_Log := { m := l.m, window := l.window, queue := l.queue, first := l.first, out := l.out + 1, l := l.l }
def logAdd (l : backlog_Log) (b : List Int) : backlog_Log := { m := l.m, window := l.window, queue := l.queue, first := l.first, out := l.out, l := l.l ++ [b] }
theorem next_no {l : backlog_Log} (h : l.out = (l.l.length : Int) ∨ l.out = l.window) : backlog_Log_Next.f l = some (0, [], false, l) := by
  unfold backlog_Log_Next.f backlog_Log_Next.j0
  by_cases h1 : l.out = (l.l.length : Int)
  · rw [if_pos h1]; rfl
  · rw [if_neg h1, if_pos (by simpa using h.resolve_left h1)]
theorem next_yes {l : backlog_Log} (h : BI l) (h1 : l.out < (l.l.length : Int)) (h2 : l.out < l.window) : backlog_Log_Next.f l = some ((l.first + l.out) % l.m, l.l.getD l.out.toNat [], true, logOut l) := by
  have ho := h.out
  have hw := h.win
  unfold backlog_Log_Next.f backlog_Log_Next.j0
  rw [if_neg (show ¬ l.out = (l.l.length : Int) by omega), if_neg (show ¬ decide (l.out = l.window) = true by simp; omega), if_pos ⟨ho.1, h1⟩, w64_in ⟨by omega, by omega⟩]
  rw [number_eq (l := { m := l.m, window := l.window, queue := l.queue, first := l.first, out := l.out + 1, l := l.l }) h.m h.first ⟨ho.1, by omega⟩, bsome]
  have hs : ((l.l.getD l.out.toNat []).length : Int) ≤ 1000000 := by
    have hlt : l.out.toNat < l.l.length := by omega
    have e : l.l.getD l.out.toNat [] = l.l[l.out.toNat] := by simp [List.getD, hlt]
    rw [e]; have := h.small _ (List.getElem_mem hlt); omega
  rw [clone_eq (by omega), bsome]; rfl
theorem add_no {l : backlog_Log} (h : BI l) (b : List Int) (hn : (l.l.length : Int) - l.out ≥ l.queue) : backlog_Log_Add.f l b = some (6, l) := by
  have ho := h.out
  have hw := h.wait
  have hq := h.que
  have hwi := h.win
  unfold backlog_Log_Add.f
  rw [w64_in ⟨by omega, by omega⟩, if_pos hn]
theorem add_yes {l : backlog_Log} (h : BI l) {b : List Int} (hn : (l.l.length : Int) - l.out < l.queue) (hb : b.length ≤ 1000000) : backlog_Log_Add.f l b = some (0, logAdd l b) := by
  have ho := h.out
  have hw := h.wait
  have hq := h.que
  have hwi := h.win
  unfold backlog_Log_Add.f
  rw [w64_in ⟨by omega, by omega⟩, if_neg (by omega), clone_eq (by omega), bsome, if_pos (by simp only [List.length_cons, List.length_nil]; omega)]; rfl
theorem out_bi {l : backlog_Log} (h : BI l) (h1 : l.out < (l.l.length : Int)) (h2 : l.out < l.window) : BI (logOut l) := by
  have ho := h.out
  have hw := h.wait
  exact ⟨h.m, h.win, h.que, h.first, by show 0 ≤ l.out + 1 ∧ l.out + 1 ≤ l.window ∧ l.out + 1 ≤ (l.l.length : Int); omega, by show (l.l.length : Int) ≤ l.out + 1 + l.queue; omega, h.small⟩
theorem add_bi {l : backlog_Log} (h : BI l) {b : List Int} (hn : (l.l.length : Int) - l.out < l.queue) (hb : b.length ≤ 1000000) : BI (logAdd l b) := by
  have ho := h.out
  refine ⟨h.m, h.win, h.que, h.first, ?_, ?_, ?_⟩
  · show 0 ≤ l.out ∧ l.out ≤ l.window ∧ l.out ≤ ((l.l ++ [b]).length : Int)
    rw [List.length_append]; simp; omega
  · show ((l.l ++ [b]).length : Int) ≤ l.out + l.queue
    rw [List.length_append]; simp; omega
  · intro x hx
    rcases List.mem_append.1 hx with hx | hx
    · exact h.small x hx
    · simp at hx; subst hx; exact hb
theorem td8 {x : Int} (h : 0 ≤ x ∧ x ≤ 100000) : w64 (x.tdiv 8) = x / 8 := by
  rw [Int.tdiv_eq_ediv_of_nonneg h.1, w64_in ⟨by omega, by omega⟩]
theorem new_eq {m win q : Int} (hm : 8 ≤ m ∧ m ≤ 32768) (hw : 1 ≤ win ∧ win ≤ m / 8) (hq : 0 ≤ q ∧ q ≤ 1000) : backlog_New.f m win q = some { m := m, window := win, queue := q, first := 0, out := 0, l := [] } := by
  unfold backlog_New.f backlog_Cut.f
  have e1 : imax 8 (imin m 32768) = m := by unfold imax imin; repeat' split; all_goals omega
  have e2 : imax 1 (imin win (m / 8)) = win := by unfold imax imin; repeat' split; all_goals omega
  have e3 : imax 0 (imin q 1000) = q := by unfold imax imin; repeat' split; all_goals omega
  rw [e1, td8 (by omega), e2, e3, bsome]
theorem new_bi {m win q : Int} (hm : 8 ≤ m ∧ m ≤ 32768) (hw : 1 ≤ win ∧ win ≤ m / 8) (hq : 0 ≤ q ∧ q ≤ 1000) : BI { m := m, window := win, queue := q, first := 0, out := 0, l := [] } :=
  ⟨hm, by show 1 ≤ win ∧ win ≤ 4096; omega, hq, by show 0 ≤ (0 : Int) ∧ 0 < m; omega, by show 0 ≤ (0 : Int) ∧ 0 ≤ win ∧ (0 : Int) ≤ _; simp; omega, by simp; exact hq.1, by simp⟩
theorem alive_eq : signalmanlaw13_alive.f = some true := by
  show signalmanlaw13_alive.f = some true
  kernel_rfl
/-- The numbers of those that are out. -/
def outs (l : backlog_Log) : List Int := (List.range l.out.toNat).map fun (i : Nat) => (l.first + (i : Int)) % l.m
theorem out_l0 {l : backlog_Log} (h : BI l) : ∀ (d i : Nat) (k : Nat) (xs : List Int), (i : Int) + d = l.out → xs.length = i → d + 1 ≤ k → backlog_Log_Out.l0 k l i xs = some (xs ++ (List.range' i d).map fun (i : Nat) => (l.first + (i : Int)) % l.m)
  | 0, i, k, xs, hi, hx, hk => by
    obtain ⟨k, rfl⟩ : ∃ j, k = j + 1 := ⟨k - 1, by omega⟩
    rw [backlog_Log_Out.l0, if_neg (by omega)]; simp
  | d + 1, i, k, xs, hi, hx, hk => by
    obtain ⟨k, rfl⟩ : ∃ j, k = j + 1 := ⟨k - 1, by omega⟩
    have ho := h.out
    have hw := h.win
    rw [backlog_Log_Out.l0, if_pos (by omega), number_eq h.m h.first ⟨by omega, by omega⟩, bsome, if_pos (by simp only [List.length_cons, List.length_nil]; omega), w64_in ⟨by omega, by omega⟩]
    have := out_l0 h d (i + 1) k (xs ++ [(l.first + (i : Int)) % l.m]) (by omega) (by simp [hx]) (by omega)
    rw [show ((i : Nat) : Int) + 1 = ((i + 1 : Nat) : Int) by omega, this, List.range'_succ]; simp
theorem out_eq {l : backlog_Log} (h : BI l) {k : Nat} (hk : 5000 ≤ k) : backlog_Log_Out.f k l = some (outs l) := by
  have ho := h.out
  have hw := h.win
  unfold backlog_Log_Out.f outs
  have := out_l0 h l.out.toNat 0 k [] (by omega) rfl (by omega)
  rw [List.range_eq_range']; simpa using this
theorem outs_len (l : backlog_Log) : (outs l).length = l.out.toNat := by simp [outs]
theorem round_eq {n m : Int} (hn : -1000000000000 ≤ n ∧ n ≤ 1000000000000 ∨ -9223372036854775808 ≤ n ∧ n ≤ 9223372036854775807) (hm : 1 ≤ m ∧ m ≤ 1073741824) : serial_round.f n m = some (n % m, m) := by
  unfold serial_round.f
  have e1 : imax 1 (imin m 1073741824) = m := by unfold imax imin; repeat' split; all_goals omega
  rw [e1, if_pos (by omega)]
  by_cases h0 : 0 ≤ n
  · rw [Int.tmod_eq_emod_of_nonneg h0, if_neg (by have := Int.emod_nonneg n (show m ≠ 0 by omega); omega)]
  · have hlt := Int.emod_lt_of_pos n (show 0 < m by omega)
    have hge := Int.emod_nonneg n (show m ≠ 0 by omega)
    have ht : n.tmod m = if n % m = 0 then 0 else n % m - m := by
      rw [Int.tmod_eq_emod]
      by_cases hd : m ∣ n
      · have : n % m = 0 := Int.emod_eq_zero_of_dvd hd
        simp [hd, this]
      · have : ¬ n % m = 0 := fun e => hd (Int.dvd_of_emod_eq_zero e)
        simp [hd, this, h0]; omega
    rw [ht]
    by_cases hz : n % m = 0
    · rw [if_pos hz, if_neg (by omega), hz]
    · rw [if_neg hz, if_pos (by omega), w64_in ⟨by omega, by omega⟩]
      congr 2; omega
theorem dist_eq {a b m : Int} (ha : -9223372036854775808 ≤ a ∧ a ≤ 9223372036854775807) (hb : -9223372036854775808 ≤ b ∧ b ≤ 9223372036854775807) (hm : 1 ≤ m ∧ m ≤ 1073741824) : serial_Dist.f a b m = some ((b - a) % m) := by
  unfold serial_Dist.f
  rw [round_eq (.inr ha) hm, bsome, round_eq (.inr hb) hm, bsome]
  have h1 := Int.emod_nonneg a (show m ≠ 0 by omega)
  have h2 := Int.emod_lt_of_pos a (show 0 < m by omega)
  have h3 := Int.emod_nonneg b (show m ≠ 0 by omega)
  have h4 := Int.emod_lt_of_pos b (show 0 < m by omega)
  dsimp only
  rw [w64_in ⟨by omega, by omega⟩, round_eq (.inl ⟨by omega, by omega⟩) hm, bsome]
  dsimp only
  rw [← Int.sub_emod]
theorem delete2_eq {l : List (List Int)} {m : Nat} (h : m ≤ l.length) : slices_Delete_SSbyteSbyte.f l 0 (m : Int) = some (l.drop m) := by
  unfold slices_Delete_SSbyteSbyte.f
  rw [if_pos ⟨by omega, by omega, by omega⟩]
  by_cases h0 : (0 : Int) = (m : Int)
  · rw [if_pos h0]
    have : m = 0 := by omega
    subst this; rfl
  · rw [if_neg h0, if_pos ⟨by omega, by omega, by omega⟩, if_pos ⟨by omega, by omega, by omega⟩]
    congr 1
    simp [cut]
    exact List.take_of_length_le (by simp)
def logAck (l : backlog_Log) (k : Int) : backlog_Log := { m := l.m, window := l.window, queue := l.queue, first := (l.first + k) % l.m, out := l.out - k, l := l.l.drop k.toNat }
theorem ack_no {l : backlog_Log} (h : BI l) {n : Int} (hn : -9223372036854775808 ≤ n ∧ n ≤ 9223372036854775807) (hx : n < 0 ∨ l.m ≤ n ∨ l.out < (n - l.first) % l.m) : backlog_Log_Ack.f l n = some (0, false, l) := by
  have hm := h.m
  have hf := h.first
  unfold backlog_Log_Ack.f backlog_Log_Ack.j0
  rw [dist_eq ⟨by omega, by omega⟩ hn ⟨by omega, by omega⟩, bsome]
  by_cases h1 : n < 0
  · rw [if_pos h1]; rfl
  · rw [if_neg h1]
    by_cases h2 : n ≥ l.m
    · rw [if_pos h2]; rfl
    · rw [if_neg h2, if_pos (by simp; omega)]
theorem ack_yes {l : backlog_Log} (h : BI l) {n : Int} (hn : 0 ≤ n ∧ n < l.m) (hx : (n - l.first) % l.m ≤ l.out) : backlog_Log_Ack.f l n = some ((n - l.first) % l.m, true, logAck l ((n - l.first) % l.m)) := by
  have hm := h.m
  have hf := h.first
  have ho := h.out
  have hw := h.win
  have h1 := Int.emod_nonneg (n - l.first) (show l.m ≠ 0 by omega)
  unfold backlog_Log_Ack.f backlog_Log_Ack.j0
  rw [dist_eq ⟨by omega, by omega⟩ ⟨by omega, by omega⟩ ⟨by omega, by omega⟩, bsome]
  generalize (n - l.first) % l.m = d at *
  obtain ⟨e, rfl⟩ : ∃ e : Nat, d = (e : Int) := ⟨d.toNat, by omega⟩
  rw [if_neg (by omega), if_neg (show ¬ n ≥ l.m by omega), if_neg (by simp; omega), delete2_eq (by omega), bsome, w64_in ⟨by omega, by omega⟩]
  rw [number_eq (l := { m := l.m, window := l.window, queue := l.queue, first := l.first, out := l.out - (e : Int), l := l.l.drop e }) hm hf ⟨by omega, by omega⟩, bsome]; rfl
theorem ack_bi {l : backlog_Log} (h : BI l) {k : Int} (hk : 0 ≤ k ∧ k ≤ l.out) : BI (logAck l k) := by
  have hm := h.m
  have ho := h.out
  have hw := h.wait
  refine ⟨h.m, h.win, h.que, ⟨Int.emod_nonneg _ (by omega), Int.emod_lt_of_pos _ (by omega)⟩, ?_, ?_, ?_⟩
  · show 0 ≤ l.out - k ∧ l.out - k ≤ l.window ∧ l.out - k ≤ ((l.l.drop k.toNat).length : Int)
    rw [List.length_drop]; omega
  · show ((l.l.drop k.toNat).length : Int) ≤ l.out - k + l.queue
    rw [List.length_drop]; omega
  · intro b hb
    exact h.small b (List.mem_of_mem_drop hb)
theorem cut_eq {n lo hi : Int} (h : lo ≤ hi) : signalmanref1_Cut.f n lo hi = some (imax lo (imin n hi)) := by
  unfold signalmanref1_Cut.f imax imin
  by_cases h1 : n < lo
  · rw [if_pos h1]; congr 1; repeat' split
    all_goals omega
  · rw [if_neg h1]
    by_cases h2 : n > hi
    · rw [if_pos h2]; congr 1; repeat' split
      all_goals omega
    · rw [if_neg h2]; congr 1; repeat' split
      all_goals omega
theorem refmod_eq {n m : Int} (hn : 0 ≤ n ∧ n ≤ 1000000000) (hm : 1 ≤ m ∧ m ≤ 1073741824) : signalmanref1_Mod.f n m = some (n % m) := by
  unfold signalmanref1_Mod.f
  have e : imax 1 (imin m 1073741824) = m := by unfold imax imin; repeat' split; all_goals omega
  have hge := Int.emod_nonneg n (show m ≠ 0 by omega)
  rw [cut_eq (by omega), bsome, e, if_pos (by omega), Int.tmod_eq_emod_of_nonneg hn.1, if_neg (by omega)]
theorem refnext_eq {n m : Int} (hn : 0 ≤ n ∧ n < m) (hm : 1 ≤ m ∧ m ≤ 100000) : signalmanref1_Next.f n m = some ((n + 1) % m) := by
  unfold signalmanref1_Next.f
  rw [refmod_eq ⟨hn.1, by omega⟩ ⟨hm.1, by omega⟩, bsome, Int.emod_eq_of_lt hn.1 hn.2, w64_in ⟨by omega, by omega⟩, refmod_eq ⟨by omega, by omega⟩ ⟨hm.1, by omega⟩, bsome]
theorem same_l0 (xs : List Int) (hl : xs.length ≤ 1000000) : ∀ (d i k : Nat), i + d = xs.length → d + 1 ≤ k → signalmanref6_SameInts.l0 k xs xs i = some true
  | 0, i, k, hi, hk => by
    obtain ⟨k, rfl⟩ : ∃ j, k = j + 1 := ⟨k - 1, by omega⟩
    rw [signalmanref6_SameInts.l0, if_neg (by omega)]
  | d + 1, i, k, hi, hk => by
    obtain ⟨k, rfl⟩ : ∃ j, k = j + 1 := ⟨k - 1, by omega⟩
    rw [signalmanref6_SameInts.l0, if_pos (by omega), if_pos ⟨by omega, by omega⟩, if_pos ⟨by omega, by omega⟩, if_pos rfl, w64_in ⟨by omega, by omega⟩]
    exact same_l0 xs hl d (i + 1) k (by omega) (by omega)
theorem same_eq {xs : List Int} {k : Nat} (hk : xs.length + 1 ≤ k) (hl : xs.length ≤ 1000000) : signalmanref6_SameInts.f k xs xs = some true := by
  unfold signalmanref6_SameInts.f
  rw [if_pos rfl]
  exact same_l0 xs hl xs.length 0 k (by omega) hk
/-- Messages of numbers from one on. -/
def mk (f m : Int) : Nat → List (List Int) → List signalmanref6_message
  | _, [] => []
  | i, b :: bs => { n := (f + (i : Int)) % m, b := b } :: mk f m (i + 1) bs
theorem mk_len (f m : Int) : ∀ (bs : List (List Int)) (i : Nat), (mk f m i bs).length = bs.length
  | [], _ => rfl
  | _ :: bs, i => by simp [mk, mk_len f m bs]
theorem mk_snoc (f m : Int) (b : List Int) : ∀ (bs : List (List Int)) (i : Nat), mk f m i (bs ++ [b]) = mk f m i bs ++ [{ n := (f + ((i + bs.length : Nat) : Int)) % m, b := b }]
  | [], i => by simp [mk]
  | c :: bs, i => by
    simp only [List.cons_append, mk, mk_snoc f m b bs (i + 1), List.length_cons]
    rw [show i + 1 + bs.length = i + (bs.length + 1) by omega]
theorem mk_drop (f m : Int) : ∀ (k : Nat) (bs : List (List Int)) (i : Nat), (mk f m i bs).drop k = mk f m (i + k) (bs.drop k)
  | 0, _, _ => rfl
  | k + 1, [], i => by simp [mk]
  | k + 1, b :: bs, i => by
    simp only [mk, List.drop_succ_cons]
    rw [mk_drop f m k bs (i + 1), show i + 1 + k = i + (k + 1) by omega]
theorem mk_shift (f m : Int) (k : Nat) : ∀ (bs : List (List Int)) (i : Nat), mk f m (i + k) bs = mk ((f + (k : Int)) % m) m i bs
  | [], _ => rfl
  | b :: bs, i => by
    simp only [mk]
    rw [show i + k + 1 = i + 1 + k by omega, mk_shift f m k bs (i + 1), Int.emod_add_emod]
    congr 3; omega
theorem mk_get (f m : Int) : ∀ (bs : List (List Int)) (i j : Nat), j < bs.length → (mk f m i bs).getD j default = { n := (f + ((i + j : Nat) : Int)) % m, b := bs.getD j [] }
  | [], _, _, h => by simp at h
  | b :: bs, i, 0, _ => by simp [mk]
  | b :: bs, i, j + 1, h => by
    have := mk_get f m bs (i + 1) j (by simpa using h)
    simp only [mk, List.getD_cons_succ]
    rw [this, show i + 1 + j = i + (j + 1) by omega]
theorem mk_ns (f m : Int) : ∀ (bs : List (List Int)) (i : Nat), (mk f m i bs).map (·.n) = (List.range' i bs.length).map fun (j : Nat) => (f + (j : Int)) % m
  | [], _ => rfl
  | b :: bs, i => by simp [mk, mk_ns f m bs (i + 1), List.range'_succ]
/-- The two stand alike. -/
structure Rel (l : backlog_Log) (s : signalmanref6_Log) : Prop where
  bi : BI l
  win8 : l.window ≤ l.m / 8
  m : s.m = l.m
  win : s.window = l.window
  que : s.queue = l.queue
  out : s.out = mk l.first l.m 0 (l.l.take l.out.toNat)
  wait : s.wait = l.l.drop l.out.toNat
  next : s.next = (l.first + l.out) % l.m
theorem Rel.outlen {l : backlog_Log} {s : signalmanref6_Log} (h : Rel l s) : (s.out.length : Int) = l.out := by
  have ho := h.bi.out
  rw [h.out, mk_len, List.length_take]; omega
theorem Rel.waitlen {l : backlog_Log} {s : signalmanref6_Log} (h : Rel l s) : (s.wait.length : Int) = (l.l.length : Int) - l.out := by
  have ho := h.bi.out
  rw [h.wait, List.length_drop]; omega
theorem rel_add {l : backlog_Log} {s : signalmanref6_Log} (h : Rel l s) {b : List Int} (hb : b.length ≤ 1000000) :
    ∃ e l' s', backlog_Log_Add.f l b = some (e, l') ∧ signalmanref6_Log_Add.f s b = some (e, s') ∧ Rel l' s' := by
  have ho := h.bi.out
  have hw := h.waitlen
  have hq := h.que
  have hwa := h.bi.wait
  have hqq := h.bi.que
  unfold signalmanref6_Log_Add.f
  by_cases hf : (l.l.length : Int) - l.out ≥ l.queue
  · rw [if_pos (by omega)]
    exact ⟨_, _, _, add_no h.bi b hf, rfl, h⟩
  · rw [if_neg (by omega), if_pos (by simp; omega), if_pos (by simp only [List.length_cons, List.length_nil]; omega), List.nil_append]
    refine ⟨_, _, _, add_yes h.bi (by omega) hb, rfl, add_bi h.bi (by omega) hb, h.win8, h.m, h.win, h.que, ?_, ?_, h.next⟩
    · show s.out = mk l.first l.m 0 ((l.l ++ [b]).take l.out.toNat)
      rw [List.take_append_of_le_length (by omega)]; exact h.out
    · show s.wait ++ [b] = (l.l ++ [b]).drop l.out.toNat
      rw [List.drop_append_of_le_length (by omega), h.wait]
theorem rel_next {l : backlog_Log} {s : signalmanref6_Log} (h : Rel l s) :
    ∃ a b c l' s', backlog_Log_Next.f l = some (a, b, c, l') ∧ signalmanref6_Log_Next.f s = some (a, b, c, s') ∧ Rel l' s' := by
  have hm := h.bi.m
  have ho := h.bi.out
  have hw := h.waitlen
  have hol := h.outlen
  have hwi := h.win
  have hwin := h.bi.win
  have hwa := h.bi.wait
  have hqq := h.bi.que
  have hnx := h.next
  unfold signalmanref6_Log_Next.f signalmanref6_Log_Next.j0
  by_cases h1 : l.out = (l.l.length : Int)
  · rw [if_pos (show (s.wait.length : Int) = 0 by omega), if_pos rfl]
    exact ⟨_, _, _, _, _, next_no (.inl h1), rfl, h⟩
  · rw [if_neg (show ¬ (s.wait.length : Int) = 0 by omega)]
    by_cases h2 : l.out = l.window
    · rw [if_pos (show decide ((s.out.length : Int) ≥ s.window) = true by simp; omega)]
      exact ⟨_, _, _, _, _, next_no (.inr h2), rfl, h⟩
    · have hlt : l.out.toNat < l.l.length := by omega
      have hd : l.l.drop l.out.toNat = l.l[l.out.toNat] :: l.l.drop (l.out.toNat + 1) := List.drop_eq_getElem_cons hlt
      have hg : l.l.getD l.out.toNat [] = l.l[l.out.toNat] := by simp [List.getD, hlt]
      have hsm := h.bi.small _ (List.getElem_mem hlt)
      have hwt : s.wait.getD ((0 : Int)).toNat [] = l.l[l.out.toNat] := by rw [h.wait, hd]; rfl
      have hcu : cut s.wait 1 (s.wait.length : Int) = l.l.drop (l.out.toNat + 1) := by
        rw [h.wait, hd]; simp [cut]; exact List.take_of_length_le (by simp; omega)
      have hnn := Int.emod_nonneg (l.first + l.out) (show l.m ≠ 0 by omega)
      have hnl := Int.emod_lt_of_pos (l.first + l.out) (show 0 < l.m by omega)
      rw [if_neg (show ¬ decide ((s.out.length : Int) ≥ s.window) = true by simp; omega), if_pos ⟨by omega, by omega⟩, if_pos ⟨by omega, by omega, by omega⟩, hcu, hwt,
        if_pos (by rw [List.length_drop]; simp; omega), if_pos (by simp only [List.length_cons, List.length_nil]; omega), h.m, hnx, refnext_eq ⟨hnn, hnl⟩ ⟨by omega, by omega⟩, bsome, if_pos (by simp; omega), List.nil_append, List.nil_append]
      refine ⟨_, _, _, _, { m := l.m, window := s.window, queue := s.queue, next := ((l.first + l.out) % l.m + 1) % l.m, out := s.out ++ [{ n := (l.first + l.out) % l.m, b := l.l[l.out.toNat] }], wait := l.l.drop (l.out.toNat + 1) }, next_yes h.bi (by omega) (by omega), by rw [hg], out_bi h.bi (by omega) (by omega), h.win8, rfl, h.win, h.que, ?_, ?_, ?_⟩
      · show s.out ++ [_] = mk l.first l.m 0 (l.l.take (l.out + 1).toNat)
        rw [show (l.out + 1).toNat = l.out.toNat + 1 by omega, List.take_succ_eq_append_getElem hlt, mk_snoc, h.out, List.length_take, Nat.min_eq_left (by omega)]
        congr 4; omega
      · show l.l.drop (l.out.toNat + 1) = l.l.drop (l.out + 1).toNat
        rw [show (l.out + 1).toNat = l.out.toNat + 1 by omega]
      · show ((l.first + l.out) % l.m + 1) % l.m = (l.first + (l.out + 1)) % l.m
        rw [Int.emod_add_emod]; congr 1; omega
theorem mod_eq_iff {f i n m : Int} (hm : 0 < m) (hn : 0 ≤ n ∧ n < m) (hi : 0 ≤ i ∧ i < m) : (f + i) % m = n ↔ (n - f) % m = i := by
  constructor
  · intro e
    rw [← e, Int.sub_emod, Int.emod_emod, ← Int.sub_emod, show f + i - f = i by omega, Int.emod_eq_of_lt hi.1 hi.2]
  · intro e
    rw [← e, Int.add_comm, Int.emod_add_emod, show n - f + f = n by omega, Int.emod_eq_of_lt hn.1 hn.2]
theorem ack_step {l : backlog_Log} {s : signalmanref6_Log} (h : Rel l s) (n : Int) (i : Nat) (hi : (i : Int) ≤ l.out) (k : Nat) :
    signalmanref6_Log_Ack.l0 (k + 1) s n i = if (l.first + (i : Int)) % l.m = n then some ((i : Int), true, { m := s.m, window := s.window, queue := s.queue, next := s.next, out := s.out.drop i, wait := s.wait }) else signalmanref6_Log_Ack.l0 k s n ((i + 1 : Nat) : Int) := by
  have ho := h.bi.out
  have hwi := h.bi.win
  have hol := h.outlen
  have hsl : s.out.length ≤ 4096 := by omega
  have hj : ∀ (x : Int) (L : Int → Option (Int × Bool × signalmanref6_Log)), signalmanref6_Log_Ack.j1 s n i L x = if x = n then some ((i : Int), true, { m := s.m, window := s.window, queue := s.queue, next := s.next, out := s.out.drop i, wait := s.wait }) else L ((i + 1 : Nat) : Int) := by
    intro x L
    unfold signalmanref6_Log_Ack.j1
    have hc : cut s.out ((i : Nat) : Int) (s.out.length : Int) = s.out.drop i := by simp [cut]; exact List.take_of_length_le (by simp)
    rw [if_pos (show 0 ≤ (i : Int) ∧ (i : Int) ≤ (s.out.length : Int) ∧ (s.out.length : Int) ≤ (s.out.length : Int) from ⟨by omega, by omega, by omega⟩), hc, if_pos (show ((([] : List signalmanref6_message).length : Int) + ((s.out.drop i).length : Int) ≤ 1099511627776) by rw [List.length_drop]; simp; omega), List.nil_append, w64_in ⟨by omega, by omega⟩]; rfl
  rw [signalmanref6_Log_Ack.l0, if_pos (by omega)]
  by_cases hlt : (i : Int) < (s.out.length : Int)
  · have hx : (s.out.getD ((i : Nat) : Int).toNat default).n = (l.first + (i : Int)) % l.m := by
      rw [Int.toNat_natCast, h.out, mk_get _ _ _ _ _ (by rw [List.length_take]; omega)]
      simp
    rw [if_pos hlt, if_pos ⟨by omega, hlt⟩, hj, hx]
  · have hio : (i : Int) = l.out := by omega
    rw [if_neg hlt, hj, h.next, hio]
theorem ack_end {l : backlog_Log} {s : signalmanref6_Log} (h : Rel l s) (n : Int) (i : Nat) (hi : l.out < (i : Int)) (k : Nat) : signalmanref6_Log_Ack.l0 (k + 1) s n i = some (0, false, s) := by
  have hol := h.outlen
  rw [signalmanref6_Log_Ack.l0, if_neg (by omega)]
theorem ack_none {l : backlog_Log} {s : signalmanref6_Log} (h : Rel l s) (n : Int) (hno : ∀ j : Nat, (j : Int) ≤ l.out → (l.first + (j : Int)) % l.m ≠ n) : ∀ (d i k : Nat), (i : Int) + d = l.out + 1 → d + 1 ≤ k → signalmanref6_Log_Ack.l0 k s n i = some (0, false, s)
  | 0, i, k, hi, hk => by
    obtain ⟨k, rfl⟩ : ∃ j, k = j + 1 := ⟨k - 1, by omega⟩
    exact ack_end h n i (by omega) k
  | d + 1, i, k, hi, hk => by
    obtain ⟨k, rfl⟩ : ∃ j, k = j + 1 := ⟨k - 1, by omega⟩
    rw [ack_step h n i (by omega), if_neg (hno i (by omega))]
    exact ack_none h n hno d (i + 1) k (by omega) (by omega)
theorem ack_some {l : backlog_Log} {s : signalmanref6_Log} (h : Rel l s) (n : Int) (e : Nat) (he : (e : Int) ≤ l.out) (hyes : (l.first + (e : Int)) % l.m = n) (hno : ∀ j : Nat, j < e → (l.first + (j : Int)) % l.m ≠ n) : ∀ (d i k : Nat), i + d = e → d + 1 ≤ k →
    signalmanref6_Log_Ack.l0 k s n i = some ((e : Int), true, { m := s.m, window := s.window, queue := s.queue, next := s.next, out := s.out.drop e, wait := s.wait })
  | 0, i, k, hi, hk => by
    obtain ⟨k, rfl⟩ : ∃ j, k = j + 1 := ⟨k - 1, by omega⟩
    have : i = e := by omega
    subst this
    rw [ack_step h n i he, if_pos hyes]
  | d + 1, i, k, hi, hk => by
    obtain ⟨k, rfl⟩ : ∃ j, k = j + 1 := ⟨k - 1, by omega⟩
    rw [ack_step h n i (by omega), if_neg (hno i (by omega))]
    exact ack_some h n e he hyes hno d (i + 1) k (by omega) (by omega)
theorem rel_ack {l : backlog_Log} {s : signalmanref6_Log} (h : Rel l s) {n : Int} (hn : -9223372036854775808 ≤ n ∧ n ≤ 9223372036854775807) {k : Nat} (hk : 5000 ≤ k) :
    ∃ a c l' s', backlog_Log_Ack.f l n = some (a, c, l') ∧ signalmanref6_Log_Ack.f k s n = some (a, c, s') ∧ Rel l' s' := by
  have hm := h.bi.m
  have ho := h.bi.out
  have hwin := h.bi.win
  have hw8 := h.win8
  have hf := h.bi.first
  unfold signalmanref6_Log_Ack.f
  by_cases hx : n < 0 ∨ l.m ≤ n ∨ l.out < (n - l.first) % l.m
  · refine ⟨_, _, _, _, ack_no h.bi hn hx, ack_none h n (fun j hj e => ?_) (l.out + 1).toNat 0 k (by omega) (by omega), h⟩
    have h1 := Int.emod_nonneg (l.first + (j : Int)) (show l.m ≠ 0 by omega)
    have h2 := Int.emod_lt_of_pos (l.first + (j : Int)) (show 0 < l.m by omega)
    have h3 := (mod_eq_iff (show 0 < l.m by omega) ⟨by omega, by omega⟩ ⟨by omega, by omega⟩).1 e
    omega
  · have h1 := Int.emod_nonneg (n - l.first) (show l.m ≠ 0 by omega)
    obtain ⟨e, he⟩ : ∃ e : Nat, (n - l.first) % l.m = (e : Int) := ⟨((n - l.first) % l.m).toNat, by omega⟩
    have hy := (mod_eq_iff (f := l.first) (i := (e : Int)) (n := n) (show 0 < l.m by omega) ⟨by omega, by omega⟩ ⟨by omega, by omega⟩).2 he
    have hr := ack_some h n e (by omega) hy (fun j hj e' => by
      have h3 := (mod_eq_iff (f := l.first) (i := (j : Int)) (n := n) (show 0 < l.m by omega) ⟨by omega, by omega⟩ ⟨by omega, by omega⟩).1 e'
      omega) e 0 k (by omega) (by omega)
    have ha := ack_yes h.bi (n := n) ⟨by omega, by omega⟩ (by omega)
    rw [he] at ha
    refine ⟨_, _, _, { m := s.m, window := s.window, queue := s.queue, next := s.next, out := s.out.drop e, wait := s.wait }, ha, hr, ack_bi h.bi ⟨by omega, by omega⟩, hw8, h.m, h.win, h.que, ?_, ?_, ?_⟩
    · show s.out.drop e = mk ((l.first + (e : Int)) % l.m) l.m 0 ((l.l.drop (e : Int).toNat).take (l.out - (e : Int)).toNat)
      rw [h.out, mk_drop, mk_shift, Int.toNat_natCast, List.drop_take, show (l.out - (e : Int)).toNat = l.out.toNat - e by omega]
    · show s.wait = (l.l.drop (e : Int).toNat).drop (l.out - (e : Int)).toNat
      rw [h.wait, List.drop_drop]; congr 1; omega
    · show s.next = ((l.first + (e : Int)) % l.m + (l.out - (e : Int))) % l.m
      rw [h.next, Int.emod_add_emod]; congr 1; omega
theorem rel_body {l : backlog_Log} {s : signalmanref6_Log} (h : Rel l s) {n : Int} (hn : -9223372036854775808 ≤ n ∧ n ≤ 9223372036854775807) {k : Nat} (hk : 5000 ≤ k) :
    ∃ a c, backlog_Log_Body.f l n = some (a, c) ∧ signalmanref6_Log_Body.f k s n = some (a, c) := by
  have hm := h.bi.m
  have ho := h.bi.out
  have hwin := h.bi.win
  have hw8 := h.win8
  have hf := h.bi.first
  have hol := h.outlen
  have hbody : ∀ (i : Nat) (j : Nat), (i : Int) < l.out → signalmanref6_Log_Body.l0 (j + 1) s n i = if (l.first + (i : Int)) % l.m = n then some (l.l.getD i [], true) else signalmanref6_Log_Body.l0 j s n ((i + 1 : Nat) : Int) := by
    intro i j hi
    have hx : s.out.getD ((i : Nat) : Int).toNat default = { n := (l.first + (i : Int)) % l.m, b := l.l.getD i [] } := by
      rw [Int.toNat_natCast, h.out, mk_get _ _ _ _ _ (by rw [List.length_take]; omega)]
      have : (l.l.take l.out.toNat).getD i [] = l.l.getD i [] := by
        simp [List.getD, List.getElem?_take, show i < l.out.toNat by omega]
      rw [this]; simp
    have hsm : (l.l.getD i []).length ≤ 1000000 := by
      have hlt : i < l.l.length := by omega
      have e : l.l.getD i [] = l.l[i] := by simp [List.getD, hlt]
      rw [e]; exact h.bi.small _ (List.getElem_mem hlt)
    rw [signalmanref6_Log_Body.l0, if_pos (by omega), if_pos ⟨by omega, by omega⟩, hx]
    dsimp only
    rw [if_pos (show ((([] : List Int).length : Int) + ((l.l.getD i []).length : Int) ≤ 1099511627776) by rw [show (([] : List Int).length : Int) = 0 from rfl]; omega), List.nil_append, w64_in ⟨by omega, by omega⟩]; rfl
  have hend : ∀ j : Nat, signalmanref6_Log_Body.l0 (j + 1) s n l.out = some ([], false) := by
    intro j
    rw [signalmanref6_Log_Body.l0, if_neg (by omega)]
  have hnone : (∀ j : Nat, (j : Int) < l.out → (l.first + (j : Int)) % l.m ≠ n) → ∀ (d i j : Nat), (i : Int) + d = l.out → d + 1 ≤ j → signalmanref6_Log_Body.l0 j s n i = some ([], false) := by
    intro hno d
    induction d with
    | zero =>
      intro i j hi hj
      obtain ⟨j, rfl⟩ : ∃ q, j = q + 1 := ⟨j - 1, by omega⟩
      rw [show (i : Int) = l.out by omega]; exact hend j
    | succ d ih =>
      intro i j hi hj
      obtain ⟨j, rfl⟩ : ∃ q, j = q + 1 := ⟨j - 1, by omega⟩
      rw [hbody i j (by omega), if_neg (hno i (by omega))]
      exact ih (i + 1) j (by omega) (by omega)
  have hsome : ∀ e : Nat, (e : Int) < l.out → (l.first + (e : Int)) % l.m = n → (∀ j : Nat, j < e → (l.first + (j : Int)) % l.m ≠ n) → ∀ (d i j : Nat), i + d = e → d + 1 ≤ j → signalmanref6_Log_Body.l0 j s n i = some (l.l.getD e [], true) := by
    intro e he hy hno d
    induction d with
    | zero =>
      intro i j hi hj
      obtain ⟨j, rfl⟩ : ∃ q, j = q + 1 := ⟨j - 1, by omega⟩
      have : i = e := by omega
      subst this
      rw [hbody i j he, if_pos hy]
    | succ d ih =>
      intro i j hi hj
      obtain ⟨j, rfl⟩ : ∃ q, j = q + 1 := ⟨j - 1, by omega⟩
      rw [hbody i j (by omega), if_neg (hno i (by omega))]
      exact ih (i + 1) j (by omega) (by omega)
  unfold signalmanref6_Log_Body.f backlog_Log_Body.f backlog_Log_Body.j0
  rw [dist_eq ⟨by omega, by omega⟩ hn ⟨by omega, by omega⟩, bsome]
  by_cases hx : n < 0 ∨ l.m ≤ n ∨ l.out ≤ (n - l.first) % l.m
  · refine ⟨[], false, ?_, hnone (fun j hj e => ?_) l.out.toNat 0 k (by omega) (by omega)⟩
    · by_cases c1 : n < 0
      · rw [if_pos c1]; rfl
      · rw [if_neg c1]
        by_cases c2 : n ≥ l.m
        · rw [if_pos c2]; rfl
        · rw [if_neg c2, if_pos (by simp; omega)]
    · have h1 := Int.emod_nonneg (l.first + (j : Int)) (show l.m ≠ 0 by omega)
      have h2 := Int.emod_lt_of_pos (l.first + (j : Int)) (show 0 < l.m by omega)
      have h3 := (mod_eq_iff (show 0 < l.m by omega) ⟨by omega, by omega⟩ ⟨by omega, by omega⟩).1 e
      omega
  · have h1 := Int.emod_nonneg (n - l.first) (show l.m ≠ 0 by omega)
    obtain ⟨e, he⟩ : ∃ e : Nat, (n - l.first) % l.m = (e : Int) := ⟨((n - l.first) % l.m).toNat, by omega⟩
    have hy := (mod_eq_iff (f := l.first) (i := (e : Int)) (n := n) (show 0 < l.m by omega) ⟨by omega, by omega⟩ ⟨by omega, by omega⟩).2 he
    have hr := hsome e (by omega) hy (fun j hj e' => by
      have h3 := (mod_eq_iff (f := l.first) (i := (j : Int)) (n := n) (show 0 < l.m by omega) ⟨by omega, by omega⟩ ⟨by omega, by omega⟩).1 e'
      omega) e 0 k (by omega) (by omega)
    have hsm : (l.l.getD e []).length ≤ 1000000 := by
      have hlt : e < l.l.length := by omega
      have q : l.l.getD e [] = l.l[e] := by simp [List.getD, hlt]
      rw [q]; exact h.bi.small _ (List.getElem_mem hlt)
    refine ⟨_, _, ?_, hr⟩
    rw [if_neg (show ¬ n < 0 by omega), if_neg (show ¬ n ≥ l.m by omega), he, if_neg (by simp; omega), if_pos ⟨by omega, by omega⟩, Int.toNat_natCast, clone_eq (by omega), bsome]
theorem refout_l0 {l : backlog_Log} {s : signalmanref6_Log} (h : Rel l s) : ∀ (d i : Nat) (k : Nat) (xs : List Int), (i : Int) + d = l.out → xs.length = i → d + 1 ≤ k → signalmanref6_Log_Out.l0 k s i xs = some (xs ++ (List.range' i d).map fun (i : Nat) => (l.first + (i : Int)) % l.m)
  | 0, i, k, xs, hi, hx, hk => by
    obtain ⟨k, rfl⟩ : ∃ j, k = j + 1 := ⟨k - 1, by omega⟩
    have hol := h.outlen
    rw [signalmanref6_Log_Out.l0, if_neg (by omega)]; simp
  | d + 1, i, k, xs, hi, hx, hk => by
    obtain ⟨k, rfl⟩ : ∃ j, k = j + 1 := ⟨k - 1, by omega⟩
    have ho := h.bi.out
    have hw := h.bi.win
    have hol := h.outlen
    have hxx : (s.out.getD ((i : Nat) : Int).toNat default).n = (l.first + (i : Int)) % l.m := by
      rw [Int.toNat_natCast, h.out, mk_get _ _ _ _ _ (by rw [List.length_take]; omega)]
      simp
    rw [signalmanref6_Log_Out.l0, if_pos (by omega), if_pos ⟨by omega, by omega⟩, hxx, if_pos (by simp only [List.length_cons, List.length_nil]; omega), w64_in ⟨by omega, by omega⟩]
    have := refout_l0 h d (i + 1) k (xs ++ [(l.first + (i : Int)) % l.m]) (by omega) (by simp [hx]) (by omega)
    rw [show ((i : Nat) : Int) + 1 = ((i + 1 : Nat) : Int) by omega, this, List.range'_succ]; simp
theorem refout_eq {l : backlog_Log} {s : signalmanref6_Log} (h : Rel l s) {k : Nat} (hk : 5000 ≤ k) : signalmanref6_Log_Out.f k s = some (outs l) := by
  have ho := h.bi.out
  have hw := h.bi.win
  unfold signalmanref6_Log_Out.f outs
  have := refout_l0 h l.out.toNat 0 k [] (by omega) rfl (by omega)
  rw [List.range_eq_range']; simpa using this
theorem reflen_eq {l : backlog_Log} {s : signalmanref6_Log} (h : Rel l s) : signalmanref6_Log_Len.f s = some (l.l.length : Int) := by
  have ho := h.bi.out
  have hw := h.bi.win
  have hq := h.bi.que
  have hwa := h.bi.wait
  unfold signalmanref6_Log_Len.f
  rw [h.outlen, h.waitlen, show l.out + ((l.l.length : Int) - l.out) = (l.l.length : Int) by omega, w64_in ⟨by omega, by omega⟩]
theorem rel_clear {l : backlog_Log} {s : signalmanref6_Log} (h : Rel l s) : ∃ n l' s', backlog_Log_Clear.f l = some (n, l') ∧ signalmanref6_Log_Clear.f s = some (n, s') ∧ Rel l' s' := by
  have hm := h.bi.m
  have hw := h.bi.win
  have hq := h.bi.que
  unfold backlog_Log_Clear.f signalmanref6_Log_Clear.f
  rw [reflen_eq h, bsome]
  refine ⟨_, _, { m := s.m, window := s.window, queue := s.queue, next := 0, out := [], wait := [] }, rfl, rfl, ⟨hm, hw, hq, by show 0 ≤ (0 : Int) ∧ 0 < l.m; omega, by show 0 ≤ (0 : Int) ∧ 0 ≤ l.window ∧ (0 : Int) ≤ _; simp; omega, by simp; omega, by simp⟩, h.win8, h.m, h.win, h.que, rfl, rfl, ?_⟩
  show (0 : Int) = (0 + 0) % l.m
  simp
theorem j2_eq {l : backlog_Log} {s : signalmanref6_Log} (h : Rel l s) (a : Int) (b : List Int) (c : Bool) (o : backlog_Log) (i : Nat) (hi : i ≤ 1000) (Lq : Int → signalmanref6_Log → backlog_Log → backlog_Log → Option Bool) {k : Nat} (hk : 5000 ≤ k) :
    signalmanlaw13_BacklogPlays.j2 k i (a, b, c, o) Lq s l = Lq ((i + 1 : Nat) : Int) s o l := by
  have ho := h.bi.out
  have hw := h.bi.win
  unfold signalmanlaw13_BacklogPlays.j2 backlog_Log_Len.f
  rw [out_eq h.bi hk, bsome, refout_eq h hk, bsome, same_eq (by rw [outs_len]; omega) (by rw [outs_len]; omega), bsome, if_pos rfl, bsome, reflen_eq h, bsome, if_pos rfl, w64_in ⟨by omega, by omega⟩]; rfl
theorem l1_eq {acts : List signalmanlaw13_Act} (h100 : acts.length ≤ 100) (hN : ∀ a ∈ acts, -9223372036854775808 ≤ a.N ∧ a.N ≤ 9223372036854775807) : ∀ (d i : Nat) (s : signalmanref6_Log) (o l : backlog_Log) (k : Nat), i + d = acts.length → Rel l s → BI o → 5010 + d ≤ k → signalmanlaw13_BacklogPlays.l1 k acts i s o l = some true
  | 0, i, s, o, l, k, hi, h, ho, hk => by
    obtain ⟨k, rfl⟩ : ∃ j, k = j + 1 := ⟨k - 1, by omega⟩
    rw [signalmanlaw13_BacklogPlays.l1, if_neg (by omega)]
  | d + 1, i, s, o, l, k, hi, h, ho, hk => by
    obtain ⟨k, rfl⟩ : ∃ j, k = j + 1 := ⟨k - 1, by omega⟩
    have hlt : i < acts.length := by omega
    have hg : acts.getD ((i : Nat) : Int).toNat default = acts[i] := by simp [List.getD, hlt]
    have hNi := hN _ (List.getElem_mem hlt)
    rw [signalmanlaw13_BacklogPlays.l1, if_pos (by omega), if_pos ⟨by omega, by omega⟩, hg]
    generalize acts[i] = a at *
    by_cases hb : (a.B.length : Int) > 60
    · rw [if_pos hb]
    rw [if_neg hb]
    obtain ⟨e0, o1, q1, hB1⟩ : ∃ e o', backlog_Log_Add.f o [1] = some (e, o') ∧ BI o' := by
      by_cases hx : (o.l.length : Int) - o.out ≥ o.queue
      · exact ⟨_, _, add_no ho _ hx, ho⟩
      · exact ⟨_, _, add_yes ho (by omega) (by simp), add_bi ho (by omega) (by simp)⟩
    obtain ⟨x1, x2, x3, o2, q2, hB2⟩ : ∃ x y z o', backlog_Log_Next.f o1 = some (x, y, z, o') ∧ BI o' := by
      by_cases hx : o1.out = (o1.l.length : Int) ∨ o1.out = o1.window
      · exact ⟨_, _, _, _, next_no hx, hB1⟩
      · have := hB1.out
        exact ⟨_, _, _, _, next_yes hB1 (by omega) (by omega), out_bi hB1 (by omega) (by omega)⟩
    rw [q1, bsome]
    dsimp only
    rw [q2, bsome]
    have fin : ∀ (l' : backlog_Log) (s' : signalmanref6_Log), Rel l' s' → signalmanlaw13_BacklogPlays.j2 k i (x1, x2, x3, o2) (signalmanlaw13_BacklogPlays.l1 k acts) s' l' = some true := by
      intro l' s' h'
      rw [j2_eq h' _ _ _ _ i (by omega) _ (by omega)]
      exact l1_eq h100 hN d (i + 1) s' o2 l' k (by omega) h' hB2 (by omega)
    by_cases w0 : a.Way = 0
    · rw [if_pos w0, if_pos (by simp; omega), List.nil_append]
      obtain ⟨e, l', s', e1, e2, h'⟩ := rel_add h (b := a.B) (by omega)
      rw [e1, bsome]
      unfold signalmanlaw13_num.f
      rw [bsome, e2, bsome, if_pos rfl]
      exact fin l' s' h'
    rw [if_neg w0]
    by_cases w1 : a.Way = 1
    · rw [if_pos w1]
      obtain ⟨x, y, z, l', s', e1, e2, h'⟩ := rel_next h
      rw [e1, bsome, e2, bsome, if_pos rfl]
      dsimp only
      rw [sEq_refl, if_pos rfl, if_neg (by simp)]
      exact fin l' s' h'
    rw [if_neg w1]
    by_cases w2 : a.Way = 2
    · rw [if_pos w2]
      obtain ⟨x, z, l', s', e1, e2, h'⟩ := rel_ack h hNi (k := k) (by omega)
      rw [e1, bsome, e2, bsome, if_pos rfl]
      dsimp only
      rw [if_neg (by simp)]
      exact fin l' s' h'
    rw [if_neg w2]
    by_cases w3 : a.Way = 3
    · rw [if_pos w3]
      obtain ⟨x, z, e1, e2⟩ := rel_body h hNi (k := k) (by omega)
      rw [e1, bsome, e2, bsome]
      dsimp only
      rw [sEq_refl, if_pos rfl, if_neg (by simp)]
      exact fin l s h
    rw [if_neg w3]
    by_cases w4 : a.Way = 4
    · rw [if_pos w4]
      obtain ⟨x, l', s', e1, e2, h'⟩ := rel_clear h
      rw [e1, bsome, e2, bsome, if_pos rfl]
      exact fin l' s' h'
    rw [if_neg w4]
    exact fin l s h
theorem BacklogPlays : signalmanlaw13_BacklogPlays.Pure := by
  intro m win q acts w0 w1 w2 w3 w4
  obtain ⟨K, hK⟩ : ∃ K : Nat, 6000 ≤ K := ⟨6000, Nat.le_refl _⟩
  refine ⟨K, ?_⟩
  unfold signalmanlaw13_BacklogPlays.f
  rw [alive_eq, bsome, if_pos rfl]
  unfold signalmanlaw13_BacklogPlays.j0
  by_cases c : (acts.length : Int) > 100
  · rw [if_pos (by simpa using c)]
  · rw [if_neg (by simpa using c)]
    obtain ⟨M, hM⟩ : ∃ M, M = imax 8 (imin m 32768) := ⟨_, rfl⟩
    have hMb : 8 ≤ M ∧ M ≤ 32768 := by rw [hM]; unfold imax imin; repeat' split; all_goals omega
    obtain ⟨W, hW⟩ : ∃ W, W = imax 1 (imin win (M / 8)) := ⟨_, rfl⟩
    have hWb : 1 ≤ W ∧ W ≤ M / 8 := by rw [hW]; unfold imax imin; repeat' split; all_goals omega
    obtain ⟨q', hq⟩ : ∃ q', q' = imax 0 (imin q 1000) := ⟨_, rfl⟩
    have hqb : 0 ≤ q' ∧ q' ≤ 1000 := by rw [hq]; unfold imax imin; repeat' split; all_goals omega
    have e1 : backlog_New.f m win q = some { m := M, window := W, queue := q', first := 0, out := 0, l := [] } := by
      unfold backlog_New.f backlog_Cut.f
      rw [bsome, ← hM, td8 (by omega), ← hW, ← hq]
    have e2 : signalmanref6_NewLog.f m win q = some { m := M, window := W, queue := q', next := 0, out := [], wait := [] } := by
      unfold signalmanref6_NewLog.f signalmanref6_Round.f
      rw [cut_eq (by omega), bsome, ← hM, td8 (by omega), cut_eq (by omega), bsome, ← hW, bsome, cut_eq (by omega), bsome, ← hq]
    rw [e1, bsome, new_eq (by decide) (by decide) (by decide), bsome, e2, bsome]
    refine l1_eq (by omega) (fun a ha => wf64 (w3 a ha).2.1) acts.length 0 _ _ _ K (by omega) ⟨new_bi hMb hWb hqb, hWb.2, rfl, rfl, rfl, rfl, rfl, by simp⟩ (new_bi (by decide) (by decide) (by decide)) (by omega)
end Go.Proofs.Ytdnfojgnbhcijaa

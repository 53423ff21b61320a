/- BacklogRounds: messages are sent in order, with numbers that wrap around, and never more than the window are out. Conditions: none beyond those of the given statement. -/
import Derived.Test.YtdnfojgnbhcijaaRunBacklogRounds
import Derived.KernelRfl
set_option linter.all false
namespace Go.Proofs.Ytdnfojgnbhcijaa
open Go.RowKit Go.Proofs.Ytdnfojgnbhcijaa.Walk
theorem bsome {α β : Type} (x : α) (g : α → Option β) : (some x).bind g = g x := Eq.trans (b := g x) rfl (Eq.symm rfl)
theorem u8w (x : Int) : IntKind.u8.wrap x = x % 256 := by
  simp [IntKind.wrap, IntKind.bits, IntKind.signed]
theorem i64nat {x : Int} (h0 : 0 ≤ x) (h1 : x < 9223372036854775808) : BitVec.ofInt 64 x = BitVec.ofNat 64 x.toNat := by
  apply BitVec.eq_of_toNat_eq
  simp [BitVec.toNat_ofInt]
  omega
theorem iand_nat {x y : Int} (h0 : 0 ≤ x) (h1 : x < 9223372036854775808) (h2 : 0 ≤ y) (h3 : y < 9223372036854775808) : iand .i64 x y = ((x.toNat &&& y.toNat : Nat) : Int) := by
  unfold iand
  show IntKind.i64.wrap (BitVec.ofInt 64 x &&& BitVec.ofInt 64 y).toNat = _
  rw [i64nat h0 h1, i64nat h2 h3, BitVec.toNat_and]
  simp only [BitVec.toNat_ofNat]
  rw [Nat.mod_eq_of_lt (by omega), Nat.mod_eq_of_lt (by omega)]
  have h4 : x.toNat &&& y.toNat ≤ x.toNat := Nat.and_le_left
  have := w64_in (n := ((x.toNat &&& y.toNat : Nat) : Int)) (by omega)
  exact this
theorem ior_nat {x y : Int} (h0 : 0 ≤ x) (h1 : x < 9223372036854775808) (h2 : 0 ≤ y) (h3 : y < 9223372036854775808) : ior .i64 x y = ((x.toNat ||| y.toNat : Nat) : Int) := by
  unfold ior
  show IntKind.i64.wrap (BitVec.ofInt 64 x ||| BitVec.ofInt 64 y).toNat = _
  rw [i64nat h0 h1, i64nat h2 h3, BitVec.toNat_or]
  simp only [BitVec.toNat_ofNat]
  rw [Nat.mod_eq_of_lt (by omega), Nat.mod_eq_of_lt (by omega)]
  have h4 : x.toNat ||| y.toNat < 2 ^ 63 := Nat.or_lt_two_pow (by omega) (by omega)
  have := w64_in (n := ((x.toNat ||| y.toNat : Nat) : Int)) (by omega)
  exact this
theorem iand_1 {x : Int} (h0 : 0 ≤ x) (h1 : x < 9223372036854775808) : iand .i64 x 1 = x % 2 := by
  rw [iand_nat h0 h1 (by omega) (by omega)]
  have : x.toNat &&& (1 : Int).toNat = x.toNat % 2 := Nat.and_one_is_mod _
  rw [this]; omega
theorem iand_255 {x : Int} (h0 : 0 ≤ x) (h1 : x < 9223372036854775808) : iand .i64 x 255 = x % 256 := by
  rw [iand_nat h0 h1 (by omega) (by omega)]
  have : x.toNat &&& (255 : Int).toNat = x.toNat % 256 := Nat.and_two_pow_sub_one_eq_mod _ 8
  rw [this]; omega
theorem ior_hi {x y : Int} (h0 : 0 ≤ x) (h1 : x < 256) (h2 : 0 ≤ y) (h3 : y < 36028797018963968) : ior .i64 x (y * 256) = x + 256 * y := by
  rw [ior_nat h0 (by omega) (by omega) (by omega)]
  have e : (y * 256).toNat = 2 ^ 8 * y.toNat := by omega
  have h4 := Nat.two_pow_add_eq_or_of_lt (i := 8) (b := x.toNat) (by omega) y.toNat
  rw [e, Nat.or_comm, ← h4]; omega
theorem ior_hi' {x y : Int} (h0 : 0 ≤ x) (h1 : x < 256) (h2 : 0 ≤ y) (h3 : y < 36028797018963968) : ior .i64 (y * 256) x = x + 256 * y := by
  rw [← ior_hi h0 h1 h2 h3, ior_nat (by omega) (by omega) h0 (by omega), ior_nat h0 (by omega) (by omega) (by omega), Nat.or_comm]
theorem byte_all {p : Int → Prop} (h : ∀ n : Fin 256, p (n.val : Int)) {z : Int} (h0 : 0 ≤ z) (h1 : z < 256) : p z := by
  have := h ⟨z.toNat, by omega⟩
  rwa [show ((z.toNat : Nat) : Int) = z by omega] at this
theorem wf8 {z : Int} (h : (Lit.int .u8 z).wf = true) : 0 ≤ z ∧ z < 256 := by simp [Lit.wf] at h; have := h; simp [IntKind.min, IntKind.max, IntKind.bits, IntKind.signed] at this; omega
theorem wf64 {z : Int} (h : (Lit.int .i64 z).wf = true) : -9223372036854775808 ≤ z ∧ z ≤ 9223372036854775807 := by simp [Lit.wf] at h; have := h; simp [IntKind.min, IntKind.max, IntKind.bits, IntKind.signed] at this; omega
/-- How a log stands. -/
structure BI (l : backlog_Log) : Prop where
  m : 8 ≤ l.m ∧ l.m ≤ 32768
  win : 1 ≤ l.window ∧ l.window ≤ 4096
  que : 0 ≤ l.queue ∧ l.queue ≤ 1000
  first : 0 ≤ l.first ∧ l.first < l.m
  out : 0 ≤ l.out ∧ l.out ≤ l.window ∧ l.out ≤ (l.l.length : Int)
  wait : (l.l.length : Int) ≤ l.out + l.queue
  small : ∀ b ∈ l.l, b.length ≤ 1000000
theorem clone_eq {l : List Int} (h : (l.length : Int) ≤ 1099511627776) : slices_Clone_Sbytebyte.f l = some l := by
  unfold slices_Clone_Sbytebyte.f
  rw [if_pos (by simp; omega)]; rfl
theorem number_eq {l : backlog_Log} (hm : 8 ≤ l.m ∧ l.m ≤ 32768) (hf : 0 ≤ l.first ∧ l.first < l.m) {i : Int} (hi : 0 ≤ i ∧ i ≤ 100000) : backlog_Log_number.f l i = some ((l.first + i) % l.m) := by
  unfold backlog_Log_number.f
  rw [if_pos (by omega), w64_in ⟨by omega, by omega⟩, Int.tmod_eq_emod_of_nonneg (by omega)]
def logOut (l : backlog_Log) : backlog_Log := { m := l.m, window := l.window, queue := l.queue, first := l.first, out := l.out + 1, l := l.l }
def logAdd (l : backlog_Log) (b : List Int) : backlog_Log := { m := l.m, window := l.window, queue := l.queue, first := l.first, out := l.out, l := l.l ++ [b] }
theorem next_no {l : backlog_Log} (h : l.out = (l.l.length : Int) ∨ l.out = l.window) : backlog_Log_Next.f l = some (0, [], false, l) := by
  unfold backlog_Log_Next.f backlog_Log_Next.j0
  by_cases h1 : l.out = (l.l.length : Int)
  · rw [if_pos h1]; rfl
  · rw [if_neg h1, if_pos (by simpa using h.resolve_left h1)]
theorem next_yes {l : backlog_Log} (h : BI l) (h1 : l.out < (l.l.length : Int)) (h2 : l.out < l.window) : backlog_Log_Next.f l = some ((l.first + l.out) % l.m, l.l.getD l.out.toNat [], true, logOut l) := by
  have ho := h.out
  have hw := h.win
  unfold backlog_Log_Next.f backlog_Log_Next.j0
  rw [if_neg (show ¬ l.out = (l.l.length : Int) by omega), if_neg (show ¬ decide (l.out = l.window) = true by simp; omega), if_pos ⟨ho.1, h1⟩, w64_in ⟨by omega, by omega⟩]
  rw [number_eq (l := { m := l.m, window := l.window, queue := l.queue, first := l.first, out := l.out + 1, l := l.l }) h.m h.first ⟨ho.1, by omega⟩, bsome]
  have hs : ((l.l.getD l.out.toNat []).length : Int) ≤ 1000000 := by
    have hlt : l.out.toNat < l.l.length := by omega
    have e : l.l.getD l.out.toNat [] = l.l[l.out.toNat] := by simp [List.getD, hlt]
    rw [e]; have := h.small _ (List.getElem_mem hlt); omega
  rw [clone_eq (by omega), bsome]; rfl
theorem add_no {l : backlog_Log} (h : BI l) (b : List Int) (hn : (l.l.length : Int) - l.out ≥ l.queue) : backlog_Log_Add.f l b = some (6, l) := by
  have ho := h.out
  have hw := h.wait
  have hq := h.que
  have hwi := h.win
  unfold backlog_Log_Add.f
  rw [w64_in ⟨by omega, by omega⟩, if_pos hn]
theorem add_yes {l : backlog_Log} (h : BI l) {b : List Int} (hn : (l.l.length : Int) - l.out < l.queue) (hb : b.length ≤ 1000000) : backlog_Log_Add.f l b = some (0, logAdd l b) := by
  have ho := h.out
  have hw := h.wait
  have hq := h.que
  have hwi := h.win
  unfold backlog_Log_Add.f
  rw [w64_in ⟨by omega, by omega⟩, if_neg (by omega), clone_eq (by omega), bsome, if_pos (by simp only [List.length_cons, List.length_nil]; omega)]; rfl
theorem out_bi {l : backlog_Log} (h : BI l) (h1 : l.out < (l.l.length : Int)) (h2 : l.out < l.window) : BI (logOut l) := by
  have ho := h.out
  have hw := h.wait
  exact ⟨h.m, h.win, h.que, h.first, by show 0 ≤ l.out + 1 ∧ l.out + 1 ≤ l.window ∧ l.out + 1 ≤ (l.l.length : Int); omega, by show (l.l.length : Int) ≤ l.out + 1 + l.queue; omega, h.small⟩
theorem add_bi {l : backlog_Log} (h : BI l) {b : List Int} (hn : (l.l.length : Int) - l.out < l.queue) (hb : b.length ≤ 1000000) : BI (logAdd l b) := by
  have ho := h.out
  refine ⟨h.m, h.win, h.que, h.first, ?_, ?_, ?_⟩
  · show 0 ≤ l.out ∧ l.out ≤ l.window ∧ l.out ≤ ((l.l ++ [b]).length : Int)
    rw [List.length_append]; simp; omega
  · show ((l.l ++ [b]).length : Int) ≤ l.out + l.queue
    rw [List.length_append]; simp; omega
  · intro x hx
    rcases List.mem_append.1 hx with hx | hx
    · exact h.small x hx
    · simp at hx; subst hx; exact hb
theorem td8 {x : Int} (h : 0 ≤ x ∧ x ≤ 100000) : w64 (x.tdiv 8) = x / 8 := by
  rw [Int.tdiv_eq_ediv_of_nonneg h.1, w64_in ⟨by omega, by omega⟩]
theorem new_eq {m win q : Int} (hm : 8 ≤ m ∧ m ≤ 32768) (hw : 1 ≤ win ∧ win ≤ m / 8) (hq : 0 ≤ q ∧ q ≤ 1000) : backlog_New.f m win q = some { m := m, window := win, queue := q, first := 0, out := 0, l := [] } := by
  unfold backlog_New.f backlog_Cut.f
  have e1 : imax 8 (imin m 32768) = m := by unfold imax imin; repeat' split; all_goals omega
  have e2 : imax 1 (imin win (m / 8)) = win := by unfold imax imin; repeat' split; all_goals omega
  have e3 : imax 0 (imin q 1000) = q := by unfold imax imin; repeat' split; all_goals omega
  rw [e1, td8 (by omega), e2, e3, bsome]
theorem new_bi {m win q : Int} (hm : 8 ≤ m ∧ m ≤ 32768) (hw : 1 ≤ win ∧ win ≤ m / 8) (hq : 0 ≤ q ∧ q ≤ 1000) : BI { m := m, window := win, queue := q, first := 0, out := 0, l := [] } :=
  ⟨hm, by show 1 ≤ win ∧ win ≤ 4096; omega, hq, by show 0 ≤ (0 : Int) ∧ 0 < m; omega, by show 0 ≤ (0 : Int) ∧ 0 ≤ win ∧ (0 : Int) ≤ _; simp; omega, by simp; exact hq.1, by simp⟩
theorem alive_eq : signalmanlaw13_alive.f = some true := by
  show signalmanlaw13_alive.f = some true
  kernel_rfl
/-- The numbers of those that are out. -/
def outs (l : backlog_Log) : List Int := (List.range l.out.toNat).map fun (i : Nat) => (l.first + (i : Int)) % l.m
theorem out_l0 {l : backlog_Log} (h : BI l) : ∀ (d i : Nat) (k : Nat) (xs : List Int), (i : Int) + d = l.out → xs.length = i → d + 1 ≤ k → backlog_Log_Out.l0 k l i xs = some (xs ++ (List.range' i d).map fun (i : Nat) => (l.first + (i : Int)) % l.m)
  | 0, i, k, xs, hi, hx, hk => by
    obtain ⟨k, rfl⟩ : ∃ j, k = j + 1 := ⟨k - 1, by omega⟩
    rw [backlog_Log_Out.l0, if_neg (by omega)]; simp
  | d + 1, i, k, xs, hi, hx, hk => by
    obtain ⟨k, rfl⟩ : ∃ j, k = j + 1 := ⟨k - 1, by omega⟩
    have ho := h.out
    have hw := h.win
    rw [backlog_Log_Out.l0, if_pos (by omega), number_eq h.m h.first ⟨by omega, by omega⟩, bsome, if_pos (by simp only [List.length_cons, List.length_nil]; omega), w64_in ⟨by omega, by omega⟩]
    have := out_l0 h d (i + 1) k (xs ++ [(l.first + (i : Int)) % l.m]) (by omega) (by simp [hx]) (by omega)
    rw [show ((i : Nat) : Int) + 1 = ((i + 1 : Nat) : Int) by omega, this, List.range'_succ]; simp
theorem out_eq {l : backlog_Log} (h : BI l) {k : Nat} (hk : 5000 ≤ k) : backlog_Log_Out.f k l = some (outs l) := by
  have ho := h.out
  have hw := h.win
  unfold backlog_Log_Out.f outs
  have := out_l0 h l.out.toNat 0 k [] (by omega) rfl (by omega)
  rw [List.range_eq_range']; simpa using this
theorem outs_len (l : backlog_Log) : (outs l).length = l.out.toNat := by simp [outs]
theorem round_eq {n m : Int} (hn : -1000000000000 ≤ n ∧ n ≤ 1000000000000 ∨ -9223372036854775808 ≤ n ∧ n ≤ 9223372036854775807) (hm : 1 ≤ m ∧ m ≤ 1073741824) : serial_round.f n m = some (n % m, m) := by
  unfold serial_round.f
  have e1 : imax 1 (imin m 1073741824) = m := by unfold imax imin; repeat' split; all_goals omega
  rw [e1, if_pos (by omega)]
  by_cases h0 : 0 ≤ n
  · rw [Int.tmod_eq_emod_of_nonneg h0, if_neg (by have := Int.emod_nonneg n (show m ≠ 0 by omega); omega)]
  · have hlt := Int.emod_lt_of_pos n (show 0 < m by omega)
    have hge := Int.emod_nonneg n (show m ≠ 0 by omega)
    have ht : n.tmod m = if n % m = 0 then 0 else n % m - m := by
      rw [Int.tmod_eq_emod]
      by_cases hd : m ∣ n
      · have : n % m = 0 := Int.emod_eq_zero_of_dvd hd
        simp [hd, this]
      · have : ¬ n % m = 0 := fun e => hd (Int.dvd_of_emod_eq_zero e)
        simp [hd, this, h0]; omega
    rw [ht]
    by_cases hz : n % m = 0
    · rw [if_pos hz, if_neg (by omega), hz]
    · rw [if_neg hz, if_pos (by omega), w64_in ⟨by omega, by omega⟩]
      congr 2; omega
theorem dist_eq {a b m : Int} (ha : -9223372036854775808 ≤ a ∧ a ≤ 9223372036854775807) (hb : -9223372036854775808 ≤ b ∧ b ≤ 9223372036854775807) (hm : 1 ≤ m ∧ m ≤ 1073741824) : serial_Dist.f a b m = some ((b - a) % m) := by
  unfold serial_Dist.f
  rw [round_eq (.inr ha) hm, bsome, round_eq (.inr hb) hm, bsome]
  have h1 := Int.emod_nonneg a (show m ≠ 0 by omega)
  have h2 := Int.emod_lt_of_pos a (show 0 < m by omega)
  have h3 := Int.emod_nonneg b (show m ≠ 0 by omega)
  have h4 := Int.emod_lt_of_pos b (show 0 < m by omega)
  dsimp only
  rw [w64_in ⟨by omega, by omega⟩, round_eq (.inl ⟨by omega, by omega⟩) hm, bsome]
  dsimp only
  rw [← Int.sub_emod]
theorem delete2_eq {l : List (List Int)} {m : Nat} (h : m ≤ l.length) : slices_Delete_SSbyteSbyte.f l 0 (m : Int) = some (l.drop m) := by
  unfold slices_Delete_SSbyteSbyte.f
  rw [if_pos ⟨by omega, by omega, by omega⟩]
  by_cases h0 : (0 : Int) = (m : Int)
  · rw [if_pos h0]
    have : m = 0 := by omega
    subst this; rfl
  · rw [if_neg h0, if_pos ⟨by omega, by omega, by omega⟩, if_pos ⟨by omega, by omega, by omega⟩]
    congr 1
    simp [cut]
    exact List.take_of_length_le (by simp)
def logAck (l : backlog_Log) (k : Int) : backlog_Log := { m := l.m, window := l.window, queue := l.queue, first := (l.first + k) % l.m, out := l.out - k, l := l.l.drop k.toNat }
theorem ack_no {l : backlog_Log} (h : BI l) {n : Int} (hn : -9223372036854775808 ≤ n ∧ n ≤ 9223372036854775807) (hx : n < 0 ∨ l.m ≤ n ∨ l.out < (n - l.first) % l.m) : backlog_Log_Ack.f l n = some (0, false, l) := by
  have hm := h.m
  have hf := h.first
  unfold backlog_Log_Ack.f backlog_Log_Ack.j0
  rw [dist_eq ⟨by omega, by omega⟩ hn ⟨by omega, by omega⟩, bsome]
  by_cases h1 : n < 0
  · rw [if_pos h1]; rfl
  · rw [if_neg h1]
    by_cases h2 : n ≥ l.m
    · rw [if_pos h2]; rfl
    · rw [if_neg h2, if_pos (by simp; omega)]
theorem ack_yes {l : backlog_Log} (h : BI l) {n : Int} (hn : 0 ≤ n ∧ n < l.m) (hx : (n - l.first) % l.m ≤ l.out) : backlog_Log_Ack.f l n = some ((n - l.first) % l.m, true, logAck l ((n - l.first) % l.m)) := by
  have hm := h.m
  have hf := h.first
  have ho := h.out
  have hw := h.win
  have h1 := Int.emod_nonneg (n - l.first) (show l.m ≠ 0 by omega)
  unfold backlog_Log_Ack.f backlog_Log_Ack.j0
  rw [dist_eq ⟨by omega, by omega⟩ ⟨by omega, by omega⟩ ⟨by omega, by omega⟩, bsome]
  generalize (n - l.first) % l.m = d at *
  obtain ⟨e, rfl⟩ : ∃ e : Nat, d = (e : Int) := ⟨d.toNat, by omega⟩
  rw [if_neg (by omega), if_neg (show ¬ n ≥ l.m by omega), if_neg (by simp; omega), delete2_eq (by omega), bsome, w64_in ⟨by omega, by omega⟩]
  rw [number_eq (l := { m := l.m, window := l.window, queue := l.queue, first := l.first, out := l.out - (e : Int), l := l.l.drop e }) hm hf ⟨by omega, by omega⟩, bsome]; rfl
theorem ack_bi {l : backlog_Log} (h : BI l) {k : Int} (hk : 0 ≤ k ∧ k ≤ l.out) : BI (logAck l k) := by
  have hm := h.m
  have ho := h.out
  have hw := h.wait
  refine ⟨h.m, h.win, h.que, ⟨Int.emod_nonneg _ (by omega), Int.emod_lt_of_pos _ (by omega)⟩, ?_, ?_, ?_⟩
  · show 0 ≤ l.out - k ∧ l.out - k ≤ l.window ∧ l.out - k ≤ ((l.l.drop k.toNat).length : Int)
    rw [List.length_drop]; omega
  · show ((l.l.drop k.toNat).length : Int) ≤ l.out - k + l.queue
    rw [List.length_drop]; omega
  · intro b hb
    exact h.small b (List.mem_of_mem_drop hb)
theorem iand7 (z : Int) : 0 ≤ iand .i64 z 7 ∧ iand .i64 z 7 ≤ 7 := by
  unfold iand
  show 0 ≤ IntKind.i64.wrap (BitVec.ofInt 64 z &&& BitVec.ofInt 64 7).toNat ∧ IntKind.i64.wrap (BitVec.ofInt 64 z &&& BitVec.ofInt 64 7).toNat ≤ 7
  have h : (BitVec.ofInt 64 z &&& BitVec.ofInt 64 7).toNat ≤ 7 := by
    rw [BitVec.toNat_and]
    exact Nat.and_le_right
  generalize (BitVec.ofInt 64 z &&& BitVec.ofInt 64 7).toNat = x at h
  have : w64 (x : Int) = x := w64_in ⟨by omega, by omega⟩
  show 0 ≤ w64 _ ∧ w64 _ ≤ 7
  rw [this]; omega
theorem mod_add_d {f d m : Int} (hm : 0 < m) : (f % m + d) % m = (f + d) % m := Int.emod_add_emod _ _ _
theorem mod_sub {t f m : Int} (hm : 0 < m) (h : 0 ≤ t - f ∧ t - f < m) : (t % m - f % m) % m = t - f := by
  rw [← Int.sub_emod, Int.emod_eq_of_lt h.1 h.2]
/-- How the log of this statement stands: from number first on, so many are out, so many there. -/
structure Q (l : backlog_Log) (m win first out len : Int) : Prop where
  bi : BI l
  qm : l.m = m
  qw : l.window = win
  qq : l.queue = 1
  qf : l.first = first % m
  qo : l.out = out
  ql : (l.l.length : Int) = len
theorem Q.ack {l : backlog_Log} {m win first out len to : Int} (h : Q l m win first out len) (h1 : first ≤ to ∧ to ≤ first + out) (hw : win ≤ m / 8) (h0 : 0 ≤ to) : backlog_Log_Ack.f l (to % m) = some (to - first, true, logAck l (to - first)) ∧ Q (logAck l (to - first)) m win to (out - (to - first)) (len - (to - first)) := by
  have hm := h.bi.m
  have ho := h.bi.out
  have hwi := h.bi.win
  have e1 := h.qm
  have e2 := h.qw
  have e3 := h.qo
  have e4 := h.ql
  have e5 := h.qf
  have hd : (to % m - l.first) % l.m = to - first := by rw [e1, e5]; exact mod_sub (by omega) ⟨by omega, by omega⟩
  have hlt := Int.emod_lt_of_pos to (show 0 < m by omega)
  have hge := Int.emod_nonneg to (show m ≠ 0 by omega)
  refine ⟨?_, ack_bi h.bi ⟨by omega, by omega⟩, h.qm, h.qw, h.qq, ?_, ?_, ?_⟩
  · rw [ack_yes h.bi ⟨hge, by omega⟩ (by rw [hd]; omega), hd]
  · show (l.first + (to - first)) % l.m = _
    rw [e1, e5, mod_add_d (by omega)]; congr 1; omega
  · show l.out - (to - first) = _; omega
  · show ((l.l.drop (to - first).toNat).length : Int) = _
    rw [List.length_drop]; omega
theorem j3_eq {l : backlog_Log} {m win first out : Int} (h : Q l m win first out out) (i : Nat) (hi : i ≤ 300) (hf : 0 ≤ first ∧ first + out ≤ 400) (Lq : Int → Int → Int → backlog_Log → Option Bool) {k : Nat} (hk : 5000 ≤ k) (y : Int) (b : Bool) :
    signalmanlaw13_BacklogRounds.j3 k i first Lq l (first + out) y b = Lq first (first + out) ((i + 1 : Nat) : Int) l := by
  have ho := h.bi.out
  have e3 := h.qo
  have e4 := h.ql
  unfold signalmanlaw13_BacklogRounds.j3 backlog_Log_Len.f
  rw [out_eq h.bi hk, bsome, outs_len, w64_in ⟨by omega, by omega⟩, if_pos (by omega), bsome, if_pos (by omega), w64_in ⟨by omega, by omega⟩]; congr 1
theorem l0_eq {m win n : Int} {acks : List Int} (hm : 8 ≤ m ∧ m ≤ 128) (hw : 1 ≤ win ∧ win ≤ m / 8) (hn : n ≤ 300 ∧ n ≤ acks.length) : ∀ (d i : Nat) (first : Int) (l : backlog_Log) (k : Nat), (i : Int) + d = n → 0 ≤ first → first ≤ i → Q l m win first (i - first) (i - first) → 5010 + d ≤ k →
    signalmanlaw13_BacklogRounds.l0 k m win n acks first i i l = some true
  | 0, i, first, l, k, hi, hf, hfi, h, hk => by
    obtain ⟨k, rfl⟩ : ∃ j, k = j + 1 := ⟨k - 1, by omega⟩
    rw [signalmanlaw13_BacklogRounds.l0, if_neg (by omega)]
  | d + 1, i, first, l, k, hi, hf, hfi, h, hk => by
    obtain ⟨k, rfl⟩ : ∃ j, k = j + 1 := ⟨k - 1, by omega⟩
    have ho := h.bi.out
    have e1 := h.qm
    have e2 := h.qw
    have e3 := h.qo
    have e4 := h.ql
    have e5 := h.qf
    have e6 := h.qq
    have hB := add_bi h.bi (b := [IntKind.u8.wrap (i : Int)]) (by omega) (by simp)
    have hla : ((logAdd l [IntKind.u8.wrap (i : Int)]).l.length : Int) = (i : Int) - first + 1 := by show ((l.l ++ [_]).length : Int) = _; rw [List.length_append]; simp; omega
    have QA : Q (logAdd l [IntKind.u8.wrap (i : Int)]) m win first (i - first) (i - first + 1) := ⟨hB, e1, e2, e6, e5, e3, hla⟩
    have hlast : (logAdd l [IntKind.u8.wrap (i : Int)]).l.getD (logAdd l [IntKind.u8.wrap (i : Int)]).out.toNat [] = [IntKind.u8.wrap (i : Int)] := by
      show (l.l ++ [_]).getD l.out.toNat [] = _
      have hx : l.out.toNat = l.l.length := by omega
      rw [hx]; simp [List.getD]
    have h7 := iand7 (acks.getD ((i : Nat) : Int).toNat 0)
    rw [signalmanlaw13_BacklogRounds.l0, if_pos (by omega), add_yes h.bi (by omega) (by simp), bsome]
    dsimp only
    unfold signalmanlaw13_num.f
    rw [w64_in (n := (i : Int) - first) ⟨by omega, by omega⟩, w64_in (n := (i : Int) + 1) ⟨by omega, by omega⟩]
    by_cases hc : (i : Int) - first < win
    · -- it goes out
      rw [next_yes hB (by rw [QA.ql, QA.qo]; omega) (by rw [QA.qw, QA.qo]; omega), bsome, bsome, if_pos rfl, hlast]
      dsimp only
      rw [if_neg (by simp [hc]), if_pos rfl, if_pos (by omega), QA.qf, QA.qm, QA.qo, mod_add_d (by omega), Int.tmod_eq_emod_of_nonneg (by omega), if_pos (by congr 1; omega), sEq_refl, if_pos rfl]
      have QO : Q (logOut (logAdd l [IntKind.u8.wrap (i : Int)])) m win first (i - first + 1) (i - first + 1) := ⟨out_bi hB (by rw [QA.ql, QA.qo]; omega) (by rw [QA.qw, QA.qo]; omega), e1, e2, e6, e5, by show l.out + 1 = _; omega, hla⟩
      have key : ∀ to : Int, first ≤ to → to ≤ (i : Int) + 1 → signalmanlaw13_BacklogRounds.j2 k m win first i ((first + (i - first)) % m, [IntKind.u8.wrap (i : Int)], true, logOut (logAdd l [IntKind.u8.wrap (i : Int)])) (i + 1) (signalmanlaw13_BacklogRounds.l0 k m win n acks) to = some true := by
        intro to ht1 ht2
        obtain ⟨ha, hq⟩ := QO.ack (to := to) ⟨ht1, by omega⟩ hw.2 (by omega)
        unfold signalmanlaw13_BacklogRounds.j2
        dsimp only
        rw [if_pos (by omega), Int.tmod_eq_emod_of_nonneg (by omega), ha, bsome, if_pos rfl, w64_in ⟨by omega, by omega⟩, if_pos rfl, if_pos rfl]
        have hq' : Q (logAck (logOut (logAdd l [IntKind.u8.wrap (i : Int)])) (to - first)) m win to ((i : Int) + 1 - to) ((i : Int) + 1 - to) := by
          have e : (i : Int) - first + 1 - (to - first) = (i : Int) + 1 - to := by omega
          rw [e] at hq; exact hq
        have h3 := j3_eq hq' i (by omega) ⟨by omega, by omega⟩ (signalmanlaw13_BacklogRounds.l0 k m win n acks) (k := k) (by omega) (to - first) (!(decide (to - first = to - first)))
        rw [show to + ((i : Int) + 1 - to) = (i : Int) + 1 by omega] at h3
        dsimp only at h3 ⊢
        rw [h3, show ((i : Int) + 1) = ((i + 1 : Nat) : Int) by omega]
        exact l0_eq hm hw hn d (i + 1) to _ k (by omega) (by omega) (by omega) (by rw [show ((i + 1 : Nat) : Int) - to = (i : Int) + 1 - to by omega]; exact hq') (by omega)
      unfold signalmanlaw13_BacklogRounds.j1
      rw [if_pos ⟨by omega, by omega⟩, w64_in ⟨by omega, by omega⟩]
      by_cases ht : first + iand .i64 (acks.getD ((i : Nat) : Int).toNat 0) 7 > (i : Int) + 1
      · rw [if_pos ht]; exact key _ (by omega) (by omega)
      · rw [if_neg ht]; exact key _ (by omega) (by omega)
    · -- it waits
      rw [next_no (.inr (by rw [QA.qo, QA.qw]; have := h.bi.out; omega)), bsome, bsome, if_pos rfl]
      dsimp only
      rw [if_neg (by simp [hc]), if_neg (by simp)]
      have key : ∀ to : Int, first ≤ to → to ≤ (i : Int) → signalmanlaw13_BacklogRounds.j2 k m win first i (0, [], false, logAdd l [IntKind.u8.wrap (i : Int)]) i (signalmanlaw13_BacklogRounds.l0 k m win n acks) to = some true := by
        intro to ht1 ht2
        obtain ⟨ha, hq⟩ := QA.ack (to := to) ⟨ht1, by omega⟩ hw.2 (by omega)
        unfold signalmanlaw13_BacklogRounds.j2
        dsimp only
        rw [if_pos (by omega), Int.tmod_eq_emod_of_nonneg (by omega), ha, bsome, if_pos rfl, w64_in ⟨by omega, by omega⟩, if_pos rfl, if_neg (by simp)]
        dsimp only
        have e : (i : Int) - first - (to - first) = (i : Int) - to := by omega
        have e' : (i : Int) - first + 1 - (to - first) = (i : Int) + 1 - to := by omega
        rw [e, e'] at hq
        rw [w64_in (n := (i : Int) - to) ⟨by omega, by omega⟩]
        by_cases hc2 : (i : Int) - to < win
        · have hq2 : Q (logOut (logAck (logAdd l [IntKind.u8.wrap (i : Int)]) (to - first))) m win to ((i : Int) + 1 - to) ((i : Int) + 1 - to) := ⟨out_bi hq.bi (by rw [hq.ql, hq.qo]; omega) (by rw [hq.qw, hq.qo]; omega), hq.qm, hq.qw, hq.qq, hq.qf, by show (logAck (logAdd l [IntKind.u8.wrap (i : Int)]) (to - first)).out + 1 = _; rw [hq.qo]; omega, hq.ql⟩
          rw [next_yes hq.bi (by rw [hq.ql, hq.qo]; omega) (by rw [hq.qw, hq.qo]; omega), bsome]
          dsimp only
          rw [if_neg (by simp [hc2]), if_pos rfl, hq.qf, hq.qm, hq.qo, mod_add_d (by omega), Int.tmod_eq_emod_of_nonneg (by omega), if_pos (by congr 1; omega), w64_in ⟨by omega, by omega⟩]
          have h3 := j3_eq hq2 i (by omega) ⟨by omega, by omega⟩ (signalmanlaw13_BacklogRounds.l0 k m win n acks) (k := k) (by omega) (to - first) (!(decide (to - first = to - first)))
          rw [show to + ((i : Int) + 1 - to) = (i : Int) + 1 by omega] at h3
          try dsimp only at h3 ⊢
          rw [h3, show ((i : Int) + 1) = ((i + 1 : Nat) : Int) by omega]
          exact l0_eq hm hw hn d (i + 1) to _ k (by omega) (by omega) (by omega) (by rw [show ((i + 1 : Nat) : Int) - to = (i : Int) + 1 - to by omega]; exact hq2) (by omega)
        · rw [next_no (.inr (by rw [hq.qo, hq.qw]; have h9 := hq.bi.out; rw [hq.qo, hq.qw] at h9; omega)), bsome]
          dsimp only
          rw [if_neg (by simp [hc2]), if_neg (by simp)]
      unfold signalmanlaw13_BacklogRounds.j1
      rw [if_pos ⟨by omega, by omega⟩, w64_in ⟨by omega, by omega⟩]
      by_cases ht : first + iand .i64 (acks.getD ((i : Nat) : Int).toNat 0) 7 > (i : Int)
      · rw [if_pos ht]; exact key _ (by omega) (by omega)
      · rw [if_neg ht]; exact key _ (by omega) (by omega)
theorem BacklogRounds : signalmanlaw13_BacklogRounds.Pure := by
  intro m win n acks w0 w1 w2 w3 w4
  have hm64 := wf64 w0
  obtain ⟨K, hK⟩ : ∃ K : Nat, 6000 ≤ K := ⟨6000, Nat.le_refl _⟩
  refine ⟨K, ?_⟩
  unfold signalmanlaw13_BacklogRounds.f
  rw [alive_eq, bsome, if_pos rfl]
  by_cases c1 : m < 8
  · rw [if_pos c1]
  rw [if_neg c1]
  by_cases c2 : m > 128
  · rw [if_pos c2]
  rw [if_neg c2]
  by_cases c3 : win < 1
  · rw [if_pos c3]
  rw [if_neg c3, td8 (by omega)]
  by_cases c4 : win > m / 8
  · rw [if_pos c4]
  rw [if_neg c4]
  by_cases c5 : n < 0
  · rw [if_pos c5]
  rw [if_neg c5]
  by_cases c6 : n > 300
  · rw [if_pos c6]
  rw [if_neg c6]
  by_cases c7 : (acks.length : Int) < n
  · rw [if_pos c7]
  rw [if_neg c7, new_eq (by omega) (by omega) (by decide), bsome]
  exact l0_eq ⟨by omega, by omega⟩ ⟨by omega, by omega⟩ ⟨by omega, by omega⟩ n.toNat 0 0 _ K (by omega) (by omega) (by omega) ⟨new_bi (by omega) (by omega) (by decide), rfl, rfl, rfl, by simp, rfl, rfl⟩ (by omega)
end Go.Proofs.Ytdnfojgnbhcijaa

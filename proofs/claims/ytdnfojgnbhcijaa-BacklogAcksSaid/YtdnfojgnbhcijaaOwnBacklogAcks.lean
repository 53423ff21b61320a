/- BacklogAcks: exactly the numbers of the messages that are out, and the next number, acknowledge. Conditions: none beyond those of the given statement. -/
import Derived.Test.YtdnfojgnbhcijaaRunBacklogAcks
import Derived.KernelRfl
set_option linter.all false
namespace Go.Proofs.Ytdnfojgnbhcijaa
open Go.RowKit Go.Proofs.Ytdnfojgnbhcijaa.Walk
theorem bsome {α β : Type} (x : α) (g : α → Option β) : (some x).bind g = g x := Eq.trans (b := g x) rfl (Eq.symm rfl)
theorem u8w (x : Int) : IntKind.u8.wrap x = x % 256 := by
  simp [IntKind.wrap, IntKind.bits, IntKind.signed]
theorem i64nat {x : Int} (h0 : 0 ≤ x) (h1 : x < 9223372036854775808) : BitVec.ofInt 64 x = BitVec.ofNat 64 x.toNat := by
  apply BitVec.eq_of_toNat_eq
  simp [BitVec.toNat_ofInt]
  omega
theorem iand_nat {x y : Int} (h0 : 0 ≤ x) (h1 : x < 9223372036854775808) (h2 : 0 ≤ y) (h3 : y < 9223372036854775808) : iand .i64 x y = ((x.toNat &&& y.toNat : Nat) : Int) := by
  unfold iand
  show IntKind.i64.wrap (BitVec.ofInt 64 x &&& BitVec.ofInt 64 y).toNat = _
  rw [i64nat h0 h1, i64nat h2 h3, BitVec.toNat_and]
  simp only [BitVec.toNat_ofNat]
  rw [Nat.mod_eq_of_lt (by omega), Nat.mod_eq_of_lt (by omega)]
  have h4 : x.toNat &&& y.toNat ≤ x.toNat := Nat.and_le_left
  have := w64_in (n := ((x.toNat &&& y.toNat : Nat) : Int)) (by omega)
  exact this
theorem ior_nat {x y : Int} (h0 : 0 ≤ x) (h1 : x < 9223372036854775808) (h2 : 0 ≤ y) (h3 : y < 9223372036854775808) : ior .i64 x y = ((x.toNat ||| y.toNat : Nat) : Int) := by
  unfold ior
  show IntKind.i64.wrap (BitVec.ofInt 64 x ||| BitVec.ofInt 64 y).toNat = _
  rw [i64nat h0 h1, i64nat h2 h3, BitVec.toNat_or]
  simp only [BitVec.toNat_ofNat]
  rw [Nat.mod_eq_of_lt (by omega), Nat.mod_eq_of_lt (by omega)]
  have h4 : x.toNat ||| y.toNat < 2 ^ 63 := Nat.or_lt_two_pow (by omega) (by omega)
  have := w64_in (n := ((x.toNat ||| y.toNat : Nat) : Int)) (by omega)
  exact this
theorem iand_1 {x : Int} (h0 : 0 ≤ x) (h1 : x < 9223372036854775808) : iand .i64 x 1 = x % 2 := by
  rw [iand_nat h0 h1 (by omega) (by omega)]
  have : x.toNat &&& (1 : Int).toNat = x.toNat % 2 := Nat.and_one_is_mod _
  rw [this]; omega
theorem iand_255 {x : Int} (h0 : 0 ≤ x) (h1 : x < 9223372036854775808) : iand .i64 x 255 = x % 256 := by
  rw [iand_nat h0 h1 (by omega) (by omega)]
  have : x.toNat &&& (255 : Int).toNat = x.toNat % 256 := Nat.and_two_pow_sub_one_eq_mod _ 8
  rw [this]; omega
theorem ior_hi {x y : Int} (h0 : 0 ≤ x) (h1 : x < 256) (h2 : 0 ≤ y) (h3 : y < 36028797018963968) : ior .i64 x (y * 256) = x + 256 * y := by
  rw [ior_nat h0 (by omega) (by omega) (by omega)]
  have e : (y * 256).toNat = 2 ^ 8 * y.toNat := by omega
  have h4 := Nat.two_pow_add_eq_or_of_lt (i := 8) (b := x.toNat) (by omega) y.toNat
  rw [e, Nat.or_comm, ← h4]; omega
theorem ior_hi' {x y : Int} (h0 : 0 ≤ x) (h1 : x < 256) (h2 : 0 ≤ y) (h3 : y < 36028797018963968) : ior .i64 (y * 256) x = x + 256 * y := by
  rw [← ior_hi h0 h1 h2 h3, ior_nat (by omega) (by omega) h0 (by omega), ior_nat h0 (by omega) (by omega) (by omega), Nat.or_comm]
theorem byte_all {p : Int → Prop} (h : ∀ n : Fin 256, p (n.val : Int)) {z : Int} (h0 : 0 ≤ z) (h1 : z < 256) : p z := by
  have := h ⟨z.toNat, by omega⟩
  rwa [show ((z.toNat : Nat) : Int) = z by omega] at this
theorem wf8 {z : Int} (h : (Lit.int .u8 z).wf = true) : 0 ≤ z ∧ z < 256 := by simp [Lit.wf] at h; have := h; simp [IntKind.min, IntKind.max, IntKind.bits, IntKind.signed] at this; omega
theorem wf64 {z : Int} (h : (Lit.int .i64 z).wf = true) : -9223372036854775808 ≤ z ∧ z ≤ 9223372036854775807 := by simp [Lit.wf] at h; have := h; simp [IntKind.min, IntKind.max, IntKind.bits, IntKind.signed] at this; omega
/-- How a log stands. -/
structure BI (l : backlog_Log) : Prop where
  m : 8 ≤ l.m ∧ l.m ≤ 32768
  win : 1 ≤ l.window ∧ l.window ≤ 4096
  que : 0 ≤ l.queue ∧ l.queue ≤ 1000
  first : 0 ≤ l.first ∧ l.first < l.m
  out : 0 ≤ l.out ∧ l.out ≤ l.window ∧ l.out ≤ (l.l.length : Int)
  wait : (l.l.length : Int) ≤ l.out + l.queue
  small : ∀ b ∈ l.l, b.length ≤ 1000000
theorem clone_eq {l : List Int} (h : (l.length : Int) ≤ 1099511627776) : slices_Clone_Sbytebyte.f l = some l := by
  unfold slices_Clone_Sbytebyte.f
  rw [if_pos (by simp; omega)]; rfl
theorem number_eq {l : backlog_Log} (hm : 8 ≤ l.m ∧ l.m ≤ 32768) (hf : 0 ≤ l.first ∧ l.first < l.m) {i : Int} (hi : 0 ≤ i ∧ i ≤ 100000) : backlog_Log_number.f l i = some ((l.first + i) % l.m) := by
  unfold backlog_Log_number.f
  rw [if_pos (by omega), w64_in ⟨by omega, by omega⟩, Int.tmod_eq_emod_of_nonneg (by omega)]
def logOut (l : backlog_Log) : backlog_Log := { m := l.m, window := l.window, queue := l.queue, first := l.first, out := l.out + 1, l := l.l }
def logAdd (l : backlog_Log) (b : List Int) : backlog_Log := { m := l.m, window := l.window, queue := l.queue, first := l.first, out := l.out, l := l.l ++ [b] }
theorem next_no {l : backlog_Log} (h : l.out = (l.l.length : Int) ∨ l.out = l.window) : backlog_Log_Next.f l = some (0, [], false, l) := by
  unfold backlog_Log_Next.f backlog_Log_Next.j0
  by_cases h1 : l.out = (l.l.length : Int)
  · rw [if_pos h1]; rfl
  · rw [if_neg h1, if_pos (by simpa using h.resolve_left h1)]
theorem next_yes {l : backlog_Log} (h : BI l) (h1 : l.out < (l.l.length : Int)) (h2 : l.out < l.window) : backlog_Log_Next.f l = some ((l.first + l.out) % l.m, l.l.getD l.out.toNat [], true, logOut l) := by
  have ho := h.out
  have hw := h.win
  unfold backlog_Log_Next.f backlog_Log_Next.j0
  rw [if_neg (show ¬ l.out = (l.l.length : Int) by omega), if_neg (show ¬ decide (l.out = l.window) = true by simp; omega), if_pos ⟨ho.1, h1⟩, w64_in ⟨by omega, by omega⟩]
  rw [number_eq (l := { m := l.m, window := l.window, queue := l.queue, first := l.first, out := l.out + 1, l := l.l }) h.m h.first ⟨ho.1, by omega⟩, bsome]
  have hs : ((l.l.getD l.out.toNat []).length : Int) ≤ 1000000 := by
    have hlt : l.out.toNat < l.l.length := by omega
    have e : l.l.getD l.out.toNat [] = l.l[l.out.toNat] := by simp [List.getD, hlt]
    rw [e]; have := h.small _ (List.getElem_mem hlt); omega
  rw [clone_eq (by omega), bsome]; rfl
theorem add_no {l : backlog_Log} (h : BI l) (b : List Int) (hn : (l.l.length : Int) - l.out ≥ l.queue) : backlog_Log_Add.f l b = some (6, l) := by
  have ho := h.out
  have hw := h.wait
  have hq := h.que
  have hwi := h.win
  unfold backlog_Log_Add.f
  rw [w64_in ⟨by omega, by omega⟩, if_pos hn]
theorem add_yes {l : backlog_Log} (h : BI l) {b : List Int} (hn : (l.l.length : Int) - l.out < l.queue) (hb : b.length ≤ 1000000) : backlog_Log_Add.f l b = some (0, logAdd l b) := by
  have ho := h.out
  have hw := h.wait
  have hq := h.que
  have hwi := h.win
  unfold backlog_Log_Add.f
  rw [w64_in ⟨by omega, by omega⟩, if_neg (by omega), clone_eq (by omega), bsome, if_pos (by simp only [List.length_cons, List.length_nil]; omega)]; rfl
theorem out_bi {l : backlog_Log} (h : BI l) (h1 : l.out < (l.l.length : Int)) (h2 : l.out < l.window) : BI (logOut l) := by
  have ho := h.out
  have hw := h.wait
  exact ⟨h.m, h.win, h.que, h.first, by show 0 ≤ l.out + 1 ∧ l.out + 1 ≤ l.window ∧ l.out + 1 ≤ (l.l.length : Int); omega, by show (l.l.length : Int) ≤ l.out + 1 + l.queue; omega, h.small⟩
theorem add_bi {l : backlog_Log} (h : BI l) {b : List Int} (hn : (l.l.length : Int) - l.out < l.queue) (hb : b.length ≤ 1000000) : BI (logAdd l b) := by
  have ho := h.out
  refine ⟨h.m, h.win, h.que, h.first, ?_, ?_, ?_⟩
  · show 0 ≤ l.out ∧ l.out ≤ l.window ∧ l.out ≤ ((l.l ++ [b]).length : Int)
    rw [List.length_append]; simp; omega
  · show ((l.l ++ [b]).length : Int) ≤ l.out + l.queue
    rw [List.length_append]; simp; omega
  · intro x hx
    rcases List.mem_append.1 hx with hx | hx
    · exact h.small x hx
    · simp at hx; subst hx; exact hb
theorem td8 {x : Int} (h : 0 ≤ x ∧ x ≤ 100000) : w64 (x.tdiv 8) = x / 8 := by
  rw [Int.tdiv_eq_ediv_of_nonneg h.1, w64_in ⟨by omega, by omega⟩]
theorem new_eq {m win q : Int} (hm : 8 ≤ m ∧ m ≤ 32768) (hw : 1 ≤ win ∧ win ≤ m / 8) (hq : 0 ≤ q ∧ q ≤ 1000) : backlog_New.f m win q = some { m := m, window := win, queue := q, first := 0, out := 0, l := [] } := by
  unfold backlog_New.f backlog_Cut.f
  have e1 : imax 8 (imin m 32768) = m := by unfold imax imin; repeat' split; all_goals omega
  have e2 : imax 1 (imin win (m / 8)) = win := by unfold imax imin; repeat' split; all_goals omega
  have e3 : imax 0 (imin q 1000) = q := by unfold imax imin; repeat' split; all_goals omega
  rw [e1, td8 (by omega), e2, e3, bsome]
theorem new_bi {m win q : Int} (hm : 8 ≤ m ∧ m ≤ 32768) (hw : 1 ≤ win ∧ win ≤ m / 8) (hq : 0 ≤ q ∧ q ≤ 1000) : BI { m := m, window := win, queue := q, first := 0, out := 0, l := [] } :=
  ⟨hm, by show 1 ≤ win ∧ win ≤ 4096; omega, hq, by show 0 ≤ (0 : Int) ∧ 0 < m; omega, by show 0 ≤ (0 : Int) ∧ 0 ≤ win ∧ (0 : Int) ≤ _; simp; omega, by simp; exact hq.1, by simp⟩
theorem alive_eq : signalmanlaw13_alive.f = some true := by
  show signalmanlaw13_alive.f = some true
  kernel_rfl
/-- The numbers of those that are out. -/
def outs (l : backlog_Log) : List Int := (List.range l.out.toNat).map fun (i : Nat) => (l.first + (i : Int)) % l.m
theorem out_l0 {l : backlog_Log} (h : BI l) : ∀ (d i : Nat) (k : Nat) (xs : List Int), (i : Int) + d = l.out → xs.length = i → d + 1 ≤ k → backlog_Log_Out.l0 k l i xs = some (xs ++ (List.range' i d).map fun (i : Nat) => (l.first + (i : Int)) % l.m)
  | 0, i, k, xs, hi, hx, hk => by
    obtain ⟨k, rfl⟩ : ∃ j, k = j + 1 := ⟨k - 1, by omega⟩
    rw [backlog_Log_Out.l0, if_neg (by omega)]; simp
  | d + 1, i, k, xs, hi, hx, hk => by
    obtain ⟨k, rfl⟩ : ∃ j, k = j + 1 := ⟨k - 1, by omega⟩
    have ho := h.out
    have hw := h.win
    rw [backlog_Log_Out.l0, if_pos (by omega), number_eq h.m h.first ⟨by omega, by omega⟩, bsome, if_pos (by simp only [List.length_cons, List.length_nil]; omega), w64_in ⟨by omega, by omega⟩]
    have := out_l0 h d (i + 1) k (xs ++ [(l.first + (i : Int)) % l.m]) (by omega) (by simp [hx]) (by omega)
    rw [show ((i : Nat) : Int) + 1 = ((i + 1 : Nat) : Int) by omega, this, List.range'_succ]; simp
theorem out_eq {l : backlog_Log} (h : BI l) {k : Nat} (hk : 5000 ≤ k) : backlog_Log_Out.f k l = some (outs l) := by
  have ho := h.out
  have hw := h.win
  unfold backlog_Log_Out.f outs
  have := out_l0 h l.out.toNat 0 k [] (by omega) rfl (by omega)
  rw [List.range_eq_range']; simpa using this
theorem outs_len (l : backlog_Log) : (outs l).length = l.out.toNat := by simp [outs]
theorem round_eq {n m : Int} (hn : -1000000000000 ≤ n ∧ n ≤ 1000000000000 ∨ -9223372036854775808 ≤ n ∧ n ≤ 9223372036854775807) (hm : 1 ≤ m ∧ m ≤ 1073741824) : serial_round.f n m = some (n % m, m) := by
  unfold serial_round.f
  have e1 : imax 1 (imin m 1073741824) = m := by unfold imax imin; repeat' split; all_goals omega
  rw [e1, if_pos (by omega)]
  by_cases h0 : 0 ≤ n
  · rw [Int.tmod_eq_emod_of_nonneg h0, if_neg (by have := Int.emod_nonneg n (show m ≠ 0 by omega); omega)]
  · have hlt := Int.emod_lt_of_pos n (show 0 < m by omega)
    have hge := Int.emod_nonneg n (show m ≠ 0 by omega)
    have ht : n.tmod m = if n % m = 0 then 0 else n % m - m := by
      rw [Int.tmod_eq_emod]
      by_cases hd : m ∣ n
      · have : n % m = 0 := Int.emod_eq_zero_of_dvd hd
        simp [hd, this]
      · have : ¬ n % m = 0 := fun e => hd (Int.dvd_of_emod_eq_zero e)
        simp [hd, this, h0]; omega
    rw [ht]
    by_cases hz : n % m = 0
    · rw [if_pos hz, if_neg (by omega), hz]
    · rw [if_neg hz, if_pos (by omega), w64_in ⟨by omega, by omega⟩]
      congr 2; omega
theorem dist_eq {a b m : Int} (ha : -9223372036854775808 ≤ a ∧ a ≤ 9223372036854775807) (hb : -9223372036854775808 ≤ b ∧ b ≤ 9223372036854775807) (hm : 1 ≤ m ∧ m ≤ 1073741824) : serial_Dist.f a b m = some ((b - a) % m) := by
  unfold serial_Dist.f
  rw [round_eq (.inr ha) hm, bsome, round_eq (.inr hb) hm, bsome]
  have h1 := Int.emod_nonneg a (show m ≠ 0 by omega)
  have h2 := Int.emod_lt_of_pos a (show 0 < m by omega)
  have h3 := Int.emod_nonneg b (show m ≠ 0 by omega)
  have h4 := Int.emod_lt_of_pos b (show 0 < m by omega)
  dsimp only
  rw [w64_in ⟨by omega, by omega⟩, round_eq (.inl ⟨by omega, by omega⟩) hm, bsome]
  dsimp only
  rw [← Int.sub_emod]
theorem delete2_eq {l : List (List Int)} {m : Nat} (h : m ≤ l.length) : slices_Delete_SSbyteSbyte.f l 0 (m : Int) = some (l.drop m) := by
  unfold slices_Delete_SSbyteSbyte.f
  rw [if_pos ⟨by omega, by omega, by omega⟩]
  by_cases h0 : (0 : Int) = (m : Int)
  · rw [if_pos h0]
    have : m = 0 := by omega
    subst this; rfl
  · rw [if_neg h0, if_pos ⟨by omega, by omega, by omega⟩, if_pos ⟨by omega, by omega, by omega⟩]
    congr 1
    simp [cut]
    exact List.take_of_length_le (by simp)
def logAck (l : backlog_Log) (k : Int) : backlog_Log := { m := l.m, window := l.window, queue := l.queue, first := (l.first + k) % l.m, out := l.out - k, l := l.l.drop k.toNat }
theorem ack_no {l : backlog_Log} (h : BI l) {n : Int} (hn : -9223372036854775808 ≤ n ∧ n ≤ 9223372036854775807) (hx : n < 0 ∨ l.m ≤ n ∨ l.out < (n - l.first) % l.m) : backlog_Log_Ack.f l n = some (0, false, l) := by
  have hm := h.m
  have hf := h.first
  unfold backlog_Log_Ack.f backlog_Log_Ack.j0
  rw [dist_eq ⟨by omega, by omega⟩ hn ⟨by omega, by omega⟩, bsome]
  by_cases h1 : n < 0
  · rw [if_pos h1]; rfl
  · rw [if_neg h1]
    by_cases h2 : n ≥ l.m
    · rw [if_pos h2]; rfl
    · rw [if_neg h2, if_pos (by simp; omega)]
theorem ack_yes {l : backlog_Log} (h : BI l) {n : Int} (hn : 0 ≤ n ∧ n < l.m) (hx : (n - l.first) % l.m ≤ l.out) : backlog_Log_Ack.f l n = some ((n - l.first) % l.m, true, logAck l ((n - l.first) % l.m)) := by
  have hm := h.m
  have hf := h.first
  have ho := h.out
  have hw := h.win
  have h1 := Int.emod_nonneg (n - l.first) (show l.m ≠ 0 by omega)
  unfold backlog_Log_Ack.f backlog_Log_Ack.j0
  rw [dist_eq ⟨by omega, by omega⟩ ⟨by omega, by omega⟩ ⟨by omega, by omega⟩, bsome]
  generalize (n - l.first) % l.m = d at *
  obtain ⟨e, rfl⟩ : ∃ e : Nat, d = (e : Int) := ⟨d.toNat, by omega⟩
  rw [if_neg (by omega), if_neg (show ¬ n ≥ l.m by omega), if_neg (by simp; omega), delete2_eq (by omega), bsome, w64_in ⟨by omega, by omega⟩]
  rw [number_eq (l := { m := l.m, window := l.window, queue := l.queue, first := l.first, out := l.out - (e : Int), l := l.l.drop e }) hm hf ⟨by omega, by omega⟩, bsome]; rfl
theorem ack_bi {l : backlog_Log} (h : BI l) {k : Int} (hk : 0 ≤ k ∧ k ≤ l.out) : BI (logAck l k) := by
  have hm := h.m
  have ho := h.out
  have hw := h.wait
  refine ⟨h.m, h.win, h.que, ⟨Int.emod_nonneg _ (by omega), Int.emod_lt_of_pos _ (by omega)⟩, ?_, ?_, ?_⟩
  · show 0 ≤ l.out - k ∧ l.out - k ≤ l.window ∧ l.out - k ≤ ((l.l.drop k.toNat).length : Int)
    rw [List.length_drop]; omega
  · show ((l.l.drop k.toNat).length : Int) ≤ l.out - k + l.queue
    rw [List.length_drop]; omega
  · intro b hb
    exact h.small b (List.mem_of_mem_drop hb)
theorem refnext_eq {n : Int} (h : 0 ≤ n ∧ n < 128) : signalmanref1_Next.f n 128 = some ((n + 1) % 128) := by
  have hc : signalmanref1_Cut.f 128 1 1073741824 = some 128 := by decide
  unfold signalmanref1_Next.f signalmanref1_Mod.f
  rw [hc, bsome, if_pos (by decide), Int.tmod_eq_emod_of_nonneg h.1, if_neg (by omega), bsome, bsome, if_pos (by decide), w64_in ⟨by omega, by omega⟩, Int.tmod_eq_emod_of_nonneg (by omega), if_neg (by omega), bsome]
  congr 1; omega
/-- How the log of this statement stands. -/
structure Q (l : backlog_Log) (win first out : Int) : Prop where
  bi : BI l
  qm : l.m = 128
  qw : l.window = win
  qq : l.queue = 1
  qf : l.first = first
  qo : l.out = out
  ql : (l.l.length : Int) = out
theorem Q.addNext {l : backlog_Log} {win first out : Int} (h : Q l win first out) (ho : out < win) (b : List Int) (hb : b.length ≤ 1000000) :
    ∃ x, backlog_Log_Add.f l b = some (0, logAdd l b) ∧ backlog_Log_Next.f (logAdd l b) = some ((first + out) % 128, x, true, logOut (logAdd l b)) ∧ Q (logOut (logAdd l b)) win first (out + 1) := by
  have h1 := h.ql
  have h2 := h.qo
  have h3 := h.qw
  have hq := h.qq
  have hB := add_bi h.bi (b := b) (by omega) hb
  have hl : ((logAdd l b).l.length : Int) = out + 1 := by show ((l.l ++ [b]).length : Int) = _; rw [List.length_append]; simp; omega
  have hou : (logAdd l b).out = out := h2
  have hwi : (logAdd l b).window = win := h3
  refine ⟨(logAdd l b).l.getD (logAdd l b).out.toNat [], add_yes h.bi (by omega) hb, ?_, ?_⟩
  · have := next_yes hB (by omega) (by omega)
    rw [show (logAdd l b).first = first from h.qf, show (logAdd l b).m = 128 from h.qm] at this
    rw [this, hou]
  · exact ⟨out_bi hB (by omega) (by omega), h.qm, h.qw, h.qq, h.qf, by show l.out + 1 = _; omega, hl⟩
theorem l3_eq {l : backlog_Log} {win out start n : Int} (h : Q l win (start % 128) out) (hb : 0 ≤ out ∧ out ≤ 16 ∧ 0 ≤ start ∧ start ≤ 300) (hn : -9223372036854775808 ≤ n ∧ n ≤ 9223372036854775807) : ∀ (d : Nat) (i x : Int) (k : Nat), i + d = out + 1 → 0 ≤ i → 5010 + d ≤ k →
    (x < 0 ∧ (∀ j : Int, 0 ≤ j → j < i → n ≠ (start + j) % 128) ∨ 0 ≤ x ∧ x < i ∧ n = (start + x) % 128) →
    signalmanlaw13_BacklogAcks.l3 k out start n l x i = some true
  | 0, i, x, k, hi, h0, hk, hx => by
    obtain ⟨k, rfl⟩ : ∃ j, k = j + 1 := ⟨k - 1, by omega⟩
    have hm := h.qm
    have hou := h.qo
    have hf := h.qf
    have hB := h.bi
    rw [signalmanlaw13_BacklogAcks.l3, if_neg (by omega)]
    rcases hx with ⟨hx, hno⟩ | ⟨hx0, hx1, hx2⟩
    · have hno' : n < 0 ∨ l.m ≤ n ∨ l.out < (n - l.first) % l.m := by
        rw [hm, hou, hf]
        by_cases c1 : n < 0
        · exact .inl c1
        · by_cases c2 : 128 ≤ n
          · exact .inr (.inl c2)
          · right; right
            by_cases c3 : out < (n - start % 128) % 128
            · exact c3
            · exfalso
              exact hno ((n - start % 128) % 128) (by omega) (by omega) (by omega)
      rw [ack_no hB hn hno', bsome, if_pos (by omega), if_neg (by simp), if_pos rfl]
      dsimp only
      rw [out_eq hB (by omega), bsome, outs_len, hou, decide_eq_true (by omega)]
    · have hy : (n - l.first) % l.m = x := by rw [hm, hf, hx2]; omega
      have hle := h.bi.out
      rw [ack_yes hB (by rw [hm, hx2]; omega) (by rw [hy]; omega), hy, bsome, if_neg (by omega), if_pos rfl, if_pos rfl]
      dsimp only
      rw [out_eq (ack_bi hB ⟨hx0, by omega⟩) (by omega), bsome, outs_len, w64_in ⟨by omega, by omega⟩]
      have : (logAck l x).out = out - x := by show l.out - x = _; omega
      rw [this, decide_eq_true (by omega)]
  | d + 1, i, x, k, hi, h0, hk, hx => by
    obtain ⟨k, rfl⟩ : ∃ j, k = j + 1 := ⟨k - 1, by omega⟩
    rw [signalmanlaw13_BacklogAcks.l3, if_pos (by omega), w64_in (n := start + i) ⟨by omega, by omega⟩, Int.tmod_eq_emod_of_nonneg (by omega), w64_in ⟨by omega, by omega⟩]
    by_cases he : n = (start + i) % 128
    · rw [if_pos he]
      exact l3_eq h hb hn d (i + 1) i k (by omega) (by omega) (by omega) (.inr ⟨h0, by omega, he⟩)
    · rw [if_neg he]
      refine l3_eq h hb hn d (i + 1) x k (by omega) (by omega) (by omega) ?_
      rcases hx with ⟨hx, hno⟩ | ⟨hx0, hx1, hx2⟩
      · left
        refine ⟨hx, fun j hj0 hj1 => ?_⟩
        by_cases hji : j = i
        · subst hji; exact he
        · exact hno j hj0 (by omega)
      · exact .inr ⟨hx0, by omega, hx2⟩
theorem l2_eq {win out start n : Int} (hb : 0 ≤ out ∧ out ≤ win ∧ win ≤ 16 ∧ 0 ≤ start ∧ start ≤ 300) (hn : -9223372036854775808 ≤ n ∧ n ≤ 9223372036854775807) : ∀ (d : Nat) (i : Int) (l : backlog_Log) (k : Nat), i + d = out → 0 ≤ i → Q l win (start % 128) i → 5040 + d ≤ k → signalmanlaw13_BacklogAcks.l2 k out start n i l = some true
  | 0, i, l, k, hi, h0, h, hk => by
    obtain ⟨k, rfl⟩ : ∃ j, k = j + 1 := ⟨k - 1, by omega⟩
    have hio : i = out := by omega
    subst hio
    rw [signalmanlaw13_BacklogAcks.l2, if_neg (by omega)]
    exact l3_eq h ⟨by omega, by omega, by omega, by omega⟩ hn (i + 1).toNat 0 (-1) k (by omega) (by omega) (by omega) (.inl ⟨by omega, fun j h1 h2 => by omega⟩)
  | d + 1, i, l, k, hi, h0, h, hk => by
    obtain ⟨k, rfl⟩ : ∃ j, k = j + 1 := ⟨k - 1, by omega⟩
    obtain ⟨x, e1, e2, h2⟩ := h.addNext (by omega) [2] (by simp)
    rw [signalmanlaw13_BacklogAcks.l2, if_pos (by omega), e1, bsome]
    dsimp only
    rw [e2, bsome, w64_in ⟨by omega, by omega⟩]
    exact l2_eq hb hn d (i + 1) _ k (by omega) (by omega) h2 (by omega)
theorem l1_eq {win out start n : Int} (hb : 0 ≤ out ∧ out ≤ win ∧ 1 ≤ win ∧ win ≤ 16 ∧ 0 ≤ start ∧ start ≤ 300) (hn : -9223372036854775808 ≤ n ∧ n ≤ 9223372036854775807) : ∀ (d : Nat) (i : Int) (l : backlog_Log) (k : Nat), i + d = start → 0 ≤ i → Q l win (i % 128) 0 → 5070 + d ≤ k → signalmanlaw13_BacklogAcks.l1 k out start n i l = some true
  | 0, i, l, k, hi, h0, h, hk => by
    obtain ⟨k, rfl⟩ : ∃ j, k = j + 1 := ⟨k - 1, by omega⟩
    have hio : i = start := by omega
    subst hio
    rw [signalmanlaw13_BacklogAcks.l1, if_neg (by omega)]
    exact l2_eq ⟨hb.1, hb.2.1, by omega, by omega, by omega⟩ hn out.toNat 0 l k (by omega) (by omega) h (by omega)
  | d + 1, i, l, k, hi, h0, h, hk => by
    obtain ⟨k, rfl⟩ : ∃ j, k = j + 1 := ⟨k - 1, by omega⟩
    obtain ⟨x, e1, e2, h2⟩ := h.addNext (by omega) [1] (by simp)
    have hy : (((i % 128 + 0) % 128 + 1) % 128 - (logOut (logAdd l [1])).first) % (logOut (logAdd l [1])).m = 1 := by
      rw [h2.qf, h2.qm]; omega
    rw [signalmanlaw13_BacklogAcks.l1, if_pos (by omega), e1, bsome]
    dsimp only
    rw [e2, bsome]
    dsimp only
    rw [refnext_eq (by omega), bsome, ack_yes h2.bi (by rw [h2.qm]; omega) (by rw [hy, h2.qo]; omega), hy, bsome, w64_in ⟨by omega, by omega⟩]
    refine l1_eq hb hn d (i + 1) _ k (by omega) (by omega) ⟨ack_bi h2.bi (by rw [h2.qo]; omega), h2.qm, h2.qw, h2.qq, ?_, ?_, ?_⟩ (by omega)
    · show ((logOut (logAdd l [1])).first + 1) % (logOut (logAdd l [1])).m = _
      rw [h2.qf, h2.qm]; omega
    · show (logOut (logAdd l [1])).out - 1 = 0
      rw [h2.qo]; omega
    · show (((logOut (logAdd l [1])).l.drop (1 : Int).toNat).length : Int) = 0
      rw [List.length_drop]; have := h2.ql; omega
theorem BacklogAcks : signalmanlaw13_BacklogAcks.Pure := by
  intro win out start n w0 w1 w2 w3
  have hn := wf64 w3
  obtain ⟨K, hK⟩ : ∃ K : Nat, 6000 ≤ K := ⟨6000, Nat.le_refl _⟩
  refine ⟨K, ?_⟩
  unfold signalmanlaw13_BacklogAcks.f
  rw [alive_eq, bsome, if_pos rfl]
  have hj : ∀ b : Bool, (b = false → 0 ≤ out ∧ out ≤ win ∧ 1 ≤ win ∧ win ≤ 16 ∧ 0 ≤ start ∧ start ≤ 300) → signalmanlaw13_BacklogAcks.j0 K win out start true n b = some true := by
    intro b hb
    unfold signalmanlaw13_BacklogAcks.j0
    cases b with
    | true => rfl
    | false =>
      have b1 := hb rfl
      rw [if_neg (by simp), new_eq (by decide) (by omega) (by decide), bsome]
      exact l1_eq b1 hn start.toNat 0 _ K (by omega) (by omega) ⟨new_bi (by decide) (by omega) (by decide), rfl, rfl, rfl, rfl, rfl, rfl⟩ (by omega)
  by_cases c1 : win < 1
  · rw [if_pos c1]; exact hj _ (by simp)
  · rw [if_neg c1]
    by_cases c2 : win > 16
    · rw [if_pos c2]; exact hj _ (by simp)
    · rw [if_neg c2]
      by_cases c3 : out < 0
      · rw [if_pos c3]; exact hj _ (by simp)
      · rw [if_neg c3]
        by_cases c4 : out > win
        · rw [if_pos c4]; exact hj _ (by simp)
        · rw [if_neg c4]
          by_cases c5 : start < 0
          · rw [if_pos c5]; exact hj _ (by simp)
          · rw [if_neg c5]; exact hj _ (fun h => by simp at h; omega)
end Go.Proofs.Ytdnfojgnbhcijaa

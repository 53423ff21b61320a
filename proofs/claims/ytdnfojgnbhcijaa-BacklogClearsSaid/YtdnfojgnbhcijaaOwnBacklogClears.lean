/- BacklogClears: after Clear nothing is out or waits, and numbers begin with 0 again. Conditions: none beyond those of the given statement. -/
import Derived.Test.YtdnfojgnbhcijaaRunBacklogClears
import Derived.KernelRfl
set_option linter.all false
namespace Go.Proofs.Ytdnfojgnbhcijaa
open Go.RowKit Go.Proofs.Ytdnfojgnbhcijaa.Walk
theorem bsome {α β : Type} (x : α) (g : α → Option β) : (some x).bind g = g x := Eq.trans (b := g x) rfl (Eq.symm rfl)
theorem u8w (x : Int) : IntKind.u8.wrap x = x % 256 := by
  simp [IntKind.wrap, IntKind.bits, IntKind.signed]
theorem i64nat {x : Int} (h0 : 0 ≤ x) (h1 : x < 9223372036854775808) : BitVec.ofInt 64 x = BitVec.ofNat 64 x.toNat := by
  apply BitVec.eq_of_toNat_eq
  simp [BitVec.toNat_ofInt]
  omega
theorem iand_nat {x y : Int} (h0 : 0 ≤ x) (h1 : x < 9223372036854775808) (h2 : 0 ≤ y) (h3 : y < 9223372036854775808) : iand .i64 x y = ((x.toNat &&& y.toNat : Nat) : Int) := by
  unfold iand
  show IntKind.i64.wrap (BitVec.ofInt 64 x &&& BitVec.ofInt 64 y).toNat = _
  rw [i64nat h0 h1, i64nat h2 h3, BitVec.toNat_and]
  simp only [BitVec.toNat_ofNat]
  rw [Nat.mod_eq_of_lt (by omega), Nat.mod_eq_of_lt (by omega)]
  have h4 : x.toNat &&& y.toNat ≤ x.toNat := Nat.and_le_left
  have := w64_in (n := ((x.toNat &&& y.toNat : Nat) : Int)) (by omega)
  exact this
theorem ior_nat {x y : Int} (h0 : 0 ≤ x) (h1 : x < 9223372036854775808) (h2 : 0 ≤ y) (h3 : y < 9223372036854775808) : ior .i64 x y = ((x.toNat ||| y.toNat : Nat) : Int) := by
  unfold ior
  show IntKind.i64.wrap (BitVec.ofInt 64 x ||| BitVec.ofInt 64 y).toNat = _
  rw [i64nat h0 h1, i64nat h2 h3, BitVec.toNat_or]
  simp only [BitVec.toNat_ofNat]
  rw [Nat.mod_eq_of_lt (by omega), Nat.mod_eq_of_lt (by omega)]
  have h4 : x.toNat ||| y.toNat < 2 ^ 63 := Nat.or_lt_two_pow (by omega) (by omega)
  have := w64_in (n := ((x.toNat ||| y.toNat : Nat) : Int)) (by omega)
  exact this
theorem iand_1 {x : Int} (h0 : 0 ≤ x) (h1 : x < 9223372036854775808) : iand .i64 x 1 = x % 2 := by
  rw [iand_nat h0 h1 (by omega) (by omega)]
  have : x.toNat &&& (1 : Int).toNat = x.toNat % 2 := Nat.and_one_is_mod _
  rw [this]; omega
theorem iand_255 {x : Int} (h0 : 0 ≤ x) (h1 : x < 9223372036854775808) : iand .i64 x 255 = x % 256 := by
  rw [iand_nat h0 h1 (by omega) (by omega)]
  have : x.toNat &&& (255 : Int).toNat = x.toNat % 256 := Nat.and_two_pow_sub_one_eq_mod _ 8
  rw [this]; omega
theorem ior_hi {x y : Int} (h0 : 0 ≤ x) (h1 : x < 256) (h2 : 0 ≤ y) (h3 : y < 36028797018963968) : ior .i64 x (y * 256) = x + 256 * y := by
  rw [ior_nat h0 (by omega) (by omega) (by omega)]
  have e : (y * 256).toNat = 2 ^ 8 * y.toNat := by omega
  have h4 := Nat.two_pow_add_eq_or_of_lt (i := 8) (b := x.toNat) (by omega) y.toNat
  rw [e, Nat.or_comm, ← h4]; omega
theorem ior_hi' {x y : Int} (h0 : 0 ≤ x) (h1 : x < 256) (h2 : 0 ≤ y) (h3 : y < 36028797018963968) : ior .i64 (y * 256) x = x + 256 * y := by
  rw [← ior_hi h0 h1 h2 h3, ior_nat (by omega) (by omega) h0 (by omega), ior_nat h0 (by omega) (by omega) (by omega), Nat.or_comm]
theorem byte_all {p : Int → Prop} (h : ∀ n : Fin 256, p (n.val : Int)) {z : Int} (h0 : 0 ≤ z) (h1 : z < 256) : p z := by
  have := h ⟨z.toNat, by omega⟩
  rwa [show ((z.toNat : Nat) : Int) = z by omega] at this
theorem wf8 {z : Int} (h : (Lit.int .u8 z).wf = true) : 0 ≤ z ∧ z < 256 := by simp [Lit.wf] at h; have := h; simp [IntKind.min, IntKind.max, IntKind.bits, IntKind.signed] at this; omega
theorem wf64 {z : Int} (h : (Lit.int .i64 z).wf = true) : -9223372036854775808 ≤ z ∧ z ≤ 9223372036854775807 := by simp [Lit.wf] at h; have := h; simp [IntKind.min, IntKind.max, IntKind.bits, IntKind.signed] at this; omega
/-- How a log stands. -/
structure BI (l : backlog_Log) : Prop where
  m : 8 ≤ l.m ∧ l.m ≤ 32768
  win : 1 ≤ l.window ∧ l.window ≤ 4096
  que : 0 ≤ l.queue ∧ l.queue ≤ 1000
  first : 0 ≤ l.first ∧ l.first < l.m
  out : 0 ≤ l.out ∧ l.out ≤ l.window ∧ l.out ≤ (l.l.length : Int)
  wait : (l.l.length : Int) ≤ l.out + l.queue
  small : ∀ b ∈ l.l, b.length ≤ 1000000
theorem clone_eq {l : List Int} (h : (l.length : Int) ≤ 1099511627776) : slices_Clone_Sbytebyte.f l = some l := by
  unfold slices_Clone_Sbytebyte.f
  rw [if_pos (by simp; omega)]; rfl
theorem number_eq {l : backlog_Log} (hm : 8 ≤ l.m ∧ l.m ≤ 32768) (hf : 0 ≤ l.first ∧ l.first < l.m) {i : Int} (hi : 0 ≤ i ∧ i ≤ 100000) : backlog_Log_number.f l i = some ((l.first + i) % l.m) := by
  unfold backlog_Log_number.f
  rw [if_pos (by omega), w64_in ⟨by omega, by omega⟩, Int.tmod_eq_emod_of_nonneg (by omega)]
def logOut (l : backlog_Log) : backlog_Log := { m := l.m, window := l.window, queue := l.queue, first := l.first, out := l.out + 1, l := l.l }
def logAdd (l : backlog_Log) (b : List Int) : backlog_Log := { m := l.m, window := l.window, queue := l.queue, first := l.first, out := l.out, l := l.l ++ [b] }
theorem next_no {l : backlog_Log} (h : l.out = (l.l.length : Int) ∨ l.out = l.window) : backlog_Log_Next.f l = some (0, [], false, l) := by
  unfold backlog_Log_Next.f backlog_Log_Next.j0
  by_cases h1 : l.out = (l.l.length : Int)
  · rw [if_pos h1]; rfl
  · rw [if_neg h1, if_pos (by simpa using h.resolve_left h1)]
theorem next_yes {l : backlog_Log} (h : BI l) (h1 : l.out < (l.l.length : Int)) (h2 : l.out < l.window) : backlog_Log_Next.f l = some ((l.first + l.out) % l.m, l.l.getD l.out.toNat [], true, logOut l) := by
  have ho := h.out
  have hw := h.win
  unfold backlog_Log_Next.f backlog_Log_Next.j0
  rw [if_neg (show ¬ l.out = (l.l.length : Int) by omega), if_neg (show ¬ decide (l.out = l.window) = true by simp; omega), if_pos ⟨ho.1, h1⟩, w64_in ⟨by omega, by omega⟩]
  rw [number_eq (l := { m := l.m, window := l.window, queue := l.queue, first := l.first, out := l.out + 1, l := l.l }) h.m h.first ⟨ho.1, by omega⟩, bsome]
  have hs : ((l.l.getD l.out.toNat []).length : Int) ≤ 1000000 := by
    have hlt : l.out.toNat < l.l.length := by omega
    have e : l.l.getD l.out.toNat [] = l.l[l.out.toNat] := by simp [List.getD, hlt]
    rw [e]; have := h.small _ (List.getElem_mem hlt); omega
  rw [clone_eq (by omega), bsome]; rfl
theorem add_no {l : backlog_Log} (h : BI l) (b : List Int) (hn : (l.l.length : Int) - l.out ≥ l.queue) : backlog_Log_Add.f l b = some (6, l) := by
  have ho := h.out
  have hw := h.wait
  have hq := h.que
  have hwi := h.win
  unfold backlog_Log_Add.f
  rw [w64_in ⟨by omega, by omega⟩, if_pos hn]
theorem add_yes {l : backlog_Log} (h : BI l) {b : List Int} (hn : (l.l.length : Int) - l.out < l.queue) (hb : b.length ≤ 1000000) : backlog_Log_Add.f l b = some (0, logAdd l b) := by
  have ho := h.out
  have hw := h.wait
  have hq := h.que
  have hwi := h.win
  unfold backlog_Log_Add.f
  rw [w64_in ⟨by omega, by omega⟩, if_neg (by omega), clone_eq (by omega), bsome, if_pos (by simp only [List.length_cons, List.length_nil]; omega)]; rfl
theorem out_bi {l : backlog_Log} (h : BI l) (h1 : l.out < (l.l.length : Int)) (h2 : l.out < l.window) : BI (logOut l) := by
  have ho := h.out
  have hw := h.wait
  exact ⟨h.m, h.win, h.que, h.first, by show 0 ≤ l.out + 1 ∧ l.out + 1 ≤ l.window ∧ l.out + 1 ≤ (l.l.length : Int); omega, by show (l.l.length : Int) ≤ l.out + 1 + l.queue; omega, h.small⟩
theorem add_bi {l : backlog_Log} (h : BI l) {b : List Int} (hn : (l.l.length : Int) - l.out < l.queue) (hb : b.length ≤ 1000000) : BI (logAdd l b) := by
  have ho := h.out
  refine ⟨h.m, h.win, h.que, h.first, ?_, ?_, ?_⟩
  · show 0 ≤ l.out ∧ l.out ≤ l.window ∧ l.out ≤ ((l.l ++ [b]).length : Int)
    rw [List.length_append]; simp; omega
  · show ((l.l ++ [b]).length : Int) ≤ l.out + l.queue
    rw [List.length_append]; simp; omega
  · intro x hx
    rcases List.mem_append.1 hx with hx | hx
    · exact h.small x hx
    · simp at hx; subst hx; exact hb
theorem td8 {x : Int} (h : 0 ≤ x ∧ x ≤ 100000) : w64 (x.tdiv 8) = x / 8 := by
  rw [Int.tdiv_eq_ediv_of_nonneg h.1, w64_in ⟨by omega, by omega⟩]
theorem new_eq {m win q : Int} (hm : 8 ≤ m ∧ m ≤ 32768) (hw : 1 ≤ win ∧ win ≤ m / 8) (hq : 0 ≤ q ∧ q ≤ 1000) : backlog_New.f m win q = some { m := m, window := win, queue := q, first := 0, out := 0, l := [] } := by
  unfold backlog_New.f backlog_Cut.f
  have e1 : imax 8 (imin m 32768) = m := by unfold imax imin; repeat' split; all_goals omega
  have e2 : imax 1 (imin win (m / 8)) = win := by unfold imax imin; repeat' split; all_goals omega
  have e3 : imax 0 (imin q 1000) = q := by unfold imax imin; repeat' split; all_goals omega
  rw [e1, td8 (by omega), e2, e3, bsome]
theorem new_bi {m win q : Int} (hm : 8 ≤ m ∧ m ≤ 32768) (hw : 1 ≤ win ∧ win ≤ m / 8) (hq : 0 ≤ q ∧ q ≤ 1000) : BI { m := m, window := win, queue := q, first := 0, out := 0, l := [] } :=
  ⟨hm, by show 1 ≤ win ∧ win ≤ 4096; omega, hq, by show 0 ≤ (0 : Int) ∧ 0 < m; omega, by show 0 ≤ (0 : Int) ∧ 0 ≤ win ∧ (0 : Int) ≤ _; simp; omega, by simp; exact hq.1, by simp⟩
theorem alive_eq : signalmanlaw13_alive.f = some true := by
  show signalmanlaw13_alive.f = some true
  kernel_rfl
/-- The numbers of those that are out. -/
def outs (l : backlog_Log) : List Int := (List.range l.out.toNat).map fun (i : Nat) => (l.first + (i : Int)) % l.m
theorem out_l0 {l : backlog_Log} (h : BI l) : ∀ (d i : Nat) (k : Nat) (xs : List Int), (i : Int) + d = l.out → xs.length = i → d + 1 ≤ k → backlog_Log_Out.l0 k l i xs = some (xs ++ (List.range' i d).map fun (i : Nat) => (l.first + (i : Int)) % l.m)
  | 0, i, k, xs, hi, hx, hk => by
    obtain ⟨k, rfl⟩ : ∃ j, k = j + 1 := ⟨k - 1, by omega⟩
    rw [backlog_Log_Out.l0, if_neg (by omega)]; simp
  | d + 1, i, k, xs, hi, hx, hk => by
    obtain ⟨k, rfl⟩ : ∃ j, k = j + 1 := ⟨k - 1, by omega⟩
    have ho := h.out
    have hw := h.win
    rw [backlog_Log_Out.l0, if_pos (by omega), number_eq h.m h.first ⟨by omega, by omega⟩, bsome, if_pos (by simp only [List.length_cons, List.length_nil]; omega), w64_in ⟨by omega, by omega⟩]
    have := out_l0 h d (i + 1) k (xs ++ [(l.first + (i : Int)) % l.m]) (by omega) (by simp [hx]) (by omega)
    rw [show ((i : Nat) : Int) + 1 = ((i + 1 : Nat) : Int) by omega, this, List.range'_succ]; simp
theorem out_eq {l : backlog_Log} (h : BI l) {k : Nat} (hk : 5000 ≤ k) : backlog_Log_Out.f k l = some (outs l) := by
  have ho := h.out
  have hw := h.win
  unfold backlog_Log_Out.f outs
  have := out_l0 h l.out.toNat 0 k [] (by omega) rfl (by omega)
  rw [List.range_eq_range']; simpa using this
theorem outs_len (l : backlog_Log) : (outs l).length = l.out.toNat := by simp [outs]
theorem next_any {l : backlog_Log} (h : BI l) : ∃ a b c l', backlog_Log_Next.f l = some (a, b, c, l') ∧ BI l' ∧ l'.l = l.l ∧ l'.m = l.m ∧ l'.window = l.window ∧ l'.queue = l.queue := by
  by_cases h1 : l.out = (l.l.length : Int) ∨ l.out = l.window
  · exact ⟨_, _, _, _, next_no h1, h, rfl, rfl, rfl, rfl⟩
  · have ho := h.out
    exact ⟨_, _, _, _, next_yes h (by omega) (by omega), out_bi h (by omega) (by omega), rfl, rfl, rfl, rfl⟩
theorem j3_eq {l : backlog_Log} (h : l.m = 128 ∧ l.window = 16 ∧ l.queue = 20) (x : Int) : signalmanlaw13_BacklogClears.j3 (x, { m := l.m, window := l.window, queue := l.queue, first := 0, out := 0, l := [] }) false = some true := by
  obtain ⟨h1, h2, h3⟩ := h
  rw [h1, h2, h3]
  show signalmanlaw13_BacklogClears.j3 (x, _) false = some true
  kernel_rfl
theorem l2_eq (a0 : Int) (a1 : Int) : ∀ (d : Nat) (i : Int) (l : backlog_Log) (k : Nat), i + d = a1 → 0 ≤ i → a1 ≤ 16 → BI l → (l.l.length : Int) = a0 → l.m = 128 ∧ l.window = 16 ∧ l.queue = 20 → 5010 + d ≤ k → signalmanlaw13_BacklogClears.l2 k a0 a1 i l = some true
  | 0, i, l, k, hi, h0, h16, h, hl, hm, hk => by
    obtain ⟨k, rfl⟩ : ∃ j, k = j + 1 := ⟨k - 1, by omega⟩
    rw [signalmanlaw13_BacklogClears.l2, if_neg (by omega)]
    unfold backlog_Log_Clear.f backlog_Log_Len.f
    rw [bsome, if_pos hl, bsome, if_pos (show (([] : List (List Int)).length : Int) = 0 from rfl)]
    have hb : BI { m := l.m, window := l.window, queue := l.queue, first := 0, out := 0, l := [] } := by
      have := h.m; have := h.win; have := h.que
      exact ⟨h.m, h.win, h.que, by show 0 ≤ (0 : Int) ∧ 0 < l.m; omega, by show 0 ≤ (0 : Int) ∧ 0 ≤ l.window ∧ (0 : Int) ≤ _; simp; omega, by simp; omega, by simp⟩
    dsimp only
    rw [out_eq hb (by omega), bsome]
    exact j3_eq hm _
  | d + 1, i, l, k, hi, h0, h16, h, hl, hm, hk => by
    obtain ⟨k, rfl⟩ : ∃ j, k = j + 1 := ⟨k - 1, by omega⟩
    obtain ⟨a, b, c, l', e, hB, e1, e2, e3, e4⟩ := next_any h
    rw [signalmanlaw13_BacklogClears.l2, if_pos (by omega), e, bsome, w64_in ⟨by omega, by omega⟩]
    exact l2_eq a0 a1 d (i + 1) l' k (by omega) (by omega) h16 hB (by rw [e1]; exact hl) (by rw [e2, e3, e4]; exact hm) (by omega)
theorem l1_eq (a0 : Int) (a1 : Int) (h1 : 0 ≤ a1 ∧ a1 ≤ 16) : ∀ (d : Nat) (i : Int) (l : backlog_Log) (k : Nat), i + d = a0 → 0 ≤ i → a0 ≤ 20 → BI l → (l.l.length : Int) = i → l.out = 0 → l.m = 128 ∧ l.window = 16 ∧ l.queue = 20 → 5040 + d ≤ k → signalmanlaw13_BacklogClears.l1 k a0 a1 i l = some true
  | 0, i, l, k, hi, h0, h20, h, hl, hou, hm, hk => by
    obtain ⟨k, rfl⟩ : ∃ j, k = j + 1 := ⟨k - 1, by omega⟩
    rw [signalmanlaw13_BacklogClears.l1, if_neg (by omega)]
    exact l2_eq a0 a1 a1.toNat 0 l k (by omega) (by omega) h1.2 h (by omega) hm (by omega)
  | d + 1, i, l, k, hi, h0, h20, h, hl, hou, hm, hk => by
    obtain ⟨k, rfl⟩ : ∃ j, k = j + 1 := ⟨k - 1, by omega⟩
    rw [signalmanlaw13_BacklogClears.l1, if_pos (by omega), add_yes h (by omega) (by simp), bsome, w64_in ⟨by omega, by omega⟩]
    exact l1_eq a0 a1 h1 d (i + 1) _ k (by omega) (by omega) h20 (add_bi h (by omega) (by simp)) (by show ((l.l ++ [_]).length : Int) = _; rw [List.length_append]; simp; omega) hou hm (by omega)
theorem BacklogClears : signalmanlaw13_BacklogClears.Pure := by
  intro a0 a1 w0 w1
  obtain ⟨K, hK⟩ : ∃ K : Nat, 6000 ≤ K := ⟨6000, Nat.le_refl _⟩
  refine ⟨K, ?_⟩
  unfold signalmanlaw13_BacklogClears.f
  rw [alive_eq, bsome, if_pos rfl]
  have hj : ∀ b : Bool, (b = false → 0 ≤ a0 ∧ a0 ≤ 20 ∧ 0 ≤ a1 ∧ a1 ≤ 16) → signalmanlaw13_BacklogClears.j0 K a0 a1 true b = some true := by
    intro b hb
    unfold signalmanlaw13_BacklogClears.j0
    cases b with
    | true => rfl
    | false =>
      obtain ⟨b1, b2, b3, b4⟩ := hb rfl
      rw [if_neg (by simp), new_eq (by decide) (by decide) (by decide), bsome]
      exact l1_eq a0 a1 ⟨b3, b4⟩ a0.toNat 0 _ K (by omega) (by omega) b2 (new_bi (by decide) (by decide) (by decide)) rfl rfl ⟨rfl, rfl, rfl⟩ (by omega)
  by_cases c1 : a0 < 0
  · rw [if_pos c1]; exact hj _ (by simp)
  · rw [if_neg c1]
    by_cases c2 : a0 > 20
    · rw [if_pos c2]; exact hj _ (by simp)
    · rw [if_neg c2]
      by_cases c3 : a1 < 0
      · rw [if_pos c3]; exact hj _ (by simp)
      · rw [if_neg c3]; exact hj _ (fun h => by simp at h; omega)
end Go.Proofs.Ytdnfojgnbhcijaa

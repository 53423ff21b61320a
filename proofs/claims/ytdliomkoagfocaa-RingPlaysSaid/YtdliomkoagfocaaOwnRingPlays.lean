/- RingPlays: after arbitrary sequences of calls, the results of a Ring agree with the definition. Conditions: none beyond those of the given statement. -/
import Derived.Test.YtdliomkoagfocaaRunRingPlays
import Derived.KernelRfl
set_option linter.all false
namespace Go.Proofs.Ytdliomkoagfocaa
open Go.RowKit Go.Proofs.Ytdliomkoagfocaa.Walk
theorem bsome {α β : Type} (x : α) (g : α → Option β) : (some x).bind g = g x := Eq.trans (b := g x) rfl (Eq.symm rfl)
theorem u8w (x : Int) : IntKind.u8.wrap x = x % 256 := by
  simp [IntKind.wrap, IntKind.bits, IntKind.signed]
theorem i64nat {x : Int} (h0 : 0 ≤ x) (h1 : x < 9223372036854775808) : BitVec.ofInt 64 x = BitVec.ofNat 64 x.toNat := by
  apply BitVec.eq_of_toNat_eq
  simp [BitVec.toNat_ofInt]
  omega
theorem iand_nat {x y : Int} (h0 : 0 ≤ x) (h1 : x < 9223372036854775808) (h2 : 0 ≤ y) (h3 : y < 9223372036854775808) : iand .i64 x y = ((x.toNat &&& y.toNat : Nat) : Int) := by
  unfold iand
  show IntKind.i64.wrap (BitVec.ofInt 64 x &&& BitVec.ofInt 64 y).toNat = _
  rw [i64nat h0 h1, i64nat h2 h3, BitVec.toNat_and]
  simp only [BitVec.toNat_ofNat]
  rw [Nat.mod_eq_of_lt (by omega), Nat.mod_eq_of_lt (by omega)]
  have h4 : x.toNat &&& y.toNat ≤ x.toNat := Nat.and_le_left
  have := w64_in (n := ((x.toNat &&& y.toNat : Nat) : Int)) (by omega)
  exact this
theorem ior_nat {x y : Int} (h0 : 0 ≤ x) (h1 : x < 9223372036854775808) (h2 : 0 ≤ y) (h3 : y < 9223372036854775808) : ior .i64 x y = ((x.toNat ||| y.toNat : Nat) : Int) := by
  unfold ior
  show IntKind.i64.wrap (BitVec.ofInt 64 x ||| BitVec.ofInt 64 y).toNat = _
  rw [i64nat h0 h1, i64nat h2 h3, BitVec.toNat_or]
  simp only [BitVec.toNat_ofNat]
  rw [Nat.mod_eq_of_lt (by omega), Nat.mod_eq_of_lt (by omega)]
  have h4 : x.toNat ||| y.toNat < 2 ^ 63 := Nat.or_lt_two_pow (by omega) (by omega)
  have := w64_in (n := ((x.toNat ||| y.toNat : Nat) : Int)) (by omega)
  exact this
theorem iand_1 {x : Int} (h0 : 0 ≤ x) (h1 : x < 9223372036854775808) : iand .i64 x 1 = x % 2 := by
  rw [iand_nat h0 h1 (by omega) (by omega)]
  have : x.toNat &&& (1 : Int).toNat = x.toNat % 2 := Nat.and_one_is_mod _
  rw [this]; omega
theorem iand_255 {x : Int} (h0 : 0 ≤ x) (h1 : x < 9223372036854775808) : iand .i64 x 255 = x % 256 := by
  rw [iand_nat h0 h1 (by omega) (by omega)]
  have : x.toNat &&& (255 : Int).toNat = x.toNat % 256 := Nat.and_two_pow_sub_one_eq_mod _ 8
  rw [this]; omega
theorem ior_hi {x y : Int} (h0 : 0 ≤ x) (h1 : x < 256) (h2 : 0 ≤ y) (h3 : y < 36028797018963968) : ior .i64 x (y * 256) = x + 256 * y := by
  rw [ior_nat h0 (by omega) (by omega) (by omega)]
  have e : (y * 256).toNat = 2 ^ 8 * y.toNat := by omega
  have h4 := Nat.two_pow_add_eq_or_of_lt (i := 8) (b := x.toNat) (by omega) y.toNat
  rw [e, Nat.or_comm, ← h4]; omega
theorem ior_hi' {x y : Int} (h0 : 0 ≤ x) (h1 : x < 256) (h2 : 0 ≤ y) (h3 : y < 36028797018963968) : ior .i64 (y * 256) x = x + 256 * y := by
  rw [← ior_hi h0 h1 h2 h3, ior_nat (by omega) (by omega) h0 (by omega), ior_nat h0 (by omega) (by omega) (by omega), Nat.or_comm]
theorem byte_all {p : Int → Prop} (h : ∀ n : Fin 256, p (n.val : Int)) {z : Int} (h0 : 0 ≤ z) (h1 : z < 256) : p z := by
  have := h ⟨z.toNat, by omega⟩
  rwa [show ((z.toNat : Nat) : Int) = z by omega] at this
theorem wf8 {z : Int} (h : (Lit.int .u8 z).wf = true) : 0 ≤ z ∧ z < 256 := by simp [Lit.wf] at h; have := h; simp [IntKind.min, IntKind.max, IntKind.bits, IntKind.signed] at this; omega
theorem wf64 {z : Int} (h : (Lit.int .i64 z).wf = true) : -9223372036854775808 ≤ z ∧ z ≤ 9223372036854775807 := by simp [Lit.wf] at h; have := h; simp [IntKind.min, IntKind.max, IntKind.bits, IntKind.signed] at this; omega
def sumI : List Int → Int
  | [] => 0
  | p :: ps => p + sumI ps
theorem sumI_append : ∀ a b : List Int, sumI (a ++ b) = sumI a + sumI b
  | [], b => by simp [sumI]
  | p :: a, b => by simp [sumI, sumI_append a b]; omega
theorem sumI_nonneg : ∀ {l : List Int}, (∀ p ∈ l, 0 ≤ p) → 0 ≤ sumI l
  | [], _ => by simp [sumI]
  | p :: l, h => by
    have := sumI_nonneg fun q hq => h q (.tail _ hq)
    have := h p (.head _)
    simp [sumI]; omega
/-- What the taking of n octets leaves of the piece that was begun, and of the pieces. -/
def pass : Int → Int → List Int → Int × List Int
  | n, b, [] => if n ≤ b then (b - n, []) else (0, [])
  | n, b, p :: ps => if n ≤ b then (b - n, p :: ps) else pass (n - b) p ps
theorem pass_le {n b : Int} (h : n ≤ b) (ps : List Int) : pass n b ps = (b - n, ps) := by cases ps <;> simp [pass, h]
theorem pass_gt {n b : Int} (h : ¬ n ≤ b) (p : Int) (ps : List Int) : pass n b (p :: ps) = pass (n - b) p ps := by simp [pass, h]
theorem pass_facts : ∀ {ps : List Int} {n b : Int}, 0 ≤ n → 0 ≤ b → (∀ p ∈ ps, 0 ≤ p) → n ≤ b + sumI ps →
    0 ≤ (pass n b ps).1 ∧ (∀ p ∈ (pass n b ps).2, 0 ≤ p) ∧ (pass n b ps).1 + sumI (pass n b ps).2 = b + sumI ps - n ∧ (pass n b ps).2.length ≤ ps.length
  | [], n, b, h0, h1, h2, h3 => by
    have : n ≤ b := by simpa [sumI] using h3
    rw [pass_le this]
    exact ⟨by omega, h2, by simp [sumI], Nat.le_refl _⟩
  | p :: ps, n, b, h0, h1, h2, h3 => by
    by_cases h : n ≤ b
    · rw [pass_le h]
      exact ⟨by omega, h2, by show b - n + sumI (p :: ps) = _; omega, Nat.le_refl _⟩
    · rw [pass_gt h]
      simp only [sumI] at h3
      obtain ⟨a1, a2, a3, a4⟩ := pass_facts (ps := ps) (n := n - b) (b := p) (by omega) (h2 p (.head _)) (fun q hq => h2 q (.tail _ hq)) (by omega)
      refine ⟨a1, a2, by rw [a3]; simp [sumI]; omega, by simp; omega⟩
def rst (r : ring_Ring) (b : Int) (ps : List Int) : ring_Ring := { room := r.room, b := r.b, begun := b, pieces := ps, dropped := r.dropped }
theorem imin_l {a b : Int} (h : a ≤ b) : imin a b = a := by unfold imin; split <;> omega
theorem imin_r {a b : Int} (h : b ≤ a) : imin a b = b := by unfold imin; split <;> omega
theorem pl_end (r : ring_Ring) (k : Nat) (b : Int) (ps : List Int) : ring_Ring_passed.l0 (k + 1) 0 (rst r b ps) = some (rst r b ps) := by
  rw [ring_Ring_passed.l0, if_neg (by omega)]
theorem pl_a (r : ring_Ring) (k : Nat) {n b : Int} {ps : List Int} (h0 : 0 < n) (hb : 0 < b) (h1 : n ≤ 4194304) (h2 : b ≤ 4194304) : ring_Ring_passed.l0 (k + 1) n (rst r b ps) = ring_Ring_passed.l0 k (n - imin n b) (rst r (b - imin n b) ps) := by
  have hm : 0 ≤ imin n b ∧ imin n b ≤ n ∧ imin n b ≤ b := by unfold imin; split <;> omega
  unfold rst
  rw [ring_Ring_passed.l0, if_pos (by omega)]
  dsimp only
  rw [if_neg (by omega), w64_in ⟨by omega, by omega⟩, w64_in ⟨by omega, by omega⟩]
theorem pl_b (r : ring_Ring) (k : Nat) {n p : Int} {ps : List Int} (h0 : 0 < n) (hp : 0 ≤ p) (h1 : n ≤ 4194304) (h2 : p ≤ 4194304) : ring_Ring_passed.l0 (k + 1) n (rst r 0 (p :: ps)) = if p = 0 then ring_Ring_passed.l0 k n (rst r 0 ps) else ring_Ring_passed.l0 (k + 1) n (rst r p ps) := by
  have hm : 0 ≤ imin n p ∧ imin n p ≤ n ∧ imin n p ≤ p := by unfold imin; split <;> omega
  have hA := fun hp' => pl_a r k (n := n) (b := p) (ps := ps) h0 hp' h1 h2
  unfold rst at *
  rw [ring_Ring_passed.l0, if_pos (by omega)]
  dsimp only
  rw [if_pos (show (0 : Int) = 0 from rfl)]
  simp only [List.length_cons]
  rw [if_pos ⟨by omega, by omega⟩, if_pos ⟨by omega, by omega, by omega⟩]
  have hc : cut (p :: ps) 1 ((ps.length + 1 : Nat) : Int) = ps := by simp [cut]
  have hg : (p :: ps).getD ((0 : Int)).toNat 0 = p := rfl
  rw [hc, hg, w64_in ⟨by omega, by omega⟩, w64_in ⟨by omega, by omega⟩]
  by_cases h : p = 0
  · subst h
    have e : imin n 0 = 0 := imin_r (by omega)
    rw [if_pos rfl, e]; simp
  · rw [if_neg h]
    rw [hA (by omega)]
theorem passed_eq (r : ring_Ring) : ∀ (ps : List Int) (n b : Int) (k : Nat), 0 ≤ n → 0 ≤ b → (∀ p ∈ ps, 0 ≤ p) → n ≤ b + sumI ps → b + sumI ps ≤ 4194304 → 2 * ps.length + 3 ≤ k →
    ring_Ring_passed.l0 k n (rst r b ps) = some (rst r (pass n b ps).1 (pass n b ps).2)
  | ps, n, b, k, h0, hb, hp, h1, h2, hk => by
    obtain ⟨k, rfl⟩ : ∃ j, k = j + 3 := ⟨k - 3, by omega⟩
    have hs := sumI_nonneg hp
    by_cases hn : n = 0
    · subst hn
      rw [pl_end, pass_le hb]; simp
    · -- behind what was begun
      have key : ∀ (j : Nat) (m : Int), 0 < m → m ≤ sumI ps → 2 * ps.length + 2 ≤ j → ring_Ring_passed.l0 j m (rst r 0 ps) = some (rst r (pass m 0 ps).1 (pass m 0 ps).2) := by
        intro j m hm hms hj
        cases ps with
        | nil => simp [sumI] at hms; omega
        | cons p ps =>
          simp only [sumI] at hms h2 h1
          have hp0 := hp p (.head _)
          have hps := sumI_nonneg fun q hq => hp q (.tail _ hq)
          simp only [List.length_cons] at hj hk
          obtain ⟨j, rfl⟩ : ∃ i, j = i + 1 := ⟨j - 1, by omega⟩
          rw [pl_b r j hm hp0 (by omega) (by omega), pass_gt (by omega), show m - 0 = m by omega]
          by_cases hz : p = 0
          · subst hz
            rw [if_pos rfl]
            exact passed_eq r ps m 0 j (by omega) (by omega) (fun q hq => hp q (.tail _ hq)) (by omega) (by omega) (by omega)
          · rw [if_neg hz]
            exact passed_eq r ps m p (j + 1) (by omega) hp0 (fun q hq => hp q (.tail _ hq)) (by omega) (by omega) (by omega)
      by_cases hb0 : b = 0
      · subst hb0
        exact key (k + 3) n (by omega) (by omega) (by omega)
      · by_cases hnb : n ≤ b
        · rw [pl_a r (k + 2) (by omega) (by omega) (by omega) (by omega), imin_l hnb, show n - n = 0 by omega, pl_end, pass_le hnb]
        · rw [pl_a r (k + 2) (by omega) (by omega) (by omega) (by omega), imin_r (by omega), show b - b = 0 by omega, key (k + 2) (n - b) (by omega) (by omega) (by omega)]
          cases ps with
          | nil => simp [sumI] at h1; omega
          | cons p ps =>
            rw [pass_gt (n := n) hnb, pass_gt (n := n - b) (by omega), show n - b - 0 = n - b by omega]
termination_by ps => ps.length

/-- How a ring stands. -/
structure RI (r : ring_Ring) : Prop where
  room : 0 ≤ r.room ∧ r.room ≤ 1048576
  sum : (r.b.length : Int) = r.begun + sumI r.pieces
  begun : 0 ≤ r.begun
  pos : ∀ p ∈ r.pieces, 0 ≤ p
  fit : (r.b.length : Int) ≤ r.room
  few : r.pieces.length ≤ 1000
  drop : 0 ≤ r.dropped ∧ r.dropped ≤ 4294967295
theorem clone_eq {l : List Int} (h : (l.length : Int) ≤ 1099511627776) : slices_Clone_Sbytebyte.f l = some l := by
  unfold slices_Clone_Sbytebyte.f
  rw [if_pos (by simp; omega)]; rfl
theorem delete_eq {l : List Int} {m : Nat} (h : m ≤ l.length) : slices_Delete_Sbytebyte.f l 0 (m : Int) = some (l.drop m) := by
  unfold slices_Delete_Sbytebyte.f
  rw [if_pos ⟨by omega, by omega, by omega⟩]
  by_cases h0 : (0 : Int) = (m : Int)
  · rw [if_pos h0]
    have : m = 0 := by omega
    subst this; rfl
  · rw [if_neg h0, if_pos ⟨by omega, by omega, by omega⟩, if_pos ⟨by omega, by omega, by omega⟩]
    congr 1
    simp [cut]
    exact List.take_of_length_le (by simp)
theorem cut0 {α : Type} (l : List α) (n : Nat) : cut l 0 (n : Int) = l.take n := by simp [cut]
/-- How many octets a call takes. -/
def takes (n : Int) (l : Nat) : Nat := (imax 0 (imin n (l : Int))).toNat
theorem takes_le (n : Int) (l : Nat) : takes n l ≤ l := by unfold takes imax imin; repeat' split; all_goals omega
theorem takes_all {n : Int} {l : Nat} (h : (l : Int) ≤ n) : takes n l = l := by unfold takes imax imin; repeat' split; all_goals omega
theorem takes_int (n : Int) (l : Nat) : imax 0 (imin n (l : Int)) = (takes n l : Int) := by
  have : 0 ≤ imax 0 (imin n (l : Int)) := by unfold imax; split <;> omega
  unfold takes; omega
def ringTake (r : ring_Ring) (m : Nat) : ring_Ring := { room := r.room, b := r.b.drop m, begun := (pass m r.begun r.pieces).1, pieces := (pass m r.begun r.pieces).2, dropped := r.dropped }
theorem take_eq {r : ring_Ring} (h : RI r) (n : Int) {k : Nat} (hk : 2003 ≤ k) : ring_Ring_Take.f k r n = some (r.b.take (takes n r.b.length), ringTake r (takes n r.b.length)) := by
  have hm := takes_le n r.b.length
  have h1 := h.sum
  have h2 := h.fit
  have h3 := h.room
  have h4 := h.few
  unfold ring_Ring_Take.f
  rw [takes_int]
  generalize takes n r.b.length = m at *
  have hc : cut r.b 0 (m : Int) = r.b.take m := by simp [cut]
  rw [if_pos ⟨by omega, by omega, by omega⟩, hc, clone_eq (by rw [List.length_take]; omega), bsome, delete_eq hm, bsome]
  unfold ring_Ring_passed.f
  have := passed_eq { room := r.room, b := r.b.drop m, begun := r.begun, pieces := r.pieces, dropped := r.dropped } r.pieces m r.begun k (by omega) h.begun h.pos (by omega) (by omega) (by omega)
  simp only [rst] at this
  rw [this, bsome]; rfl
theorem take_ri {r : ring_Ring} (h : RI r) (n : Int) : RI (ringTake r (takes n r.b.length)) := by
  have hm := takes_le n r.b.length
  have h1 := h.sum
  have h2 := h.fit
  obtain ⟨a1, a2, a3, a4⟩ := pass_facts (ps := r.pieces) (n := (takes n r.b.length : Int)) (b := r.begun) (by omega) h.begun h.pos (by omega)
  generalize takes n r.b.length = m at *
  exact ⟨h.room, by show ((r.b.drop m).length : Int) = _; rw [List.length_drop]; show _ = (pass m r.begun r.pieces).1 + sumI (pass m r.begun r.pieces).2; omega, a1, a2, by show ((r.b.drop m).length : Int) ≤ _; rw [List.length_drop]; have := h.room; show _ ≤ r.room; omega, Nat.le_trans a4 h.few, h.drop⟩
def ringNo (r : ring_Ring) : ring_Ring := { room := r.room, b := r.b, begun := r.begun, pieces := r.pieces, dropped := imin (r.dropped + 1) 4294967295 }
def ringAdd (r : ring_Ring) (a : List Int) : ring_Ring := { room := r.room, b := r.b ++ a, begun := r.begun, pieces := r.pieces ++ [(a.length : Int)], dropped := r.dropped }
theorem add_no {r : ring_Ring} (h : RI r) {a : List Int} (hn : r.room < (r.b.length : Int) + (a.length : Int)) : ring_Ring_Add.f r a = some (false, ringNo r) := by
  have h2 := h.fit
  have h3 := h.room
  have h4 := h.drop
  unfold ring_Ring_Add.f
  rw [w64_in (n := r.room - (r.b.length : Int)) ⟨by omega, by omega⟩, if_pos (by omega), w64_in ⟨by omega, by omega⟩]; rfl
theorem add_yes {r : ring_Ring} (h : RI r) {a : List Int} (hn : (r.b.length : Int) + (a.length : Int) ≤ r.room) : ring_Ring_Add.f r a = some (true, ringAdd r a) := by
  have h2 := h.fit
  have h3 := h.room
  have h4 := h.few
  unfold ring_Ring_Add.f
  rw [w64_in (n := r.room - (r.b.length : Int)) ⟨by omega, by omega⟩, if_neg (by omega), if_pos (by omega), if_pos (by simp only [List.length_cons, List.length_nil]; omega)]; rfl
theorem no_ri {r : ring_Ring} (h : RI r) : RI (ringNo r) := ⟨h.room, h.sum, h.begun, h.pos, h.fit, h.few, by have := h.drop; show 0 ≤ imin _ _ ∧ imin _ _ ≤ _; unfold imin; split <;> omega⟩
theorem add_ri {r : ring_Ring} (h : RI r) {a : List Int} (hn : (r.b.length : Int) + (a.length : Int) ≤ r.room) (hf : r.pieces.length < 1000) : RI (ringAdd r a) := by
  refine ⟨h.room, ?_, h.begun, ?_, ?_, ?_, h.drop⟩
  · show ((r.b ++ a).length : Int) = r.begun + sumI (r.pieces ++ [(a.length : Int)])
    rw [sumI_append, List.length_append]; have := h.sum; simp [sumI]; omega
  · intro p hp
    rcases List.mem_append.1 hp with hp | hp
    · exact h.pos p hp
    · simp at hp; omega
  · show ((r.b ++ a).length : Int) ≤ r.room
    rw [List.length_append]; omega
  · show (r.pieces ++ [(a.length : Int)]).length ≤ 1000
    rw [List.length_append]; simp; omega
theorem new_eq {n : Int} (h : 0 ≤ n ∧ n ≤ 1048576) : ring_New.f n = some { room := n, b := [], begun := 0, pieces := [], dropped := 0 } := by
  unfold ring_New.f
  have : imax 0 (imin n 1048576) = n := by unfold imax imin; repeat' split; all_goals omega
  rw [this]
theorem new_ri {n : Int} (h : 0 ≤ n ∧ n ≤ 1048576) : RI { room := n, b := [], begun := 0, pieces := [], dropped := 0 } := ⟨h, rfl, by simp, by simp, by simpa using h.1, by simp, by simp⟩
theorem alive_eq {k : Nat} (h : 2003 ≤ k) : signalmanlaw11_alive.f k = some true := by
  unfold signalmanlaw11_alive.f
  rw [new_eq (by decide), bsome]
  have r0 := new_ri (n := 5) (by decide)
  rw [take_eq r0 3 h, bsome]
  have r1 := take_ri r0 3
  have e1 : (takes 3 ([] : List Int).length) = 0 := by decide
  simp only [e1] at r1 ⊢
  have r1' : RI (ringTake { room := 5, b := [], begun := 0, pieces := [], dropped := 0 } 0) := r1
  rw [add_yes r1' (a := [97, 98, 99]) (by decide), bsome, if_pos (by decide), if_pos rfl]
  have r2 := add_ri r1' (a := [97, 98, 99]) (by decide) (by decide)
  rw [add_no r2 (a := [100, 101, 102]) (by decide), bsome, if_neg (by simp)]
  unfold ring_Ring_Dropped.f
  rw [bsome, if_pos (by decide), take_eq (no_ri r2) 2 h, bsome]
  decide +kernel
theorem cut_eq {n lo hi : Int} (h : lo ≤ hi) : signalmanref1_Cut.f n lo hi = some (imax lo (imin n hi)) := by
  unfold signalmanref1_Cut.f imax imin
  by_cases h1 : n < lo
  · rw [if_pos h1]; congr 1; repeat' split
    all_goals omega
  · rw [if_neg h1]
    by_cases h2 : n > hi
    · rw [if_pos h2]; congr 1; repeat' split
      all_goals omega
    · rw [if_neg h2]; congr 1; repeat' split
      all_goals omega
def lens (l : List (List Int)) : List Int := l.map fun a => (a.length : Int)
theorem sum_lens : ∀ l : List (List Int), sumI (lens l) = (l.flatten.length : Int)
  | [] => rfl
  | a :: l => by
    show (a.length : Int) + sumI (lens l) = _
    rw [sum_lens l, List.flatten_cons, List.length_append]; omega
/-- What is left of pieces when so many octets are taken, and whether the first one was begun. -/
def rem : Int → List Int → Bool → List Int × Bool
  | m, [], f => if m ≤ 0 then ([], f) else ([], false)
  | m, x :: xs, f => if m ≤ 0 then (x :: xs, f) else if x ≤ m then rem (m - x) xs false else ((x - m) :: xs, true)
theorem rem_zero {m : Int} (h : m ≤ 0) (l : List Int) (f : Bool) : rem m l f = (l, f) := by cases l <;> simp [rem, h]
theorem rem_flag {m : Int} (h : 0 < m) (l : List Int) (f g : Bool) : rem m l f = rem m l g := by
  cases l <;> simp [rem, show ¬ m ≤ 0 by omega]
def nz (l : List Int) : List Int := l.filter (fun p => decide (p ≠ 0))
def norm (b : Int) (ps : List Int) : List Int := if b > 0 then b :: nz ps else nz ps
theorem norm_cons {p : Int} (h : 0 ≤ p) (ps : List Int) : norm p ps = nz (p :: ps) := by
  unfold norm nz
  by_cases h0 : p = 0
  · subst h0; simp
  · rw [if_pos (by omega)]; simp [h0]
theorem pass_rem : ∀ {ps : List Int} {m b : Int}, 0 ≤ m → 0 ≤ b → (∀ p ∈ ps, 0 ≤ p) → m ≤ b + sumI ps →
    (norm (pass m b ps).1 (pass m b ps).2, decide ((pass m b ps).1 > 0)) = rem m (norm b ps) (decide (b > 0))
  | ps, m, b, h0, h1, h2, h3 => by
    by_cases hm : m ≤ b
    · rw [pass_le hm]
      by_cases hz : m ≤ 0
      · have : m = 0 := by omega
        subst this
        rw [rem_zero (by omega)]; simp
      · unfold norm
        rw [if_pos (show b > 0 by omega)]
        simp only [rem]
        rw [if_neg hz]
        by_cases hb : b ≤ m
        · have : m = b := by omega
          subst this
          rw [if_neg (show ¬ m - m > 0 by omega), if_pos (show m ≤ m by omega), rem_zero (by omega), decide_eq_false (show ¬ m - m > 0 by omega)]
        · rw [if_neg hb, if_pos (show b - m > 0 by omega), decide_eq_true (show b - m > 0 by omega)]
    · cases ps with
      | nil => simp [sumI] at h3; omega
      | cons p ps =>
        have hp := h2 p (.head _)
        simp only [sumI] at h3
        rw [pass_gt hm, pass_rem (by omega) hp (fun q hq => h2 q (.tail _ hq)) (by omega), norm_cons hp]
        by_cases hb : b > 0
        · unfold norm
          rw [if_pos hb]
          simp only [rem]
          rw [if_neg (by omega), if_pos (by omega)]
          exact rem_flag (by omega) _ _ _
        · have : b = 0 := by omega
          subst this
          have e : norm 0 (p :: ps) = nz (p :: ps) := by unfold norm; rw [if_neg (by omega)]
          rw [e, show m - 0 = m by omega]
          exact rem_flag (by omega) _ _ _
termination_by ps => ps.length
/-- The definition's Take. -/
def rest (s : signalmanref6_Ring) (l : List (List Int)) (b : Bool) : signalmanref6_Ring := { room := s.room, l := l, begun := b, dropped := s.dropped }
theorem rt_end (s : signalmanref6_Ring) (k : Nat) {n : Int} (h : ¬ n > 0) (out : List Int) (l : List (List Int)) (f : Bool) : signalmanref6_Ring_Take.l0 (k + 1) n out (rest s l f) = some (out, rest s l f) := by
  rw [signalmanref6_Ring_Take.l0, if_neg h]
theorem rt_nil (s : signalmanref6_Ring) (k : Nat) (n : Int) (out : List Int) (f : Bool) : signalmanref6_Ring_Take.l0 (k + 1) n out (rest s [] f) = some (out, rest s [] f) := by
  unfold rest
  rw [signalmanref6_Ring_Take.l0]
  by_cases h : n > 0
  · rw [if_pos h]; dsimp only; rw [if_neg (by simp)]
  · rw [if_neg h]
theorem rt_step (s : signalmanref6_Ring) (k : Nat) {n : Int} (h0 : n > 0) (hn : n ≤ 9223372036854775807) (out x : List Int) (xs : List (List Int)) (f : Bool) (hlen : (out.length : Int) + (x.length : Int) ≤ 4194304) :
    signalmanref6_Ring_Take.l0 (k + 1) n out (rest s (x :: xs) f) = if (x.drop (takes n x.length)).length = 0 then signalmanref6_Ring_Take.l0 k (n - (takes n x.length : Int)) (out ++ x.take (takes n x.length)) (rest s xs false)
      else signalmanref6_Ring_Take.l0 k (n - (takes n x.length : Int)) (out ++ x.take (takes n x.length)) (rest s (x.drop (takes n x.length) :: xs) true) := by
  have ht : imax 0 (imin n (x.length : Int)) = ((takes n x.length : Nat) : Int) := takes_int _ _
  have htl := takes_le n x.length
  have hts : (takes n x.length : Int) ≤ n := by unfold takes imax imin; repeat' split; all_goals omega
  have hg : (x :: xs).getD ((0 : Int)).toNat [] = x := rfl
  have hs : ∀ y, (x :: xs).set ((0 : Int)).toNat y = y :: xs := fun y => rfl
  have hg2 : ∀ y : List Int, (y :: xs).getD ((0 : Int)).toNat [] = y := fun y => rfl
  have hl2 : ∀ y : List Int, ((y :: xs).length : Int) = (xs.length : Int) + 1 := by simp
  have hx1 := hl2 x
  unfold rest
  rw [signalmanref6_Ring_Take.l0, if_pos h0]
  dsimp only
  rw [if_pos (show ((x :: xs).length : Int) > 0 by omega), if_pos (show 0 ≤ (0 : Int) ∧ (0 : Int) < ((x :: xs).length : Int) from ⟨by omega, by omega⟩), hg, cut_eq (by omega), bsome, ht]
  generalize takes n x.length = t at *
  have hc1 : cut x 0 ((t : Nat) : Int) = x.take t := cut0 _ _
  have hc2 : cut x ((t : Nat) : Int) (x.length : Int) = x.drop t := by simp [cut]; exact List.take_of_length_le (by simp)
  have hd1 := hl2 (x.drop t)
  rw [if_pos (show 0 ≤ (0 : Int) ∧ (0 : Int) ≤ (t : Int) ∧ (t : Int) ≤ (x.length : Int) from ⟨by omega, by omega, by omega⟩), hc1, hc2, if_pos (show (out.length : Int) + ((x.take t).length : Int) ≤ 1099511627776 by rw [List.length_take]; omega), if_pos (show 0 ≤ (t : Int) ∧ (t : Int) ≤ (x.length : Int) ∧ (x.length : Int) ≤ (x.length : Int) from ⟨by omega, by omega, by omega⟩), hs, if_pos (show 0 ≤ (0 : Int) ∧ (0 : Int) < ((x.drop t :: xs).length : Int) from ⟨by omega, by omega⟩), hg2, w64_in ⟨by omega, by omega⟩]
  by_cases hz : (x.drop t).length = 0
  · rw [if_pos (show ((x.drop t).length : Int) = 0 by omega), if_pos hz, if_pos (show 0 ≤ (1 : Int) ∧ (1 : Int) ≤ ((x.drop t :: xs).length : Int) ∧ ((x.drop t :: xs).length : Int) ≤ ((x.drop t :: xs).length : Int) from ⟨by omega, by omega, by omega⟩), hd1]
    have hc3 : cut (x.drop t :: xs) 1 ((xs.length : Int) + 1) = xs := by simp [cut]
    rw [hc3]
  · rw [if_neg (show ¬ ((x.drop t).length : Int) = 0 by omega), if_neg hz]
theorem reftake_l0 (s : signalmanref6_Ring) : ∀ (l : List (List Int)) (n : Int) (out : List Int) (f : Bool) (k : Nat), (∀ x ∈ l, x ≠ []) → l.length + 2 ≤ k → (out.length : Int) + (l.flatten.length : Int) ≤ 4194304 → n ≤ 9223372036854775807 →
    ∃ l', signalmanref6_Ring_Take.l0 k n out (rest s l f) = some (out ++ l.flatten.take (takes n l.flatten.length), rest s l' (rem (takes n l.flatten.length : Int) (lens l) f).2) ∧ l'.flatten = l.flatten.drop (takes n l.flatten.length) ∧ lens l' = (rem (takes n l.flatten.length : Int) (lens l) f).1 ∧ (∀ x ∈ l', x ≠ []) ∧ l'.length ≤ l.length
  | [], n, out, f, k, hne, hk, hlen, hn => by
    obtain ⟨k, rfl⟩ : ∃ j, k = j + 1 := ⟨k - 1, by omega⟩
    have hz : takes n ([] : List (List Int)).flatten.length = 0 := Nat.le_zero.1 (takes_le n 0)
    rw [hz, rem_zero (by omega)]
    exact ⟨[], by rw [rt_nil]; simp, rfl, rfl, by simp, by simp⟩
  | x :: xs, n, out, f, k, hne, hk, hlen, hn => by
    obtain ⟨k, rfl⟩ : ∃ j, k = j + 1 := ⟨k - 1, by omega⟩
    have hx : x ≠ [] := hne x (.head _)
    have hxl : 0 < x.length := List.length_pos_iff.2 hx
    have hfl : (x :: xs).flatten.length = x.length + xs.flatten.length := by rw [List.flatten_cons, List.length_append]
    simp only [List.length_cons] at hk
    by_cases h0 : n > 0
    · have hlc : lens (x :: xs) = (x.length : Int) :: lens xs := rfl
      by_cases hge : n ≥ (x.length : Int)
      · have htx : takes n x.length = x.length := takes_all (by omega)
        have hst := rt_step s k h0 hn out x xs f (by omega)
        rw [htx, if_pos (by rw [List.length_drop]; omega), List.take_of_length_le (Nat.le_refl _)] at hst
        obtain ⟨l', e1, e2, e3, e4, e5⟩ := reftake_l0 s xs (n - (x.length : Int)) (out ++ x) false k (fun y hy => hne y (.tail _ hy)) (by omega) (by rw [List.length_append]; omega) (by omega)
        have htt : takes n (x :: xs).flatten.length = x.length + takes (n - (x.length : Int)) xs.flatten.length := by
          rw [hfl]; unfold takes imax imin; repeat' split
          all_goals omega
        have hrem : rem (takes n (x :: xs).flatten.length : Int) (lens (x :: xs)) f = rem (takes (n - (x.length : Int)) xs.flatten.length : Int) (lens xs) false := by
          rw [htt, hlc]
          simp only [rem]
          rw [if_neg (by omega), if_pos (by omega)]; congr 1; omega
        refine ⟨l', ?_, ?_, by rw [hrem]; exact e3, e4, by simp; omega⟩
        · rw [hrem, hst, e1, htt, List.flatten_cons, List.take_append, List.take_of_length_le (show x.length ≤ x.length + _ by omega), List.append_assoc, show x.length + takes (n - (x.length : Int)) xs.flatten.length - x.length = takes (n - (x.length : Int)) xs.flatten.length by omega]
        · have hdr : x.drop (x.length + takes (n - (x.length : Int)) xs.flatten.length) = [] := List.drop_eq_nil_of_le (by omega)
          rw [e2, htt, List.flatten_cons, List.drop_append, hdr, show x.length + takes (n - (x.length : Int)) xs.flatten.length - x.length = takes (n - (x.length : Int)) xs.flatten.length by omega]; rfl
      · obtain ⟨t, ht⟩ : ∃ t : Nat, n = (t : Int) := ⟨n.toNat, by omega⟩
        subst ht
        have htx : takes (t : Int) x.length = t := by unfold takes imax imin; repeat' split; all_goals omega
        have htt : takes (t : Int) (x :: xs).flatten.length = t := by
          rw [hfl]; unfold takes imax imin; repeat' split
          all_goals omega
        have hst := rt_step s k h0 hn out x xs f (by omega)
        obtain ⟨k, rfl⟩ : ∃ j, k = j + 1 := ⟨k - 1, by omega⟩
        rw [htx, if_neg (by rw [List.length_drop]; omega), rt_end s k (by omega)] at hst
        have hrem : rem (t : Int) (lens (x :: xs)) f = (((x.length : Int) - (t : Int)) :: lens xs, true) := by
          rw [hlc]; simp only [rem]
          rw [if_neg (by omega), if_neg (by omega)]
        rw [htt, hrem]
        refine ⟨x.drop t :: xs, ?_, ?_, ?_, ?_, by simp⟩
        · rw [hst, List.flatten_cons, List.take_append_of_le_length (by omega)]
        · rw [List.flatten_cons, List.flatten_cons, List.drop_append_of_le_length (by omega)]
        · show ((x.drop t).length : Int) :: lens xs = _
          rw [List.length_drop]; congr 1; omega
        · intro y hy
          rcases List.mem_cons.1 hy with rfl | hy
          · intro e; have := congrArg List.length e; rw [List.length_drop] at this; simp at this; omega
          · exact hne y (.tail _ hy)
    · have hz : takes n (x :: xs).flatten.length = 0 := by
        unfold takes imax imin; repeat' split
        all_goals omega
      rw [hz, rem_zero (by omega)]
      exact ⟨x :: xs, by rw [rt_end s k h0]; simp, rfl, rfl, hne, Nat.le_refl _⟩
theorem reflen_l0 (s : signalmanref6_Ring) : ∀ (d i : Nat) (acc : Int) (k : Nat), i + d = s.l.length → acc = ((s.l.take i).flatten.length : Int) → (s.l.flatten.length : Int) ≤ 4194304 → s.l.length ≤ 100000 → d + 1 ≤ k → signalmanref6_Ring_Len.l0 k s acc i = some (s.l.flatten.length : Int)
  | 0, i, acc, k, hi, ha, hl, hn, hk => by
    obtain ⟨k, rfl⟩ : ∃ j, k = j + 1 := ⟨k - 1, by omega⟩
    rw [signalmanref6_Ring_Len.l0, if_neg (by omega), ha, List.take_of_length_le (by omega)]
  | d + 1, i, acc, k, hi, ha, hl, hn, hk => by
    obtain ⟨k, rfl⟩ : ∃ j, k = j + 1 := ⟨k - 1, by omega⟩
    have hlt : i < s.l.length := by omega
    have hg : s.l.getD ((i : Nat) : Int).toNat [] = s.l[i] := by simp [List.getD, hlt]
    have ht : s.l.take (i + 1) = s.l.take i ++ [s.l[i]] := by rw [List.take_succ_eq_append_getElem hlt]
    have hf : ((s.l.take (i + 1)).flatten.length : Int) = acc + (s.l[i].length : Int) := by rw [ht, List.flatten_append, ha]; simp
    have hle : ((s.l.take (i + 1)).flatten.length : Int) ≤ (s.l.flatten.length : Int) := by
      conv => rhs; rw [← List.take_append_drop (i + 1) s.l, List.flatten_append, List.length_append]
      omega
    rw [signalmanref6_Ring_Len.l0, if_pos (by omega), if_pos ⟨by omega, by omega⟩, hg, w64_in ⟨by omega, by omega⟩, w64_in ⟨by omega, by omega⟩, ← hf, show ((i : Nat) : Int) + 1 = ((i + 1 : Nat) : Int) by omega]
    exact reflen_l0 s d (i + 1) _ k (by omega) rfl hl hn (by omega)
/-- The two stand alike. -/
structure Rel (r : ring_Ring) (s : signalmanref6_Ring) : Prop where
  ri : RI r
  room : s.room = r.room
  drop : s.dropped = r.dropped
  b : r.b = s.l.flatten
  ne : ∀ x ∈ s.l, x ≠ []
  ln : lens s.l = norm r.begun r.pieces
  bg : s.begun = decide (r.begun > 0)
theorem reflen_eq {r : ring_Ring} {s : signalmanref6_Ring} (h : Rel r s) (hn : s.l.length ≤ 1000) {k : Nat} (hk : 2003 ≤ k) : signalmanref6_Ring_Len.f k s = some (r.b.length : Int) := by
  have hf := h.ri.fit
  have hr := h.ri.room
  rw [h.b] at hf ⊢
  exact reflen_l0 s s.l.length 0 0 k (by omega) rfl (by omega) (by omega) (by omega)
theorem rel_take {r : ring_Ring} {s : signalmanref6_Ring} (h : Rel r s) (hn : s.l.length ≤ 1000) {n : Int} (hn2 : n ≤ 9223372036854775807) {k : Nat} (hk : 2003 ≤ k) :
    ∃ x r' s', ring_Ring_Take.f k r n = some (x, r') ∧ signalmanref6_Ring_Take.f k s n = some (x, s') ∧ Rel r' s' ∧ s'.l.length ≤ s.l.length ∧ r'.pieces.length ≤ r.pieces.length := by
  have hm := takes_le n r.b.length
  have hf := h.ri.fit
  have hr := h.ri.room
  have hsum := h.ri.sum
  obtain ⟨l', e1, e2, e3, e4, e5⟩ := reftake_l0 s s.l n [] s.begun k h.ne (by omega) (by rw [← h.b]; simp; omega) hn2
  rw [← h.b] at e1 e2 e3
  have hp := pass_rem (ps := r.pieces) (m := (takes n r.b.length : Int)) (b := r.begun) (by omega) h.ri.begun h.ri.pos (by omega)
  have hpl := (pass_facts (ps := r.pieces) (n := (takes n r.b.length : Int)) (b := r.begun) (by omega) h.ri.begun h.ri.pos (by omega)).2.2.2
  refine ⟨_, _, rest s l' (rem (takes n r.b.length : Int) (lens s.l) s.begun).2, take_eq h.ri n hk, ?_, ?_, e5, hpl⟩
  · show signalmanref6_Ring_Take.l0 k n [] s = _
    have : s = rest s s.l s.begun := rfl
    rw [← this] at e1
    simpa using e1
  · refine ⟨take_ri h.ri n, h.room, h.drop, e2.symm, e4, ?_, ?_⟩
    · show lens l' = norm (pass _ _ _).1 (pass _ _ _).2
      rw [e3, h.ln, h.bg, ← hp]
    · show (rem _ _ _).2 = decide ((pass _ _ _).1 > 0)
      rw [h.ln, h.bg, ← hp]
theorem rel_add {r : ring_Ring} {s : signalmanref6_Ring} (h : Rel r s) (hn : s.l.length ≤ 900) (hp : r.pieces.length < 1000) {a : List Int} (ha : a.length ≤ 100) {k : Nat} (hk : 2003 ≤ k) :
    ∃ ok r' s', ring_Ring_Add.f r a = some (ok, r') ∧ signalmanref6_Ring_Add.f k s a = some (ok, s') ∧ Rel r' s' ∧ s'.l.length ≤ s.l.length + 1 ∧ r'.pieces.length ≤ r.pieces.length + 1 := by
  have hf := h.ri.fit
  have hr := h.ri.room
  have hd := h.ri.drop
  have hrm := h.room
  have hdr := h.drop
  unfold signalmanref6_Ring_Add.f
  rw [reflen_eq h (by omega) hk, bsome, w64_in ⟨by omega, by omega⟩]
  by_cases hx : (r.b.length : Int) + (a.length : Int) ≤ r.room
  · rw [if_neg (by omega)]
    refine ⟨_, _, if (a.length : Int) > 0 then { room := s.room, l := s.l ++ [a], begun := s.begun, dropped := s.dropped } else s, add_yes h.ri hx, ?_, ?_, ?_, ?_⟩
    · by_cases h0 : (a.length : Int) > 0
      · rw [if_pos h0, if_pos h0, if_pos (by simp; omega), if_pos (by simp only [List.length_cons, List.length_nil]; omega)]; rfl
      · rw [if_neg h0, if_neg h0]
    · by_cases h0 : (a.length : Int) > 0
      · rw [if_pos h0]
        refine ⟨add_ri h.ri hx hp, hrm, hdr, ?_, ?_, ?_, h.bg⟩
        · show r.b ++ a = (s.l ++ [a]).flatten
          rw [h.b, List.flatten_append]; simp
        · intro x hx
          rcases List.mem_append.1 hx with hx | hx
          · exact h.ne x hx
          · simp at hx; subst hx; intro e; rw [e] at h0; simp at h0
        · show lens (s.l ++ [a]) = norm r.begun (r.pieces ++ [(a.length : Int)])
          have e1 : lens (s.l ++ [a]) = lens s.l ++ [(a.length : Int)] := by simp [lens]
          have e2 : nz (r.pieces ++ [(a.length : Int)]) = nz r.pieces ++ [(a.length : Int)] := by
            have hne : ¬ ((a.length : Int) = 0) := by omega
            unfold nz; rw [List.filter_append]
            simp only [List.filter_cons, List.filter_nil, hne, ne_eq, not_false_eq_true, decide_true, if_true]
          rw [e1, h.ln]; unfold norm; rw [e2]; split <;> simp
      · rw [if_neg h0]
        have hz : a = [] := List.eq_nil_of_length_eq_zero (by omega)
        subst hz
        refine ⟨add_ri h.ri hx hp, hrm, hdr, ?_, h.ne, ?_, h.bg⟩
        · show r.b ++ [] = _
          rw [List.append_nil]; exact h.b
        · show lens s.l = norm r.begun (r.pieces ++ [((0 : Nat) : Int)])
          have e2 : nz (r.pieces ++ [((0 : Nat) : Int)]) = nz r.pieces := by simp [nz, List.filter_append]
          rw [h.ln]; unfold norm; rw [e2]
    · split
      · show (s.l ++ [a]).length ≤ _; simp
      · omega
    · show (r.pieces ++ [_]).length ≤ _; simp
  · rw [if_pos (by omega), hdr, w64_in ⟨by omega, by omega⟩, cut_eq (by omega), bsome]
    have he : imax 0 (imin (r.dropped + 1) 4294967295) = imin (r.dropped + 1) 4294967295 := by unfold imax imin; repeat' split; all_goals omega
    refine ⟨_, _, _, add_no h.ri (by omega), rfl, ⟨no_ri h.ri, hrm, he, h.b, h.ne, h.ln, h.bg⟩, by show s.l.length ≤ _; omega, by show r.pieces.length ≤ _; omega⟩
theorem rel_clear {r : ring_Ring} {s : signalmanref6_Ring} (h : Rel r s) (hn : s.l.length ≤ 1000) {k : Nat} (hk : 2003 ≤ k) :
    ∃ n r' s', ring_Ring_Clear.f r = some (n, r') ∧ signalmanref6_Ring_Clear.f k s = some (n, s') ∧ Rel r' s' ∧ s'.l.length ≤ s.l.length ∧ r'.pieces.length ≤ r.pieces.length := by
  have hf := h.ri.fit
  have hr := h.ri.room
  have hsum := h.ri.sum
  have hbg := h.ri.begun
  have hps := sumI_nonneg h.ri.pos
  obtain ⟨e, he⟩ : ∃ e : Nat, r.begun = (e : Int) := ⟨r.begun.toNat, by omega⟩
  have hcut : cut r.b 0 r.begun = r.b.take e := by rw [he]; exact cut0 _ _
  have hl : (r.b.take e).length = e := by rw [List.length_take]; omega
  have hR : ∀ l : List (List Int), l.flatten = r.b.take e → (∀ x ∈ l, x ≠ []) → lens l = (if r.begun > 0 then [r.begun] else []) → Rel { room := r.room, b := cut r.b 0 r.begun, begun := r.begun, pieces := [], dropped := r.dropped } { room := s.room, l := l, begun := s.begun, dropped := s.dropped } := by
    intro l h1 h2 h3
    refine ⟨⟨hr, ?_, hbg, by simp, ?_, by simp, h.ri.drop⟩, h.room, h.drop, ?_, h2, ?_, h.bg⟩
    · show ((cut _ _ _).length : Int) = _
      rw [hcut, hl]; simp [sumI]; omega
    · show ((cut _ _ _).length : Int) ≤ _
      rw [hcut, hl]; show (e : Int) ≤ r.room; omega
    · show cut _ _ _ = _
      rw [hcut, h1]
    · show lens l = norm r.begun []
      rw [h3]; unfold norm nz; simp
  unfold ring_Ring_Clear.f signalmanref6_Ring_Clear.f signalmanref6_Ring_Clear.j0
  rw [if_pos ⟨by omega, by omega, by omega⟩, reflen_eq h (by omega) hk, bsome]
  by_cases hb : r.begun > 0
  · have hsb : s.begun = true := by rw [h.bg, decide_eq_true hb]
    have hln := h.ln
    unfold norm at hln
    rw [if_pos hb] at hln
    cases hsl : s.l with
    | nil => rw [hsl] at hln; simp [lens] at hln
    | cons x xs =>
      rw [hsl] at hln
      have hx : (x.length : Int) = r.begun := by simp [lens] at hln; exact hln.1
      have hc : cut (x :: xs) 0 1 = [x] := by simp [cut]
      have hrb : r.b.take e = x := by
        rw [h.b, hsl, List.flatten_cons, List.take_append_of_le_length (by omega), List.take_of_length_le (by omega)]
      have hRR := hR [x] (by simp [hrb]) (by intro y hy; simp at hy; subst hy; exact h.ne y (by rw [hsl]; exact .head _)) (by rw [if_pos hb]; simp [lens, hx])
      rw [if_pos hsb, if_pos ⟨by omega, by omega, by simp; omega⟩, hc, reflen_eq hRR (by simp) hk, bsome]
      refine ⟨_, _, _, rfl, ?_, hRR, by simp, by simp⟩
      rw [show ((cut r.b 0 r.begun).length : Int) = r.begun by rw [hcut, hl, he]]
  · have hsb : ¬ s.begun = true := by rw [h.bg]; simpa using hb
    have hRR := hR [] (by have : e = 0 := by omega
                          subst this; rfl) (by simp) (by rw [if_neg hb]; rfl)
    rw [if_neg hsb, reflen_eq hRR (by simp) hk, bsome]
    refine ⟨_, _, _, rfl, ?_, hRR, by simp, by simp⟩
    rw [show ((cut r.b 0 r.begun).length : Int) = r.begun by rw [hcut, hl, he]]
theorem j2_eq {r o : ring_Ring} {s : signalmanref6_Ring} (h : Rel r s) (hn : s.l.length ≤ 1000) (ok : Bool) (i : Nat) (hi : i ≤ 1000) (Lq : Int → signalmanref6_Ring → ring_Ring → ring_Ring → Option Bool) {k : Nat} (hk : 2003 ≤ k) :
    signalmanlaw11_RingPlays.j2 k i (ok, o) Lq s r = Lq ((i + 1 : Nat) : Int) s o r := by
  unfold signalmanlaw11_RingPlays.j2 ring_Ring_Len.f ring_Ring_Dropped.f signalmanref6_Ring_Dropped.f
  rw [bsome, reflen_eq h hn hk, bsome, if_pos rfl, bsome, bsome, if_pos h.drop.symm, w64_in ⟨by omega, by omega⟩]; rfl
theorem l1_eq {acts : List signalmanlaw11_Act} (h100 : acts.length ≤ 100) (hN : ∀ a ∈ acts, a.N ≤ 9223372036854775807) : ∀ (d i : Nat) (s : signalmanref6_Ring) (o r : ring_Ring) (k : Nat), i + d = acts.length → Rel r s → s.l.length ≤ i → r.pieces.length ≤ i → RI o → o.pieces.length ≤ i → 2010 + d ≤ k → signalmanlaw11_RingPlays.l1 k acts i s o r = some true
  | 0, i, s, o, r, k, hi, h, hs, hp, ho, hop, hk => by
    obtain ⟨k, rfl⟩ : ∃ j, k = j + 1 := ⟨k - 1, by omega⟩
    rw [signalmanlaw11_RingPlays.l1, if_neg (by omega)]
  | d + 1, i, s, o, r, k, hi, h, hs, hp, ho, hop, hk => by
    obtain ⟨k, rfl⟩ : ∃ j, k = j + 1 := ⟨k - 1, by omega⟩
    have hlt : i < acts.length := by omega
    have hg : acts.getD ((i : Nat) : Int).toNat default = acts[i] := by simp [List.getD, hlt]
    have hNi := hN _ (List.getElem_mem hlt)
    rw [signalmanlaw11_RingPlays.l1, if_pos (by omega), if_pos ⟨by omega, by omega⟩, hg]
    generalize acts[i] = a at *
    by_cases hb : (a.B.length : Int) > 100
    · rw [if_pos hb]
    rw [if_neg hb]
    obtain ⟨ok, o', eo, hRo, hop'⟩ : ∃ ok o', ring_Ring_Add.f o [1] = some (ok, o') ∧ RI o' ∧ o'.pieces.length ≤ i + 1 := by
      by_cases hx : (o.b.length : Int) + (([1] : List Int).length : Int) ≤ o.room
      · exact ⟨_, _, add_yes ho hx, add_ri ho hx (by omega), by show (o.pieces ++ [_]).length ≤ _; simp; omega⟩
      · exact ⟨_, _, add_no ho (by omega), no_ri ho, by show o.pieces.length ≤ _; omega⟩
    rw [eo, bsome]
    have fin : ∀ (r' : ring_Ring) (s' : signalmanref6_Ring), Rel r' s' → s'.l.length ≤ i + 1 → r'.pieces.length ≤ i + 1 → signalmanlaw11_RingPlays.j2 k i (ok, o') (signalmanlaw11_RingPlays.l1 k acts) s' r' = some true := by
      intro r' s' h' h1 h2
      rw [j2_eq h' (by omega) ok i (by omega) _ (by omega)]
      exact l1_eq h100 hN d (i + 1) s' o' r' k (by omega) h' h1 h2 hRo hop' (by omega)
    by_cases w0 : a.Way = 0
    · rw [if_pos w0, if_pos (by simp; omega), List.nil_append]
      obtain ⟨b, r', s', e1, e2, h', h1, h2⟩ := rel_add h (by omega) (by omega) (a := a.B) (by omega) (k := k) (by omega)
      rw [e1, bsome, e2, bsome]
      dsimp only
      rw [if_neg (by simp)]
      exact fin r' s' h' (by omega) (by omega)
    · rw [if_neg w0]
      by_cases w1 : a.Way = 1
      · rw [if_pos w1]
        obtain ⟨b, r', s', e1, e2, h', h1, h2⟩ := rel_take h (by omega) (n := a.N) hNi (k := k) (by omega)
        rw [e1, bsome, e2, bsome]
        dsimp only
        rw [sEq_refl, if_pos rfl]
        exact fin r' s' h' (by omega) (by omega)
      · rw [if_neg w1]
        by_cases w2 : a.Way = 2
        · rw [if_pos w2]
          obtain ⟨b, r', s', e1, e2, h', h1, h2⟩ := rel_clear h (by omega) (k := k) (by omega)
          rw [e1, bsome, e2, bsome]
          dsimp only
          rw [if_pos rfl]
          exact fin r' s' h' (by omega) (by omega)
        · rw [if_neg w2]
          exact fin r s h (by omega) (by omega)
theorem RingPlays : signalmanlaw11_RingPlays.Pure := by
  intro room acts w0 w1 w2
  obtain ⟨K, hK⟩ : ∃ K : Nat, 3000 ≤ K := ⟨3000, Nat.le_refl _⟩
  refine ⟨K, ?_⟩
  unfold signalmanlaw11_RingPlays.f
  rw [alive_eq (by omega), bsome, if_pos rfl]
  unfold signalmanlaw11_RingPlays.j0
  by_cases c : (acts.length : Int) > 100
  · rw [if_pos (by simpa using c)]
  · rw [if_neg (by simpa using c)]
    have hc : 0 ≤ imax 0 (imin room 1048576) ∧ imax 0 (imin room 1048576) ≤ 1048576 := by unfold imax imin; repeat' split; all_goals omega
    have hnew : ring_New.f room = some { room := imax 0 (imin room 1048576), b := [], begun := 0, pieces := [], dropped := 0 } := rfl
    have href : signalmanref6_NewRing.f room = some { room := imax 0 (imin room 1048576), l := [], begun := false, dropped := 0 } := by
      unfold signalmanref6_NewRing.f
      rw [cut_eq (by omega), bsome]
    rw [hnew, bsome, new_eq (by decide), bsome, href, bsome]
    refine l1_eq (by omega) (fun a ha => ?_) acts.length 0 _ _ _ K (by omega) ⟨new_ri hc, rfl, rfl, rfl, by simp, rfl, rfl⟩ (by simp) (by simp) (new_ri (by decide)) (by simp) (by omega)
    have := (w1 a ha).2.1
    exact (wf64 this).2
end Go.Proofs.Ytdliomkoagfocaa

/- RingClears: Clear keeps a piece that has been taken in part, and removes all others. Conditions: none beyond those of the given statement. -/
import Derived.Test.YtdliomkoagfocaaRunRingClears
import Derived.KernelRfl
set_option linter.all false
namespace Go.Proofs.Ytdliomkoagfocaa
open Go.RowKit Go.Proofs.Ytdliomkoagfocaa.Walk
theorem bsome {α β : Type} (x : α) (g : α → Option β) : (some x).bind g = g x := Eq.trans (b := g x) rfl (Eq.symm rfl)
theorem u8w (x : Int) : IntKind.u8.wrap x = x % 256 := by
  simp [IntKind.wrap, IntKind.bits, IntKind.signed]
theorem i64nat {x : Int} (h0 : 0 ≤ x) (h1 : x < 9223372036854775808) : BitVec.ofInt 64 x = BitVec.ofNat 64 x.toNat := by
  apply BitVec.eq_of_toNat_eq
  simp [BitVec.toNat_ofInt]
  omega
theorem iand_nat {x y : Int} (h0 : 0 ≤ x) (h1 : x < 9223372036854775808) (h2 : 0 ≤ y) (h3 : y < 9223372036854775808) : iand .i64 x y = ((x.toNat &&& y.toNat : Nat) : Int) := by
  unfold iand
  show IntKind.i64.wrap (BitVec.ofInt 64 x &&& BitVec.ofInt 64 y).toNat = _
  rw [i64nat h0 h1, i64nat h2 h3, BitVec.toNat_and]
  simp only [BitVec.toNat_ofNat]
  rw [Nat.mod_eq_of_lt (by omega), Nat.mod_eq_of_lt (by omega)]
  have h4 : x.toNat &&& y.toNat ≤ x.toNat := Nat.and_le_left
  have := w64_in (n := ((x.toNat &&& y.toNat : Nat) : Int)) (by omega)
  exact this
theorem ior_nat {x y : Int} (h0 : 0 ≤ x) (h1 : x < 9223372036854775808) (h2 : 0 ≤ y) (h3 : y < 9223372036854775808) : ior .i64 x y = ((x.toNat ||| y.toNat : Nat) : Int) := by
  unfold ior
  show IntKind.i64.wrap (BitVec.ofInt 64 x ||| BitVec.ofInt 64 y).toNat = _
  rw [i64nat h0 h1, i64nat h2 h3, BitVec.toNat_or]
  simp only [BitVec.toNat_ofNat]
  rw [Nat.mod_eq_of_lt (by omega), Nat.mod_eq_of_lt (by omega)]
  have h4 : x.toNat ||| y.toNat < 2 ^ 63 := Nat.or_lt_two_pow (by omega) (by omega)
  have := w64_in (n := ((x.toNat ||| y.toNat : Nat) : Int)) (by omega)
  exact this
theorem iand_1 {x : Int} (h0 : 0 ≤ x) (h1 : x < 9223372036854775808) : iand .i64 x 1 = x % 2 := by
  rw [iand_nat h0 h1 (by omega) (by omega)]
  have : x.toNat &&& (1 : Int).toNat = x.toNat % 2 := Nat.and_one_is_mod _
  rw [this]; omega
theorem iand_255 {x : Int} (h0 : 0 ≤ x) (h1 : x < 9223372036854775808) : iand .i64 x 255 = x % 256 := by
  rw [iand_nat h0 h1 (by omega) (by omega)]
  have : x.toNat &&& (255 : Int).toNat = x.toNat % 256 := Nat.and_two_pow_sub_one_eq_mod _ 8
  rw [this]; omega
theorem ior_hi {x y : Int} (h0 : 0 ≤ x) (h1 : x < 256) (h2 : 0 ≤ y) (h3 : y < 36028797018963968) : ior .i64 x (y * 256) = x + 256 * y := by
  rw [ior_nat h0 (by omega) (by omega) (by omega)]
  have e : (y * 256).toNat = 2 ^ 8 * y.toNat := by omega
  have h4 := Nat.two_pow_add_eq_or_of_lt (i := 8) (b := x.toNat) (by omega) y.toNat
  rw [e, Nat.or_comm, ← h4]; omega
theorem ior_hi' {x y : Int} (h0 : 0 ≤ x) (h1 : x < 256) (h2 : 0 ≤ y) (h3 : y < 36028797018963968) : ior .i64 (y * 256) x = x + 256 * y := by
  rw [← ior_hi h0 h1 h2 h3, ior_nat (by omega) (by omega) h0 (by omega), ior_nat h0 (by omega) (by omega) (by omega), Nat.or_comm]
theorem byte_all {p : Int → Prop} (h : ∀ n : Fin 256, p (n.val : Int)) {z : Int} (h0 : 0 ≤ z) (h1 : z < 256) : p z := by
  have := h ⟨z.toNat, by omega⟩
  rwa [show ((z.toNat : Nat) : Int) = z by omega] at this
theorem wf8 {z : Int} (h : (Lit.int .u8 z).wf = true) : 0 ≤ z ∧ z < 256 := by simp [Lit.wf] at h; have := h; simp [IntKind.min, IntKind.max, IntKind.bits, IntKind.signed] at this; omega
theorem wf64 {z : Int} (h : (Lit.int .i64 z).wf = true) : -9223372036854775808 ≤ z ∧ z ≤ 9223372036854775807 := by simp [Lit.wf] at h; have := h; simp [IntKind.min, IntKind.max, IntKind.bits, IntKind.signed] at this; omega
def sumI : List Int → Int
  | [] => 0
  | p :: ps => p + sumI ps
theorem sumI_append : ∀ a b : List Int, sumI (a ++ b) = sumI a + sumI b
  | [], b => by simp [sumI]
  | p :: a, b => by simp [sumI, sumI_append a b]; omega
theorem sumI_nonneg : ∀ {l : List Int}, (∀ p ∈ l, 0 ≤ p) → 0 ≤ sumI l
  | [], _ => by simp [sumI]
  | p :: l, h => by
    have := sumI_nonneg fun q hq => h q (.tail _ hq)
    have := h p (.head _)
    simp [sumI]; omega
/-- What the taking of n octets leaves of the piece that was begun, and of the pieces. -/
def pass : Int → Int → List Int → Int × List Int
  | n, b, [] => if n ≤ b then (b - n, []) else (0, [])
  | n, b, p :: ps => if n ≤ b then (b - n, p :: ps) else pass (n - b) p ps
theorem pass_le {n b : Int} (h : n ≤ b) (ps : List Int) : pass n b ps = (b - n, ps) := by cases ps <;> simp [pass, h]
theorem pass_gt {n b : Int} (h : ¬ n ≤ b) (p : Int) (ps : List Int) : pass n b (p :: ps) = pass (n - b) p ps := by simp [pass, h]
theorem pass_facts : ∀ {ps : List Int} {n b : Int}, 0 ≤ n → 0 ≤ b → (∀ p ∈ ps, 0 ≤ p) → n ≤ b + sumI ps →
    0 ≤ (pass n b ps).1 ∧ (∀ p ∈ (pass n b ps).2, 0 ≤ p) ∧ (pass n b ps).1 + sumI (pass n b ps).2 = b + sumI ps - n ∧ (pass n b ps).2.length ≤ ps.length
  | [], n, b, h0, h1, h2, h3 => by
    have : n ≤ b := by simpa [sumI] using h3
    rw [pass_le this]
    exact ⟨by omega, h2, by simp [sumI], Nat.le_refl _⟩
  | p :: ps, n, b, h0, h1, h2, h3 => by
    by_cases h : n ≤ b
    · rw [pass_le h]
      exact ⟨by omega, h2, by show b - n + sumI (p :: ps) = _; omega, Nat.le_refl _⟩
    · rw [pass_gt h]
      simp only [sumI] at h3
      obtain ⟨a1, a2, a3, a4⟩ := pass_facts (ps := ps) (n := n - b) (b := p) (by omega) (h2 p (.head _)) (fun q hq => h2 q (.tail _ hq)) (by omega)
      refine ⟨a1, a2, by rw [a3]; simp [sumI]; omega, by simp; omega⟩
def rst (r : ring_Ring) (b : Int) (ps : List Int) : ring_Ring := { room := r.room, b := r.b, begun := b, pieces := ps, dropped := r.dropped }
theorem imin_l {a b : Int} (h : a ≤ b) : imin a b = a := by unfold imin; split <;> omega
theorem imin_r {a b : Int} (h : b ≤ a) : imin a b = b := by unfold imin; split <;> omega
theorem pl_end (r : ring_Ring) (k : Nat) (b : Int) (ps : List Int) : ring_Ring_passed.l0 (k + 1) 0 (rst r b ps) = some (rst r b ps) := by
  rw [ring_Ring_passed.l0, if_neg (by omega)]
theorem pl_a (r : ring_Ring) (k : Nat) {n b : Int} {ps : List Int} (h0 : 0 < n) (hb : 0 < b) (h1 : n ≤ 4194304) (h2 : b ≤ 4194304) : ring_Ring_passed.l0 (k + 1) n (rst r b ps) = ring_Ring_passed.l0 k (n - imin n b) (rst r (b - imin n b) ps) := by
  have hm : 0 ≤ imin n b ∧ imin n b ≤ n ∧ imin n b ≤ b := by unfold imin; split <;> omega
  unfold rst
  rw [ring_Ring_passed.l0, if_pos (by omega)]
  dsimp only
  rw [if_neg (by omega), w64_in ⟨by omega, by omega⟩, w64_in ⟨by omega, by omega⟩]
theorem pl_b (r : ring_Ring) (k : Nat) {n p : Int} {ps : List Int} (h0 : 0 < n) (hp : 0 ≤ p) (h1 : n ≤ 4194304) (h2 : p ≤ 4194304) : ring_Ring_passed.l0 (k + 1) n (rst r 0 (p :: ps)) = if p = 0 then ring_Ring_passed.l0 k n (rst r 0 ps) else ring_Ring_passed.l0 (k + 1) n (rst r p ps) := by
  have hm : 0 ≤ imin n p ∧ imin n p ≤ n ∧ imin n p ≤ p := by unfold imin; split <;> omega
  have hA := fun hp' => pl_a r k (n := n) (b := p) (ps := ps) h0 hp' h1 h2
  unfold rst at *
  rw [ring_Ring_passed.l0, if_pos (by omega)]
  dsimp only
  rw [if_pos (show (0 : Int) = 0 from rfl)]
  simp only [List.length_cons]
  rw [if_pos ⟨by omega, by omega⟩, if_pos ⟨by omega, by omega, by omega⟩]
  have hc : cut (p :: ps) 1 ((ps.length + 1 : Nat) : Int) = ps := by simp [cut]
  have hg : (p :: ps).getD ((0 : Int)).toNat 0 = p := rfl
  rw [hc, hg, w64_in ⟨by omega, by omega⟩, w64_in ⟨by omega, by omega⟩]
  by_cases h : p = 0
  · subst h
    have e : imin n 0 = 0 := imin_r (by omega)
    rw [if_pos rfl, e]; simp
  · rw [if_neg h]
    rw [hA (by omega)]
theorem passed_eq (r : ring_Ring) : ∀ (ps : List Int) (n b : Int) (k : Nat), 0 ≤ n → 0 ≤ b → (∀ p ∈ ps, 0 ≤ p) → n ≤ b + sumI ps → b + sumI ps ≤ 4194304 → 2 * ps.length + 3 ≤ k →
    ring_Ring_passed.l0 k n (rst r b ps) = some (rst r (pass n b ps).1 (pass n b ps).2)
  | ps, n, b, k, h0, hb, hp, h1, h2, hk => by
    obtain ⟨k, rfl⟩ : ∃ j, k = j + 3 := ⟨k - 3, by omega⟩
    have hs := sumI_nonneg hp
    by_cases hn : n = 0
    · subst hn
      rw [pl_end, pass_le hb]; simp
    · -- behind what was begun
      have key : ∀ (j : Nat) (m : Int), 0 < m → m ≤ sumI ps → 2 * ps.length + 2 ≤ j → ring_Ring_passed.l0 j m (rst r 0 ps) = some (rst r (pass m 0 ps).1 (pass m 0 ps).2) := by
        intro j m hm hms hj
        cases ps with
        | nil => simp [sumI] at hms; omega
        | cons p ps =>
          simp only [sumI] at hms h2 h1
          have hp0 := hp p (.head _)
          have hps := sumI_nonneg fun q hq => hp q (.tail _ hq)
          simp only [List.length_cons] at hj hk
          obtain ⟨j, rfl⟩ : ∃ i, j = i + 1 := ⟨j - 1, by omega⟩
          rw [pl_b r j hm hp0 (by omega) (by omega), pass_gt (by omega), show m - 0 = m by omega]
          by_cases hz : p = 0
          · subst hz
            rw [if_pos rfl]
            exact passed_eq r ps m 0 j (by omega) (by omega) (fun q hq => hp q (.tail _ hq)) (by omega) (by omega) (by omega)
          · rw [if_neg hz]
            exact passed_eq r ps m p (j + 1) (by omega) hp0 (fun q hq => hp q (.tail _ hq)) (by omega) (by omega) (by omega)
      by_cases hb0 : b = 0
      · subst hb0
        exact key (k + 3) n (by omega) (by omega) (by omega)
      · by_cases hnb : n ≤ b
        · rw [pl_a r (k + 2) (by omega) (by omega) (by omega) (by omega), imin_l hnb, show n - n = 0 by omega, pl_end, pass_le hnb]
        · rw [pl_a r (k + 2) (by omega) (by omega) (by omega) (by omega), imin_r (by omega), show b - b = 0 by omega, key (k + 2) (n - b) (by omega) (by omega) (by omega)]
          cases ps with
          | nil => simp [sumI] at h1; omega
          | cons p ps =>
            rw [pass_gt (n := n) hnb, pass_gt (n := n - b) (by omega), show n - b - 0 = n - b by omega]
termination_by ps => ps.length

/-- How a ring stands. -/
structure RI (r : ring_Ring) : Prop where
  room : 0 ≤ r.room ∧ r.room ≤ 1048576
  sum : (r.b.length : Int) = r.begun + sumI r.pieces
  begun : 0 ≤ r.begun
  pos : ∀ p ∈ r.pieces, 0 ≤ p
  fit : (r.b.length : Int) ≤ r.room
  few : r.pieces.length ≤ 1000
  drop : 0 ≤ r.dropped ∧ r.dropped ≤ 4294967295
theorem clone_eq {l : List Int} (h : (l.length : Int) ≤ 1099511627776) : slices_Clone_Sbytebyte.f l = some l := by
  unfold slices_Clone_Sbytebyte.f
  rw [if_pos (by simp; omega)]; rfl
theorem delete_eq {l : List Int} {m : Nat} (h : m ≤ l.length) : slices_Delete_Sbytebyte.f l 0 (m : Int) = some (l.drop m) := by
  unfold slices_Delete_Sbytebyte.f
  rw [if_pos ⟨by omega, by omega, by omega⟩]
  by_cases h0 : (0 : Int) = (m : Int)
  · rw [if_pos h0]
    have : m = 0 := by omega
    subst this; rfl
  · rw [if_neg h0, if_pos ⟨by omega, by omega, by omega⟩, if_pos ⟨by omega, by omega, by omega⟩]
    congr 1
    simp [cut]
    exact List.take_of_length_le (by simp)
theorem cut0 {α : Type} (l : List α) (n : Nat) : cut l 0 (n : Int) = l.take n := by simp [cut]
/-- How many octets a call takes. -/
def takes (n : Int) (l : Nat) : Nat := (imax 0 (imin n (l : Int))).toNat
theorem takes_le (n : Int) (l : Nat) : takes n l ≤ l := by unfold takes imax imin; repeat' split; all_goals omega
theorem takes_all {n : Int} {l : Nat} (h : (l : Int) ≤ n) : takes n l = l := by unfold takes imax imin; repeat' split; all_goals omega
theorem takes_int (n : Int) (l : Nat) : imax 0 (imin n (l : Int)) = (takes n l : Int) := by
  have : 0 ≤ imax 0 (imin n (l : Int)) := by unfold imax; split <;> omega
  unfold takes; omega
def ringTake (r : ring_Ring) (m : Nat) : ring_Ring := { room := r.room, b := r.b.drop m, begun := (pass m r.begun r.pieces).1, pieces := (pass m r.begun r.pieces).2, dropped := r.dropped }
theorem take_eq {r : ring_Ring} (h : RI r) (n : Int) {k : Nat} (hk : 2003 ≤ k) : ring_Ring_Take.f k r n = some (r.b.take (takes n r.b.length), ringTake r (takes n r.b.length)) := by
  have hm := takes_le n r.b.length
  have h1 := h.sum
  have h2 := h.fit
  have h3 := h.room
  have h4 := h.few
  unfold ring_Ring_Take.f
  rw [takes_int]
  generalize takes n r.b.length = m at *
  have hc : cut r.b 0 (m : Int) = r.b.take m := by simp [cut]
  rw [if_pos ⟨by omega, by omega, by omega⟩, hc, clone_eq (by rw [List.length_take]; omega), bsome, delete_eq hm, bsome]
  unfold ring_Ring_passed.f
  have := passed_eq { room := r.room, b := r.b.drop m, begun := r.begun, pieces := r.pieces, dropped := r.dropped } r.pieces m r.begun k (by omega) h.begun h.pos (by omega) (by omega) (by omega)
  simp only [rst] at this
  rw [this, bsome]; rfl
theorem take_ri {r : ring_Ring} (h : RI r) (n : Int) : RI (ringTake r (takes n r.b.length)) := by
  have hm := takes_le n r.b.length
  have h1 := h.sum
  have h2 := h.fit
  obtain ⟨a1, a2, a3, a4⟩ := pass_facts (ps := r.pieces) (n := (takes n r.b.length : Int)) (b := r.begun) (by omega) h.begun h.pos (by omega)
  generalize takes n r.b.length = m at *
  exact ⟨h.room, by show ((r.b.drop m).length : Int) = _; rw [List.length_drop]; show _ = (pass m r.begun r.pieces).1 + sumI (pass m r.begun r.pieces).2; omega, a1, a2, by show ((r.b.drop m).length : Int) ≤ _; rw [List.length_drop]; have := h.room; show _ ≤ r.room; omega, Nat.le_trans a4 h.few, h.drop⟩
def ringNo (r : ring_Ring) : ring_Ring := { room := r.room, b := r.b, begun := r.begun, pieces := r.pieces, dropped := imin (r.dropped + 1) 4294967295 }
def ringAdd (r : ring_Ring) (a : List Int) : ring_Ring := { room := r.room, b := r.b ++ a, begun := r.begun, pieces := r.pieces ++ [(a.length : Int)], dropped := r.dropped }
theorem add_no {r : ring_Ring} (h : RI r) {a : List Int} (hn : r.room < (r.b.length : Int) + (a.length : Int)) : ring_Ring_Add.f r a = some (false, ringNo r) := by
  have h2 := h.fit
  have h3 := h.room
  have h4 := h.drop
  unfold ring_Ring_Add.f
  rw [w64_in (n := r.room - (r.b.length : Int)) ⟨by omega, by omega⟩, if_pos (by omega), w64_in ⟨by omega, by omega⟩]; rfl
theorem add_yes {r : ring_Ring} (h : RI r) {a : List Int} (hn : (r.b.length : Int) + (a.length : Int) ≤ r.room) : ring_Ring_Add.f r a = some (true, ringAdd r a) := by
  have h2 := h.fit
  have h3 := h.room
  have h4 := h.few
  unfold ring_Ring_Add.f
  rw [w64_in (n := r.room - (r.b.length : Int)) ⟨by omega, by omega⟩, if_neg (by omega), if_pos (by omega), if_pos (by simp only [List.length_cons, List.length_nil]; omega)]; rfl
theorem no_ri {r : ring_Ring} (h : RI r) : RI (ringNo r) := ⟨h.room, h.sum, h.begun, h.pos, h.fit, h.few, by have := h.drop; show 0 ≤ imin _ _ ∧ imin _ _ ≤ _; unfold imin; split <;> omega⟩
theorem add_ri {r : ring_Ring} (h : RI r) {a : List Int} (hn : (r.b.length : Int) + (a.length : Int) ≤ r.room) (hf : r.pieces.length < 1000) : RI (ringAdd r a) := by
  refine ⟨h.room, ?_, h.begun, ?_, ?_, ?_, h.drop⟩
  · show ((r.b ++ a).length : Int) = r.begun + sumI (r.pieces ++ [(a.length : Int)])
    rw [sumI_append, List.length_append]; have := h.sum; simp [sumI]; omega
  · intro p hp
    rcases List.mem_append.1 hp with hp | hp
    · exact h.pos p hp
    · simp at hp; omega
  · show ((r.b ++ a).length : Int) ≤ r.room
    rw [List.length_append]; omega
  · show (r.pieces ++ [(a.length : Int)]).length ≤ 1000
    rw [List.length_append]; simp; omega
theorem new_eq {n : Int} (h : 0 ≤ n ∧ n ≤ 1048576) : ring_New.f n = some { room := n, b := [], begun := 0, pieces := [], dropped := 0 } := by
  unfold ring_New.f
  have : imax 0 (imin n 1048576) = n := by unfold imax imin; repeat' split; all_goals omega
  rw [this]
theorem new_ri {n : Int} (h : 0 ≤ n ∧ n ≤ 1048576) : RI { room := n, b := [], begun := 0, pieces := [], dropped := 0 } := ⟨h, rfl, by simp, by simp, by simpa using h.1, by simp, by simp⟩
theorem alive_eq {k : Nat} (h : 2003 ≤ k) : signalmanlaw11_alive.f k = some true := by
  unfold signalmanlaw11_alive.f
  rw [new_eq (by decide), bsome]
  have r0 := new_ri (n := 5) (by decide)
  rw [take_eq r0 3 h, bsome]
  have r1 := take_ri r0 3
  have e1 : (takes 3 ([] : List Int).length) = 0 := by decide
  simp only [e1] at r1 ⊢
  have r1' : RI (ringTake { room := 5, b := [], begun := 0, pieces := [], dropped := 0 } 0) := r1
  rw [add_yes r1' (a := [97, 98, 99]) (by decide), bsome, if_pos (by decide), if_pos rfl]
  have r2 := add_ri r1' (a := [97, 98, 99]) (by decide) (by decide)
  rw [add_no r2 (a := [100, 101, 102]) (by decide), bsome, if_neg (by simp)]
  unfold ring_Ring_Dropped.f
  rw [bsome, if_pos (by decide), take_eq (no_ri r2) 2 h, bsome]
  decide +kernel
def endOf (m : Int) : Int → List Int → Int
  | acc, [] => acc
  | acc, p :: ps => if m ≤ acc then acc else endOf m (acc + p) ps
theorem pass_end : ∀ {ps : List Int} {m acc b : Int}, m ≤ acc + sumI ps → (pass (m - acc + b) b ps).1 = endOf m acc ps - m
  | [], m, acc, b, h => by
    have : m ≤ acc := by simpa [sumI] using h
    rw [pass_le (by omega)]; simp only [endOf]; omega
  | p :: ps, m, acc, b, h => by
    by_cases hm : m ≤ acc
    · rw [pass_le (by omega), endOf, if_pos hm]; show b - _ = _; omega
    · rw [pass_gt (by omega), endOf, if_neg hm, ← pass_end (by simp only [sumI] at h; omega)]
      congr 2; omega
theorem endOf_b : ∀ {ps : List Int} {m acc : Int}, (∀ p ∈ ps, 0 ≤ p) → m ≤ acc + sumI ps → m ≤ endOf m acc ps ∧ acc ≤ endOf m acc ps ∧ endOf m acc ps ≤ acc + sumI ps
  | [], m, acc, hp, h => by simp [endOf, sumI] at *; omega
  | p :: ps, m, acc, hp, h => by
    have h0 := hp p (.head _)
    have h1 := sumI_nonneg fun q hq => hp q (.tail _ hq)
    unfold endOf
    simp only [sumI] at *
    split
    · omega
    · have := endOf_b (ps := ps) (m := m) (acc := acc + p) (fun q hq => hp q (.tail _ hq)) (by omega)
      omega
def lens (l : List (List Int)) : List Int := l.map fun a => (a.length : Int)
theorem l3_eq {a0 : List (List Int)} {all x : List Int} {r : ring_Ring} (hn : a0.length ≤ 20) (h200 : ∀ a ∈ a0, a.length ≤ 200) : ∀ (d i : Nat) (acc : Int) (k : Nat), i + d = a0.length → 0 ≤ acc → acc ≤ 200 * i → 10 + d ≤ k →
    ∃ k', k ≤ k' + 10 + d ∧ signalmanlaw11_RingClears.l3 k a0 all (x, r) acc i = signalmanlaw11_RingClears.j2 k' all (x, r) (endOf (x.length : Int) acc (lens (a0.drop i)))
  | 0, i, acc, k, hi, h0, ha, hk => by
    obtain ⟨k, rfl⟩ : ∃ j, k = j + 1 := ⟨k - 1, by omega⟩
    refine ⟨k, by omega, ?_⟩
    rw [signalmanlaw11_RingClears.l3, if_neg (by omega), List.drop_eq_nil_of_le (by omega)]; rfl
  | d + 1, i, acc, k, hi, h0, ha, hk => by
    obtain ⟨k, rfl⟩ : ∃ j, k = j + 1 := ⟨k - 1, by omega⟩
    have hlt : i < a0.length := by omega
    have hd : a0.drop i = a0[i] :: a0.drop (i + 1) := List.drop_eq_getElem_cons hlt
    have hg : a0.getD ((i : Nat) : Int).toNat [] = a0[i] := by simp [List.getD, hlt]
    have h2 := h200 _ (List.getElem_mem hlt)
    rw [signalmanlaw11_RingClears.l3, if_pos (by omega), hd]
    simp only [lens, List.map_cons, endOf]
    by_cases hx : acc < (x.length : Int)
    · rw [if_pos hx, if_pos ⟨by omega, by omega⟩, hg, if_neg (by omega), w64_in ⟨by omega, by omega⟩, w64_in ⟨by omega, by omega⟩]
      obtain ⟨k', h1, h2⟩ := l3_eq (x := x) (all := all) (r := r) hn h200 d (i + 1) (acc + (a0[i].length : Int)) k (by omega) (by omega) (by omega) (by omega)
      exact ⟨k', by omega, h2⟩
    · rw [if_neg hx, if_pos (by omega)]
      exact ⟨k, by omega, rfl⟩
theorem lens_nonneg (l : List (List Int)) : ∀ p ∈ lens l, 0 ≤ p := by
  intro p hp
  obtain ⟨a, _, rfl⟩ := List.mem_map.1 hp
  omega
theorem sum_lens : ∀ l : List (List Int), sumI (lens l) = (l.flatten.length : Int)
  | [] => rfl
  | a :: l => by
    show (a.length : Int) + sumI (lens l) = _
    rw [sum_lens l, List.flatten_cons, List.length_append]; omega
theorem j2_eq {ps : List Int} {all : List Int} {r : ring_Ring} (h : RI r) (hb : r.b = all) (hbg : r.begun = 0) (hps : r.pieces = ps) (n : Int) (hall : all.length ≤ 100000) {k : Nat} (hk : 2003 ≤ k) :
    signalmanlaw11_RingClears.j2 k all (r.b.take (takes n r.b.length), ringTake r (takes n r.b.length)) (endOf ((takes n r.b.length : Nat) : Int) 0 ps) = some true := by
  have hm := takes_le n r.b.length
  have hr2 := take_ri h n
  have hs := h.sum
  have hroom := h.room
  have hpos := h.pos
  have hrb : (ringTake r (takes n r.b.length)).b = all.drop (takes n r.b.length) := by show r.b.drop _ = _; rw [hb]
  generalize takes n r.b.length = m at *
  rw [hbg, hps] at hs
  rw [hps] at hpos
  have hE := endOf_b (ps := ps) (m := (m : Int)) (acc := 0) hpos (by omega)
  have hbe : (ringTake r m).begun = endOf (m : Int) 0 ps - m := by
    show (pass (m : Int) r.begun r.pieces).1 = _
    rw [hbg, hps]
    have := pass_end (ps := ps) (m := (m : Int)) (acc := 0) (b := 0) (by omega)
    rw [← this]; congr 2
    try omega
  have hlen : ((ringTake r m).b.length : Int) = (all.length : Int) - m := by rw [hrb, List.length_drop]; rw [hb] at hm; omega
  have hal : (all.length : Int) = sumI ps := by rw [← hb]; omega
  obtain ⟨e, he⟩ : ∃ e : Nat, endOf (m : Int) 0 ps = (e : Int) := ⟨(endOf (m : Int) 0 ps).toNat, by omega⟩
  rw [he] at hE hbe ⊢
  unfold signalmanlaw11_RingClears.j2 ring_Ring_Clear.f
  dsimp only
  have hf2 := hr2.fit
  rw [if_pos ⟨by omega, by omega, by omega⟩, bsome]
  dsimp only
  have hcut : cut (ringTake r m).b 0 (ringTake r m).begun = (all.drop m).take (e - m) := by
    rw [hbe, hrb, show ((e : Int) - (m : Int)) = ((e - m : Nat) : Int) by omega]; exact cut0 _ _
  have hr3 : RI { room := (ringTake r m).room, b := cut (ringTake r m).b 0 (ringTake r m).begun, begun := (ringTake r m).begun, pieces := [], dropped := (ringTake r m).dropped } := by
    have hl : (((all.drop m).take (e - m)).length : Int) = (e : Int) - m := by rw [List.length_take, List.length_drop]; omega
    exact ⟨hroom, by show ((cut _ _ _).length : Int) = _; rw [hcut, hl]; simp [sumI]; omega, hr2.begun, by simp, by show ((cut _ _ _).length : Int) ≤ (ringTake r m).room; rw [hcut, hl]; omega, by simp, h.drop⟩
  have ht2 := take_eq hr3 1048576 hk
  rw [hcut] at ht2 ⊢
  rw [ht2, bsome]
  dsimp only
  rw [takes_all (by rw [List.length_take, List.length_drop]; omega)]
  have hx : (r.b.take m).length = m := by rw [List.length_take]; omega
  have hc2 : cut all ((m : Nat) : Int) (e : Int) = (all.drop m).take (e - m) := by simp [cut]
  rw [List.take_of_length_le (Nat.le_refl _), hx, if_pos ⟨by omega, by omega, by omega⟩, hc2, sEq_refl, if_pos rfl, w64_in ⟨by omega, by omega⟩, w64_in ⟨by omega, by omega⟩]
  rw [decide_eq_true (by omega)]
theorem l1_eq {a0 : List (List Int)} (n : Int) (h20 : a0.length ≤ 20) : ∀ (d i : Nat) (r : ring_Ring) (k : Nat), i + d = a0.length → RI r → r.b = (a0.take i).flatten → r.begun = 0 → r.pieces = lens (a0.take i) → r.room = 1048576 → (∀ a ∈ a0.take i, a.length ≤ 200) → (a0.take i).flatten.length ≤ 200 * i → 5000 + d ≤ k →
    signalmanlaw11_RingClears.l1 k a0 n (a0.take i).flatten i r = some true
  | 0, i, r, k, hi, h, hb, hbg, hps, hr, h200, hl, hk => by
    obtain ⟨k, rfl⟩ : ∃ j, k = j + 1 := ⟨k - 1, by omega⟩
    have ht : a0.take i = a0 := List.take_of_length_le (by omega)
    rw [ht] at hb hps h200 hl ⊢
    have hm := takes_le n r.b.length
    rw [signalmanlaw11_RingClears.l1, if_neg (by omega), take_eq h n (by omega), bsome]
    have hx : (r.b.take (takes n r.b.length)).length = takes n r.b.length := by rw [List.length_take]; omega
    rw [if_neg (by dsimp only; rw [hx, ← hb]; omega)]
    obtain ⟨k', h1, h2⟩ := l3_eq (all := a0.flatten) (x := r.b.take (takes n r.b.length)) (r := ringTake r (takes n r.b.length)) h20 h200 a0.length 0 0 k (by omega) (by omega) (by omega) (by omega)
    rw [show ((0 : Nat) : Int) = 0 from rfl] at h2; rw [h2, List.drop_zero, hx]
    exact j2_eq h hb hbg hps n (by omega) (by omega)
  | d + 1, i, r, k, hi, h, hb, hbg, hps, hr, h200, hl, hk => by
    obtain ⟨k, rfl⟩ : ∃ j, k = j + 1 := ⟨k - 1, by omega⟩
    have hlt : i < a0.length := by omega
    have hg : a0.getD ((i : Nat) : Int).toNat [] = a0[i] := by simp [List.getD, hlt]
    have ht : a0.take (i + 1) = a0.take i ++ [a0[i]] := by rw [List.take_succ_eq_append_getElem hlt]
    have hf : (a0.take (i + 1)).flatten = (a0.take i).flatten ++ a0[i] := by rw [ht, List.flatten_append]; simp
    rw [signalmanlaw11_RingClears.l1, if_pos (by omega), if_pos ⟨by omega, by omega⟩, hg]
    by_cases hl2 : ((a0[i]).length : Int) > 200
    · rw [if_pos hl2]
    · have hfit : (r.b.length : Int) + ((a0[i]).length : Int) ≤ r.room := by rw [hb]; omega
      rw [if_neg hl2, add_yes h hfit, bsome, if_pos (by omega), ← hf, w64_in ⟨by omega, by omega⟩]
      refine l1_eq n h20 d (i + 1) (ringAdd r a0[i]) k (by omega) (add_ri h hfit ?_) ?_ hbg ?_ hr ?_ (by rw [hf, List.length_append]; omega) (by omega)
      · rw [hps]; simp [lens]; omega
      · show r.b ++ _ = _
        rw [hb, hf]
      · show r.pieces ++ _ = _
        rw [hps, ht]; unfold lens; rw [List.map_append]; rfl
      · rw [ht]; intro a ha
        rcases List.mem_append.1 ha with ha | ha
        · exact h200 a ha
        · simp at ha; subst ha; omega
theorem RingClears : signalmanlaw11_RingClears.Pure := by
  intro a0 n h0 h0l h1
  obtain ⟨K, hK⟩ : ∃ K : Nat, 6000 ≤ K := ⟨6000, Nat.le_refl _⟩
  refine ⟨K, ?_⟩
  unfold signalmanlaw11_RingClears.f
  rw [alive_eq (by omega), bsome, if_pos rfl]
  have hj : ∀ b : Bool, (b = false → a0.length ≤ 20) → signalmanlaw11_RingClears.j0 K a0 n true b = some true := by
    intro b hb
    unfold signalmanlaw11_RingClears.j0
    cases b with
    | true => rfl
    | false =>
      have b1 := hb rfl
      rw [if_neg (by simp), new_eq (by omega), bsome]
      exact l1_eq n b1 a0.length 0 _ K (by omega) (new_ri (by omega)) rfl rfl rfl rfl (by simp) (by simp) (by omega)
  by_cases c3 : (a0.length : Int) > 20
  · rw [if_pos c3]; exact hj _ (by simp)
  · rw [if_neg c3]; exact hj _ (fun _ => by omega)
end Go.Proofs.Ytdliomkoagfocaa

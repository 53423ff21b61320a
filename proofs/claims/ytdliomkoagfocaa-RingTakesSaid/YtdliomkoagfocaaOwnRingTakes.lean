/- RingTakes: taking octets one by one or many at once gives the same. Conditions: none beyond those of the given statement. -/
import Derived.Test.YtdliomkoagfocaaRunRingTakes
import Derived.KernelRfl
set_option linter.all false
namespace Go.Proofs.Ytdliomkoagfocaa
open Go.RowKit Go.Proofs.Ytdliomkoagfocaa.Walk
theorem bsome {α β : Type} (x : α) (g : α → Option β) : (some x).bind g = g x := Eq.trans (b := g x) rfl (Eq.symm rfl)
theorem u8w (x : Int) : IntKind.u8.wrap x = x % 256 := by
  simp [IntKind.wrap, IntKind.bits, IntKind.signed]
theorem i64nat {x : Int} (h0 : 0 ≤ x) (h1 : x < 9223372036854775808) : BitVec.ofInt 64 x = BitVec.ofNat 64 x.toNat := by
  apply BitVec.eq_of_toNat_eq
  simp [BitVec.toNat_ofInt]
  omega
theorem iand_nat {x y : Int} (h0 : 0 ≤ x) (h1 : x < 9223372036854775808) (h2 : 0 ≤ y) (h3 : y < 9223372036854775808) : iand .i64 x y = ((x.toNat &&& y.toNat : Nat) : Int) := by
  unfold iand
  show IntKind.i64.wrap (BitVec.ofInt 64 x &&& BitVec.ofInt 64 y).toNat = _
  rw [i64nat h0 h1, i64nat h2 h3, BitVec.toNat_and]
  simp only [BitVec.toNat_ofNat]
  rw [Nat.mod_eq_of_lt (by omega), Nat.mod_eq_of_lt (by omega)]
  have h4 : x.toNat &&& y.toNat ≤ x.toNat := Nat.and_le_left
  have := w64_in (n := ((x.toNat &&& y.toNat : Nat) : Int)) (by omega)
  exact this
theorem ior_nat {x y : Int} (h0 : 0 ≤ x) (h1 : x < 9223372036854775808) (h2 : 0 ≤ y) (h3 : y < 9223372036854775808) : ior .i64 x y = ((x.toNat ||| y.toNat : Nat) : Int) := by
  unfold ior
  show IntKind.i64.wrap (BitVec.ofInt 64 x ||| BitVec.ofInt 64 y).toNat = _
  rw [i64nat h0 h1, i64nat h2 h3, BitVec.toNat_or]
  simp only [BitVec.toNat_ofNat]
  rw [Nat.mod_eq_of_lt (by omega), Nat.mod_eq_of_lt (by omega)]
  have h4 : x.toNat ||| y.toNat < 2 ^ 63 := Nat.or_lt_two_pow (by omega) (by omega)
  have := w64_in (n := ((x.toNat ||| y.toNat : Nat) : Int)) (by omega)
  exact this
theorem iand_1 {x : Int} (h0 : 0 ≤ x) (h1 : x < 9223372036854775808) : iand .i64 x 1 = x % 2 := by
  rw [iand_nat h0 h1 (by omega) (by omega)]
  have : x.toNat &&& (1 : Int).toNat = x.toNat % 2 := Nat.and_one_is_mod _
  rw [this]; omega
theorem iand_255 {x : Int} (h0 : 0 ≤ x) (h1 : x < 9223372036854775808) : iand .i64 x 255 = x % 256 := by
  rw [iand_nat h0 h1 (by omega) (by omega)]
  have : x.toNat &&& (255 : Int).toNat = x.toNat % 256 := Nat.and_two_pow_sub_one_eq_mod _ 8
  rw [this]; omega
theorem ior_hi {x y : Int} (h0 : 0 ≤ x) (h1 : x < 256) (h2 : 0 ≤ y) (h3 : y < 36028797018963968) : ior .i64 x (y * 256) = x + 256 * y := by
  rw [ior_nat h0 (by omega) (by omega) (by omega)]
  have e : (y * 256).toNat = 2 ^ 8 * y.toNat := by omega
  have h4 := Nat.two_pow_add_eq_or_of_lt (i := 8) (b := x.toNat) (by omega) y.toNat
  rw [e, Nat.or_comm, ← h4]; omega
theorem ior_hi' {x y : Int} (h0 : 0 ≤ x) (h1 : x < 256) (h2 : 0 ≤ y) (h3 : y < 36028797018963968) : ior .i64 (y * 256) x = x + 256 * y := by
  rw [← ior_hi h0 h1 h2 h3, ior_nat (by omega) (by omega) h0 (by omega), ior_nat h0 (by omega) (by omega) (by omega), Nat.or_comm]
theorem byte_all {p : Int → Prop} (h : ∀ n : Fin 256, p (n.val : Int)) {z : Int} (h0 : 0 ≤ z) (h1 : z < 256) : p z := by
  have := h ⟨z.toNat, by omega⟩
  rwa [show ((z.toNat : Nat) : Int) = z by omega] at this
theorem wf8 {z : Int} (h : (Lit.int .u8 z).wf = true) : 0 ≤ z ∧ z < 256 := by simp [Lit.wf] at h; have := h; simp [IntKind.min, IntKind.max, IntKind.bits, IntKind.signed] at this; omega
theorem wf64 {z : Int} (h : (Lit.int .i64 z).wf = true) : -9223372036854775808 ≤ z ∧ z ≤ 9223372036854775807 := by simp [Lit.wf] at h; have := h; simp [IntKind.min, IntKind.max, IntKind.bits, IntKind.signed] at this; omega
def sumI : List Int → Int
  | [] => 0
  | p :: ps => p + sumI ps
theorem sumI_append : ∀ a b : List Int, sumI (a ++ b) = sumI a + sumI b
  | [], b => by simp [sumI]
  | p :: a, b => by simp [sumI, sumI_append a b]; omega
theorem sumI_nonneg : ∀ {l : List Int}, (∀ p ∈ l, 0 ≤ p) → 0 ≤ sumI l
  | [], _ => by simp [sumI]
  | p :: l, h => by
    have := sumI_nonneg fun q hq => h q (.tail _ hq)
    have := h p (.head _)
    simp [sumI]; omega
/-- What the taking of n octets leaves of the piece that was begun, and of the pieces. -/
def pass : Int → Int → List Int → Int × List Int
  | n, b, [] => if n ≤ b then (b - n, []) else (0, [])
  | n, b, p :: ps => if n ≤ b then (b - n, p :: ps) else pass (n - b) p ps
theorem pass_le {n b : Int} (h : n ≤ b) (ps : List Int) : pass n b ps = (b - n, ps) := by cases ps <;> simp [pass, h]
theorem pass_gt {n b : Int} (h : ¬ n ≤ b) (p : Int) (ps : List Int) : pass n b (p :: ps) = pass (n - b) p ps := by simp [pass, h]
theorem pass_facts : ∀ {ps : List Int} {n b : Int}, 0 ≤ n → 0 ≤ b → (∀ p ∈ ps, 0 ≤ p) → n ≤ b + sumI ps →
    0 ≤ (pass n b ps).1 ∧ (∀ p ∈ (pass n b ps).2, 0 ≤ p) ∧ (pass n b ps).1 + sumI (pass n b ps).2 = b + sumI ps - n ∧ (pass n b ps).2.length ≤ ps.length
  | [], n, b, h0, h1, h2, h3 => by
    have : n ≤ b := by simpa [sumI] using h3
    rw [pass_le this]
    exact ⟨by omega, h2, by simp [sumI], Nat.le_refl _⟩
  | p :: ps, n, b, h0, h1, h2, h3 => by
    by_cases h : n ≤ b
    · rw [pass_le h]
      exact ⟨by omega, h2, by show b - n + sumI (p :: ps) = _; omega, Nat.le_refl _⟩
    · rw [pass_gt h]
      simp only [sumI] at h3
      obtain ⟨a1, a2, a3, a4⟩ := pass_facts (ps := ps) (n := n - b) (b := p) (by omega) (h2 p (.head _)) (fun q hq => h2 q (.tail _ hq)) (by omega)
      refine ⟨a1, a2, by rw [a3]; simp [sumI]; omega, by simp; omega⟩
def rst (r : ring_Ring) (b : Int) (ps : List Int) : ring_Ring := { room := r.room, b := r.b, begun := b, pieces := ps, dropped := r.dropped }
theorem imin_l {a b : Int} (h : a ≤ b) : imin a b = a := by unfold imin; split <;> omega
theorem imin_r {a b : Int} (h : b ≤ a) : imin a b = b := by unfold imin; split <;> omega
theorem pl_end (r : ring_Ring) (k : Nat) (b : Int) (ps : List Int) : ring_Ring_passed.l0 (k + 1) 0 (rst r b ps) = some (rst r b ps) := by
  rw [ring_Ring_passed.l0, if_neg (by omega)]
theorem pl_a (r : ring_Ring) (k : Nat) {n b : Int} {ps : List Int} (h0 : 0 < n) (hb : 0 < b) (h1 : n ≤ 4194304) (h2 : b ≤ 4194304) : ring_Ring_passed.l0 (k + 1) n (rst r b ps) = ring_Ring_passed.l0 k (n - imin n b) (rst r (b - imin n b) ps) := by
  have hm : 0 ≤ imin n b ∧ imin n b ≤ n ∧ imin n b ≤ b := by unfold imin; split <;> omega
  unfold rst
  rw [ring_Ring_passed.l0, if_pos (by omega)]
  dsimp only
  rw [if_neg (by omega), w64_in ⟨by omega, by omega⟩, w64_in ⟨by omega, by omega⟩]
theorem pl_b (r : ring_Ring) (k : Nat) {n p : Int} {ps : List Int} (h0 : 0 < n) (hp : 0 ≤ p) (h1 : n ≤ 4194304) (h2 : p ≤ 4194304) : ring_Ring_passed.l0 (k + 1) n (rst r 0 (p :: ps)) = if p = 0 then ring_Ring_passed.l0 k n (rst r 0 ps) else ring_Ring_passed.l0 (k + 1) n (rst r p ps) := by
  have hm : 0 ≤ imin n p ∧ imin n p ≤ n ∧ imin n p ≤ p := by unfold imin; split <;> omega
  have hA := fun hp' => pl_a r k (n := n) (b := p) (ps := ps) h0 hp' h1 h2
  unfold rst at *
  rw [ring_Ring_passed.l0, if_pos (by omega)]
  dsimp only
  rw [if_pos (show (0 : Int) = 0 from rfl)]
  simp only [List.length_cons]
  rw [if_pos ⟨by omega, by omega⟩, if_pos ⟨by omega, by omega, by omega⟩]
  have hc : cut (p :: ps) 1 ((ps.length + 1 : Nat) : Int) = ps := by simp [cut]
  have hg : (p :: ps).getD ((0 : Int)).toNat 0 = p := rfl
  rw [hc, hg, w64_in ⟨by omega, by omega⟩, w64_in ⟨by omega, by omega⟩]
  by_cases h : p = 0
  · subst h
    have e : imin n 0 = 0 := imin_r (by omega)
    rw [if_pos rfl, e]; simp
  · rw [if_neg h]
    rw [hA (by omega)]
theorem passed_eq (r : ring_Ring) : ∀ (ps : List Int) (n b : Int) (k : Nat), 0 ≤ n → 0 ≤ b → (∀ p ∈ ps, 0 ≤ p) → n ≤ b + sumI ps → b + sumI ps ≤ 4194304 → 2 * ps.length + 3 ≤ k →
    ring_Ring_passed.l0 k n (rst r b ps) = some (rst r (pass n b ps).1 (pass n b ps).2)
  | ps, n, b, k, h0, hb, hp, h1, h2, hk => by
    obtain ⟨k, rfl⟩ : ∃ j, k = j + 3 := ⟨k - 3, by omega⟩
    have hs := sumI_nonneg hp
    by_cases hn : n = 0
    · subst hn
      rw [pl_end, pass_le hb]; simp
    · -- behind what was begun
      have key : ∀ (j : Nat) (m : Int), 0 < m → m ≤ sumI ps → 2 * ps.length + 2 ≤ j → ring_Ring_passed.l0 j m (rst r 0 ps) = some (rst r (pass m 0 ps).1 (pass m 0 ps).2) := by
        intro j m hm hms hj
        cases ps with
        | nil => simp [sumI] at hms; omega
        | cons p ps =>
          simp only [sumI] at hms h2 h1
          have hp0 := hp p (.head _)
          have hps := sumI_nonneg fun q hq => hp q (.tail _ hq)
          simp only [List.length_cons] at hj hk
          obtain ⟨j, rfl⟩ : ∃ i, j = i + 1 := ⟨j - 1, by omega⟩
          rw [pl_b r j hm hp0 (by omega) (by omega), pass_gt (by omega), show m - 0 = m by omega]
          by_cases hz : p = 0
          · subst hz
            rw [if_pos rfl]
            exact passed_eq r ps m 0 j (by omega) (by omega) (fun q hq => hp q (.tail _ hq)) (by omega) (by omega) (by omega)
          · rw [if_neg hz]
            exact passed_eq r ps m p (j + 1) (by omega) hp0 (fun q hq => hp q (.tail _ hq)) (by omega) (by omega) (by omega)
      by_cases hb0 : b = 0
      · subst hb0
        exact key (k + 3) n (by omega) (by omega) (by omega)
      · by_cases hnb : n ≤ b
        · rw [pl_a r (k + 2) (by omega) (by omega) (by omega) (by omega), imin_l hnb, show n - n = 0 by omega, pl_end, pass_le hnb]
        · rw [pl_a r (k + 2) (by omega) (by omega) (by omega) (by omega), imin_r (by omega), show b - b = 0 by omega, key (k + 2) (n - b) (by omega) (by omega) (by omega)]
          cases ps with
          | nil => simp [sumI] at h1; omega
          | cons p ps =>
            rw [pass_gt (n := n) hnb, pass_gt (n := n - b) (by omega), show n - b - 0 = n - b by omega]
termination_by ps => ps.length

/-- How a ring stands. -/
structure RI (r : ring_Ring) : Prop where
  room : 0 ≤ r.room ∧ r.room ≤ 1048576
  sum : (r.b.length : Int) = r.begun + sumI r.pieces
  begun : 0 ≤ r.begun
  pos : ∀ p ∈ r.pieces, 0 ≤ p
  fit : (r.b.length : Int) ≤ r.room
  few : r.pieces.length ≤ 1000
  drop : 0 ≤ r.dropped ∧ r.dropped ≤ 4294967295
theorem clone_eq {l : List Int} (h : (l.length : Int) ≤ 1099511627776) : slices_Clone_Sbytebyte.f l = some l := by
  unfold slices_Clone_Sbytebyte.f
  rw [if_pos (by simp; omega)]; rfl
theorem delete_eq {l : List Int} {m : Nat} (h : m ≤ l.length) : slices_Delete_Sbytebyte.f l 0 (m : Int) = some (l.drop m) := by
  unfold slices_Delete_Sbytebyte.f
  rw [if_pos ⟨by omega, by omega, by omega⟩]
  by_cases h0 : (0 : Int) = (m : Int)
  · rw [if_pos h0]
    have : m = 0 := by omega
    subst this; rfl
  · rw [if_neg h0, if_pos ⟨by omega, by omega, by omega⟩, if_pos ⟨by omega, by omega, by omega⟩]
    congr 1
    simp [cut]
    exact List.take_of_length_le (by simp)
theorem cut0 {α : Type} (l : List α) (n : Nat) : cut l 0 (n : Int) = l.take n := by simp [cut]
/-- How many octets a call takes. -/
def takes (n : Int) (l : Nat) : Nat := (imax 0 (imin n (l : Int))).toNat
theorem takes_le (n : Int) (l : Nat) : takes n l ≤ l := by unfold takes imax imin; repeat' split; all_goals omega
theorem takes_all {n : Int} {l : Nat} (h : (l : Int) ≤ n) : takes n l = l := by unfold takes imax imin; repeat' split; all_goals omega
theorem takes_int (n : Int) (l : Nat) : imax 0 (imin n (l : Int)) = (takes n l : Int) := by
  have : 0 ≤ imax 0 (imin n (l : Int)) := by unfold imax; split <;> omega
  unfold takes; omega
def ringTake (r : ring_Ring) (m : Nat) : ring_Ring := { room := r.room, b := r.b.drop m, begun := (pass m r.begun r.pieces).1, pieces := (pass m r.begun r.pieces).2, dropped := r.dropped }
theorem take_eq {r : ring_Ring} (h : RI r) (n : Int) {k : Nat} (hk : 2003 ≤ k) : ring_Ring_Take.f k r n = some (r.b.take (takes n r.b.length), ringTake r (takes n r.b.length)) := by
  have hm := takes_le n r.b.length
  have h1 := h.sum
  have h2 := h.fit
  have h3 := h.room
  have h4 := h.few
  unfold ring_Ring_Take.f
  rw [takes_int]
  generalize takes n r.b.length = m at *
  have hc : cut r.b 0 (m : Int) = r.b.take m := by simp [cut]
  rw [if_pos ⟨by omega, by omega, by omega⟩, hc, clone_eq (by rw [List.length_take]; omega), bsome, delete_eq hm, bsome]
  unfold ring_Ring_passed.f
  have := passed_eq { room := r.room, b := r.b.drop m, begun := r.begun, pieces := r.pieces, dropped := r.dropped } r.pieces m r.begun k (by omega) h.begun h.pos (by omega) (by omega) (by omega)
  simp only [rst] at this
  rw [this, bsome]; rfl
theorem take_ri {r : ring_Ring} (h : RI r) (n : Int) : RI (ringTake r (takes n r.b.length)) := by
  have hm := takes_le n r.b.length
  have h1 := h.sum
  have h2 := h.fit
  obtain ⟨a1, a2, a3, a4⟩ := pass_facts (ps := r.pieces) (n := (takes n r.b.length : Int)) (b := r.begun) (by omega) h.begun h.pos (by omega)
  generalize takes n r.b.length = m at *
  exact ⟨h.room, by show ((r.b.drop m).length : Int) = _; rw [List.length_drop]; show _ = (pass m r.begun r.pieces).1 + sumI (pass m r.begun r.pieces).2; omega, a1, a2, by show ((r.b.drop m).length : Int) ≤ _; rw [List.length_drop]; have := h.room; show _ ≤ r.room; omega, Nat.le_trans a4 h.few, h.drop⟩
def ringNo (r : ring_Ring) : ring_Ring := { room := r.room, b := r.b, begun := r.begun, pieces := r.pieces, dropped := imin (r.dropped + 1) 4294967295 }
def ringAdd (r : ring_Ring) (a : List Int) : ring_Ring := { room := r.room, b := r.b ++ a, begun := r.begun, pieces := r.pieces ++ [(a.length : Int)], dropped := r.dropped }
theorem add_no {r : ring_Ring} (h : RI r) {a : List Int} (hn : r.room < (r.b.length : Int) + (a.length : Int)) : ring_Ring_Add.f r a = some (false, ringNo r) := by
  have h2 := h.fit
  have h3 := h.room
  have h4 := h.drop
  unfold ring_Ring_Add.f
  rw [w64_in (n := r.room - (r.b.length : Int)) ⟨by omega, by omega⟩, if_pos (by omega), w64_in ⟨by omega, by omega⟩]; rfl
theorem add_yes {r : ring_Ring} (h : RI r) {a : List Int} (hn : (r.b.length : Int) + (a.length : Int) ≤ r.room) : ring_Ring_Add.f r a = some (true, ringAdd r a) := by
  have h2 := h.fit
  have h3 := h.room
  have h4 := h.few
  unfold ring_Ring_Add.f
  rw [w64_in (n := r.room - (r.b.length : Int)) ⟨by omega, by omega⟩, if_neg (by omega), if_pos (by omega), if_pos (by simp only [List.length_cons, List.length_nil]; omega)]; rfl
theorem no_ri {r : ring_Ring} (h : RI r) : RI (ringNo r) := ⟨h.room, h.sum, h.begun, h.pos, h.fit, h.few, by have := h.drop; show 0 ≤ imin _ _ ∧ imin _ _ ≤ _; unfold imin; split <;> omega⟩
theorem add_ri {r : ring_Ring} (h : RI r) {a : List Int} (hn : (r.b.length : Int) + (a.length : Int) ≤ r.room) (hf : r.pieces.length < 1000) : RI (ringAdd r a) := by
  refine ⟨h.room, ?_, h.begun, ?_, ?_, ?_, h.drop⟩
  · show ((r.b ++ a).length : Int) = r.begun + sumI (r.pieces ++ [(a.length : Int)])
    rw [sumI_append, List.length_append]; have := h.sum; simp [sumI]; omega
  · intro p hp
    rcases List.mem_append.1 hp with hp | hp
    · exact h.pos p hp
    · simp at hp; omega
  · show ((r.b ++ a).length : Int) ≤ r.room
    rw [List.length_append]; omega
  · show (r.pieces ++ [(a.length : Int)]).length ≤ 1000
    rw [List.length_append]; simp; omega
theorem new_eq {n : Int} (h : 0 ≤ n ∧ n ≤ 1048576) : ring_New.f n = some { room := n, b := [], begun := 0, pieces := [], dropped := 0 } := by
  unfold ring_New.f
  have : imax 0 (imin n 1048576) = n := by unfold imax imin; repeat' split; all_goals omega
  rw [this]
theorem new_ri {n : Int} (h : 0 ≤ n ∧ n ≤ 1048576) : RI { room := n, b := [], begun := 0, pieces := [], dropped := 0 } := ⟨h, rfl, by simp, by simp, by simpa using h.1, by simp, by simp⟩
theorem alive_eq {k : Nat} (h : 2003 ≤ k) : signalmanlaw11_alive.f k = some true := by
  unfold signalmanlaw11_alive.f
  rw [new_eq (by decide), bsome]
  have r0 := new_ri (n := 5) (by decide)
  rw [take_eq r0 3 h, bsome]
  have r1 := take_ri r0 3
  have e1 : (takes 3 ([] : List Int).length) = 0 := by decide
  simp only [e1] at r1 ⊢
  have r1' : RI (ringTake { room := 5, b := [], begun := 0, pieces := [], dropped := 0 } 0) := r1
  rw [add_yes r1' (a := [97, 98, 99]) (by decide), bsome, if_pos (by decide), if_pos rfl]
  have r2 := add_ri r1' (a := [97, 98, 99]) (by decide) (by decide)
  rw [add_no r2 (a := [100, 101, 102]) (by decide), bsome, if_neg (by simp)]
  unfold ring_Ring_Dropped.f
  rw [bsome, if_pos (by decide), take_eq (no_ri r2) 2 h, bsome]
  decide +kernel
/-- The ring holds what went in and did not come out. -/
structure Fl (r : ring_Ring) (inn out : List Int) : Prop where
  ri : RI r
  b : r.b = inn.drop out.length
  is : out = inn.take out.length
  le : out.length ≤ inn.length
theorem fl_take {r : ring_Ring} {inn out : List Int} (h : Fl r inn out) (n : Int) {k : Nat} (hk : 2003 ≤ k) :
    ∃ x, ring_Ring_Take.f k r n = some (x, ringTake r (takes n r.b.length)) ∧ Fl (ringTake r (takes n r.b.length)) inn (out ++ x) ∧ x.length = takes n (inn.length - out.length) ∧ (ringTake r (takes n r.b.length)).pieces.length ≤ r.pieces.length := by
  have hm := takes_le n r.b.length
  have hr2 := take_ri h.ri n
  have hpl : (ringTake r (takes n r.b.length)).pieces.length ≤ r.pieces.length := (pass_facts (ps := r.pieces) (n := (takes n r.b.length : Int)) (b := r.begun) (by omega) h.ri.begun h.ri.pos (by have := h.ri.sum; omega)).2.2.2
  have hb := h.b
  have ho := h.is
  have hle := h.le
  have hbl : r.b.length = inn.length - out.length := by rw [hb, List.length_drop]
  refine ⟨_, take_eq h.ri _ hk, ?_, by rw [List.length_take, hbl]; rw [hbl] at hm; omega, hpl⟩
  generalize takes n r.b.length = m at *
  have hlt : (out ++ r.b.take m).length = out.length + m := by rw [List.length_append, List.length_take]; omega
  have hout : out ++ r.b.take m = inn.take (out.length + m) := by
    rw [List.take_add, hb, ← ho]
  have hbd : (ringTake r m).b = inn.drop (out.length + m) := by
    show r.b.drop m = _
    rw [hb, List.drop_drop]
  exact ⟨hr2, by rw [hlt, hbd], by rw [hlt, hout], by omega⟩
theorem Fl.all {r : ring_Ring} {inn out : List Int} (h : Fl r inn out) (hl : inn.length ≤ out.length) : out = inn ∧ r.b = [] := by
  have h1 := h.le
  have h2 := h.is
  rw [List.take_of_length_le (by omega)] at h2
  exact ⟨h2, by rw [h.b, List.drop_eq_nil_of_le (by omega)]⟩
theorem l3_eq {a1 : List Int} {all : List Int} {ra : ring_Ring} (ha : ra.b = []) (hall : all.length ≤ 100000) : ∀ (d i : Nat) (out : List Int) (r : ring_Ring) (k : Nat), i + d = a1.length → i + d ≤ 200 → Fl r all out → 2004 + d ≤ k →
    signalmanlaw11_RingTakes.l3 k a1 (all.length : Int) all ra out i r = some true
  | 0, i, out, r, k, hi, h200, h, hk => by
    obtain ⟨k, rfl⟩ : ∃ j, k = j + 1 := ⟨k - 1, by omega⟩
    obtain ⟨x, e, hF, hx, _⟩ := fl_take h (all.length : Int) (k := k) (by omega)
    have hle := h.le
    rw [signalmanlaw11_RingTakes.l3, if_neg (by omega), e, bsome]
    rw [takes_all (by omega)] at hx
    have hal := hF.all (by rw [List.length_append]; omega)
    rw [if_pos (by dsimp only; omega)]
    dsimp only
    rw [hal.1, sEq_refl, if_pos rfl, if_pos rfl]
    unfold ring_Ring_Len.f
    rw [bsome, ha, if_pos (show (([] : List Int).length : Int) = 0 from rfl), bsome, hal.2]; rfl
  | d + 1, i, out, r, k, hi, h200, h, hk => by
    obtain ⟨k, rfl⟩ : ∃ j, k = j + 1 := ⟨k - 1, by omega⟩
    obtain ⟨x, e, hF, hx, _⟩ := fl_take h (iand .i64 (a1.getD ((i : Nat) : Int).toNat 0) 15) (k := k) (by omega)
    have hle := hF.le
    rw [List.length_append] at hle
    rw [signalmanlaw11_RingTakes.l3, if_pos (by omega), if_pos ⟨by omega, by omega⟩, e, bsome, if_pos (by dsimp only; omega), w64_in ⟨by omega, by omega⟩]
    dsimp only
    exact l3_eq ha hall d (i + 1) _ _ k (by omega) (by omega) hF (by omega)
theorem l2_eq {a1 : List Int} {all : List Int} {rb : ring_Ring} (hb : Fl rb all []) (h200 : a1.length ≤ 200) (hall : all.length ≤ 100000) : ∀ (d : Nat) (out : List Int) (r : ring_Ring) (k : Nat), out.length + d = all.length → Fl r all out → 2300 + d ≤ k →
    signalmanlaw11_RingTakes.l2 k a1 (all.length : Int) rb out (out.length : Int) r = some true
  | 0, out, r, k, hd, h, hk => by
    obtain ⟨k, rfl⟩ : ∃ j, k = j + 1 := ⟨k - 1, by omega⟩
    have hal := h.all (by omega)
    rw [signalmanlaw11_RingTakes.l2, if_neg (by omega), hal.1]
    exact l3_eq hal.2 hall a1.length 0 [] rb k (by omega) (by omega) hb (by omega)
  | d + 1, out, r, k, hd, h, hk => by
    obtain ⟨k, rfl⟩ : ∃ j, k = j + 1 := ⟨k - 1, by omega⟩
    obtain ⟨x, e, hF, hx, _⟩ := fl_take h 1 (k := k) (by omega)
    have h1 : x.length = 1 := by
      rw [hx]
      unfold takes imax imin; repeat' split
      all_goals omega
    rw [signalmanlaw11_RingTakes.l2, if_pos (by omega), e, bsome, if_pos (by dsimp only; omega), w64_in ⟨by omega, by omega⟩, show (out.length : Int) + 1 = ((out ++ x).length : Int) by rw [List.length_append]; omega]
    dsimp only
    exact l2_eq hb h200 hall d _ _ k (by rw [List.length_append]; omega) hF (by omega)
theorem l1_eq {a0 : List (List Int)} {a1 : List Int} (h20 : a0.length ≤ 20) (h200 : a1.length ≤ 200) : ∀ (d i : Nat) (all : List Int) (r : ring_Ring) (k : Nat), i + d = a0.length → Fl r all [] → r.room = 1048576 → r.pieces.length ≤ i → all.length ≤ 100 * i → 100000 + d ≤ k →
    signalmanlaw11_RingTakes.l1 k a0 a1 (all.length : Int) i r r = some true
  | 0, i, all, r, k, hi, h, hr, hp, hl, hk => by
    obtain ⟨k, rfl⟩ : ∃ j, k = j + 1 := ⟨k - 1, by omega⟩
    rw [signalmanlaw11_RingTakes.l1, if_neg (by omega)]
    exact l2_eq h h200 (by omega) all.length [] r k (by simp) h (by omega)
  | d + 1, i, all, r, k, hi, h, hr, hp, hl, hk => by
    obtain ⟨k, rfl⟩ : ∃ j, k = j + 1 := ⟨k - 1, by omega⟩
    have hri := h.ri
    have hb : r.b = all := by have := h.b; simpa using this
    rw [signalmanlaw11_RingTakes.l1, if_pos (by omega), if_pos ⟨by omega, by omega⟩]
    generalize a0.getD ((i : Nat) : Int).toNat [] = a
    by_cases hl100 : (a.length : Int) > 100
    · rw [if_pos hl100]
    · have hfit : (r.b.length : Int) + (a.length : Int) ≤ r.room := by rw [hb]; omega
      rw [if_neg hl100, add_yes hri hfit, bsome, bsome, w64_in ⟨by omega, by omega⟩, w64_in ⟨by omega, by omega⟩, show (all.length : Int) + (a.length : Int) = ((all ++ a).length : Int) by rw [List.length_append]; omega]
      refine l1_eq h20 h200 d (i + 1) (all ++ a) (ringAdd r a) k (by omega) ⟨add_ri hri hfit (by omega), ?_, by simp, by simp⟩ hr ?_ (by rw [List.length_append]; omega) (by omega)
      · show r.b ++ a = _
        rw [hb]; simp
      · show (r.pieces ++ [_]).length ≤ _
        rw [List.length_append]; simp; omega
theorem RingTakes : signalmanlaw11_RingTakes.Pure := by
  intro a0 a1 h0 h0l h1 h1l
  obtain ⟨K, hK⟩ : ∃ K : Nat, 200000 ≤ K := ⟨200000, Nat.le_refl _⟩
  refine ⟨K, ?_⟩
  unfold signalmanlaw11_RingTakes.f
  rw [alive_eq (by omega), bsome, if_pos rfl]
  have hj : ∀ b : Bool, (b = false → a0.length ≤ 20 ∧ a1.length ≤ 200) → signalmanlaw11_RingTakes.j0 K a0 a1 true b = some true := by
    intro b hb
    unfold signalmanlaw11_RingTakes.j0
    cases b with
    | true => rfl
    | false =>
      obtain ⟨b1, b2⟩ := hb rfl
      rw [if_neg (by simp), new_eq (by omega), bsome, bsome]
      exact l1_eq b1 b2 a0.length 0 [] _ K (by omega) ⟨new_ri (by omega), rfl, rfl, Nat.le_refl _⟩ rfl (by simp) (by simp) (by omega)
  by_cases c3 : (a0.length : Int) > 20
  · rw [if_pos c3]; exact hj _ (by simp)
  · rw [if_neg c3]; exact hj _ (fun h => by simp at h; omega)
end Go.Proofs.Ytdliomkoagfocaa

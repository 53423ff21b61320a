/- PipeKeeps: without faults, the octets that are taken are those that were put, in order, as far as there was room. Conditions: none beyond those of the given statement. -/
import Derived.Test.YtcflnobablhdiaaRunPipeKeeps
import Derived.KernelRfl
set_option linter.all false
namespace Go.Proofs.Ytcflnobablhdiaa
open Go.RowKit Go.Proofs.Ytcflnobablhdiaa.Walk
theorem bsome {α β : Type} (x : α) (g : α → Option β) : (some x).bind g = g x := Eq.trans (b := g x) rfl (Eq.symm rfl)
theorem u8w (x : Int) : IntKind.u8.wrap x = x % 256 := by
  simp [IntKind.wrap, IntKind.bits, IntKind.signed]
theorem i64nat {x : Int} (h0 : 0 ≤ x) (h1 : x < 9223372036854775808) : BitVec.ofInt 64 x = BitVec.ofNat 64 x.toNat := by
  apply BitVec.eq_of_toNat_eq
  simp [BitVec.toNat_ofInt]
  omega
theorem iand_nat {x y : Int} (h0 : 0 ≤ x) (h1 : x < 9223372036854775808) (h2 : 0 ≤ y) (h3 : y < 9223372036854775808) : iand .i64 x y = ((x.toNat &&& y.toNat : Nat) : Int) := by
  unfold iand
  show IntKind.i64.wrap (BitVec.ofInt 64 x &&& BitVec.ofInt 64 y).toNat = _
  rw [i64nat h0 h1, i64nat h2 h3, BitVec.toNat_and]
  simp only [BitVec.toNat_ofNat]
  rw [Nat.mod_eq_of_lt (by omega), Nat.mod_eq_of_lt (by omega)]
  have h4 : x.toNat &&& y.toNat ≤ x.toNat := Nat.and_le_left
  have := w64_in (n := ((x.toNat &&& y.toNat : Nat) : Int)) (by omega)
  exact this
theorem ior_nat {x y : Int} (h0 : 0 ≤ x) (h1 : x < 9223372036854775808) (h2 : 0 ≤ y) (h3 : y < 9223372036854775808) : ior .i64 x y = ((x.toNat ||| y.toNat : Nat) : Int) := by
  unfold ior
  show IntKind.i64.wrap (BitVec.ofInt 64 x ||| BitVec.ofInt 64 y).toNat = _
  rw [i64nat h0 h1, i64nat h2 h3, BitVec.toNat_or]
  simp only [BitVec.toNat_ofNat]
  rw [Nat.mod_eq_of_lt (by omega), Nat.mod_eq_of_lt (by omega)]
  have h4 : x.toNat ||| y.toNat < 2 ^ 63 := Nat.or_lt_two_pow (by omega) (by omega)
  have := w64_in (n := ((x.toNat ||| y.toNat : Nat) : Int)) (by omega)
  exact this
theorem iand_1 {x : Int} (h0 : 0 ≤ x) (h1 : x < 9223372036854775808) : iand .i64 x 1 = x % 2 := by
  rw [iand_nat h0 h1 (by omega) (by omega)]
  have : x.toNat &&& (1 : Int).toNat = x.toNat % 2 := Nat.and_one_is_mod _
  rw [this]; omega
theorem iand_255 {x : Int} (h0 : 0 ≤ x) (h1 : x < 9223372036854775808) : iand .i64 x 255 = x % 256 := by
  rw [iand_nat h0 h1 (by omega) (by omega)]
  have : x.toNat &&& (255 : Int).toNat = x.toNat % 256 := Nat.and_two_pow_sub_one_eq_mod _ 8
  rw [this]; omega
theorem ior_hi {x y : Int} (h0 : 0 ≤ x) (h1 : x < 256) (h2 : 0 ≤ y) (h3 : y < 36028797018963968) : ior .i64 x (y * 256) = x + 256 * y := by
  rw [ior_nat h0 (by omega) (by omega) (by omega)]
  have e : (y * 256).toNat = 2 ^ 8 * y.toNat := by omega
  have h4 := Nat.two_pow_add_eq_or_of_lt (i := 8) (b := x.toNat) (by omega) y.toNat
  rw [e, Nat.or_comm, ← h4]; omega
theorem ior_hi' {x y : Int} (h0 : 0 ≤ x) (h1 : x < 256) (h2 : 0 ≤ y) (h3 : y < 36028797018963968) : ior .i64 (y * 256) x = x + 256 * y := by
  rw [← ior_hi h0 h1 h2 h3, ior_nat (by omega) (by omega) h0 (by omega), ior_nat h0 (by omega) (by omega) (by omega), Nat.or_comm]
theorem byte_all {p : Int → Prop} (h : ∀ n : Fin 256, p (n.val : Int)) {z : Int} (h0 : 0 ≤ z) (h1 : z < 256) : p z := by
  have := h ⟨z.toNat, by omega⟩
  rwa [show ((z.toNat : Nat) : Int) = z by omega] at this
theorem wf8 {z : Int} (h : (Lit.int .u8 z).wf = true) : 0 ≤ z ∧ z < 256 := by simp [Lit.wf] at h; have := h; simp [IntKind.min, IntKind.max, IntKind.bits, IntKind.signed] at this; omega
theorem wf64 {z : Int} (h : (Lit.int .i64 z).wf = true) : -9223372036854775808 ≤ z ∧ z ≤ 9223372036854775807 := by simp [Lit.wf] at h; have := h; simp [IntKind.min, IntKind.max, IntKind.bits, IntKind.signed] at this; omega
theorem clone_eq {l : List Int} (h : (l.length : Int) ≤ 1099511627776) : slices_Clone_Sbytebyte.f l = some l := by
  unfold slices_Clone_Sbytebyte.f
  rw [if_pos (by simp; omega)]; rfl
theorem delete_eq {l : List Int} {m : Nat} (h : m ≤ l.length) : slices_Delete_Sbytebyte.f l 0 (m : Int) = some (l.drop m) := by
  unfold slices_Delete_Sbytebyte.f
  rw [if_pos ⟨by omega, by omega, by omega⟩]
  by_cases h0 : (0 : Int) = (m : Int)
  · rw [if_pos h0]
    have : m = 0 := by omega
    subst this; rfl
  · rw [if_neg h0, if_pos ⟨by omega, by omega, by omega⟩, if_pos ⟨by omega, by omega, by omega⟩]
    congr 1
    simp [cut]
    exact List.take_of_length_le (by simp)
theorem cut0 {α : Type} (l : List α) (n : Nat) : cut l 0 (n : Int) = l.take n := by simp [cut]
/-- How many octets a call takes. -/
def takes (n : Int) (l : Nat) : Nat := (imax 0 (imin n (l : Int))).toNat
theorem takes_le (n : Int) (l : Nat) : takes n l ≤ l := by unfold takes imax imin; repeat' split; all_goals omega
theorem takes_all {n : Int} {l : Nat} (h : (l : Int) ≤ n) : takes n l = l := by unfold takes imax imin; repeat' split; all_goals omega
theorem takes_int (n : Int) (l : Nat) : imax 0 (imin n (l : Int)) = (takes n l : Int) := by
  have : 0 ≤ imax 0 (imin n (l : Int)) := by unfold imax; split <;> omega
  unfold takes; omega
/-- How a pipe stands. -/
structure PI (p : pipe_Pipe) : Prop where
  room : 0 ≤ p.room ∧ p.room ≤ 1048576
  fit : (p.b.length : Int) ≤ p.room
def pset (p : pipe_Pipe) (b : List Int) : pipe_Pipe := { room := p.room, b := b, cut := p.cut, stall := p.stall }
theorem gone_eq {p : pipe_Pipe} (h : PI p) (n : Int) : pipe_Pipe_gone.f p n = some (p.b.take (takes n p.b.length), pset p (p.b.drop (takes n p.b.length))) := by
  have hm := takes_le n p.b.length
  have hf := h.fit
  have hr := h.room
  unfold pipe_Pipe_gone.f
  rw [takes_int]
  generalize takes n p.b.length = m at *
  rw [if_pos ⟨by omega, by omega, by omega⟩, cut0, clone_eq (by rw [List.length_take]; omega), bsome, delete_eq hm, bsome]; rfl
theorem take_eq {p : pipe_Pipe} (h : PI p) (n : Int) (hs : p.stall = false) : pipe_Pipe_Take.f p n = some (p.b.take (takes n p.b.length), pset p (p.b.drop (takes n p.b.length))) := by
  unfold pipe_Pipe_Take.f
  rw [if_neg (by simp [hs]), gone_eq h, bsome]
theorem pset_pi {p : pipe_Pipe} (h : PI p) {b : List Int} (hb : (b.length : Int) ≤ p.room) : PI (pset p b) := ⟨h.room, hb⟩
/-- How many octets a pipe takes in. -/
def puts (p : pipe_Pipe) (a : List Int) : Nat := (imin (a.length : Int) (p.room - (p.b.length : Int))).toNat
theorem puts_int {p : pipe_Pipe} (h : PI p) (a : List Int) : imin (a.length : Int) (p.room - (p.b.length : Int)) = (puts p a : Int) ∧ puts p a ≤ a.length ∧ (p.b.length : Int) + (puts p a : Int) ≤ p.room := by
  have hf := h.fit
  unfold puts imin
  repeat' split
  all_goals omega
theorem put_eq {p : pipe_Pipe} (h : PI p) (a : List Int) (hc : p.cut = false) : pipe_Pipe_Put.f p a = some ((puts p a : Int), pset p (p.b ++ a.take (puts p a))) := by
  have hf := h.fit
  have hr := h.room
  obtain ⟨h1, h2, h3⟩ := puts_int h a
  unfold pipe_Pipe_Put.f pipe_Pipe_Room.f
  rw [if_neg (by simp [hc]), bsome, w64_in ⟨by omega, by omega⟩, h1]
  generalize puts p a = n at *
  rw [if_pos ⟨by omega, by omega, by omega⟩, cut0, if_pos (by rw [List.length_take]; omega)]; rfl
theorem put_pi {p : pipe_Pipe} (h : PI p) (a : List Int) : PI (pset p (p.b ++ a.take (puts p a))) := by
  obtain ⟨h1, h2, h3⟩ := puts_int h a
  exact pset_pi h (by rw [List.length_append, List.length_take]; omega)
theorem new_eq {n : Int} (h : 0 ≤ n ∧ n ≤ 1048576) : pipe_New.f n = some { room := n, b := [], cut := false, stall := false } := by
  unfold pipe_New.f
  have : imax 0 (imin n 1048576) = n := by unfold imax imin; repeat' split; all_goals omega
  rw [this]
theorem alive_eq : signalmanlaw8_alive.f = some true := by
  show signalmanlaw8_alive.f = some true
  kernel_rfl
theorem l1_eq {a0 : Int} {a1 : List (List Int)} {a2 : List Int} (h30 : a1.length ≤ 30) (h2 : a1.length ≤ a2.length) : ∀ (d i : Nat) (inn out : List Int) (p : pipe_Pipe) (k : Nat), i + d = a1.length → PI p → p.room = a0 → a0 ≤ 1000 → p.cut = false → p.stall = false → inn = out ++ p.b → inn.length ≤ 200 * i → d + 1 ≤ k →
    signalmanlaw8_PipeKeeps.l1 k a0 a1 a2 inn out i p = some true
  | 0, i, inn, out, p, k, hi, h, hr, hr2, hc, hs, hin, hl, hk => by
    obtain ⟨k, rfl⟩ : ∃ j, k = j + 1 := ⟨k - 1, by omega⟩
    have hf := h.fit
    have hol : inn.length = out.length + p.b.length := by rw [hin, List.length_append]
    rw [signalmanlaw8_PipeKeeps.l1, if_neg (by omega), take_eq h 1000 hs, bsome, takes_all (by omega), List.take_of_length_le (Nat.le_refl _), if_pos (by dsimp only; omega)]
    dsimp only
    rw [hin, sEq_refl]
  | d + 1, i, inn, out, p, k, hi, h, hr, hr2, hc, hs, hin, hl, hk => by
    obtain ⟨k, rfl⟩ : ∃ j, k = j + 1 := ⟨k - 1, by omega⟩
    have hf := h.fit
    have hol : inn.length = out.length + p.b.length := by rw [hin, List.length_append]
    rw [signalmanlaw8_PipeKeeps.l1, if_pos (by omega), if_pos ⟨by omega, by omega⟩]
    generalize a1.getD ((i : Nat) : Int).toNat [] = a
    by_cases hl2 : (a.length : Int) > 200
    · rw [if_pos hl2]
    obtain ⟨p1, p2, p3⟩ := puts_int h a
    have hP := put_pi h a
    rw [if_neg hl2, put_eq h a hc, bsome]
    dsimp only
    rw [if_neg (by omega), if_neg (by omega)]
    have htk : (a.take (puts p a)).length = puts p a := by rw [List.length_take]; omega
    have hpl : (pset p (p.b ++ a.take (puts p a))).b.length = p.b.length + puts p a := by show (p.b ++ a.take (puts p a)).length = _; rw [List.length_append, htk]
    -- what follows, in either way
    have fin : (if 0 ≤ (0 : Int) ∧ (0 : Int) ≤ (puts p a : Int) ∧ (puts p a : Int) ≤ (a.length : Int) then (if (inn.length : Int) + (cut a (0 : Int) (puts p a : Int)).length ≤ 1099511627776 then (if 0 ≤ (i : Int) ∧ (i : Int) < (a2.length : Int) then ((pipe_Pipe_Take.f (pset p (p.b ++ a.take (puts p a))) (a2.getD ((i : Nat) : Int).toNat 0)).bind fun t43 => (if (out.length : Int) + (t43.1).length ≤ 1099511627776 then ((pipe_Pipe_Len.f t43.2).bind fun t49 => (if t49 > a0 then some false else ((pipe_Pipe_Len.f t43.2).bind fun t52 => (if (w64 (((out ++ t43.1).length : Int) + t52)) = ((inn ++ (cut a (0 : Int) (puts p a : Int))).length : Int) then (signalmanlaw8_PipeKeeps.l1 k a0 a1 a2 (inn ++ (cut a (0 : Int) (puts p a : Int))) (out ++ t43.1) (w64 ((i : Int) + 1)) t43.2) else some false)))) else none)) else none) else none) else none) = some true := by
      rw [if_pos ⟨by omega, by omega, by omega⟩, cut0, if_pos (by omega), if_pos ⟨by omega, by omega⟩, take_eq hP _ hs, bsome]
      have hm := takes_le (a2.getD ((i : Nat) : Int).toNat 0) (pset p (p.b ++ a.take (puts p a))).b.length
      dsimp only
      generalize takes (a2.getD ((i : Nat) : Int).toNat 0) (pset p (p.b ++ a.take (puts p a))).b.length = m at *
      have hq : (pset p (p.b ++ a.take (puts p a))).b = p.b ++ a.take (puts p a) := rfl
      rw [hq] at hm hpl ⊢
      have e1 : ((p.b ++ a.take (puts p a)).take m).length = m := by rw [List.length_take]; omega
      have e2 : ((p.b ++ a.take (puts p a)).drop m).length = p.b.length + puts p a - m := by rw [List.length_drop]; omega
      unfold pipe_Pipe_Len.f
      rw [if_pos (by omega), bsome]
      have e3 : (pset (pset p (p.b ++ a.take (puts p a))) ((p.b ++ a.take (puts p a)).drop m)).b = (p.b ++ a.take (puts p a)).drop m := rfl
      rw [e3, if_neg (by omega), bsome, List.length_append, List.length_append, htk, w64_in ⟨by omega, by omega⟩, if_pos (by omega), w64_in ⟨by omega, by omega⟩]
      refine l1_eq h30 h2 d (i + 1) _ _ _ k (by omega) (pset_pi hP ?_) hr hr2 hc hs ?_ (by rw [List.length_append, htk]; omega) (by omega)
      · show ((List.drop m _).length : Int) ≤ p.room
        rw [e2]; omega
      · show inn ++ a.take (puts p a) = (out ++ (p.b ++ a.take (puts p a)).take m) ++ (p.b ++ a.take (puts p a)).drop m
        rw [List.append_assoc, List.take_append_drop, hin, List.append_assoc]
    by_cases hlt : (puts p a : Int) < (a.length : Int)
    · rw [if_pos hlt]
      have hfull : ((pset p (p.b ++ a.take (puts p a))).b.length : Int) = a0 := by
        rw [hpl]
        unfold puts imin at hlt ⊢
        repeat' split at hlt
        all_goals (try split) <;> omega
      show (pipe_Pipe_Len.f _).bind _ = _
      unfold pipe_Pipe_Len.f at fin ⊢
      rw [bsome, if_pos hfull]
      exact fin
    · rw [if_neg hlt]
      exact fin
theorem PipeKeeps : signalmanlaw8_PipeKeeps.Pure := by
  intro a0 a1 a2 h0 h1 h1l h2 h2l
  refine ⟨1000, ?_⟩
  unfold signalmanlaw8_PipeKeeps.f
  rw [alive_eq, bsome, if_pos rfl]
  have hj : ∀ b : Bool, (b = false → 0 ≤ a0 ∧ a0 ≤ 1000 ∧ a1.length ≤ 30 ∧ a1.length ≤ a2.length) → signalmanlaw8_PipeKeeps.j0 1000 a0 a1 a2 true b = some true := by
    intro b hb
    unfold signalmanlaw8_PipeKeeps.j0
    cases b with
    | true => rfl
    | false =>
      obtain ⟨b1, b2, b3, b4⟩ := hb rfl
      rw [if_neg (by simp), new_eq (by omega), bsome]
      exact l1_eq b3 b4 a1.length 0 [] [] _ 1000 (by omega) ⟨⟨by show 0 ≤ a0; omega, by show a0 ≤ 1048576; omega⟩, by simpa using b1⟩ rfl b2 rfl rfl rfl (by simp) (by omega)
  by_cases c1 : a0 < 0
  · rw [if_pos c1]; exact hj _ (by simp)
  · rw [if_neg c1]
    by_cases c2 : a0 > 1000
    · rw [if_pos c2]; exact hj _ (by simp)
    · rw [if_neg c2]
      by_cases c3 : (a1.length : Int) > 30
      · rw [if_pos c3]; exact hj _ (by simp)
      · rw [if_neg c3]; exact hj _ (fun h => by simp at h; omega)
end Go.Proofs.Ytcflnobablhdiaa

/- PipeTurns: FErase, FWrite and FInsert change the content as documented. Conditions: none beyond those of the given statement. -/
import Derived.Test.YtcflnobablhdiaaRunPipeTurns
import Derived.KernelRfl
set_option linter.all false
namespace Go.Proofs.Ytcflnobablhdiaa
open Go.RowKit Go.Proofs.Ytcflnobablhdiaa.Walk
theorem bsome {α β : Type} (x : α) (g : α → Option β) : (some x).bind g = g x := Eq.trans (b := g x) rfl (Eq.symm rfl)
theorem u8w (x : Int) : IntKind.u8.wrap x = x % 256 := by
  simp [IntKind.wrap, IntKind.bits, IntKind.signed]
theorem i64nat {x : Int} (h0 : 0 ≤ x) (h1 : x < 9223372036854775808) : BitVec.ofInt 64 x = BitVec.ofNat 64 x.toNat := by
  apply BitVec.eq_of_toNat_eq
  simp [BitVec.toNat_ofInt]
  omega
theorem iand_nat {x y : Int} (h0 : 0 ≤ x) (h1 : x < 9223372036854775808) (h2 : 0 ≤ y) (h3 : y < 9223372036854775808) : iand .i64 x y = ((x.toNat &&& y.toNat : Nat) : Int) := by
  unfold iand
  show IntKind.i64.wrap (BitVec.ofInt 64 x &&& BitVec.ofInt 64 y).toNat = _
  rw [i64nat h0 h1, i64nat h2 h3, BitVec.toNat_and]
  simp only [BitVec.toNat_ofNat]
  rw [Nat.mod_eq_of_lt (by omega), Nat.mod_eq_of_lt (by omega)]
  have h4 : x.toNat &&& y.toNat ≤ x.toNat := Nat.and_le_left
  have := w64_in (n := ((x.toNat &&& y.toNat : Nat) : Int)) (by omega)
  exact this
theorem ior_nat {x y : Int} (h0 : 0 ≤ x) (h1 : x < 9223372036854775808) (h2 : 0 ≤ y) (h3 : y < 9223372036854775808) : ior .i64 x y = ((x.toNat ||| y.toNat : Nat) : Int) := by
  unfold ior
  show IntKind.i64.wrap (BitVec.ofInt 64 x ||| BitVec.ofInt 64 y).toNat = _
  rw [i64nat h0 h1, i64nat h2 h3, BitVec.toNat_or]
  simp only [BitVec.toNat_ofNat]
  rw [Nat.mod_eq_of_lt (by omega), Nat.mod_eq_of_lt (by omega)]
  have h4 : x.toNat ||| y.toNat < 2 ^ 63 := Nat.or_lt_two_pow (by omega) (by omega)
  have := w64_in (n := ((x.toNat ||| y.toNat : Nat) : Int)) (by omega)
  exact this
theorem iand_1 {x : Int} (h0 : 0 ≤ x) (h1 : x < 9223372036854775808) : iand .i64 x 1 = x % 2 := by
  rw [iand_nat h0 h1 (by omega) (by omega)]
  have : x.toNat &&& (1 : Int).toNat = x.toNat % 2 := Nat.and_one_is_mod _
  rw [this]; omega
theorem iand_255 {x : Int} (h0 : 0 ≤ x) (h1 : x < 9223372036854775808) : iand .i64 x 255 = x % 256 := by
  rw [iand_nat h0 h1 (by omega) (by omega)]
  have : x.toNat &&& (255 : Int).toNat = x.toNat % 256 := Nat.and_two_pow_sub_one_eq_mod _ 8
  rw [this]; omega
theorem ior_hi {x y : Int} (h0 : 0 ≤ x) (h1 : x < 256) (h2 : 0 ≤ y) (h3 : y < 36028797018963968) : ior .i64 x (y * 256) = x + 256 * y := by
  rw [ior_nat h0 (by omega) (by omega) (by omega)]
  have e : (y * 256).toNat = 2 ^ 8 * y.toNat := by omega
  have h4 := Nat.two_pow_add_eq_or_of_lt (i := 8) (b := x.toNat) (by omega) y.toNat
  rw [e, Nat.or_comm, ← h4]; omega
theorem ior_hi' {x y : Int} (h0 : 0 ≤ x) (h1 : x < 256) (h2 : 0 ≤ y) (h3 : y < 36028797018963968) : ior .i64 (y * 256) x = x + 256 * y := by
  rw [← ior_hi h0 h1 h2 h3, ior_nat (by omega) (by omega) h0 (by omega), ior_nat h0 (by omega) (by omega) (by omega), Nat.or_comm]
theorem byte_all {p : Int → Prop} (h : ∀ n : Fin 256, p (n.val : Int)) {z : Int} (h0 : 0 ≤ z) (h1 : z < 256) : p z := by
  have := h ⟨z.toNat, by omega⟩
  rwa [show ((z.toNat : Nat) : Int) = z by omega] at this
theorem wf8 {z : Int} (h : (Lit.int .u8 z).wf = true) : 0 ≤ z ∧ z < 256 := by simp [Lit.wf] at h; have := h; simp [IntKind.min, IntKind.max, IntKind.bits, IntKind.signed] at this; omega
theorem wf64 {z : Int} (h : (Lit.int .i64 z).wf = true) : -9223372036854775808 ≤ z ∧ z ≤ 9223372036854775807 := by simp [Lit.wf] at h; have := h; simp [IntKind.min, IntKind.max, IntKind.bits, IntKind.signed] at this; omega
theorem strOf_inj {a b : List Int} (ha : ∀ z ∈ a, 0 ≤ z ∧ z < 256) (hb : ∀ z ∈ b, 0 ≤ z ∧ z < 256) (h : strOf a = strOf b) : a = b := by
  have h1 : a.map (fun c => UInt8.ofNat c.toNat) = b.map (fun c => UInt8.ofNat c.toNat) := by
    have := congrArg (fun s : ByteArray => s.data.toList) h
    simpa [strOf] using this
  induction a generalizing b with
  | nil => cases b with
    | nil => rfl
    | cons _ _ => simp at h1
  | cons x a ih => cases b with
    | nil => simp at h1
    | cons y b =>
      simp only [List.map_cons, List.cons.injEq] at h1
      have hx := ha x (by simp)
      have hy := hb y (by simp)
      have e : x = y := by
        have := congrArg UInt8.toNat h1.1
        simp [UInt8.toNat_ofNat'] at this
        omega
      rw [e, ih (fun z hz => ha z (.tail _ hz)) (fun z hz => hb z (.tail _ hz)) (by simp [strOf, h1.2]) h1.2]
theorem sEq_iff {a b : List Int} (ha : ∀ z ∈ a, 0 ≤ z ∧ z < 256) (hb : ∀ z ∈ b, 0 ≤ z ∧ z < 256) : sEq a b = decide (a = b) := by
  by_cases h : a = b
  · subst h; simp [sEq_refl]
  · rw [decide_eq_false h]
    unfold sEq
    rw [beq_eq_false_iff_ne]
    intro e
    refine h (strOf_inj ha hb ?_)
    apply ByteArray.ext
    rw [ByteArray.toList_eq, ByteArray.toList_eq] at e
    exact Array.toList_inj.1 e
theorem clone_eq {l : List Int} (h : (l.length : Int) ≤ 1099511627776) : slices_Clone_Sbytebyte.f l = some l := by
  unfold slices_Clone_Sbytebyte.f
  rw [if_pos (by simp; omega)]; rfl
theorem delete_eq {l : List Int} {m : Nat} (h : m ≤ l.length) : slices_Delete_Sbytebyte.f l 0 (m : Int) = some (l.drop m) := by
  unfold slices_Delete_Sbytebyte.f
  rw [if_pos ⟨by omega, by omega, by omega⟩]
  by_cases h0 : (0 : Int) = (m : Int)
  · rw [if_pos h0]
    have : m = 0 := by omega
    subst this; rfl
  · rw [if_neg h0, if_pos ⟨by omega, by omega, by omega⟩, if_pos ⟨by omega, by omega, by omega⟩]
    congr 1
    simp [cut]
    exact List.take_of_length_le (by simp)
theorem cut0 {α : Type} (l : List α) (n : Nat) : cut l 0 (n : Int) = l.take n := by simp [cut]
/-- How many octets a call takes. -/
def takes (n : Int) (l : Nat) : Nat := (imax 0 (imin n (l : Int))).toNat
theorem takes_le (n : Int) (l : Nat) : takes n l ≤ l := by unfold takes imax imin; repeat' split; all_goals omega
theorem takes_all {n : Int} {l : Nat} (h : (l : Int) ≤ n) : takes n l = l := by unfold takes imax imin; repeat' split; all_goals omega
theorem takes_int (n : Int) (l : Nat) : imax 0 (imin n (l : Int)) = (takes n l : Int) := by
  have : 0 ≤ imax 0 (imin n (l : Int)) := by unfold imax; split <;> omega
  unfold takes; omega
/-- How a pipe stands. -/
structure PI (p : pipe_Pipe) : Prop where
  room : 0 ≤ p.room ∧ p.room ≤ 1048576
  fit : (p.b.length : Int) ≤ p.room
def pset (p : pipe_Pipe) (b : List Int) : pipe_Pipe := { room := p.room, b := b, cut := p.cut, stall := p.stall }
theorem gone_eq {p : pipe_Pipe} (h : PI p) (n : Int) : pipe_Pipe_gone.f p n = some (p.b.take (takes n p.b.length), pset p (p.b.drop (takes n p.b.length))) := by
  have hm := takes_le n p.b.length
  have hf := h.fit
  have hr := h.room
  unfold pipe_Pipe_gone.f
  rw [takes_int]
  generalize takes n p.b.length = m at *
  rw [if_pos ⟨by omega, by omega, by omega⟩, cut0, clone_eq (by rw [List.length_take]; omega), bsome, delete_eq hm, bsome]; rfl
theorem take_eq {p : pipe_Pipe} (h : PI p) (n : Int) (hs : p.stall = false) : pipe_Pipe_Take.f p n = some (p.b.take (takes n p.b.length), pset p (p.b.drop (takes n p.b.length))) := by
  unfold pipe_Pipe_Take.f
  rw [if_neg (by simp [hs]), gone_eq h, bsome]
theorem pset_pi {p : pipe_Pipe} (h : PI p) {b : List Int} (hb : (b.length : Int) ≤ p.room) : PI (pset p b) := ⟨h.room, hb⟩
/-- How many octets a pipe takes in. -/
def puts (p : pipe_Pipe) (a : List Int) : Nat := (imin (a.length : Int) (p.room - (p.b.length : Int))).toNat
theorem puts_int {p : pipe_Pipe} (h : PI p) (a : List Int) : imin (a.length : Int) (p.room - (p.b.length : Int)) = (puts p a : Int) ∧ puts p a ≤ a.length ∧ (p.b.length : Int) + (puts p a : Int) ≤ p.room := by
  have hf := h.fit
  unfold puts imin
  repeat' split
  all_goals omega
theorem put_eq {p : pipe_Pipe} (h : PI p) (a : List Int) (hc : p.cut = false) : pipe_Pipe_Put.f p a = some ((puts p a : Int), pset p (p.b ++ a.take (puts p a))) := by
  have hf := h.fit
  have hr := h.room
  obtain ⟨h1, h2, h3⟩ := puts_int h a
  unfold pipe_Pipe_Put.f pipe_Pipe_Room.f
  rw [if_neg (by simp [hc]), bsome, w64_in ⟨by omega, by omega⟩, h1]
  generalize puts p a = n at *
  rw [if_pos ⟨by omega, by omega, by omega⟩, cut0, if_pos (by rw [List.length_take]; omega)]; rfl
theorem put_pi {p : pipe_Pipe} (h : PI p) (a : List Int) : PI (pset p (p.b ++ a.take (puts p a))) := by
  obtain ⟨h1, h2, h3⟩ := puts_int h a
  exact pset_pi h (by rw [List.length_append, List.length_take]; omega)
theorem new_eq {n : Int} (h : 0 ≤ n ∧ n ≤ 1048576) : pipe_New.f n = some { room := n, b := [], cut := false, stall := false } := by
  unfold pipe_New.f
  have : imax 0 (imin n 1048576) = n := by unfold imax imin; repeat' split; all_goals omega
  rw [this]
theorem alive_eq : signalmanlaw8_alive.f = some true := by
  show signalmanlaw8_alive.f = some true
  kernel_rfl
theorem put_cut {p : pipe_Pipe} (a : List Int) (hc : p.cut = true) : pipe_Pipe_Put.f p a = some ((a.length : Int), p) := by
  unfold pipe_Pipe_Put.f
  rw [if_pos hc]
theorem take_stall {p : pipe_Pipe} (n : Int) (hs : p.stall = true) : pipe_Pipe_Take.f p n = some ([], p) := by
  unfold pipe_Pipe_Take.f
  rw [if_pos hs]
def pflag (p : pipe_Pipe) (c s : Bool) : pipe_Pipe := { room := p.room, b := p.b, cut := c, stall := s }
theorem pflag_pi {p : pipe_Pipe} (h : PI p) (c s : Bool) : PI (pflag p c s) := ⟨h.room, h.fit⟩
def faultm (p : pipe_Pipe) (kd n c : Int) : Bool × pipe_Pipe :=
  if kd = 0 then (true, pflag p false false) else if kd = 1 then (true, pflag p true p.stall) else if kd = 2 then (true, pflag p p.cut true)
  else if kd = 3 then (true, pset p (p.b.drop (takes n p.b.length)))
  else if kd = 4 then (if 0 ≤ n ∧ n < (p.b.length : Int) then (true, pset p (p.b.set n.toNat c)) else (false, p))
  else if kd = 5 then (if (0 ≤ n ∧ n ≤ (p.b.length : Int)) ∧ (p.b.length : Int) < p.room then (true, pset p (p.b.take n.toNat ++ [c] ++ p.b.drop n.toNat)) else (false, p))
  else (false, p)
theorem faultm_pi {p : pipe_Pipe} (h : PI p) (kd n c : Int) : PI (faultm p kd n c).2 := by
  have hf := h.fit
  unfold faultm
  by_cases k0 : kd = 0
  · rw [if_pos k0]; exact pflag_pi h _ _
  rw [if_neg k0]
  by_cases k1 : kd = 1
  · rw [if_pos k1]; exact pflag_pi h _ _
  rw [if_neg k1]
  by_cases k2 : kd = 2
  · rw [if_pos k2]; exact pflag_pi h _ _
  rw [if_neg k2]
  by_cases k3 : kd = 3
  · rw [if_pos k3]; exact pset_pi h (by rw [List.length_drop]; omega)
  rw [if_neg k3]
  by_cases k4 : kd = 4
  · rw [if_pos k4]
    by_cases hn : 0 ≤ n ∧ n < (p.b.length : Int)
    · rw [if_pos hn]; exact pset_pi h (by rw [List.length_set]; omega)
    · rw [if_neg hn]; exact h
  rw [if_neg k4]
  by_cases k5 : kd = 5
  · rw [if_pos k5]
    by_cases hn : (0 ≤ n ∧ n ≤ (p.b.length : Int)) ∧ (p.b.length : Int) < p.room
    · rw [if_pos hn]; exact pset_pi h (by simp only [List.length_append, List.length_take, List.length_drop, List.length_cons, List.length_nil]; omega)
    · rw [if_neg hn]; exact h
  rw [if_neg k5]; exact h
theorem insert_eq {l : List Int} {n : Int} (h0 : 0 ≤ n ∧ n ≤ (l.length : Int)) (hl : (l.length : Int) ≤ 1000000000) (c : Int) : slices_Insert_Sbytebyte.f l n [c] = some (l.take n.toNat ++ [c] ++ l.drop n.toNat) := by
  unfold slices_Insert_Sbytebyte.f
  rw [if_pos ⟨h0.1, h0.2, Int.le_refl _⟩, if_neg (by simp)]
  by_cases e : n = (l.length : Int)
  · rw [if_pos e, if_pos (by simp only [List.length_cons, List.length_nil]; omega), e, Int.toNat_natCast, List.take_length, List.drop_length, List.append_nil]
  · rw [if_neg e, if_pos (by simp only [List.length_cons, List.length_nil]; omega)]
theorem fault_eq {p : pipe_Pipe} (h : PI p) (kd n c : Int) : pipe_Pipe_Fault.f p kd n c = some (faultm p kd n c) := by
  have hf := h.fit
  have hr := h.room
  unfold pipe_Pipe_Fault.f faultm
  by_cases k0 : kd = 0
  · rw [if_pos k0, if_pos k0]; rfl
  rw [if_neg k0, if_neg k0]
  by_cases k1 : kd = 1
  · rw [if_pos k1, if_pos k1]; rfl
  rw [if_neg k1, if_neg k1]
  by_cases k2 : kd = 2
  · rw [if_pos k2, if_pos k2]; rfl
  rw [if_neg k2, if_neg k2]
  by_cases k3 : kd = 3
  · rw [if_pos k3, if_pos k3, gone_eq h, bsome]
  rw [if_neg k3, if_neg k3]
  by_cases k4 : kd = 4
  · rw [if_pos k4, if_pos k4]
    unfold pipe_Pipe_Fault.j0
    by_cases n0 : n < 0
    · rw [if_pos n0, if_pos rfl, if_neg (by omega)]
    · rw [if_neg n0]
      by_cases n1 : n ≥ (p.b.length : Int)
      · rw [decide_eq_true n1, if_pos rfl, if_neg (by omega)]
      · rw [decide_eq_false n1, if_neg (by simp), if_pos (by omega), if_pos (by omega)]; rfl
  rw [if_neg k4, if_neg k4]
  by_cases k5 : kd = 5
  · rw [if_pos k5, if_pos k5]
    unfold pipe_Pipe_Fault.j1 pipe_Pipe_Room.f
    by_cases n0 : n < 0
    · rw [if_pos n0, if_pos rfl, if_neg (by omega)]
    · rw [if_neg n0]
      by_cases n1 : n > (p.b.length : Int)
      · rw [if_pos n1, if_pos rfl, if_neg (by omega)]
      · rw [if_neg n1, bsome, w64_in ⟨by omega, by omega⟩]
        by_cases n2 : p.room - (p.b.length : Int) = 0
        · rw [decide_eq_true n2, if_pos rfl, if_neg (by omega)]
        · rw [decide_eq_false n2, if_neg (by simp), insert_eq ⟨by omega, by omega⟩ (by omega), bsome, if_pos (by omega)]; rfl
  rw [if_neg k5, if_neg k5]
theorem cutR {α : Type} (l : List α) (n : Nat) : cut l (n : Int) (l.length : Int) = l.drop n := by
  unfold cut
  rw [Int.toNat_natCast, Int.toNat_natCast]
  exact List.take_of_length_le (by rw [List.length_drop]; omega)
theorem puts_all {p : pipe_Pipe} {a : List Int} (h : (p.b.length : Int) + a.length ≤ p.room) : puts p a = a.length := by
  unfold puts imin
  split <;> omega
theorem j3_eq {x y : Bool} {p q : pipe_Pipe} {w : List Int} (hx : x = true) (h : PI q) (hb : q.b = w) (hw : w.length ≤ 1000) (hs : q.stall = false) : signalmanlaw8_PipeTurns.j3 (x, p) (y, q) w = some true := by
  unfold signalmanlaw8_PipeTurns.j3
  rw [if_pos hx, take_eq h 1000 hs, bsome, hb, takes_all (by omega), List.take_length, sEq_refl]
theorem j2_eq {x y : Bool} {p q : pipe_Pipe} {w : List Int} {n c : Int} (hn : 0 ≤ n) (hx : x = true) (h : PI q) (hb : q.b = w) (hw : w.length ≤ 200) (hs : q.stall = false) (hr : q.room = 500) : signalmanlaw8_PipeTurns.j2 n c (x, p) (y, q) w = some true := by
  unfold signalmanlaw8_PipeTurns.j2
  dsimp only
  have hP := faultm_pi h 5 n c
  rw [fault_eq h, bsome]
  by_cases hin : n ≤ (w.length : Int)
  · have e : faultm q 5 n c = (true, pset q (w.take n.toNat ++ [c] ++ w.drop n.toNat)) := by
      unfold faultm
      rw [if_neg (by decide), if_neg (by decide), if_neg (by decide), if_neg (by decide), if_neg (by decide), if_pos rfl, hb, hr, if_pos ⟨⟨hn, hin⟩, by omega⟩]
    rw [e] at hP ⊢
    dsimp only at hP ⊢
    obtain ⟨m, rfl⟩ : ∃ m : Nat, n = (m : Int) := ⟨n.toNat, by omega⟩
    rw [decide_eq_true hin, if_neg (by simp), if_pos rfl, if_pos ⟨by omega, by omega, by omega⟩, if_pos ⟨by omega, by omega, by omega⟩, cut0, cutR, List.nil_append, if_pos (by rw [List.length_take]; simp; omega), if_pos (by rw [List.length_take]; simp; omega), if_pos (by rw [List.length_append, List.length_take, List.length_drop]; simp; omega)]
    rw [Int.toNat_natCast] at hP ⊢
    exact j3_eq hx hP rfl (by simp only [List.length_append, List.length_take, List.length_drop, List.length_cons, List.length_nil]; omega) hs
  · have e : faultm q 5 n c = (false, q) := by
      unfold faultm
      rw [if_neg (by decide), if_neg (by decide), if_neg (by decide), if_neg (by decide), if_neg (by decide), if_pos rfl, hb, if_neg (by omega)]
    rw [e] at hP ⊢
    dsimp only
    rw [decide_eq_false hin, if_neg (by simp), if_neg (by simp)]
    exact j3_eq hx h hb (by omega) hs
theorem j1_eq {b : List Int} {x : Int} {p : pipe_Pipe} {g : Nat} {at_ n c : Int} (hn : 0 ≤ n) (ha : 0 ≤ at_) (h : PI p) (hb : p.b = b) (hw : b.length ≤ 200) (hs : p.stall = false) (hr : p.room = 500) (hg : g ≤ b.length) : signalmanlaw8_PipeTurns.j1 b at_ n c (x, p) (g : Int) = some true := by
  unfold signalmanlaw8_PipeTurns.j1
  rw [List.nil_append, if_pos ⟨by omega, by omega, by omega⟩]
  dsimp only
  have hP1 := faultm_pi h 3 g 0
  rw [fault_eq h, bsome]
  have ht : takes (g : Int) b.length = g := by unfold takes imax imin; repeat' split; all_goals omega
  have e : faultm p 3 g 0 = (true, pset p (b.drop g)) := by
    unfold faultm
    rw [if_neg (by decide), if_neg (by decide), if_neg (by decide), if_pos rfl, hb, ht]
  rw [e] at hP1 ⊢
  dsimp only at hP1 ⊢
  rw [cutR]
  have hl : (b.drop g).length ≤ 200 := by rw [List.length_drop]; omega
  have hP2 := faultm_pi hP1 4 at_ c
  rw [fault_eq hP1, bsome]
  generalize hW : b.drop g = W at *
  have hq : (pset p W).b = W := rfl
  by_cases hin : at_ < (W.length : Int)
  · have e2 : faultm (pset p W) 4 at_ c = (true, pset (pset p W) (W.set at_.toNat c)) := by
      unfold faultm
      rw [if_neg (by decide), if_neg (by decide), if_neg (by decide), if_neg (by decide), if_pos rfl, hq, if_pos ⟨ha, hin⟩]
    rw [e2] at hP2 ⊢
    dsimp only at hP2 ⊢
    rw [decide_eq_true hin, if_neg (by simp), if_pos rfl, if_pos ⟨ha, hin⟩]
    exact j2_eq hn rfl hP2 rfl (by rw [List.length_set]; exact hl) hs hr
  · have e2 : faultm (pset p W) 4 at_ c = (false, pset p W) := by
      unfold faultm
      rw [if_neg (by decide), if_neg (by decide), if_neg (by decide), if_neg (by decide), if_pos rfl, hq, if_neg (by omega)]
    rw [e2] at hP2 ⊢
    dsimp only at hP2 ⊢
    rw [decide_eq_false hin, if_neg (by simp), if_neg (by simp)]
    exact j2_eq hn rfl hP1 rfl hl hs hr
theorem j0_eq {b : List Int} {g at_ n c : Int} (x : Bool) (hx : x = false → b.length ≤ 200 ∧ 0 ≤ g ∧ 0 ≤ at_ ∧ 0 ≤ n) : signalmanlaw8_PipeTurns.j0 b g at_ true n c x = some true := by
  unfold signalmanlaw8_PipeTurns.j0
  cases x with
  | true => rfl
  | false =>
    obtain ⟨h1, h2, h3, h4⟩ := hx rfl
    rw [if_neg (by simp), new_eq (by decide), bsome]
    have h0 : PI { room := 500, b := [], cut := false, stall := false } := ⟨⟨by show (0 : Int) ≤ 500; omega, by show (500 : Int) ≤ 1048576; omega⟩, by show ((0 : Nat) : Int) ≤ 500; omega⟩
    rw [put_eq h0 b rfl, bsome]
    have e0 : puts { room := 500, b := [], cut := false, stall := false } b = b.length := puts_all (by show ((0 : Nat) : Int) + b.length ≤ 500; omega)
    have hP0 := put_pi h0 b
    rw [e0, List.take_length] at hP0 ⊢
    rw [if_pos (by simp; omega), List.nil_append]
    by_cases hg : g > (b.length : Int)
    · rw [if_pos hg]
      exact j1_eq h4 h3 hP0 rfl h1 rfl rfl (Nat.le_refl _)
    · rw [if_neg hg]
      obtain ⟨m, rfl⟩ : ∃ m : Nat, g = (m : Int) := ⟨g.toNat, by omega⟩
      exact j1_eq h4 h3 hP0 rfl h1 rfl rfl (by omega)
theorem PipeTurns : signalmanlaw8_PipeTurns.Pure := by
  unfold signalmanlaw8_PipeTurns.Pure
  intro b g at_ n c
  intros
  unfold signalmanlaw8_PipeTurns.f
  rw [alive_eq, bsome, if_pos rfl]
  by_cases c1 : (b.length : Int) > 200
  · rw [if_pos c1]; exact j0_eq _ (by simp)
  rw [if_neg c1]
  by_cases c2 : g < 0
  · rw [if_pos c2]; exact j0_eq _ (by simp)
  rw [if_neg c2]
  by_cases c3 : g > 300
  · rw [if_pos c3]; exact j0_eq _ (by simp)
  rw [if_neg c3]
  by_cases c4 : at_ < 0
  · rw [if_pos c4]; exact j0_eq _ (by simp)
  rw [if_neg c4]
  by_cases c5 : at_ > 300
  · rw [if_pos c5]; exact j0_eq _ (by simp)
  rw [if_neg c5]
  by_cases c6 : n < 0
  · rw [if_pos c6]; exact j0_eq _ (by simp)
  rw [if_neg c6]
  exact j0_eq _ (fun _ => ⟨by omega, by omega, by omega, by omega⟩)
end Go.Proofs.Ytcflnobablhdiaa

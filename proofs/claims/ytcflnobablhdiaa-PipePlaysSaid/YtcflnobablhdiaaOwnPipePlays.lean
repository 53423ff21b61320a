/- PipePlays: after arbitrary sequences of calls and faults, the results of a Pipe agree with the definition. Conditions: none beyond those of the given statement. -/
import Derived.Test.YtcflnobablhdiaaRunPipePlays
import Derived.KernelRfl
set_option linter.all false
namespace Go.Proofs.Ytcflnobablhdiaa
open Go.RowKit Go.Proofs.Ytcflnobablhdiaa.Walk
theorem bsome {α β : Type} (x : α) (g : α → Option β) : (some x).bind g = g x := Eq.trans (b := g x) rfl (Eq.symm rfl)
theorem u8w (x : Int) : IntKind.u8.wrap x = x % 256 := by
  simp [IntKind.wrap, IntKind.bits, IntKind.signed]
theorem i64nat {x : Int} (h0 : 0 ≤ x) (h1 : x < 9223372036854775808) : BitVec.ofInt 64 x = BitVec.ofNat 64 x.toNat := by
  apply BitVec.eq_of_toNat_eq
  simp [BitVec.toNat_ofInt]
  omega
theorem iand_nat {x y : Int} (h0 : 0 ≤ x) (h1 : x < 9223372036854775808) (h2 : 0 ≤ y) (h3 : y < 9223372036854775808) : iand .i64 x y = ((x.toNat &&& y.toNat : Nat) : Int) := by
  unfold iand
  show IntKind.i64.wrap (BitVec.ofInt 64 x &&& BitVec.ofInt 64 y).toNat = _
  rw [i64nat h0 h1, i64nat h2 h3, BitVec.toNat_and]
  simp only [BitVec.toNat_ofNat]
  rw [Nat.mod_eq_of_lt (by omega), Nat.mod_eq_of_lt (by omega)]
  have h4 : x.toNat &&& y.toNat ≤ x.toNat := Nat.and_le_left
  have := w64_in (n := ((x.toNat &&& y.toNat : Nat) : Int)) (by omega)
  exact this
theorem ior_nat {x y : Int} (h0 : 0 ≤ x) (h1 : x < 9223372036854775808) (h2 : 0 ≤ y) (h3 : y < 9223372036854775808) : ior .i64 x y = ((x.toNat ||| y.toNat : Nat) : Int) := by
  unfold ior
  show IntKind.i64.wrap (BitVec.ofInt 64 x ||| BitVec.ofInt 64 y).toNat = _
  rw [i64nat h0 h1, i64nat h2 h3, BitVec.toNat_or]
  simp only [BitVec.toNat_ofNat]
  rw [Nat.mod_eq_of_lt (by omega), Nat.mod_eq_of_lt (by omega)]
  have h4 : x.toNat ||| y.toNat < 2 ^ 63 := Nat.or_lt_two_pow (by omega) (by omega)
  have := w64_in (n := ((x.toNat ||| y.toNat : Nat) : Int)) (by omega)
  exact this
theorem iand_1 {x : Int} (h0 : 0 ≤ x) (h1 : x < 9223372036854775808) : iand .i64 x 1 = x % 2 := by
  rw [iand_nat h0 h1 (by omega) (by omega)]
  have : x.toNat &&& (1 : Int).toNat = x.toNat % 2 := Nat.and_one_is_mod _
  rw [this]; omega
theorem iand_255 {x : Int} (h0 : 0 ≤ x) (h1 : x < 9223372036854775808) : iand .i64 x 255 = x % 256 := by
  rw [iand_nat h0 h1 (by omega) (by omega)]
  have : x.toNat &&& (255 : Int).toNat = x.toNat % 256 := Nat.and_two_pow_sub_one_eq_mod _ 8
  rw [this]; omega
theorem ior_hi {x y : Int} (h0 : 0 ≤ x) (h1 : x < 256) (h2 : 0 ≤ y) (h3 : y < 36028797018963968) : ior .i64 x (y * 256) = x + 256 * y := by
  rw [ior_nat h0 (by omega) (by omega) (by omega)]
  have e : (y * 256).toNat = 2 ^ 8 * y.toNat := by omega
  have h4 := Nat.two_pow_add_eq_or_of_lt (i := 8) (b := x.toNat) (by omega) y.toNat
  rw [e, Nat.or_comm, ← h4]; omega
theorem ior_hi' {x y : Int} (h0 : 0 ≤ x) (h1 : x < 256) (h2 : 0 ≤ y) (h3 : y < 36028797018963968) : ior .i64 (y * 256) x = x + 256 * y := by
  rw [← ior_hi h0 h1 h2 h3, ior_nat (by omega) (by omega) h0 (by omega), ior_nat h0 (by omega) (by omega) (by omega), Nat.or_comm]
theorem byte_all {p : Int → Prop} (h : ∀ n : Fin 256, p (n.val : Int)) {z : Int} (h0 : 0 ≤ z) (h1 : z < 256) : p z := by
  have := h ⟨z.toNat, by omega⟩
  rwa [show ((z.toNat : Nat) : Int) = z by omega] at this
theorem wf8 {z : Int} (h : (Lit.int .u8 z).wf = true) : 0 ≤ z ∧ z < 256 := by simp [Lit.wf] at h; have := h; simp [IntKind.min, IntKind.max, IntKind.bits, IntKind.signed] at this; omega
theorem wf64 {z : Int} (h : (Lit.int .i64 z).wf = true) : -9223372036854775808 ≤ z ∧ z ≤ 9223372036854775807 := by simp [Lit.wf] at h; have := h; simp [IntKind.min, IntKind.max, IntKind.bits, IntKind.signed] at this; omega
theorem strOf_inj {a b : List Int} (ha : ∀ z ∈ a, 0 ≤ z ∧ z < 256) (hb : ∀ z ∈ b, 0 ≤ z ∧ z < 256) (h : strOf a = strOf b) : a = b := by
  have h1 : a.map (fun c => UInt8.ofNat c.toNat) = b.map (fun c => UInt8.ofNat c.toNat) := by
    have := congrArg (fun s : ByteArray => s.data.toList) h
    simpa [strOf] using this
  induction a generalizing b with
  | nil => cases b with
    | nil => rfl
    | cons _ _ => simp at h1
  | cons x a ih => cases b with
    | nil => simp at h1
    | cons y b =>
      simp only [List.map_cons, List.cons.injEq] at h1
      have hx := ha x (by simp)
      have hy := hb y (by simp)
      have e : x = y := by
        have := congrArg UInt8.toNat h1.1
        simp [UInt8.toNat_ofNat'] at this
        omega
      rw [e, ih (fun z hz => ha z (.tail _ hz)) (fun z hz => hb z (.tail _ hz)) (by simp [strOf, h1.2]) h1.2]
theorem sEq_iff {a b : List Int} (ha : ∀ z ∈ a, 0 ≤ z ∧ z < 256) (hb : ∀ z ∈ b, 0 ≤ z ∧ z < 256) : sEq a b = decide (a = b) := by
  by_cases h : a = b
  · subst h; simp [sEq_refl]
  · rw [decide_eq_false h]
    unfold sEq
    rw [beq_eq_false_iff_ne]
    intro e
    refine h (strOf_inj ha hb ?_)
    apply ByteArray.ext
    rw [ByteArray.toList_eq, ByteArray.toList_eq] at e
    exact Array.toList_inj.1 e
theorem clone_eq {l : List Int} (h : (l.length : Int) ≤ 1099511627776) : slices_Clone_Sbytebyte.f l = some l := by
  unfold slices_Clone_Sbytebyte.f
  rw [if_pos (by simp; omega)]; rfl
theorem delete_eq {l : List Int} {m : Nat} (h : m ≤ l.length) : slices_Delete_Sbytebyte.f l 0 (m : Int) = some (l.drop m) := by
  unfold slices_Delete_Sbytebyte.f
  rw [if_pos ⟨by omega, by omega, by omega⟩]
  by_cases h0 : (0 : Int) = (m : Int)
  · rw [if_pos h0]
    have : m = 0 := by omega
    subst this; rfl
  · rw [if_neg h0, if_pos ⟨by omega, by omega, by omega⟩, if_pos ⟨by omega, by omega, by omega⟩]
    congr 1
    simp [cut]
    exact List.take_of_length_le (by simp)
theorem cut0 {α : Type} (l : List α) (n : Nat) : cut l 0 (n : Int) = l.take n := by simp [cut]
/-- How many octets a call takes. -/
def takes (n : Int) (l : Nat) : Nat := (imax 0 (imin n (l : Int))).toNat
theorem takes_le (n : Int) (l : Nat) : takes n l ≤ l := by unfold takes imax imin; repeat' split; all_goals omega
theorem takes_all {n : Int} {l : Nat} (h : (l : Int) ≤ n) : takes n l = l := by unfold takes imax imin; repeat' split; all_goals omega
theorem takes_int (n : Int) (l : Nat) : imax 0 (imin n (l : Int)) = (takes n l : Int) := by
  have : 0 ≤ imax 0 (imin n (l : Int)) := by unfold imax; split <;> omega
  unfold takes; omega
/-- How a pipe stands. -/
structure PI (p : pipe_Pipe) : Prop where
  room : 0 ≤ p.room ∧ p.room ≤ 1048576
  fit : (p.b.length : Int) ≤ p.room
def pset (p : pipe_Pipe) (b : List Int) : pipe_Pipe := { room := p.room, b := b, cut := p.cut, stall := p.stall }
theorem gone_eq {p : pipe_Pipe} (h : PI p) (n : Int) : pipe_Pipe_gone.f p n = some (p.b.take (takes n p.b.length), pset p (p.b.drop (takes n p.b.length))) := by
  have hm := takes_le n p.b.length
  have hf := h.fit
  have hr := h.room
  unfold pipe_Pipe_gone.f
  rw [takes_int]
  generalize takes n p.b.length = m at *
  rw [if_pos ⟨by omega, by omega, by omega⟩, cut0, clone_eq (by rw [List.length_take]; omega), bsome, delete_eq hm, bsome]; rfl
theorem take_eq {p : pipe_Pipe} (h : PI p) (n : Int) (hs : p.stall = false) : pipe_Pipe_Take.f p n = some (p.b.take (takes n p.b.length), pset p (p.b.drop (takes n p.b.length))) := by
  unfold pipe_Pipe_Take.f
  rw [if_neg (by simp [hs]), gone_eq h, bsome]
theorem pset_pi {p : pipe_Pipe} (h : PI p) {b : List Int} (hb : (b.length : Int) ≤ p.room) : PI (pset p b) := ⟨h.room, hb⟩
/-- How many octets a pipe takes in. -/
def puts (p : pipe_Pipe) (a : List Int) : Nat := (imin (a.length : Int) (p.room - (p.b.length : Int))).toNat
theorem puts_int {p : pipe_Pipe} (h : PI p) (a : List Int) : imin (a.length : Int) (p.room - (p.b.length : Int)) = (puts p a : Int) ∧ puts p a ≤ a.length ∧ (p.b.length : Int) + (puts p a : Int) ≤ p.room := by
  have hf := h.fit
  unfold puts imin
  repeat' split
  all_goals omega
theorem put_eq {p : pipe_Pipe} (h : PI p) (a : List Int) (hc : p.cut = false) : pipe_Pipe_Put.f p a = some ((puts p a : Int), pset p (p.b ++ a.take (puts p a))) := by
  have hf := h.fit
  have hr := h.room
  obtain ⟨h1, h2, h3⟩ := puts_int h a
  unfold pipe_Pipe_Put.f pipe_Pipe_Room.f
  rw [if_neg (by simp [hc]), bsome, w64_in ⟨by omega, by omega⟩, h1]
  generalize puts p a = n at *
  rw [if_pos ⟨by omega, by omega, by omega⟩, cut0, if_pos (by rw [List.length_take]; omega)]; rfl
theorem put_pi {p : pipe_Pipe} (h : PI p) (a : List Int) : PI (pset p (p.b ++ a.take (puts p a))) := by
  obtain ⟨h1, h2, h3⟩ := puts_int h a
  exact pset_pi h (by rw [List.length_append, List.length_take]; omega)
theorem new_eq {n : Int} (h : 0 ≤ n ∧ n ≤ 1048576) : pipe_New.f n = some { room := n, b := [], cut := false, stall := false } := by
  unfold pipe_New.f
  have : imax 0 (imin n 1048576) = n := by unfold imax imin; repeat' split; all_goals omega
  rw [this]
theorem alive_eq : signalmanlaw8_alive.f = some true := by
  show signalmanlaw8_alive.f = some true
  kernel_rfl
theorem put_cut {p : pipe_Pipe} (a : List Int) (hc : p.cut = true) : pipe_Pipe_Put.f p a = some ((a.length : Int), p) := by
  unfold pipe_Pipe_Put.f
  rw [if_pos hc]
theorem take_stall {p : pipe_Pipe} (n : Int) (hs : p.stall = true) : pipe_Pipe_Take.f p n = some ([], p) := by
  unfold pipe_Pipe_Take.f
  rw [if_pos hs]
def pflag (p : pipe_Pipe) (c s : Bool) : pipe_Pipe := { room := p.room, b := p.b, cut := c, stall := s }
theorem pflag_pi {p : pipe_Pipe} (h : PI p) (c s : Bool) : PI (pflag p c s) := ⟨h.room, h.fit⟩
def faultm (p : pipe_Pipe) (kd n c : Int) : Bool × pipe_Pipe :=
  if kd = 0 then (true, pflag p false false) else if kd = 1 then (true, pflag p true p.stall) else if kd = 2 then (true, pflag p p.cut true)
  else if kd = 3 then (true, pset p (p.b.drop (takes n p.b.length)))
  else if kd = 4 then (if 0 ≤ n ∧ n < (p.b.length : Int) then (true, pset p (p.b.set n.toNat c)) else (false, p))
  else if kd = 5 then (if (0 ≤ n ∧ n ≤ (p.b.length : Int)) ∧ (p.b.length : Int) < p.room then (true, pset p (p.b.take n.toNat ++ [c] ++ p.b.drop n.toNat)) else (false, p))
  else (false, p)
theorem faultm_pi {p : pipe_Pipe} (h : PI p) (kd n c : Int) : PI (faultm p kd n c).2 := by
  have hf := h.fit
  unfold faultm
  by_cases k0 : kd = 0
  · rw [if_pos k0]; exact pflag_pi h _ _
  rw [if_neg k0]
  by_cases k1 : kd = 1
  · rw [if_pos k1]; exact pflag_pi h _ _
  rw [if_neg k1]
  by_cases k2 : kd = 2
  · rw [if_pos k2]; exact pflag_pi h _ _
  rw [if_neg k2]
  by_cases k3 : kd = 3
  · rw [if_pos k3]; exact pset_pi h (by rw [List.length_drop]; omega)
  rw [if_neg k3]
  by_cases k4 : kd = 4
  · rw [if_pos k4]
    by_cases hn : 0 ≤ n ∧ n < (p.b.length : Int)
    · rw [if_pos hn]; exact pset_pi h (by rw [List.length_set]; omega)
    · rw [if_neg hn]; exact h
  rw [if_neg k4]
  by_cases k5 : kd = 5
  · rw [if_pos k5]
    by_cases hn : (0 ≤ n ∧ n ≤ (p.b.length : Int)) ∧ (p.b.length : Int) < p.room
    · rw [if_pos hn]; exact pset_pi h (by simp only [List.length_append, List.length_take, List.length_drop, List.length_cons, List.length_nil]; omega)
    · rw [if_neg hn]; exact h
  rw [if_neg k5]; exact h
theorem insert_eq {l : List Int} {n : Int} (h0 : 0 ≤ n ∧ n ≤ (l.length : Int)) (hl : (l.length : Int) ≤ 1000000000) (c : Int) : slices_Insert_Sbytebyte.f l n [c] = some (l.take n.toNat ++ [c] ++ l.drop n.toNat) := by
  unfold slices_Insert_Sbytebyte.f
  rw [if_pos ⟨h0.1, h0.2, Int.le_refl _⟩, if_neg (by simp)]
  by_cases e : n = (l.length : Int)
  · rw [if_pos e, if_pos (by simp only [List.length_cons, List.length_nil]; omega), e, Int.toNat_natCast, List.take_length, List.drop_length, List.append_nil]
  · rw [if_neg e, if_pos (by simp only [List.length_cons, List.length_nil]; omega)]
theorem fault_eq {p : pipe_Pipe} (h : PI p) (kd n c : Int) : pipe_Pipe_Fault.f p kd n c = some (faultm p kd n c) := by
  have hf := h.fit
  have hr := h.room
  unfold pipe_Pipe_Fault.f faultm
  by_cases k0 : kd = 0
  · rw [if_pos k0, if_pos k0]; rfl
  rw [if_neg k0, if_neg k0]
  by_cases k1 : kd = 1
  · rw [if_pos k1, if_pos k1]; rfl
  rw [if_neg k1, if_neg k1]
  by_cases k2 : kd = 2
  · rw [if_pos k2, if_pos k2]; rfl
  rw [if_neg k2, if_neg k2]
  by_cases k3 : kd = 3
  · rw [if_pos k3, if_pos k3, gone_eq h, bsome]
  rw [if_neg k3, if_neg k3]
  by_cases k4 : kd = 4
  · rw [if_pos k4, if_pos k4]
    unfold pipe_Pipe_Fault.j0
    by_cases n0 : n < 0
    · rw [if_pos n0, if_pos rfl, if_neg (by omega)]
    · rw [if_neg n0]
      by_cases n1 : n ≥ (p.b.length : Int)
      · rw [decide_eq_true n1, if_pos rfl, if_neg (by omega)]
      · rw [decide_eq_false n1, if_neg (by simp), if_pos (by omega), if_pos (by omega)]; rfl
  rw [if_neg k4, if_neg k4]
  by_cases k5 : kd = 5
  · rw [if_pos k5, if_pos k5]
    unfold pipe_Pipe_Fault.j1 pipe_Pipe_Room.f
    by_cases n0 : n < 0
    · rw [if_pos n0, if_pos rfl, if_neg (by omega)]
    · rw [if_neg n0]
      by_cases n1 : n > (p.b.length : Int)
      · rw [if_pos n1, if_pos rfl, if_neg (by omega)]
      · rw [if_neg n1, bsome, w64_in ⟨by omega, by omega⟩]
        by_cases n2 : p.room - (p.b.length : Int) = 0
        · rw [decide_eq_true n2, if_pos rfl, if_neg (by omega)]
        · rw [decide_eq_false n2, if_neg (by simp), insert_eq ⟨by omega, by omega⟩ (by omega), bsome, if_pos (by omega)]; rfl
  rw [if_neg k5, if_neg k5]
theorem cut_eq {n lo hi : Int} (h : lo ≤ hi) : signalmanref1_Cut.f n lo hi = some (imax lo (imin n hi)) := by
  unfold signalmanref1_Cut.f imax imin
  by_cases h1 : n < lo
  · rw [if_pos h1]; congr 1; repeat' split
    all_goals omega
  · rw [if_neg h1]
    by_cases h2 : n > hi
    · rw [if_pos h2]; congr 1; repeat' split
      all_goals omega
    · rw [if_neg h2]; congr 1; repeat' split
      all_goals omega
/-- The definition's pipe that stands alike. -/
def toRef (p : pipe_Pipe) : signalmanref6_Pipe := { room := p.room, b := p.b, gone := p.cut, stands := p.stall }
def putm (p : pipe_Pipe) (a : List Int) : Int × pipe_Pipe := if p.cut = true then ((a.length : Int), p) else ((puts p a : Int), pset p (p.b ++ a.take (puts p a)))
def takem (p : pipe_Pipe) (n : Int) : List Int × pipe_Pipe := if p.stall = true then ([], p) else (p.b.take (takes n p.b.length), pset p (p.b.drop (takes n p.b.length)))
theorem put_all {p : pipe_Pipe} (h : PI p) (a : List Int) : pipe_Pipe_Put.f p a = some (putm p a) := by
  unfold putm
  by_cases c : p.cut = true
  · rw [if_pos c]; exact put_cut a c
  · rw [if_neg c]; exact put_eq h a (by simpa using c)
theorem take_all {p : pipe_Pipe} (h : PI p) (n : Int) : pipe_Pipe_Take.f p n = some (takem p n) := by
  unfold takem
  by_cases c : p.stall = true
  · rw [if_pos c]; exact take_stall n c
  · rw [if_neg c]; exact take_eq h n (by simpa using c)
theorem putm_pi {p : pipe_Pipe} (h : PI p) (a : List Int) : PI (putm p a).2 := by
  unfold putm
  by_cases c : p.cut = true
  · rw [if_pos c]; exact h
  · rw [if_neg c]; exact put_pi h a
theorem takem_pi {p : pipe_Pipe} (h : PI p) (n : Int) : PI (takem p n).2 := by
  have hf := h.fit
  unfold takem
  by_cases c : p.stall = true
  · rw [if_pos c]; exact h
  · rw [if_neg c]; exact pset_pi h (by rw [List.length_drop]; omega)
theorem cutR {α : Type} (l : List α) (n : Nat) : cut l (n : Int) (l.length : Int) = l.drop n := by
  unfold cut
  rw [Int.toNat_natCast, Int.toNat_natCast]
  exact List.take_of_length_le (by rw [List.length_drop]; omega)
theorem refput_eq {p : pipe_Pipe} (h : PI p) {a : List Int} (ha : a.length ≤ 1000000) : signalmanref6_Pipe_Put.f (toRef p) a = some ((putm p a).1, toRef (putm p a).2) := by
  have hf := h.fit
  have hr := h.room
  unfold signalmanref6_Pipe_Put.f putm
  show (if p.cut = true then _ else _) = _
  by_cases c : p.cut = true
  · rw [if_pos c, if_pos c]
  rw [if_neg c, if_neg c]
  obtain ⟨h1, h2, h3⟩ := puts_int h a
  have e : imax 0 (imin (a.length : Int) (p.room - (p.b.length : Int))) = (puts p a : Int) := by
    rw [h1]; unfold imax; split <;> omega
  show ((signalmanref1_Cut.f (a.length : Int) 0 (w64 (p.room - (p.b.length : Int)))).bind _) = _
  rw [w64_in ⟨by omega, by omega⟩, cut_eq (by omega), bsome, e]
  generalize puts p a = n at *
  rw [if_pos ⟨by omega, by omega, by omega⟩, if_pos (by show ((0 : Nat) : Int) + (p.b.length : Int) ≤ _; omega), cut0, if_pos (by show ((([] ++ p.b : List Int).length : Nat) : Int) + _ ≤ _; rw [List.nil_append, List.length_take]; omega)]
  rfl
theorem reftake_eq {p : pipe_Pipe} (h : PI p) (n : Int) : signalmanref6_Pipe_Take.f (toRef p) n = some ((takem p n).1, toRef (takem p n).2) := by
  have hf := h.fit
  have hr := h.room
  have hm := takes_le n p.b.length
  have step : ∀ m : Nat, m ≤ p.b.length → signalmanref6_Pipe_Take.j0 (toRef p) (m : Int) = some (p.b.take m, toRef (pset p (p.b.drop m))) := by
    intro m hm
    unfold signalmanref6_Pipe_Take.j0
    have e : (toRef p).b = p.b := rfl
    rw [e, if_pos ⟨by omega, by omega, by omega⟩, cut0, if_pos (by rw [List.length_take]; simp; omega), if_pos ⟨by omega, by omega, by omega⟩, cutR, if_pos (by rw [List.length_drop]; simp; omega), List.nil_append, List.nil_append]
    rfl
  unfold signalmanref6_Pipe_Take.f takem
  show ((signalmanref1_Cut.f n 0 (p.b.length : Int)).bind _) = _
  rw [cut_eq (by omega), bsome, takes_int]
  show (if p.stall = true then _ else _) = _
  by_cases c : p.stall = true
  · rw [if_pos c, if_pos c]
    exact step 0 (by omega)
  · rw [if_neg c, if_neg c]
    exact step _ hm
theorem reffault_eq {p : pipe_Pipe} (h : PI p) (kd n c : Int) : signalmanref6_Pipe_Fault.f (toRef p) kd n c = some ((faultm p kd n c).1, toRef (faultm p kd n c).2) := by
  have hf := h.fit
  have hr := h.room
  have e : (toRef p).b = p.b := rfl
  unfold signalmanref6_Pipe_Fault.f faultm
  by_cases k0 : kd = 0
  · rw [if_pos k0, if_pos k0]; rfl
  rw [if_neg k0, if_neg k0]
  by_cases k1 : kd = 1
  · rw [if_pos k1, if_pos k1]; rfl
  rw [if_neg k1, if_neg k1]
  by_cases k2 : kd = 2
  · rw [if_pos k2, if_pos k2]; rfl
  rw [if_neg k2, if_neg k2]
  by_cases k3 : kd = 3
  · have hm := takes_le n p.b.length
    rw [if_pos k3, if_pos k3, e, cut_eq (by omega), bsome, takes_int, if_pos ⟨by omega, by omega, by omega⟩, cutR, if_pos (by rw [List.length_drop]; simp; omega), List.nil_append]; rfl
  rw [if_neg k3, if_neg k3]
  by_cases k4 : kd = 4
  · rw [if_pos k4, if_pos k4]
    unfold signalmanref6_Pipe_Fault.j0
    rw [e]
    by_cases n0 : n < 0
    · rw [if_pos n0, if_pos rfl, if_neg (by omega)]
    · rw [if_neg n0]
      by_cases n1 : n ≥ (p.b.length : Int)
      · rw [decide_eq_true n1, if_pos rfl, if_neg (by omega)]
      · rw [decide_eq_false n1, if_neg (by simp), if_pos (by omega), if_pos (by omega)]; rfl
  rw [if_neg k4, if_neg k4]
  by_cases k5 : kd = 5
  · rw [if_pos k5, if_pos k5]
    unfold signalmanref6_Pipe_Fault.j1
    have e2 : (toRef p).room = p.room := rfl
    rw [e, e2]
    by_cases n0 : n < 0
    · rw [if_pos n0, if_pos rfl, if_neg (by omega)]
    · rw [if_neg n0]
      by_cases n1 : n > (p.b.length : Int)
      · rw [if_pos n1, if_pos rfl, if_neg (by omega)]
      · rw [if_neg n1]
        by_cases n2 : (p.b.length : Int) ≥ p.room
        · rw [decide_eq_true n2, if_pos rfl, if_neg (by omega)]
        · obtain ⟨m, rfl⟩ : ∃ m : Nat, n = (m : Int) := ⟨n.toNat, by omega⟩
          rw [decide_eq_false n2, if_neg (by simp), if_pos ⟨by omega, by omega, by omega⟩, if_pos ⟨by omega, by omega, by omega⟩, cut0, cutR, List.nil_append, if_pos (by rw [List.length_take]; simp; omega), if_pos (by rw [List.length_take]; simp; omega), if_pos (by rw [List.length_append, List.length_take, List.length_drop]; simp; omega), if_pos (by omega), Int.toNat_natCast]; rfl
  rw [if_neg k5, if_neg k5]
theorem j2_eq (p : pipe_Pipe) (i : Nat) (hi : i ≤ 1000) (a : Int) (o : pipe_Pipe) (Lq : Int → signalmanref6_Pipe → pipe_Pipe → pipe_Pipe → Option Bool) :
    signalmanlaw8_PipePlays.j2 i (a, o) Lq (toRef p) p = Lq ((i + 1 : Nat) : Int) (toRef p) o p := by
  unfold signalmanlaw8_PipePlays.j2 pipe_Pipe_Len.f signalmanref6_Pipe_Len.f
  rw [bsome, bsome, if_pos (show (p.b.length : Int) = ((toRef p).b.length : Int) from rfl), w64_in ⟨by omega, by omega⟩]; rfl
theorem l1_eq {acts : List signalmanlaw8_Act} (h100 : acts.length ≤ 100) : ∀ (d i : Nat) (o p : pipe_Pipe) (k : Nat), i + d = acts.length → PI p → PI o → 1 + d ≤ k → signalmanlaw8_PipePlays.l1 k acts i (toRef p) o p = some true
  | 0, i, o, p, k, hi, h, ho, hk => by
    obtain ⟨k, rfl⟩ : ∃ j, k = j + 1 := ⟨k - 1, by omega⟩
    rw [signalmanlaw8_PipePlays.l1, if_neg (by omega)]
  | d + 1, i, o, p, k, hi, h, ho, hk => by
    obtain ⟨k, rfl⟩ : ∃ j, k = j + 1 := ⟨k - 1, by omega⟩
    have hlt : i < acts.length := by omega
    have hg : acts.getD ((i : Nat) : Int).toNat default = acts[i] := by simp [List.getD, hlt]
    rw [signalmanlaw8_PipePlays.l1, if_pos (by omega), if_pos ⟨by omega, by omega⟩, hg]
    generalize acts[i] = a at *
    by_cases hb : (a.B.length : Int) > 100
    · rw [if_pos hb]
    rw [if_neg hb, put_all ho, bsome]
    have ho2 := putm_pi ho [1]
    generalize putm o [1] = pq at *
    obtain ⟨p1, o2⟩ := pq
    have fin : ∀ (y : pipe_Pipe), PI y → signalmanlaw8_PipePlays.j2 i (p1, o2) (signalmanlaw8_PipePlays.l1 k acts) (toRef y) y = some true := by
      intro y hy
      rw [j2_eq y i (by omega)]
      exact l1_eq h100 d (i + 1) o2 y k (by omega) hy ho2 (by omega)
    by_cases w0 : a.Way = 0
    · rw [if_pos w0, if_pos (by simp; omega), List.nil_append, put_all h, bsome, refput_eq h (by omega), bsome, if_pos rfl]
      exact fin _ (putm_pi h _)
    rw [if_neg w0]
    by_cases w1 : a.Way = 1
    · rw [if_pos w1, take_all h, bsome, reftake_eq h, bsome]
      dsimp only
      rw [sEq_refl, if_pos rfl]
      exact fin _ (takem_pi h _)
    rw [if_neg w1]
    by_cases w2 : a.Way = 2
    · rw [if_pos w2, fault_eq h, bsome, reffault_eq h, bsome]
      dsimp only
      rw [if_neg (by simp)]
      exact fin _ (faultm_pi h _ _ _)
    rw [if_neg w2]
    exact fin p h
theorem PipePlays : signalmanlaw8_PipePlays.Pure := by
  unfold signalmanlaw8_PipePlays.Pure
  intro room acts
  intros
  refine ⟨1000, ?_⟩
  unfold signalmanlaw8_PipePlays.f
  rw [alive_eq, bsome, if_pos rfl]
  unfold signalmanlaw8_PipePlays.j0
  by_cases c : (acts.length : Int) > 100
  · rw [if_pos (by simpa using c)]
  · rw [if_neg (by simpa using c)]
    obtain ⟨M, hM⟩ : ∃ M, M = imax 0 (imin room 1048576) := ⟨_, rfl⟩
    have hMb : 0 ≤ M ∧ M ≤ 1048576 := by rw [hM]; unfold imax imin; repeat' split; all_goals omega
    have e1 : pipe_New.f room = some { room := M, b := [], cut := false, stall := false } := by unfold pipe_New.f; rw [← hM]
    have e2 : signalmanref6_NewPipe.f room = some (toRef { room := M, b := [], cut := false, stall := false }) := by
      unfold signalmanref6_NewPipe.f
      rw [cut_eq (by omega), bsome, ← hM]; rfl
    rw [e1, bsome, new_eq (by decide), bsome, e2, bsome]
    exact l1_eq (by omega) acts.length 0 _ _ 1000 (by omega) ⟨hMb, by show ((0 : Nat) : Int) ≤ M; omega⟩ ⟨⟨by show (0 : Int) ≤ 5; omega, by show (5 : Int) ≤ 1048576; omega⟩, by show ((0 : Nat) : Int) ≤ 5; omega⟩ (by omega)
end Go.Proofs.Ytcflnobablhdiaa

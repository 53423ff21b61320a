/- ControlApart: different control fields have different encodings, none of which begins with another one. Conditions: none beyond those of the given statement. -/
import Derived.Test.YtmodmkbjbndfpaaRunControlApart
import Derived.KernelRfl
set_option linter.all false
namespace Go.Proofs.Ytmodmkbjbndfpaa
open Go.RowKit Go.Proofs.Ytmodmkbjbndfpaa.Walk
theorem bsome {α β : Type} (x : α) (g : α → Option β) : (some x).bind g = g x := Eq.trans (b := g x) rfl (Eq.symm rfl)
theorem u8w (x : Int) : IntKind.u8.wrap x = x % 256 := by
  simp [IntKind.wrap, IntKind.bits, IntKind.signed]
theorem i64nat {x : Int} (h0 : 0 ≤ x) (h1 : x < 9223372036854775808) : BitVec.ofInt 64 x = BitVec.ofNat 64 x.toNat := by
  apply BitVec.eq_of_toNat_eq
  simp [BitVec.toNat_ofInt]
  omega
theorem iand_nat {x y : Int} (h0 : 0 ≤ x) (h1 : x < 9223372036854775808) (h2 : 0 ≤ y) (h3 : y < 9223372036854775808) : iand .i64 x y = ((x.toNat &&& y.toNat : Nat) : Int) := by
  unfold iand
  show IntKind.i64.wrap (BitVec.ofInt 64 x &&& BitVec.ofInt 64 y).toNat = _
  rw [i64nat h0 h1, i64nat h2 h3, BitVec.toNat_and]
  simp only [BitVec.toNat_ofNat]
  rw [Nat.mod_eq_of_lt (by omega), Nat.mod_eq_of_lt (by omega)]
  have h4 : x.toNat &&& y.toNat ≤ x.toNat := Nat.and_le_left
  have := w64_in (n := ((x.toNat &&& y.toNat : Nat) : Int)) (by omega)
  exact this
theorem ior_nat {x y : Int} (h0 : 0 ≤ x) (h1 : x < 9223372036854775808) (h2 : 0 ≤ y) (h3 : y < 9223372036854775808) : ior .i64 x y = ((x.toNat ||| y.toNat : Nat) : Int) := by
  unfold ior
  show IntKind.i64.wrap (BitVec.ofInt 64 x ||| BitVec.ofInt 64 y).toNat = _
  rw [i64nat h0 h1, i64nat h2 h3, BitVec.toNat_or]
  simp only [BitVec.toNat_ofNat]
  rw [Nat.mod_eq_of_lt (by omega), Nat.mod_eq_of_lt (by omega)]
  have h4 : x.toNat ||| y.toNat < 2 ^ 63 := Nat.or_lt_two_pow (by omega) (by omega)
  have := w64_in (n := ((x.toNat ||| y.toNat : Nat) : Int)) (by omega)
  exact this
theorem iand_1 {x : Int} (h0 : 0 ≤ x) (h1 : x < 9223372036854775808) : iand .i64 x 1 = x % 2 := by
  rw [iand_nat h0 h1 (by omega) (by omega)]
  have : x.toNat &&& (1 : Int).toNat = x.toNat % 2 := Nat.and_one_is_mod _
  rw [this]; omega
theorem iand_255 {x : Int} (h0 : 0 ≤ x) (h1 : x < 9223372036854775808) : iand .i64 x 255 = x % 256 := by
  rw [iand_nat h0 h1 (by omega) (by omega)]
  have : x.toNat &&& (255 : Int).toNat = x.toNat % 256 := Nat.and_two_pow_sub_one_eq_mod _ 8
  rw [this]; omega
theorem ior_hi {x y : Int} (h0 : 0 ≤ x) (h1 : x < 256) (h2 : 0 ≤ y) (h3 : y < 36028797018963968) : ior .i64 x (y * 256) = x + 256 * y := by
  rw [ior_nat h0 (by omega) (by omega) (by omega)]
  have e : (y * 256).toNat = 2 ^ 8 * y.toNat := by omega
  have h4 := Nat.two_pow_add_eq_or_of_lt (i := 8) (b := x.toNat) (by omega) y.toNat
  rw [e, Nat.or_comm, ← h4]; omega
theorem ior_hi' {x y : Int} (h0 : 0 ≤ x) (h1 : x < 256) (h2 : 0 ≤ y) (h3 : y < 36028797018963968) : ior .i64 (y * 256) x = x + 256 * y := by
  rw [← ior_hi h0 h1 h2 h3, ior_nat (by omega) (by omega) h0 (by omega), ior_nat h0 (by omega) (by omega) (by omega), Nat.or_comm]
theorem byte_all {p : Int → Prop} (h : ∀ n : Fin 256, p (n.val : Int)) {z : Int} (h0 : 0 ≤ z) (h1 : z < 256) : p z := by
  have := h ⟨z.toNat, by omega⟩
  rwa [show ((z.toNat : Nat) : Int) = z by omega] at this
theorem wf8 {z : Int} (h : (Lit.int .u8 z).wf = true) : 0 ≤ z ∧ z < 256 := by simp [Lit.wf] at h; have := h; simp [IntKind.min, IntKind.max, IntKind.bits, IntKind.signed] at this; omega
theorem wf64 {z : Int} (h : (Lit.int .i64 z).wf = true) : -9223372036854775808 ≤ z ∧ z ≤ 9223372036854775807 := by simp [Lit.wf] at h; have := h; simp [IntKind.min, IntKind.max, IntKind.bits, IntKind.signed] at this; omega
theorem alive_eq : signalmanlaw12_alive.f = some true := by kernel_rfl
def rightB (c : api_Ctl) (m : Int) : Bool :=
  (m == 128 || m == 32768) && (if c.Kind = 0 then decide (0 ≤ c.Ns) && decide (c.Ns < m) && (decide (0 ≤ c.Nr) && decide (c.Nr < m))
    else if c.Kind = 1 ∨ c.Kind = 2 then decide (c.Ns = 0) && (decide (0 ≤ c.Nr) && decide (c.Nr < m)) else decide (3 ≤ c.Kind) && decide (c.Kind ≤ 7) && decide (c.Ns = 0) && decide (c.Nr = 0))
theorem right_eq (c : api_Ctl) (m : Int) : control_Right.f c m = some (rightB c m) := by
  unfold control_Right.f control_Right.j0 control_modulus.f control_of.f rightB
  by_cases h1 : m = 128
  · subst h1
    by_cases k0 : c.Kind = 0
    · by_cases n1 : 0 ≤ c.Ns <;> by_cases n2 : c.Ns < 128 <;> by_cases n3 : 0 ≤ c.Nr <;> by_cases n4 : c.Nr < 128 <;> simp [k0, n1, n2, n3, n4]
    · by_cases k1 : c.Kind = 1
      · by_cases n1 : c.Ns = 0 <;> by_cases n3 : 0 ≤ c.Nr <;> by_cases n4 : c.Nr < 128 <;> simp [k1, n1, n3, n4]
      · by_cases k2 : c.Kind = 2
        · by_cases n1 : c.Ns = 0 <;> by_cases n3 : 0 ≤ c.Nr <;> by_cases n4 : c.Nr < 128 <;> simp [k2, n1, n3, n4]
        · by_cases k3 : 3 ≤ c.Kind <;> by_cases k7 : c.Kind ≤ 7 <;> by_cases n1 : c.Ns = 0 <;> simp [k0, k1, k2, k3, k7, n1]
  · by_cases h2 : m = 32768
    · subst h2
      by_cases k0 : c.Kind = 0
      · by_cases n1 : 0 ≤ c.Ns <;> by_cases n2 : c.Ns < 32768 <;> by_cases n3 : 0 ≤ c.Nr <;> by_cases n4 : c.Nr < 32768 <;> simp [k0, n1, n2, n3, n4]
      · by_cases k1 : c.Kind = 1
        · by_cases n1 : c.Ns = 0 <;> by_cases n3 : 0 ≤ c.Nr <;> by_cases n4 : c.Nr < 32768 <;> simp [k1, n1, n3, n4]
        · by_cases k2 : c.Kind = 2
          · by_cases n1 : c.Ns = 0 <;> by_cases n3 : 0 ≤ c.Nr <;> by_cases n4 : c.Nr < 32768 <;> simp [k2, n1, n3, n4]
          · by_cases k3 : 3 ≤ c.Kind <;> by_cases k7 : c.Kind ≤ 7 <;> by_cases n1 : c.Ns = 0 <;> simp [k0, k1, k2, k3, k7, n1]
    · simp [h1, h2]
def pt (n m : Int) : List Int := if m = 128 then [n % 256] else [n % 256, n / 256 % 256]
def pb (b : Bool) : Int := if b = true then 1 else 0
def bareB (k : Int) : Int := if k = 3 then 111 else if k = 4 then 99 else if k = 5 then 67 else if k = 6 then 15 else 135
/-- The encoding. -/
def enc (c : api_Ctl) (m : Int) : List Int :=
  if c.Kind = 0 then pt (2 * c.Ns) m ++ pt (2 * c.Nr + pb c.Poll) m
  else if c.Kind = 1 then pt 1 m ++ pt (2 * c.Nr + pb c.Poll) m
  else if c.Kind = 2 then pt 9 m ++ pt (2 * c.Nr + pb c.Poll) m
  else [bareB c.Kind + 16 * pb c.Poll]
theorem pb_b (b : Bool) : 0 ≤ pb b ∧ pb b ≤ 1 := by unfold pb; split <;> omega
/-- What a right field is. -/
theorem right_cases {c : api_Ctl} {m : Int} (h : rightB c m = true) : (m = 128 ∨ m = 32768) ∧ ((c.Kind = 0 ∧ (0 ≤ c.Ns ∧ c.Ns < m) ∧ 0 ≤ c.Nr ∧ c.Nr < m) ∨ ((c.Kind = 1 ∨ c.Kind = 2) ∧ c.Ns = 0 ∧ 0 ≤ c.Nr ∧ c.Nr < m) ∨ (3 ≤ c.Kind ∧ c.Kind ≤ 7 ∧ c.Ns = 0 ∧ c.Nr = 0)) := by
  unfold rightB at h
  simp only [Bool.and_eq_true, Bool.or_eq_true, beq_iff_eq] at h
  obtain ⟨h1, h2⟩ := h
  refine ⟨h1, ?_⟩
  by_cases k0 : c.Kind = 0
  · rw [if_pos k0] at h2; simp at h2; left; omega
  · rw [if_neg k0] at h2
    by_cases k1 : c.Kind = 1 ∨ c.Kind = 2
    · rw [if_pos k1] at h2; simp at h2; right; left; omega
    · rw [if_neg k1] at h2; simp at h2; right; right; omega
theorem bit_eq (b : Bool) : control_bit.f b = some (pb b) := by unfold control_bit.f pb; split <;> rfl
theorem fd8 (n : Int) : n.fdiv (2 ^ (min ((8 : Int)).toNat IntKind.i64.bits)) = n / 256 := by
  have : (2 : Int) ^ (min ((8 : Int)).toNat IntKind.i64.bits) = 256 := by decide
  rw [this, Int.fdiv_eq_ediv_of_nonneg _ (by omega)]
theorem put_eq {l : List Int} {n m : Int} (hl : l.length ≤ 100) (hm : m = 128 ∨ m = 32768) : control_put.f l n m = some (l ++ pt n m) := by
  unfold control_put.f pt
  have h2 : (l.length : Int) ≤ 100 := by omega
  rw [if_pos (by simp; omega), u8w, fd8]
  rcases hm with rfl | rfl
  · simp
  · simp only [if_true]
    rw [if_pos (by simp; omega), u8w]; simp
theorem pt_len (n : Int) {m : Int} (hm : m = 128 ∨ m = 32768) : (pt n m).length = if m = 128 then 1 else 2 := by
  unfold pt; split <;> rfl
theorem pt_le (n m : Int) : (pt n m).length ≤ 2 := by unfold pt; split <;> simp
theorem bytes_no {c : api_Ctl} {m : Int} (h : rightB c m = false) : control_Bytes.f c m = some [] := by
  unfold control_Bytes.f
  simp [right_eq, h]
theorem bare_k {k : Int} (h : 3 ≤ k ∧ k ≤ 7) : k = 3 ∨ k = 4 ∨ k = 5 ∨ k = 6 ∨ k = 7 := by omega
theorem bytes_eq {c : api_Ctl} {m : Int} (h : rightB c m = true) : control_Bytes.f c m = some (enc c m) := by
  obtain ⟨hm, hc⟩ := right_cases h
  have hb := pb_b c.Poll
  have hmm : 0 ≤ m ∧ m ≤ 32768 := by omega
  have p2 : ∀ x n : Int, control_put.f (pt x m) n m = some (pt x m ++ pt n m) := fun x n => put_eq (by have := pt_le x m; omega) hm
  have p1 : ∀ n : Int, control_put.f [] n m = some (pt n m) := fun n => put_eq (by simp) hm
  unfold control_Bytes.f
  simp only [right_eq, h, bsome, if_true, bit_eq, p1, p2]
  rcases hc with ⟨k0, n1, n2⟩ | ⟨k1, n1, n2⟩ | ⟨k3, k7, n1, n2⟩
  · have e1 : w64 (2 * c.Ns) = 2 * c.Ns := w64_in ⟨by omega, by omega⟩
    have e2 : w64 (2 * c.Nr) = 2 * c.Nr := w64_in ⟨by omega, by omega⟩
    have e3 : w64 (2 * c.Nr + pb c.Poll) = 2 * c.Nr + pb c.Poll := w64_in ⟨by omega, by omega⟩
    simp only [if_pos k0, e1, e2, e3, enc]
  · have k0 : ¬ c.Kind = 0 := by omega
    have e2 : w64 (2 * c.Nr) = 2 * c.Nr := w64_in ⟨by omega, by omega⟩
    have e3 : w64 (2 * c.Nr + pb c.Poll) = 2 * c.Nr + pb c.Poll := w64_in ⟨by omega, by omega⟩
    rcases k1 with k1 | k1
    · simp only [if_neg k0, if_pos k1, e2, e3, enc]
    · have k2 : ¬ c.Kind = 1 := by omega
      simp only [if_neg k0, if_neg k2, if_pos k1, e2, e3, enc]
  · have k0 : ¬ c.Kind = 0 := by omega
    have k1 : ¬ c.Kind = 1 := by omega
    have k2 : ¬ c.Kind = 2 := by omega
    simp only [if_neg k0, if_neg k1, if_neg k2, enc]
    generalize hp : c.Poll = p
    rcases bare_k ⟨k3, k7⟩ with e | e | e | e | e <;> rw [e] <;> cases p <;> decide +kernel
theorem refright_eq (c : api_Ctl) (m : Int) : signalmanref6_RightCtl.f c m = some (rightB c m) := by
  unfold signalmanref6_RightCtl.f signalmanref6_RightCtl.j0 signalmanref6_RightCtl.j1 signalmanref6_RightCtl.j2 signalmanref6_RightCtl.j3 rightB
  by_cases h1 : m = 128
  · subst h1
    by_cases k0 : c.Kind = 0
    · by_cases n1 : 0 ≤ c.Ns <;> by_cases n2 : c.Ns < 128 <;> by_cases n3 : 0 ≤ c.Nr <;> by_cases n4 : c.Nr < 128 <;> simp [k0, n1, n2, n3, n4]
    · by_cases k1 : c.Kind = 1
      · by_cases n1 : c.Ns = 0 <;> by_cases n3 : 0 ≤ c.Nr <;> by_cases n4 : c.Nr < 128 <;> simp [k1, n1, n3, n4]
      · by_cases k2 : c.Kind = 2
        · by_cases n1 : c.Ns = 0 <;> by_cases n3 : 0 ≤ c.Nr <;> by_cases n4 : c.Nr < 128 <;> simp [k2, n1, n3, n4]
        · by_cases k3 : 3 ≤ c.Kind <;> by_cases k7 : c.Kind ≤ 7 <;> by_cases n1 : c.Ns = 0 <;> simp [k0, k1, k2, k3, k7, n1]
  · by_cases h2 : m = 32768
    · subst h2
      by_cases k0 : c.Kind = 0
      · by_cases n1 : 0 ≤ c.Ns <;> by_cases n2 : c.Ns < 32768 <;> by_cases n3 : 0 ≤ c.Nr <;> by_cases n4 : c.Nr < 32768 <;> simp [k0, n1, n2, n3, n4]
      · by_cases k1 : c.Kind = 1
        · by_cases n1 : c.Ns = 0 <;> by_cases n3 : 0 ≤ c.Nr <;> by_cases n4 : c.Nr < 32768 <;> simp [k1, n1, n3, n4]
        · by_cases k2 : c.Kind = 2
          · by_cases n1 : c.Ns = 0 <;> by_cases n3 : 0 ≤ c.Nr <;> by_cases n4 : c.Nr < 32768 <;> simp [k2, n1, n3, n4]
          · by_cases k3 : 3 ≤ c.Kind <;> by_cases k7 : c.Kind ≤ 7 <;> by_cases n1 : c.Ns = 0 <;> simp [k0, k1, k2, k3, k7, n1]
    · simp [h1, h2]
theorem strOf_inj {a b : List Int} (ha : ∀ z ∈ a, 0 ≤ z ∧ z < 256) (hb : ∀ z ∈ b, 0 ≤ z ∧ z < 256) (h : strOf a = strOf b) : a = b := by
  have h1 : a.map (fun c => UInt8.ofNat c.toNat) = b.map (fun c => UInt8.ofNat c.toNat) := by
    have := congrArg (fun s : ByteArray => s.data.toList) h
    simpa [strOf] using this
  induction a generalizing b with
  | nil => cases b with
    | nil => rfl
    | cons _ _ => simp at h1
  | cons x a ih => cases b with
    | nil => simp at h1
    | cons y b =>
      simp only [List.map_cons, List.cons.injEq] at h1
      have hx := ha x (by simp)
      have hy := hb y (by simp)
      have e : x = y := by
        have := congrArg UInt8.toNat h1.1
        simp [UInt8.toNat_ofNat'] at this
        omega
      rw [e, ih (fun z hz => ha z (.tail _ hz)) (fun z hz => hb z (.tail _ hz)) (by simp [strOf, h1.2]) h1.2]
theorem sEq_iff {a b : List Int} (ha : ∀ z ∈ a, 0 ≤ z ∧ z < 256) (hb : ∀ z ∈ b, 0 ≤ z ∧ z < 256) : sEq a b = decide (a = b) := by
  by_cases h : a = b
  · subst h; simp [sEq_refl]
  · rw [decide_eq_false h]
    unfold sEq
    rw [beq_eq_false_iff_ne]
    intro e
    refine h (strOf_inj ha hb ?_)
    apply ByteArray.ext
    rw [ByteArray.toList_eq, ByteArray.toList_eq] at e
    exact Array.toList_inj.1 e
/-! ### Read. -/
def z0 : api_Ctl := { Kind := 0, Ns := 0, Nr := 0, Poll := false }
/-- The kind that a byte without Poll tells; 0: none. -/
def kindOf (x : Int) : Int := if x = 111 then 3 else if x = 99 then 4 else if x = 67 then 5 else if x = 15 then 6 else if x = 135 then 7 else 0
def poll4 (x : Int) : Bool := decide (x / 16 % 2 = 1)
def base4 (x : Int) : Int := x - 16 * (x / 16 % 2)
/-- A field with numbers. -/
def numS (kind : Int) (b : List Int) (m : Int) : api_Ctl × Int × Int :=
  if m = 128 then
    if (b.length : Int) < 2 then (z0, 0, 3)
    else ({ Kind := kind, Ns := if kind = 0 then b.getD 0 0 / 2 else 0, Nr := b.getD 1 0 / 2, Poll := decide (b.getD 1 0 % 2 = 1) }, 2, 0)
  else
    if (b.length : Int) < 4 then (z0, 0, 3)
    else if kind = 0 ∨ b.getD 1 0 = 0 then ({ Kind := kind, Ns := if kind = 0 then (b.getD 0 0 + 256 * b.getD 1 0) / 2 else 0, Nr := (b.getD 2 0 + 256 * b.getD 3 0) / 2, Poll := decide ((b.getD 2 0 + 256 * b.getD 3 0) % 2 = 1) }, 4, 0)
    else (z0, 0, 2)
def readS (b : List Int) (m : Int) : api_Ctl × Int × Int :=
  if ¬ (m = 128 ∨ m = 32768) then (z0, 0, 1)
  else if b.length = 0 then (z0, 0, 3)
  else if kindOf (base4 (b.getD 0 0)) ≠ 0 then ({ Kind := kindOf (base4 (b.getD 0 0)), Ns := 0, Nr := 0, Poll := poll4 (b.getD 0 0) }, 1, 0)
  else if b.getD 0 0 = 1 then numS 1 b m
  else if b.getD 0 0 = 9 then numS 2 b m
  else if b.getD 0 0 % 2 = 1 then (z0, 0, 2)
  else numS 0 b m
theorem kind_even {x : Int} (h : x % 2 = 0) : kindOf (base4 x) = 0 := by
  unfold kindOf base4
  rw [if_neg (by omega), if_neg (by omega), if_neg (by omega), if_neg (by omega), if_neg (by omega)]
theorem enc_byte {c : api_Ctl} {m : Int} (h : rightB c m = true) : ∀ z ∈ enc c m, 0 ≤ z ∧ z < 256 := by
  obtain ⟨hm, hc⟩ := right_cases h
  have hb := pb_b c.Poll
  have hp : ∀ n : Int, ∀ z ∈ pt n m, 0 ≤ z ∧ z < 256 := by
    intro n z hz
    unfold pt at hz
    split at hz <;> simp at hz <;> omega
  have hp2 : ∀ a b : Int, ∀ z ∈ pt a m ++ pt b m, 0 ≤ z ∧ z < 256 := fun a b z hz => (List.mem_append.1 hz).elim (hp a z) (hp b z)
  unfold enc
  split
  · exact hp2 _ _
  · split
    · exact hp2 _ _
    · split
      · exact hp2 _ _
      · intro z hz
        simp at hz
        subst hz
        unfold bareB
        repeat' split
        all_goals omega
theorem read_enc {c : api_Ctl} {m : Int} (h : rightB c m = true) (more : List Int) : readS (enc c m ++ more) m = (c, ((enc c m).length : Int), 0) := by
  obtain ⟨hm, hc⟩ := right_cases h
  have hb := pb_b c.Poll
  have hpd : ∀ y : Int, decide ((2 * y + pb c.Poll) % 2 = 1) = c.Poll := by
    intro y
    unfold pb
    cases c.Poll <;> simp <;> omega
  obtain ⟨K, Ns, Nr, Poll⟩ := c
  simp only at hc hb hpd
  unfold readS
  rw [if_neg (show ¬ ¬ (m = 128 ∨ m = 32768) from fun h => h hm)]
  rcases hc with ⟨rfl, n1, n2⟩ | ⟨k1, rfl, n2⟩ | ⟨k3, k7, rfl, rfl⟩
  · rcases hm with rfl | rfl
    · simp only [enc, if_true, pt, List.cons_append, List.nil_append, List.length_cons, List.getD_cons_zero]
      rw [if_neg (by omega), kind_even (by omega), if_neg (by simp), if_neg (by omega), if_neg (by omega), if_neg (by omega)]
      simp only [numS, if_true, List.length_cons, List.getD_cons_zero, List.getD_cons_succ]
      rw [if_neg (by omega)]
      have e1 : 2 * Ns % 256 / 2 = Ns := by omega
      have e2 : (2 * Nr + pb Poll) % 256 / 2 = Nr := by omega
      have e3 : (2 * Nr + pb Poll) % 256 % 2 = (2 * Nr + pb Poll) % 2 := by omega
      rw [e1, e2, e3, hpd]; rfl
    · simp only [enc, if_true, pt, List.cons_append, List.nil_append, List.length_cons, List.getD_cons_zero, show ¬ (32768 : Int) = 128 by decide, if_false]
      rw [if_neg (by omega), kind_even (by omega), if_neg (by simp), if_neg (by omega), if_neg (by omega), if_neg (by omega)]
      simp only [numS, if_true, List.length_cons, List.getD_cons_zero, List.getD_cons_succ, show ¬ (32768 : Int) = 128 by decide, if_false, true_or]
      rw [if_neg (by omega)]
      have e1 : (2 * Ns % 256 + 256 * (2 * Ns / 256 % 256)) / 2 = Ns := by omega
      have e2 : ((2 * Nr + pb Poll) % 256 + 256 * ((2 * Nr + pb Poll) / 256 % 256)) / 2 = Nr := by omega
      have e3 : ((2 * Nr + pb Poll) % 256 + 256 * ((2 * Nr + pb Poll) / 256 % 256)) % 2 = (2 * Nr + pb Poll) % 2 := by omega
      rw [e1, e2, e3, hpd]; rfl
  · have hk : ∀ n : Int, enc ⟨K, 0, Nr, Poll⟩ m = pt (if K = 1 then 1 else 9) m ++ pt (2 * Nr + pb Poll) m := by
      intro _; rcases k1 with rfl | rfl <;> rfl
    rw [hk 0]
    rcases hm with rfl | rfl
    · rcases k1 with rfl | rfl
      all_goals
        simp only [if_true, pt, List.cons_append, List.nil_append, List.length_cons, List.getD_cons_zero, show ¬ (2 : Int) = 1 by decide, if_false]
        rw [if_neg (by omega), if_neg (by decide)]
        simp only [show ((1 : Int) % 256 = 1) by decide, show ((9 : Int) % 256 = 9) by decide, if_true, show ¬ (9 : Int) = 1 by decide, if_false, numS, List.length_cons, List.getD_cons_zero, List.getD_cons_succ]
        rw [if_neg (by omega)]
        have e2 : (2 * Nr + pb Poll) % 256 / 2 = Nr := by omega
        have e3 : (2 * Nr + pb Poll) % 256 % 2 = (2 * Nr + pb Poll) % 2 := by omega
        rw [e2, e3, hpd]; rfl
    · rcases k1 with rfl | rfl
      all_goals
        simp only [if_true, pt, List.cons_append, List.nil_append, List.length_cons, List.getD_cons_zero, show ¬ (2 : Int) = 1 by decide, if_false, show ¬ (32768 : Int) = 128 by decide]
        rw [if_neg (by omega), if_neg (by decide)]
        simp only [show ((1 : Int) % 256 = 1) by decide, show ((9 : Int) % 256 = 9) by decide, show ((1 : Int) / 256 % 256 = 0) by decide, show ((9 : Int) / 256 % 256 = 0) by decide, if_true, show ¬ (9 : Int) = 1 by decide, if_false, numS, List.length_cons, List.getD_cons_zero, List.getD_cons_succ, show ¬ (32768 : Int) = 128 by decide, or_true]
        rw [if_neg (by omega)]
        have e2 : ((2 * Nr + pb Poll) % 256 + 256 * ((2 * Nr + pb Poll) / 256 % 256)) / 2 = Nr := by omega
        have e3 : ((2 * Nr + pb Poll) % 256 + 256 * ((2 * Nr + pb Poll) / 256 % 256)) % 2 = (2 * Nr + pb Poll) % 2 := by omega
        rw [e2, e3, hpd]; rfl
  · have : K = 3 ∨ K = 4 ∨ K = 5 ∨ K = 6 ∨ K = 7 := by omega
    have hl : ∀ x : Int, ¬ (([x] : List Int) ++ more).length = 0 := by intro x; simp
    rcases this with rfl | rfl | rfl | rfl | rfl <;> cases Poll <;> (simp only [enc, show ∀ a b : Int, (if (a : Int) = b then (1 : Int) else 0) = (if a = b then 1 else 0) from fun _ _ => rfl]; rfl)
theorem sEq_same (a : List Int) : sEq a a = true := sEq_refl a
theorem enc_len {c : api_Ctl} (m : Int) : 0 < (enc c m).length ∧ (enc c m).length ≤ 4 := by
  have hp : ∀ n : Int, 0 < (pt n m).length ∧ (pt n m).length ≤ 2 := by intro n; unfold pt; split <;> simp
  have h1 := hp (2 * c.Ns)
  have h2 := hp (2 * c.Nr + pb c.Poll)
  have h3 := hp 1
  have h4 := hp 9
  unfold enc
  repeat' split
  all_goals simp only [List.length_append, List.length_cons, List.length_nil]; omega
theorem not_head {c d : api_Ctl} {m : Int} (hc : rightB c m = true) (hd : rightB d m = true) (hne : c ≠ d) (hl : (enc c m).length ≤ (enc d m).length) : ¬ cut (enc d m) 0 ((enc c m).length : Int) = enc c m := by
  intro h
  have h2 : enc d m = enc c m ++ (enc d m).drop (enc c m).length := by
    have h3 : cut (enc d m) 0 ((enc c m).length : Int) = (enc d m).take (enc c m).length := by simp [cut]
    rw [h3] at h
    conv => lhs; rw [← List.take_append_drop (enc c m).length (enc d m), h]
  have r1 := read_enc hc ((enc d m).drop (enc c m).length)
  have r2 := read_enc hd []
  rw [List.append_nil, h2, r1] at r2
  exact hne (congrArg Prod.fst r2)
theorem ControlApart : signalmanlaw12_ControlApart.Pure := by
  intro c d wide hc hd
  unfold signalmanlaw12_ControlApart.f
  rw [alive_eq, bsome]
  have key : ∀ m : Int, signalmanlaw12_ControlApart.j0 c d true m = some true := by
    intro m
    unfold signalmanlaw12_ControlApart.j0
    rw [if_pos rfl, refright_eq, bsome]
    cases h1 : rightB c m with
    | false => rfl
    | true =>
      rw [if_pos rfl, refright_eq, bsome]
      cases h2 : rightB d m with
      | false => rfl
      | true =>
        unfold signalmanlaw12_ControlApart.j1
        rw [if_neg (by simp), bytes_eq h1, bsome, bytes_eq h2, bsome]
        have hbc := enc_byte h1
        have hbd := enc_byte h2
        have lc := enc_len (c := c) m
        have ld := enc_len (c := d) m
        have hcb : ∀ n : Int, ∀ z ∈ cut (enc c m) 0 n, 0 ≤ z ∧ z < 256 := fun n z hz => hbc z (List.mem_of_mem_drop (List.mem_of_mem_take hz))
        have hdb : ∀ n : Int, ∀ z ∈ cut (enc d m) 0 n, 0 ≤ z ∧ z < 256 := fun n z hz => hbd z (List.mem_of_mem_drop (List.mem_of_mem_take hz))
        by_cases he : c = d
        · subst he
          rw [if_pos (by simp [api_Ctl.beq]), sEq_refl]
        · have hq : ¬ api_Ctl.beq c d = true := by
            intro h
            apply he
            unfold api_Ctl.beq at h
            simp only [Bool.and_eq_true, beq_iff_eq, and_true] at h
            obtain ⟨e1, e2, e3, e4⟩ := h
            cases c; cases d; simp_all
          rw [if_neg hq, if_pos (show ((enc c m).length : Int) > 0 by omega), if_pos (show ((enc d m).length : Int) > 0 by omega)]
          by_cases hl : ((enc c m).length : Int) > ((enc d m).length : Int)
          · rw [if_pos hl, if_neg (show ¬ ((enc d m).length : Int) > ((enc c m).length : Int) by omega), if_pos ⟨by omega, by omega, by omega⟩, sEq_iff (hcb _) hbd, decide_eq_false (not_head h2 h1 (fun e => he e.symm) (by omega))]; rfl
          · rw [if_neg hl, if_pos ⟨by omega, by omega, by omega⟩, if_neg (show ¬ sEq (cut (enc d m) 0 ((enc c m).length : Int)) (enc c m) = true by rw [sEq_iff (hdb _) hbc, decide_eq_false (not_head h1 h2 he (by omega))]; simp)]
            by_cases hl2 : ((enc d m).length : Int) > ((enc c m).length : Int)
            · rw [if_pos hl2]
            · rw [if_neg hl2, if_pos ⟨by omega, by omega, by omega⟩, sEq_iff (hcb _) hbd, decide_eq_false (not_head h2 h1 (fun e => he e.symm) (by omega))]; rfl
  cases wide
  · rw [if_neg (by simp)]; exact key _
  · rw [if_pos rfl]; exact key _
end Go.Proofs.Ytmodmkbjbndfpaa

/- ControlBytes: Right and Bytes agree with the definition for every control field, and Read returns every right control field out of its bytes, whatever follows. Conditions: none beyond those of the given statement. -/
import Derived.Test.YtmodmkbjbndfpaaRunControlBytes
import Derived.KernelRfl
set_option linter.all false
namespace Go.Proofs.Ytmodmkbjbndfpaa
open Go.RowKit Go.Proofs.Ytmodmkbjbndfpaa.Walk
theorem bsome {α β : Type} (x : α) (g : α → Option β) : (some x).bind g = g x := Eq.trans (b := g x) rfl (Eq.symm rfl)
theorem u8w (x : Int) : IntKind.u8.wrap x = x % 256 := by
  simp [IntKind.wrap, IntKind.bits, IntKind.signed]
theorem i64nat {x : Int} (h0 : 0 ≤ x) (h1 : x < 9223372036854775808) : BitVec.ofInt 64 x = BitVec.ofNat 64 x.toNat := by
  apply BitVec.eq_of_toNat_eq
  simp [BitVec.toNat_ofInt]
  omega
theorem iand_nat {x y : Int} (h0 : 0 ≤ x) (h1 : x < 9223372036854775808) (h2 : 0 ≤ y) (h3 : y < 9223372036854775808) : iand .i64 x y = ((x.toNat &&& y.toNat : Nat) : Int) := by
  unfold iand
  show IntKind.i64.wrap (BitVec.ofInt 64 x &&& BitVec.ofInt 64 y).toNat = _
  rw [i64nat h0 h1, i64nat h2 h3, BitVec.toNat_and]
  simp only [BitVec.toNat_ofNat]
  rw [Nat.mod_eq_of_lt (by omega), Nat.mod_eq_of_lt (by omega)]
  have h4 : x.toNat &&& y.toNat ≤ x.toNat := Nat.and_le_left
  have := w64_in (n := ((x.toNat &&& y.toNat : Nat) : Int)) (by omega)
  exact this
theorem ior_nat {x y : Int} (h0 : 0 ≤ x) (h1 : x < 9223372036854775808) (h2 : 0 ≤ y) (h3 : y < 9223372036854775808) : ior .i64 x y = ((x.toNat ||| y.toNat : Nat) : Int) := by
  unfold ior
  show IntKind.i64.wrap (BitVec.ofInt 64 x ||| BitVec.ofInt 64 y).toNat = _
  rw [i64nat h0 h1, i64nat h2 h3, BitVec.toNat_or]
  simp only [BitVec.toNat_ofNat]
  rw [Nat.mod_eq_of_lt (by omega), Nat.mod_eq_of_lt (by omega)]
  have h4 : x.toNat ||| y.toNat < 2 ^ 63 := Nat.or_lt_two_pow (by omega) (by omega)
  have := w64_in (n := ((x.toNat ||| y.toNat : Nat) : Int)) (by omega)
  exact this
theorem iand_1 {x : Int} (h0 : 0 ≤ x) (h1 : x < 9223372036854775808) : iand .i64 x 1 = x % 2 := by
  rw [iand_nat h0 h1 (by omega) (by omega)]
  have : x.toNat &&& (1 : Int).toNat = x.toNat % 2 := Nat.and_one_is_mod _
  rw [this]; omega
theorem iand_255 {x : Int} (h0 : 0 ≤ x) (h1 : x < 9223372036854775808) : iand .i64 x 255 = x % 256 := by
  rw [iand_nat h0 h1 (by omega) (by omega)]
  have : x.toNat &&& (255 : Int).toNat = x.toNat % 256 := Nat.and_two_pow_sub_one_eq_mod _ 8
  rw [this]; omega
theorem ior_hi {x y : Int} (h0 : 0 ≤ x) (h1 : x < 256) (h2 : 0 ≤ y) (h3 : y < 36028797018963968) : ior .i64 x (y * 256) = x + 256 * y := by
  rw [ior_nat h0 (by omega) (by omega) (by omega)]
  have e : (y * 256).toNat = 2 ^ 8 * y.toNat := by omega
  have h4 := Nat.two_pow_add_eq_or_of_lt (i := 8) (b := x.toNat) (by omega) y.toNat
  rw [e, Nat.or_comm, ← h4]; omega
theorem ior_hi' {x y : Int} (h0 : 0 ≤ x) (h1 : x < 256) (h2 : 0 ≤ y) (h3 : y < 36028797018963968) : ior .i64 (y * 256) x = x + 256 * y := by
  rw [← ior_hi h0 h1 h2 h3, ior_nat (by omega) (by omega) h0 (by omega), ior_nat h0 (by omega) (by omega) (by omega), Nat.or_comm]
theorem byte_all {p : Int → Prop} (h : ∀ n : Fin 256, p (n.val : Int)) {z : Int} (h0 : 0 ≤ z) (h1 : z < 256) : p z := by
  have := h ⟨z.toNat, by omega⟩
  rwa [show ((z.toNat : Nat) : Int) = z by omega] at this
theorem wf8 {z : Int} (h : (Lit.int .u8 z).wf = true) : 0 ≤ z ∧ z < 256 := by simp [Lit.wf] at h; have := h; simp [IntKind.min, IntKind.max, IntKind.bits, IntKind.signed] at this; omega
theorem wf64 {z : Int} (h : (Lit.int .i64 z).wf = true) : -9223372036854775808 ≤ z ∧ z ≤ 9223372036854775807 := by simp [Lit.wf] at h; have := h; simp [IntKind.min, IntKind.max, IntKind.bits, IntKind.signed] at this; omega
theorem alive_eq : signalmanlaw12_alive.f = some true := by kernel_rfl
def rightB (c : api_Ctl) (m : Int) : Bool :=
  (m == 128 || m == 32768) && (if c.Kind = 0 then decide (0 ≤ c.Ns) && decide (c.Ns < m) && (decide (0 ≤ c.Nr) && decide (c.Nr < m))
    else if c.Kind = 1 ∨ c.Kind = 2 then decide (c.Ns = 0) && (decide (0 ≤ c.Nr) && decide (c.Nr < m)) else decide (3 ≤ c.Kind) && decide (c.Kind ≤ 7) && decide (c.Ns = 0) && decide (c.Nr = 0))
theorem right_eq (c : api_Ctl) (m : Int) : control_Right.f c m = some (rightB c m) := by
  unfold control_Right.f control_Right.j0 control_modulus.f control_of.f rightB
  by_cases h1 : m = 128
  · subst h1
    by_cases k0 : c.Kind = 0
    · by_cases n1 : 0 ≤ c.Ns <;> by_cases n2 : c.Ns < 128 <;> by_cases n3 : 0 ≤ c.Nr <;> by_cases n4 : c.Nr < 128 <;> simp [k0, n1, n2, n3, n4]
    · by_cases k1 : c.Kind = 1
      · by_cases n1 : c.Ns = 0 <;> by_cases n3 : 0 ≤ c.Nr <;> by_cases n4 : c.Nr < 128 <;> simp [k1, n1, n3, n4]
      · by_cases k2 : c.Kind = 2
        · by_cases n1 : c.Ns = 0 <;> by_cases n3 : 0 ≤ c.Nr <;> by_cases n4 : c.Nr < 128 <;> simp [k2, n1, n3, n4]
        · by_cases k3 : 3 ≤ c.Kind <;> by_cases k7 : c.Kind ≤ 7 <;> by_cases n1 : c.Ns = 0 <;> simp [k0, k1, k2, k3, k7, n1]
  · by_cases h2 : m = 32768
    · subst h2
      by_cases k0 : c.Kind = 0
      · by_cases n1 : 0 ≤ c.Ns <;> by_cases n2 : c.Ns < 32768 <;> by_cases n3 : 0 ≤ c.Nr <;> by_cases n4 : c.Nr < 32768 <;> simp [k0, n1, n2, n3, n4]
      · by_cases k1 : c.Kind = 1
        · by_cases n1 : c.Ns = 0 <;> by_cases n3 : 0 ≤ c.Nr <;> by_cases n4 : c.Nr < 32768 <;> simp [k1, n1, n3, n4]
        · by_cases k2 : c.Kind = 2
          · by_cases n1 : c.Ns = 0 <;> by_cases n3 : 0 ≤ c.Nr <;> by_cases n4 : c.Nr < 32768 <;> simp [k2, n1, n3, n4]
          · by_cases k3 : 3 ≤ c.Kind <;> by_cases k7 : c.Kind ≤ 7 <;> by_cases n1 : c.Ns = 0 <;> simp [k0, k1, k2, k3, k7, n1]
    · simp [h1, h2]
def pt (n m : Int) : List Int := if m = 128 then [n % 256] else [n % 256, n / 256 % 256]
def pb (b : Bool) : Int := if b = true then 1 else 0
def bareB (k : Int) : Int := if k = 3 then 111 else if k = 4 then 99 else if k = 5 then 67 else if k = 6 then 15 else 135
/-- The encoding. -/
def enc (c : api_Ctl) (m : Int) : List Int :=
  if c.Kind = 0 then pt (2 * c.Ns) m ++ pt (2 * c.Nr + pb c.Poll) m
  else if c.Kind = 1 then pt 1 m ++ pt (2 * c.Nr + pb c.Poll) m
  else if c.Kind = 2 then pt 9 m ++ pt (2 * c.Nr + pb c.Poll) m
  else [bareB c.Kind + 16 * pb c.Poll]
theorem pb_b (b : Bool) : 0 ≤ pb b ∧ pb b ≤ 1 := by unfold pb; split <;> omega
/-- What a right field is. -/
theorem right_cases {c : api_Ctl} {m : Int} (h : rightB c m = true) : (m = 128 ∨ m = 32768) ∧ ((c.Kind = 0 ∧ (0 ≤ c.Ns ∧ c.Ns < m) ∧ 0 ≤ c.Nr ∧ c.Nr < m) ∨ ((c.Kind = 1 ∨ c.Kind = 2) ∧ c.Ns = 0 ∧ 0 ≤ c.Nr ∧ c.Nr < m) ∨ (3 ≤ c.Kind ∧ c.Kind ≤ 7 ∧ c.Ns = 0 ∧ c.Nr = 0)) := by
  unfold rightB at h
  simp only [Bool.and_eq_true, Bool.or_eq_true, beq_iff_eq] at h
  obtain ⟨h1, h2⟩ := h
  refine ⟨h1, ?_⟩
  by_cases k0 : c.Kind = 0
  · rw [if_pos k0] at h2; simp at h2; left; omega
  · rw [if_neg k0] at h2
    by_cases k1 : c.Kind = 1 ∨ c.Kind = 2
    · rw [if_pos k1] at h2; simp at h2; right; left; omega
    · rw [if_neg k1] at h2; simp at h2; right; right; omega
theorem bit_eq (b : Bool) : control_bit.f b = some (pb b) := by unfold control_bit.f pb; split <;> rfl
theorem fd8 (n : Int) : n.fdiv (2 ^ (min ((8 : Int)).toNat IntKind.i64.bits)) = n / 256 := by
  have : (2 : Int) ^ (min ((8 : Int)).toNat IntKind.i64.bits) = 256 := by decide
  rw [this, Int.fdiv_eq_ediv_of_nonneg _ (by omega)]
theorem put_eq {l : List Int} {n m : Int} (hl : l.length ≤ 100) (hm : m = 128 ∨ m = 32768) : control_put.f l n m = some (l ++ pt n m) := by
  unfold control_put.f pt
  have h2 : (l.length : Int) ≤ 100 := by omega
  rw [if_pos (by simp; omega), u8w, fd8]
  rcases hm with rfl | rfl
  · simp
  · simp only [if_true]
    rw [if_pos (by simp; omega), u8w]; simp
theorem pt_len (n : Int) {m : Int} (hm : m = 128 ∨ m = 32768) : (pt n m).length = if m = 128 then 1 else 2 := by
  unfold pt; split <;> rfl
theorem pt_le (n m : Int) : (pt n m).length ≤ 2 := by unfold pt; split <;> simp
theorem bytes_no {c : api_Ctl} {m : Int} (h : rightB c m = false) : control_Bytes.f c m = some [] := by
  unfold control_Bytes.f
  simp [right_eq, h]
theorem bare_k {k : Int} (h : 3 ≤ k ∧ k ≤ 7) : k = 3 ∨ k = 4 ∨ k = 5 ∨ k = 6 ∨ k = 7 := by omega
theorem bytes_eq {c : api_Ctl} {m : Int} (h : rightB c m = true) : control_Bytes.f c m = some (enc c m) := by
  obtain ⟨hm, hc⟩ := right_cases h
  have hb := pb_b c.Poll
  have hmm : 0 ≤ m ∧ m ≤ 32768 := by omega
  have p2 : ∀ x n : Int, control_put.f (pt x m) n m = some (pt x m ++ pt n m) := fun x n => put_eq (by have := pt_le x m; omega) hm
  have p1 : ∀ n : Int, control_put.f [] n m = some (pt n m) := fun n => put_eq (by simp) hm
  unfold control_Bytes.f
  simp only [right_eq, h, bsome, if_true, bit_eq, p1, p2]
  rcases hc with ⟨k0, n1, n2⟩ | ⟨k1, n1, n2⟩ | ⟨k3, k7, n1, n2⟩
  · have e1 : w64 (2 * c.Ns) = 2 * c.Ns := w64_in ⟨by omega, by omega⟩
    have e2 : w64 (2 * c.Nr) = 2 * c.Nr := w64_in ⟨by omega, by omega⟩
    have e3 : w64 (2 * c.Nr + pb c.Poll) = 2 * c.Nr + pb c.Poll := w64_in ⟨by omega, by omega⟩
    simp only [if_pos k0, e1, e2, e3, enc]
  · have k0 : ¬ c.Kind = 0 := by omega
    have e2 : w64 (2 * c.Nr) = 2 * c.Nr := w64_in ⟨by omega, by omega⟩
    have e3 : w64 (2 * c.Nr + pb c.Poll) = 2 * c.Nr + pb c.Poll := w64_in ⟨by omega, by omega⟩
    rcases k1 with k1 | k1
    · simp only [if_neg k0, if_pos k1, e2, e3, enc]
    · have k2 : ¬ c.Kind = 1 := by omega
      simp only [if_neg k0, if_neg k2, if_pos k1, e2, e3, enc]
  · have k0 : ¬ c.Kind = 0 := by omega
    have k1 : ¬ c.Kind = 1 := by omega
    have k2 : ¬ c.Kind = 2 := by omega
    simp only [if_neg k0, if_neg k1, if_neg k2, enc]
    generalize hp : c.Poll = p
    rcases bare_k ⟨k3, k7⟩ with e | e | e | e | e <;> rw [e] <;> cases p <;> decide +kernel
theorem refright_eq (c : api_Ctl) (m : Int) : signalmanref6_RightCtl.f c m = some (rightB c m) := by
  unfold signalmanref6_RightCtl.f signalmanref6_RightCtl.j0 signalmanref6_RightCtl.j1 signalmanref6_RightCtl.j2 signalmanref6_RightCtl.j3 rightB
  by_cases h1 : m = 128
  · subst h1
    by_cases k0 : c.Kind = 0
    · by_cases n1 : 0 ≤ c.Ns <;> by_cases n2 : c.Ns < 128 <;> by_cases n3 : 0 ≤ c.Nr <;> by_cases n4 : c.Nr < 128 <;> simp [k0, n1, n2, n3, n4]
    · by_cases k1 : c.Kind = 1
      · by_cases n1 : c.Ns = 0 <;> by_cases n3 : 0 ≤ c.Nr <;> by_cases n4 : c.Nr < 128 <;> simp [k1, n1, n3, n4]
      · by_cases k2 : c.Kind = 2
        · by_cases n1 : c.Ns = 0 <;> by_cases n3 : 0 ≤ c.Nr <;> by_cases n4 : c.Nr < 128 <;> simp [k2, n1, n3, n4]
        · by_cases k3 : 3 ≤ c.Kind <;> by_cases k7 : c.Kind ≤ 7 <;> by_cases n1 : c.Ns = 0 <;> simp [k0, k1, k2, k3, k7, n1]
  · by_cases h2 : m = 32768
    · subst h2
      by_cases k0 : c.Kind = 0
      · by_cases n1 : 0 ≤ c.Ns <;> by_cases n2 : c.Ns < 32768 <;> by_cases n3 : 0 ≤ c.Nr <;> by_cases n4 : c.Nr < 32768 <;> simp [k0, n1, n2, n3, n4]
      · by_cases k1 : c.Kind = 1
        · by_cases n1 : c.Ns = 0 <;> by_cases n3 : 0 ≤ c.Nr <;> by_cases n4 : c.Nr < 32768 <;> simp [k1, n1, n3, n4]
        · by_cases k2 : c.Kind = 2
          · by_cases n1 : c.Ns = 0 <;> by_cases n3 : 0 ≤ c.Nr <;> by_cases n4 : c.Nr < 32768 <;> simp [k2, n1, n3, n4]
          · by_cases k3 : 3 ≤ c.Kind <;> by_cases k7 : c.Kind ≤ 7 <;> by_cases n1 : c.Ns = 0 <;> simp [k0, k1, k2, k3, k7, n1]
    · simp [h1, h2]
theorem refbit_eq (b : Bool) : signalmanref6_bit.f b = some (pb b) := by unfold signalmanref6_bit.f pb; split <;> rfl
theorem field_eq {n p m : Int} (hn : 0 ≤ n ∧ n < 32768) (hp : 0 ≤ p ∧ p ≤ 1) (hm : m = 128 ∨ m = 32768) : signalmanref6_field.f n p m = some (pt (2 * n + p) m) := by
  unfold signalmanref6_field.f pt
  rw [w64_in (n := n * 2) (by omega), w64_in (by omega), fd8, iand_255 (by omega) (by omega), u8w, u8w, u8w, show n * 2 + p = 2 * n + p by omega]
  rcases hm with rfl | rfl
  · simp
  · simp
theorem refbytes_no {c : api_Ctl} {m : Int} (h : rightB c m = false) : signalmanref6_CtlBytes.f c m = some [] := by
  unfold signalmanref6_CtlBytes.f
  simp [refright_eq, h]
theorem refbytes_eq {c : api_Ctl} {m : Int} (h : rightB c m = true) : signalmanref6_CtlBytes.f c m = some (enc c m) := by
  obtain ⟨hm, hc⟩ := right_cases h
  have hb := pb_b c.Poll
  unfold signalmanref6_CtlBytes.f enc
  simp only [refright_eq, h, Option.bind_some, if_true, refbit_eq, signalmanref6_CtlBytes.j0]
  rcases hc with ⟨k0, n1, n2⟩ | ⟨k1, n1, n2⟩ | ⟨k3, k7, n1, n2⟩
  · rw [if_pos k0, if_pos k0, field_eq (by omega) (by omega) hm, field_eq (by omega) hb hm]
    simp only [Option.bind_some]
    rw [if_pos (by have := pt_le (2 * c.Ns + 0) m; have := pt_le (2 * c.Nr + pb c.Poll) m; omega)]
    simp
  · have k0 : ¬ c.Kind = 0 := by omega
    rw [if_neg k0, if_neg k0, if_pos (show c.Kind ≤ 2 by omega), field_eq (by omega) hb hm]
    simp only [Option.bind_some]
    have hl := pt_le (2 * c.Nr + pb c.Poll) m
    rcases k1 with k1 | k1
    · rw [if_pos k1, k1]
      rcases hm with rfl | rfl
      · rw [if_pos rfl, if_pos (by simp; omega)]; simp [u8w, pt, w64_eq]
      · rw [if_neg (by omega), if_pos (by simp), if_pos (by simp; omega)]; simp [u8w, pt, w64_eq]
    · have k2 : ¬ c.Kind = 1 := by omega
      rw [if_neg k2, if_pos k1, k1]
      rcases hm with rfl | rfl
      · rw [if_pos rfl, if_pos (by simp; omega)]; simp [u8w, pt, w64_eq]
      · rw [if_neg (by omega), if_pos (by simp), if_pos (by simp; omega)]; simp [u8w, pt, w64_eq]
  · have k0 : ¬ c.Kind = 0 := by omega
    have k1 : ¬ c.Kind = 1 := by omega
    have k2 : ¬ c.Kind = 2 := by omega
    rw [if_neg k0, if_neg k0, if_neg (show ¬ c.Kind ≤ 2 by omega), if_neg k1, if_neg k2]
    generalize hp : c.Poll = p
    rcases bare_k ⟨k3, k7⟩ with e | e | e | e | e <;> rw [e] <;> cases p <;> decide +kernel
/-! ### Read. -/
def z0 : api_Ctl := { Kind := 0, Ns := 0, Nr := 0, Poll := false }
/-- The kind that a byte without Poll tells; 0: none. -/
def kindOf (x : Int) : Int := if x = 111 then 3 else if x = 99 then 4 else if x = 67 then 5 else if x = 15 then 6 else if x = 135 then 7 else 0
def poll4 (x : Int) : Bool := decide (x / 16 % 2 = 1)
def base4 (x : Int) : Int := x - 16 * (x / 16 % 2)
/-- A field with numbers. -/
def numS (kind : Int) (b : List Int) (m : Int) : api_Ctl × Int × Int :=
  if m = 128 then
    if (b.length : Int) < 2 then (z0, 0, 3)
    else ({ Kind := kind, Ns := if kind = 0 then b.getD 0 0 / 2 else 0, Nr := b.getD 1 0 / 2, Poll := decide (b.getD 1 0 % 2 = 1) }, 2, 0)
  else
    if (b.length : Int) < 4 then (z0, 0, 3)
    else if kind = 0 ∨ b.getD 1 0 = 0 then ({ Kind := kind, Ns := if kind = 0 then (b.getD 0 0 + 256 * b.getD 1 0) / 2 else 0, Nr := (b.getD 2 0 + 256 * b.getD 3 0) / 2, Poll := decide ((b.getD 2 0 + 256 * b.getD 3 0) % 2 = 1) }, 4, 0)
    else (z0, 0, 2)
def readS (b : List Int) (m : Int) : api_Ctl × Int × Int :=
  if ¬ (m = 128 ∨ m = 32768) then (z0, 0, 1)
  else if b.length = 0 then (z0, 0, 3)
  else if kindOf (base4 (b.getD 0 0)) ≠ 0 then ({ Kind := kindOf (base4 (b.getD 0 0)), Ns := 0, Nr := 0, Poll := poll4 (b.getD 0 0) }, 1, 0)
  else if b.getD 0 0 = 1 then numS 1 b m
  else if b.getD 0 0 = 9 then numS 2 b m
  else if b.getD 0 0 % 2 = 1 then (z0, 0, 2)
  else numS 0 b m
theorem index_eq (k : Nat) (x : Int) : slices_Index_Sbytebyte.f (k + 6) [111, 99, 67, 15, 135] x = some (if x = 111 then 0 else if x = 99 then 1 else if x = 67 then 2 else if x = 15 then 3 else if x = 135 then 4 else -1) := by
  unfold slices_Index_Sbytebyte.f
  simp only [slices_Index_Sbytebyte.l0, List.length_cons, List.length_nil]
  have e1 : w64 (0 + 1) = 1 := by decide
  have e2 : w64 (1 + 1) = 2 := by decide
  have e3 : w64 (2 + 1) = 3 := by decide
  have e4 : w64 (3 + 1) = 4 := by decide
  have e5 : w64 (4 + 1) = 5 := by decide
  simp only [e1, e2, e3, e4, e5]
  by_cases h1 : x = 111
  · simp [h1]
  · by_cases h2 : x = 99
    · simp [h2]
    · by_cases h3 : x = 67
      · simp [h3]
      · by_cases h4 : x = 15
        · simp [h4]
        · by_cases h5 : x = 135
          · simp [h5]
          · simp [h1, h2, h3, h4, h5]
theorem andn16 {z : Int} (h : 0 ≤ z ∧ z < 256) : iandn .u8 z 16 = base4 z := byte_all (p := fun z => iandn .u8 z 16 = base4 z) (by decide +kernel) h.1 h.2
theorem and16 {z : Int} (h : 0 ≤ z ∧ z < 256) : (!(decide (iand .u8 z 16 = 0))) = poll4 z := byte_all (p := fun z => (!(decide (iand .u8 z 16 = 0))) = poll4 z) (by decide +kernel) h.1 h.2
theorem and1 {z : Int} (h : 0 ≤ z ∧ z < 256) : iand .u8 z 1 = z % 2 := byte_all (p := fun z => iand .u8 z 1 = z % 2) (by decide +kernel) h.1 h.2
theorem number_l0 (k : Nat) (b : List Int) (n : Int) {i : Int} (h0 : 0 ≤ i) (h1 : i < (b.length : Int)) (hi : i ≤ 100) : control_number.l0 (k + 1) b n i = control_number.l0 k b (ior .i64 n (w64 (w64 (b.getD i.toNat 0) * 2 ^ (min (8 * i).toNat IntKind.i64.bits)))) (i + 1) := by
  have e1 : w64 (8 * i) = 8 * i := w64_in ⟨by omega, by omega⟩
  have e2 : w64 (i + 1) = i + 1 := w64_in ⟨by omega, by omega⟩
  rw [control_number.l0, if_pos h1, if_pos ⟨h0, h1⟩, e1, if_pos (by omega), e2]
theorem number_end (k : Nat) (b : List Int) (n : Int) {i : Int} (h1 : ¬ i < (b.length : Int)) : control_number.l0 (k + 1) b n i = some n := by
  rw [control_number.l0, if_neg h1]
theorem num1 {x : Int} (hx : 0 ≤ x ∧ x < 256) (k : Nat) : control_number.f (k + 3) [x] = some x := by
  unfold control_number.f
  have e3 : w64 (w64 x * 2 ^ (min (8 * (0 : Int)).toNat IntKind.i64.bits)) = x := by
    rw [w64_in (n := x) (by omega), show (2 : Int) ^ (min (8 * (0 : Int)).toNat IntKind.i64.bits) = 1 by decide, w64_in (by omega)]; omega
  have e4 : ior .i64 0 x = x := by rw [ior_nat (by omega) (by omega) (by omega) (by omega)]; simp; omega
  rw [number_l0 _ _ _ (by omega) (by simp) (by omega), number_end _ _ _ (by simp)]
  show some (ior .i64 0 (w64 (w64 x * 2 ^ (min (8 * (0 : Int)).toNat IntKind.i64.bits)))) = some x
  rw [e3, e4]
theorem num2 {x y : Int} (hx : 0 ≤ x ∧ x < 256) (hy : 0 ≤ y ∧ y < 256) (k : Nat) : control_number.f (k + 3) [x, y] = some (x + 256 * y) := by
  unfold control_number.f
  have e3 : w64 (w64 x * 2 ^ (min (8 * (0 : Int)).toNat IntKind.i64.bits)) = x := by
    rw [w64_in (n := x) (by omega), show (2 : Int) ^ (min (8 * (0 : Int)).toNat IntKind.i64.bits) = 1 by decide, w64_in (by omega)]; omega
  have e5 : w64 (w64 y * 2 ^ (min (8 * (0 + 1 : Int)).toNat IntKind.i64.bits)) = y * 256 := by
    rw [w64_in (n := y) (by omega), show (2 : Int) ^ (min (8 * (0 + 1 : Int)).toNat IntKind.i64.bits) = 256 by decide, w64_in (by omega)]
  have e4 : ior .i64 0 x = x := by rw [ior_nat (by omega) (by omega) (by omega) (by omega)]; simp; omega
  have e6 : ior .i64 x (y * 256) = x + 256 * y := ior_hi hx.1 hx.2 hy.1 (by omega)
  rw [number_l0 _ _ _ (by omega) (by simp) (by omega), number_l0 _ _ _ (by omega) (by simp) (by omega), number_end _ _ _ (by simp)]
  show some (ior .i64 (ior .i64 0 (w64 (w64 x * 2 ^ (min (8 * (0 : Int)).toNat IntKind.i64.bits)))) (w64 (w64 y * 2 ^ (min (8 * (0 + 1 : Int)).toNat IntKind.i64.bits)))) = some (x + 256 * y)
  rw [e3, e4, e5, e6]
theorem td2 {x : Int} (h : 0 ≤ x ∧ x < 65536) : w64 (x.tdiv 2) = x / 2 := by
  rw [Int.tdiv_eq_ediv_of_nonneg h.1, w64_in (by omega)]
theorem put0 {m : Int} (hm : m = 128 ∨ m = 32768) : control_put.f [] 0 m = some (pt 0 m) := put_eq (l := []) (by simp) hm
/-- Lists by their first four. -/
theorem list4 (b : List Int) : b = [] ∨ (∃ x, b = [x]) ∨ (∃ x y, b = [x, y]) ∨ (∃ x y z, b = [x, y, z]) ∨ ∃ x y z u r, b = x :: y :: z :: u :: r := by
  match b with
  | [] => exact .inl rfl
  | [x] => exact .inr (.inl ⟨x, rfl⟩)
  | [x, y] => exact .inr (.inr (.inl ⟨x, y, rfl⟩))
  | [x, y, z] => exact .inr (.inr (.inr (.inl ⟨x, y, z, rfl⟩)))
  | x :: y :: z :: u :: r => exact .inr (.inr (.inr (.inr ⟨x, y, z, u, r, rfl⟩)))
theorem j0_128 {b : List Int} (hb : ∀ z ∈ b, 0 ≤ z ∧ z < 256) (hn : b ≠ []) {c : api_Ctl} (hc : c.Ns = 0 ∧ c.Nr = 0 ∧ c.Poll = false) (k : Nat) : control_Read.j0 (k + 3) b 128 c = some (numS c.Kind b 128) := by
  unfold control_Read.j0 numS
  rw [put0 (.inl rfl), bsome]
  have e2 : w64 (2 * 1) = 2 := by decide
  have ep : ((pt 0 128).length : Int) = 1 := by decide
  obtain ⟨hc1, hc2, hc3⟩ := hc
  cases b with
  | nil => exact absurd rfl hn
  | cons x b => cases b with
    | nil => rw [ep, e2, if_pos (by simp), if_pos rfl, if_pos (by simp)]; rfl
    | cons y r =>
      have hx := hb x (by simp)
      have hy := hb y (by simp)
      have hl : (2 : Int) ≤ ((x :: y :: r).length : Int) := by simp only [List.length_cons]; omega
      have c1 : cut (x :: y :: r) 0 1 = [x] := by simp [cut]
      have c2 : cut (x :: y :: r) 1 2 = [y] := by simp [cut]
      rw [ep, e2, if_neg (by omega), if_pos ⟨by omega, by omega, by omega⟩, if_pos ⟨by omega, by omega, hl⟩, c1, c2, num1 hx, bsome, num1 hy, bsome, td2 (by omega), td2 (by omega), iand_1 (by omega) (by omega), if_pos (show (128 : Int) = 128 from rfl), if_neg (show ¬ ((x :: y :: r).length : Int) < 2 by omega)]
      have ew : w64 x = x := w64_in (by omega)
      by_cases hk : c.Kind = 0
      · simp [hk]
      · have e0 : (x :: y :: r).getD ((0 : Int)).toNat 0 = x := rfl
        rw [if_neg hk, e0, ew, if_pos rfl]
        simp [hk, hc1]
theorem j0_32768 {b : List Int} (hb : ∀ z ∈ b, 0 ≤ z ∧ z < 256) (hn : b ≠ []) {c : api_Ctl} (hc : c.Ns = 0 ∧ c.Nr = 0 ∧ c.Poll = false) (k : Nat) : control_Read.j0 (k + 3) b 32768 c = some (numS c.Kind b 32768) := by
  unfold control_Read.j0 numS
  rw [put0 (.inr rfl), bsome]
  have e2 : w64 (2 * 2) = 4 := by decide
  obtain ⟨hc1, hc2, hc3⟩ := hc
  rcases list4 b with rfl | ⟨x, rfl⟩ | ⟨x, y, rfl⟩ | ⟨x, y, z, rfl⟩ | ⟨x, y, z, u, r, rfl⟩
  · exact absurd rfl hn
  · rw [show ((pt 0 32768).length : Int) = 2 by decide, e2, if_pos (by simp), if_neg (by decide), if_pos (by simp)]; rfl
  · rw [show ((pt 0 32768).length : Int) = 2 by decide, e2, if_pos (by simp), if_neg (by decide), if_pos (by simp)]; rfl
  · rw [show ((pt 0 32768).length : Int) = 2 by decide, e2, if_pos (by simp), if_neg (by decide), if_pos (by simp)]; rfl
  · have hx := hb x (by simp)
    have hy := hb y (by simp)
    have hz := hb z (by simp)
    have hu := hb u (by simp)
    have hl : (4 : Int) ≤ ((x :: y :: z :: u :: r).length : Int) := by simp only [List.length_cons]; omega
    have c1 : cut (x :: y :: z :: u :: r) 0 2 = [x, y] := by simp [cut]
    have c2 : cut (x :: y :: z :: u :: r) 2 4 = [z, u] := by simp [cut]
    have ep : ((pt 0 32768).length : Int) = 2 := by decide
    rw [ep, e2, if_neg (by omega), if_pos ⟨by omega, by omega, by omega⟩, if_pos ⟨by omega, by omega, hl⟩, c1, c2, num2 hx hy, bsome, num2 hz hu, bsome, td2 (by omega), td2 (by omega), iand_1 (by omega) (by omega), if_neg (show ¬ (32768 : Int) = 128 by decide), if_neg (show ¬ ((x :: y :: z :: u :: r).length : Int) < 4 by omega)]
    have ew : w64 x = x := w64_in (by omega)
    have e0 : (x :: y :: z :: u :: r).getD ((0 : Int)).toNat 0 = x := rfl
    by_cases hk : c.Kind = 0
    · simp [hk]
    · rw [if_neg hk, e0, ew]
      by_cases h1 : y = 0
      · rw [if_pos (by omega)]; simp [hk, hc1, h1]
      · have h3 : ¬ (x + 256 * y = x) := by omega
        rw [if_neg h3]; simp [hk, h1, z0]
theorem j0_eq {b : List Int} {m : Int} (hm : m = 128 ∨ m = 32768) (hb : ∀ z ∈ b, 0 ≤ z ∧ z < 256) (hn : b ≠ []) {c : api_Ctl} (hc : c.Ns = 0 ∧ c.Nr = 0 ∧ c.Poll = false) (k : Nat) : control_Read.j0 (k + 3) b m c = some (numS c.Kind b m) := by
  rcases hm with rfl | rfl
  · exact j0_128 hb hn hc k
  · exact j0_32768 hb hn hc k
theorem modulus_eq (m : Int) : control_modulus.f m = some (decide (m = 128 ∨ m = 32768)) := by
  unfold control_modulus.f
  by_cases h : m = 128 <;> simp [h]
theorem read_eq {b : List Int} (m : Int) (hb : ∀ z ∈ b, 0 ≤ z ∧ z < 256) (k : Nat) : control_Read.f (k + 6) b m = some (readS b m) := by
  unfold control_Read.f readS
  rw [modulus_eq, bsome]
  by_cases hm : m = 128 ∨ m = 32768
  · rw [if_pos (show decide (m = 128 ∨ m = 32768) = true by simpa using hm), if_neg (show ¬ ¬ (m = 128 ∨ m = 32768) from fun h => h hm)]
    by_cases hl : b.length = 0
    · rw [if_pos (show (b.length : Int) = 0 by omega), if_pos hl]; rfl
    · rw [if_neg (show ¬ (b.length : Int) = 0 by omega), if_pos (show 0 ≤ (0 : Int) ∧ (0 : Int) < (b.length : Int) from ⟨by omega, by omega⟩), if_neg hl]
      have hn : b ≠ [] := fun e => hl (by rw [e]; rfl)
      have hx : 0 ≤ b.getD 0 0 ∧ b.getD 0 0 < 256 := by
        cases b with
        | nil => exact absurd rfl hn
        | cons x r => exact hb x (by simp)
      show (control_plain.f).bind _ = _
      unfold control_plain.f
      rw [bsome, show ((0 : Int)).toNat = 0 from rfl, andn16 hx, index_eq, bsome]
      generalize b.getD 0 0 = x at *
      unfold kindOf
      by_cases k1 : base4 x = 111
      · simp only [if_pos k1]; rw [if_pos (by decide), and16 hx]; rfl
      · simp only [if_neg k1]
        by_cases k2 : base4 x = 99
        · simp only [if_pos k2]; rw [if_pos (by decide), and16 hx]; rfl
        · simp only [if_neg k2]
          by_cases k3 : base4 x = 67
          · simp only [if_pos k3]; rw [if_pos (by decide), and16 hx]; rfl
          · simp only [if_neg k3]
            by_cases k4 : base4 x = 15
            · simp only [if_pos k4]; rw [if_pos (by decide), and16 hx]; rfl
            · simp only [if_neg k4]
              by_cases k5 : base4 x = 135
              · simp only [if_pos k5]; rw [if_pos (by decide), and16 hx]; rfl
              · simp only [if_neg k5]
                rw [if_neg (show ¬ (-1 : Int) ≥ 0 by decide), if_neg (show ¬ (0 : Int) ≠ 0 by simp), and1 hx, j0_eq (k := k + 3) hm hb hn ⟨rfl, rfl, rfl⟩, j0_eq (k := k + 3) hm hb hn ⟨rfl, rfl, rfl⟩, j0_eq (k := k + 3) hm hb hn ⟨rfl, rfl, rfl⟩]
                by_cases q1 : x = 1
                · rw [if_pos q1, if_pos q1]
                · rw [if_neg q1, if_neg q1]
                  by_cases q2 : x = 9
                  · rw [if_pos q2, if_pos q2]
                  · rw [if_neg q2, if_neg q2]
                    by_cases q3 : x % 2 = 1
                    · rw [if_pos q3, if_pos q3]; rfl
                    · rw [if_neg q3, if_neg q3]
  · rw [if_neg (show ¬ decide (m = 128 ∨ m = 32768) = true by simpa using hm), if_pos hm]; rfl
theorem kind_even {x : Int} (h : x % 2 = 0) : kindOf (base4 x) = 0 := by
  unfold kindOf base4
  rw [if_neg (by omega), if_neg (by omega), if_neg (by omega), if_neg (by omega), if_neg (by omega)]
theorem enc_byte {c : api_Ctl} {m : Int} (h : rightB c m = true) : ∀ z ∈ enc c m, 0 ≤ z ∧ z < 256 := by
  obtain ⟨hm, hc⟩ := right_cases h
  have hb := pb_b c.Poll
  have hp : ∀ n : Int, ∀ z ∈ pt n m, 0 ≤ z ∧ z < 256 := by
    intro n z hz
    unfold pt at hz
    split at hz <;> simp at hz <;> omega
  have hp2 : ∀ a b : Int, ∀ z ∈ pt a m ++ pt b m, 0 ≤ z ∧ z < 256 := fun a b z hz => (List.mem_append.1 hz).elim (hp a z) (hp b z)
  unfold enc
  split
  · exact hp2 _ _
  · split
    · exact hp2 _ _
    · split
      · exact hp2 _ _
      · intro z hz
        simp at hz
        subst hz
        unfold bareB
        repeat' split
        all_goals omega
theorem read_enc {c : api_Ctl} {m : Int} (h : rightB c m = true) (more : List Int) : readS (enc c m ++ more) m = (c, ((enc c m).length : Int), 0) := by
  obtain ⟨hm, hc⟩ := right_cases h
  have hb := pb_b c.Poll
  have hpd : ∀ y : Int, decide ((2 * y + pb c.Poll) % 2 = 1) = c.Poll := by
    intro y
    unfold pb
    cases c.Poll <;> simp <;> omega
  obtain ⟨K, Ns, Nr, Poll⟩ := c
  simp only at hc hb hpd
  unfold readS
  rw [if_neg (show ¬ ¬ (m = 128 ∨ m = 32768) from fun h => h hm)]
  rcases hc with ⟨rfl, n1, n2⟩ | ⟨k1, rfl, n2⟩ | ⟨k3, k7, rfl, rfl⟩
  · rcases hm with rfl | rfl
    · simp only [enc, if_true, pt, List.cons_append, List.nil_append, List.length_cons, List.getD_cons_zero]
      rw [if_neg (by omega), kind_even (by omega), if_neg (by simp), if_neg (by omega), if_neg (by omega), if_neg (by omega)]
      simp only [numS, if_true, List.length_cons, List.getD_cons_zero, List.getD_cons_succ]
      rw [if_neg (by omega)]
      have e1 : 2 * Ns % 256 / 2 = Ns := by omega
      have e2 : (2 * Nr + pb Poll) % 256 / 2 = Nr := by omega
      have e3 : (2 * Nr + pb Poll) % 256 % 2 = (2 * Nr + pb Poll) % 2 := by omega
      rw [e1, e2, e3, hpd]; rfl
    · simp only [enc, if_true, pt, List.cons_append, List.nil_append, List.length_cons, List.getD_cons_zero, show ¬ (32768 : Int) = 128 by decide, if_false]
      rw [if_neg (by omega), kind_even (by omega), if_neg (by simp), if_neg (by omega), if_neg (by omega), if_neg (by omega)]
      simp only [numS, if_true, List.length_cons, List.getD_cons_zero, List.getD_cons_succ, show ¬ (32768 : Int) = 128 by decide, if_false, true_or]
      rw [if_neg (by omega)]
      have e1 : (2 * Ns % 256 + 256 * (2 * Ns / 256 % 256)) / 2 = Ns := by omega
      have e2 : ((2 * Nr + pb Poll) % 256 + 256 * ((2 * Nr + pb Poll) / 256 % 256)) / 2 = Nr := by omega
      have e3 : ((2 * Nr + pb Poll) % 256 + 256 * ((2 * Nr + pb Poll) / 256 % 256)) % 2 = (2 * Nr + pb Poll) % 2 := by omega
      rw [e1, e2, e3, hpd]; rfl
  · have hk : ∀ n : Int, enc ⟨K, 0, Nr, Poll⟩ m = pt (if K = 1 then 1 else 9) m ++ pt (2 * Nr + pb Poll) m := by
      intro _; rcases k1 with rfl | rfl <;> rfl
    rw [hk 0]
    rcases hm with rfl | rfl
    · rcases k1 with rfl | rfl
      all_goals
        simp only [if_true, pt, List.cons_append, List.nil_append, List.length_cons, List.getD_cons_zero, show ¬ (2 : Int) = 1 by decide, if_false]
        rw [if_neg (by omega), if_neg (by decide)]
        simp only [show ((1 : Int) % 256 = 1) by decide, show ((9 : Int) % 256 = 9) by decide, if_true, show ¬ (9 : Int) = 1 by decide, if_false, numS, List.length_cons, List.getD_cons_zero, List.getD_cons_succ]
        rw [if_neg (by omega)]
        have e2 : (2 * Nr + pb Poll) % 256 / 2 = Nr := by omega
        have e3 : (2 * Nr + pb Poll) % 256 % 2 = (2 * Nr + pb Poll) % 2 := by omega
        rw [e2, e3, hpd]; rfl
    · rcases k1 with rfl | rfl
      all_goals
        simp only [if_true, pt, List.cons_append, List.nil_append, List.length_cons, List.getD_cons_zero, show ¬ (2 : Int) = 1 by decide, if_false, show ¬ (32768 : Int) = 128 by decide]
        rw [if_neg (by omega), if_neg (by decide)]
        simp only [show ((1 : Int) % 256 = 1) by decide, show ((9 : Int) % 256 = 9) by decide, show ((1 : Int) / 256 % 256 = 0) by decide, show ((9 : Int) / 256 % 256 = 0) by decide, if_true, show ¬ (9 : Int) = 1 by decide, if_false, numS, List.length_cons, List.getD_cons_zero, List.getD_cons_succ, show ¬ (32768 : Int) = 128 by decide, or_true]
        rw [if_neg (by omega)]
        have e2 : ((2 * Nr + pb Poll) % 256 + 256 * ((2 * Nr + pb Poll) / 256 % 256)) / 2 = Nr := by omega
        have e3 : ((2 * Nr + pb Poll) % 256 + 256 * ((2 * Nr + pb Poll) / 256 % 256)) % 2 = (2 * Nr + pb Poll) % 2 := by omega
        rw [e2, e3, hpd]; rfl
  · have : K = 3 ∨ K = 4 ∨ K = 5 ∨ K = 6 ∨ K = 7 := by omega
    have hl : ∀ x : Int, ¬ (([x] : List Int) ++ more).length = 0 := by intro x; simp
    rcases this with rfl | rfl | rfl | rfl | rfl <;> cases Poll <;> (simp only [enc, show ∀ a b : Int, (if (a : Int) = b then (1 : Int) else 0) = (if a = b then 1 else 0) from fun _ _ => rfl]; rfl)
theorem sEq_same (a : List Int) : sEq a a = true := sEq_refl a
theorem ControlBytes : signalmanlaw12_ControlBytes.Pure := by
  intro c m more hc hm hmore hlen
  refine ⟨6, ?_⟩
  unfold signalmanlaw12_ControlBytes.f
  rw [alive_eq, bsome, if_pos rfl]
  unfold signalmanlaw12_ControlBytes.j0
  by_cases h50 : (more.length : Int) > 50
  · rw [if_pos (by simpa using h50)]
  · rw [if_neg (by simpa using h50), refright_eq, right_eq]
    unfold signalmanlaw12_ControlBytes.j1
    cases hr : rightB c m with
    | false =>
      rw [bytes_no hr, bsome, bsome, bsome, refbytes_no hr, bsome]
      simp [sEq_same]
    | true =>
      have hl : (enc c m).length ≤ 4 := by
        unfold enc
        have h1 := pt_le (2 * c.Ns) m
        have h2 := pt_le (2 * c.Nr + pb c.Poll) m
        have h3 := pt_le 1 m
        have h4 := pt_le 9 m
        repeat' split
        all_goals simp only [List.length_append, List.length_cons, List.length_nil]; omega
      rw [bytes_eq hr, bsome, bsome, bsome, refbytes_eq hr, bsome]
      have hby : ∀ z ∈ enc c m ++ more, 0 ≤ z ∧ z < 256 := fun z hz => (List.mem_append.1 hz).elim (enc_byte hr z) (fun h => wf8 (hmore z h))
      simp only [sEq_same, List.nil_append, Bool.not_true, bne_self_eq_false, Bool.false_eq_true, if_false, if_true]
      rw [if_pos (by simp; omega), if_pos (by omega), read_eq (k := 0) m hby, bsome, read_enc hr]
      unfold signalmanlaw12_num.f
      rw [bsome, if_pos rfl]
      simp [api_Ctl.beq]
end Go.Proofs.Ytmodmkbjbndfpaa

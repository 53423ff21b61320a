/- ControlReads: Read agrees with the definition for arbitrary bytes: results and errors. Conditions: none beyond those of the given statement. -/
import Derived.Test.YtmodmkbjbndfpaaRunControlReads
import Derived.KernelRfl
set_option linter.all false
namespace Go.Proofs.Ytmodmkbjbndfpaa
open Go.RowKit Go.Proofs.Ytmodmkbjbndfpaa.Walk
theorem bsome {α β : Type} (x : α) (g : α → Option β) : (some x).bind g = g x := Eq.trans (b := g x) rfl (Eq.symm rfl)
theorem u8w (x : Int) : IntKind.u8.wrap x = x % 256 := by
  simp [IntKind.wrap, IntKind.bits, IntKind.signed]
theorem i64nat {x : Int} (h0 : 0 ≤ x) (h1 : x < 9223372036854775808) : BitVec.ofInt 64 x = BitVec.ofNat 64 x.toNat := by
  apply BitVec.eq_of_toNat_eq
  simp [BitVec.toNat_ofInt]
  omega
theorem iand_nat {x y : Int} (h0 : 0 ≤ x) (h1 : x < 9223372036854775808) (h2 : 0 ≤ y) (h3 : y < 9223372036854775808) : iand .i64 x y = ((x.toNat &&& y.toNat : Nat) : Int) := by
  unfold iand
  show IntKind.i64.wrap (BitVec.ofInt 64 x &&& BitVec.ofInt 64 y).toNat = _
  rw [i64nat h0 h1, i64nat h2 h3, BitVec.toNat_and]
  simp only [BitVec.toNat_ofNat]
  rw [Nat.mod_eq_of_lt (by omega), Nat.mod_eq_of_lt (by omega)]
  have h4 : x.toNat &&& y.toNat ≤ x.toNat := Nat.and_le_left
  have := w64_in (n := ((x.toNat &&& y.toNat : Nat) : Int)) (by omega)
  exact this
theorem ior_nat {x y : Int} (h0 : 0 ≤ x) (h1 : x < 9223372036854775808) (h2 : 0 ≤ y) (h3 : y < 9223372036854775808) : ior .i64 x y = ((x.toNat ||| y.toNat : Nat) : Int) := by
  unfold ior
  show IntKind.i64.wrap (BitVec.ofInt 64 x ||| BitVec.ofInt 64 y).toNat = _
  rw [i64nat h0 h1, i64nat h2 h3, BitVec.toNat_or]
  simp only [BitVec.toNat_ofNat]
  rw [Nat.mod_eq_of_lt (by omega), Nat.mod_eq_of_lt (by omega)]
  have h4 : x.toNat ||| y.toNat < 2 ^ 63 := Nat.or_lt_two_pow (by omega) (by omega)
  have := w64_in (n := ((x.toNat ||| y.toNat : Nat) : Int)) (by omega)
  exact this
theorem iand_1 {x : Int} (h0 : 0 ≤ x) (h1 : x < 9223372036854775808) : iand .i64 x 1 = x % 2 := by
  rw [iand_nat h0 h1 (by omega) (by omega)]
  have : x.toNat &&& (1 : Int).toNat = x.toNat % 2 := Nat.and_one_is_mod _
  rw [this]; omega
theorem iand_255 {x : Int} (h0 : 0 ≤ x) (h1 : x < 9223372036854775808) : iand .i64 x 255 = x % 256 := by
  rw [iand_nat h0 h1 (by omega) (by omega)]
  have : x.toNat &&& (255 : Int).toNat = x.toNat % 256 := Nat.and_two_pow_sub_one_eq_mod _ 8
  rw [this]; omega
theorem ior_hi {x y : Int} (h0 : 0 ≤ x) (h1 : x < 256) (h2 : 0 ≤ y) (h3 : y < 36028797018963968) : ior .i64 x (y * 256) = x + 256 * y := by
  rw [ior_nat h0 (by omega) (by omega) (by omega)]
  have e : (y * 256).toNat = 2 ^ 8 * y.toNat := by omega
  have h4 := Nat.two_pow_add_eq_or_of_lt (i := 8) (b := x.toNat) (by omega) y.toNat
  rw [e, Nat.or_comm, ← h4]; omega
theorem ior_hi' {x y : Int} (h0 : 0 ≤ x) (h1 : x < 256) (h2 : 0 ≤ y) (h3 : y < 36028797018963968) : ior .i64 (y * 256) x = x + 256 * y := by
  rw [← ior_hi h0 h1 h2 h3, ior_nat (by omega) (by omega) h0 (by omega), ior_nat h0 (by omega) (by omega) (by omega), Nat.or_comm]
theorem byte_all {p : Int → Prop} (h : ∀ n : Fin 256, p (n.val : Int)) {z : Int} (h0 : 0 ≤ z) (h1 : z < 256) : p z := by
  have := h ⟨z.toNat, by omega⟩
  rwa [show ((z.toNat : Nat) : Int) = z by omega] at this
theorem wf8 {z : Int} (h : (Lit.int .u8 z).wf = true) : 0 ≤ z ∧ z < 256 := by simp [Lit.wf] at h; have := h; simp [IntKind.min, IntKind.max, IntKind.bits, IntKind.signed] at this; omega
theorem wf64 {z : Int} (h : (Lit.int .i64 z).wf = true) : -9223372036854775808 ≤ z ∧ z ≤ 9223372036854775807 := by simp [Lit.wf] at h; have := h; simp [IntKind.min, IntKind.max, IntKind.bits, IntKind.signed] at this; omega
theorem alive_eq : signalmanlaw12_alive.f = some true := by kernel_rfl
def rightB (c : api_Ctl) (m : Int) : Bool :=
  (m == 128 || m == 32768) && (if c.Kind = 0 then decide (0 ≤ c.Ns) && decide (c.Ns < m) && (decide (0 ≤ c.Nr) && decide (c.Nr < m))
    else if c.Kind = 1 ∨ c.Kind = 2 then decide (c.Ns = 0) && (decide (0 ≤ c.Nr) && decide (c.Nr < m)) else decide (3 ≤ c.Kind) && decide (c.Kind ≤ 7) && decide (c.Ns = 0) && decide (c.Nr = 0))
theorem right_eq (c : api_Ctl) (m : Int) : control_Right.f c m = some (rightB c m) := by
  unfold control_Right.f control_Right.j0 control_modulus.f control_of.f rightB
  by_cases h1 : m = 128
  · subst h1
    by_cases k0 : c.Kind = 0
    · by_cases n1 : 0 ≤ c.Ns <;> by_cases n2 : c.Ns < 128 <;> by_cases n3 : 0 ≤ c.Nr <;> by_cases n4 : c.Nr < 128 <;> simp [k0, n1, n2, n3, n4]
    · by_cases k1 : c.Kind = 1
      · by_cases n1 : c.Ns = 0 <;> by_cases n3 : 0 ≤ c.Nr <;> by_cases n4 : c.Nr < 128 <;> simp [k1, n1, n3, n4]
      · by_cases k2 : c.Kind = 2
        · by_cases n1 : c.Ns = 0 <;> by_cases n3 : 0 ≤ c.Nr <;> by_cases n4 : c.Nr < 128 <;> simp [k2, n1, n3, n4]
        · by_cases k3 : 3 ≤ c.Kind <;> by_cases k7 : c.Kind ≤ 7 <;> by_cases n1 : c.Ns = 0 <;> simp [k0, k1, k2, k3, k7, n1]
  · by_cases h2 : m = 32768
    · subst h2
      by_cases k0 : c.Kind = 0
      · by_cases n1 : 0 ≤ c.Ns <;> by_cases n2 : c.Ns < 32768 <;> by_cases n3 : 0 ≤ c.Nr <;> by_cases n4 : c.Nr < 32768 <;> simp [k0, n1, n2, n3, n4]
      · by_cases k1 : c.Kind = 1
        · by_cases n1 : c.Ns = 0 <;> by_cases n3 : 0 ≤ c.Nr <;> by_cases n4 : c.Nr < 32768 <;> simp [k1, n1, n3, n4]
        · by_cases k2 : c.Kind = 2
          · by_cases n1 : c.Ns = 0 <;> by_cases n3 : 0 ≤ c.Nr <;> by_cases n4 : c.Nr < 32768 <;> simp [k2, n1, n3, n4]
          · by_cases k3 : 3 ≤ c.Kind <;> by_cases k7 : c.Kind ≤ 7 <;> by_cases n1 : c.Ns = 0 <;> simp [k0, k1, k2, k3, k7, n1]
    · simp [h1, h2]
def pt (n m : Int) : List Int := if m = 128 then [n % 256] else [n % 256, n / 256 % 256]
def pb (b : Bool) : Int := if b = true then 1 else 0
def bareB (k : Int) : Int := if k = 3 then 111 else if k = 4 then 99 else if k = 5 then 67 else if k = 6 then 15 else 135
/-- The encoding. -/
def enc (c : api_Ctl) (m : Int) : List Int :=
  if c.Kind = 0 then pt (2 * c.Ns) m ++ pt (2 * c.Nr + pb c.Poll) m
  else if c.Kind = 1 then pt 1 m ++ pt (2 * c.Nr + pb c.Poll) m
  else if c.Kind = 2 then pt 9 m ++ pt (2 * c.Nr + pb c.Poll) m
  else [bareB c.Kind + 16 * pb c.Poll]
theorem pb_b (b : Bool) : 0 ≤ pb b ∧ pb b ≤ 1 := by unfold pb; split <;> omega
/-- What a right field is. -/
theorem right_cases {c : api_Ctl} {m : Int} (h : rightB c m = true) : (m = 128 ∨ m = 32768) ∧ ((c.Kind = 0 ∧ (0 ≤ c.Ns ∧ c.Ns < m) ∧ 0 ≤ c.Nr ∧ c.Nr < m) ∨ ((c.Kind = 1 ∨ c.Kind = 2) ∧ c.Ns = 0 ∧ 0 ≤ c.Nr ∧ c.Nr < m) ∨ (3 ≤ c.Kind ∧ c.Kind ≤ 7 ∧ c.Ns = 0 ∧ c.Nr = 0)) := by
  unfold rightB at h
  simp only [Bool.and_eq_true, Bool.or_eq_true, beq_iff_eq] at h
  obtain ⟨h1, h2⟩ := h
  refine ⟨h1, ?_⟩
  by_cases k0 : c.Kind = 0
  · rw [if_pos k0] at h2; simp at h2; left; omega
  · rw [if_neg k0] at h2
    by_cases k1 : c.Kind = 1 ∨ c.Kind = 2
    · rw [if_pos k1] at h2; simp at h2; right; left; omega
    · rw [if_neg k1] at h2; simp at h2; right; right; omega
theorem bit_eq (b : Bool) : control_bit.f b = some (pb b) := by unfold control_bit.f pb; split <;> rfl
theorem fd8 (n : Int) : n.fdiv (2 ^ (min ((8 : Int)).toNat IntKind.i64.bits)) = n / 256 := by
  have : (2 : Int) ^ (min ((8 : Int)).toNat IntKind.i64.bits) = 256 := by decide
  rw [this, Int.fdiv_eq_ediv_of_nonneg _ (by omega)]
theorem put_eq {l : List Int} {n m : Int} (hl : l.length ≤ 100) (hm : m = 128 ∨ m = 32768) : control_put.f l n m = some (l ++ pt n m) := by
  unfold control_put.f pt
  have h2 : (l.length : Int) ≤ 100 := by omega
  rw [if_pos (by simp; omega), u8w, fd8]
  rcases hm with rfl | rfl
  · simp
  · simp only [if_true]
    rw [if_pos (by simp; omega), u8w]; simp
theorem pt_len (n : Int) {m : Int} (hm : m = 128 ∨ m = 32768) : (pt n m).length = if m = 128 then 1 else 2 := by
  unfold pt; split <;> rfl
theorem pt_le (n m : Int) : (pt n m).length ≤ 2 := by unfold pt; split <;> simp
theorem bytes_no {c : api_Ctl} {m : Int} (h : rightB c m = false) : control_Bytes.f c m = some [] := by
  unfold control_Bytes.f
  simp [right_eq, h]
theorem bare_k {k : Int} (h : 3 ≤ k ∧ k ≤ 7) : k = 3 ∨ k = 4 ∨ k = 5 ∨ k = 6 ∨ k = 7 := by omega
theorem bytes_eq {c : api_Ctl} {m : Int} (h : rightB c m = true) : control_Bytes.f c m = some (enc c m) := by
  obtain ⟨hm, hc⟩ := right_cases h
  have hb := pb_b c.Poll
  have hmm : 0 ≤ m ∧ m ≤ 32768 := by omega
  have p2 : ∀ x n : Int, control_put.f (pt x m) n m = some (pt x m ++ pt n m) := fun x n => put_eq (by have := pt_le x m; omega) hm
  have p1 : ∀ n : Int, control_put.f [] n m = some (pt n m) := fun n => put_eq (by simp) hm
  unfold control_Bytes.f
  simp only [right_eq, h, bsome, if_true, bit_eq, p1, p2]
  rcases hc with ⟨k0, n1, n2⟩ | ⟨k1, n1, n2⟩ | ⟨k3, k7, n1, n2⟩
  · have e1 : w64 (2 * c.Ns) = 2 * c.Ns := w64_in ⟨by omega, by omega⟩
    have e2 : w64 (2 * c.Nr) = 2 * c.Nr := w64_in ⟨by omega, by omega⟩
    have e3 : w64 (2 * c.Nr + pb c.Poll) = 2 * c.Nr + pb c.Poll := w64_in ⟨by omega, by omega⟩
    simp only [if_pos k0, e1, e2, e3, enc]
  · have k0 : ¬ c.Kind = 0 := by omega
    have e2 : w64 (2 * c.Nr) = 2 * c.Nr := w64_in ⟨by omega, by omega⟩
    have e3 : w64 (2 * c.Nr + pb c.Poll) = 2 * c.Nr + pb c.Poll := w64_in ⟨by omega, by omega⟩
    rcases k1 with k1 | k1
    · simp only [if_neg k0, if_pos k1, e2, e3, enc]
    · have k2 : ¬ c.Kind = 1 := by omega
      simp only [if_neg k0, if_neg k2, if_pos k1, e2, e3, enc]
  · have k0 : ¬ c.Kind = 0 := by omega
    have k1 : ¬ c.Kind = 1 := by omega
    have k2 : ¬ c.Kind = 2 := by omega
    simp only [if_neg k0, if_neg k1, if_neg k2, enc]
    generalize hp : c.Poll = p
    rcases bare_k ⟨k3, k7⟩ with e | e | e | e | e <;> rw [e] <;> cases p <;> decide +kernel
/-! ### Read. -/
def z0 : api_Ctl := { Kind := 0, Ns := 0, Nr := 0, Poll := false }
/-- The kind that a byte without Poll tells; 0: none. -/
def kindOf (x : Int) : Int := if x = 111 then 3 else if x = 99 then 4 else if x = 67 then 5 else if x = 15 then 6 else if x = 135 then 7 else 0
def poll4 (x : Int) : Bool := decide (x / 16 % 2 = 1)
def base4 (x : Int) : Int := x - 16 * (x / 16 % 2)
/-- A field with numbers. -/
def numS (kind : Int) (b : List Int) (m : Int) : api_Ctl × Int × Int :=
  if m = 128 then
    if (b.length : Int) < 2 then (z0, 0, 3)
    else ({ Kind := kind, Ns := if kind = 0 then b.getD 0 0 / 2 else 0, Nr := b.getD 1 0 / 2, Poll := decide (b.getD 1 0 % 2 = 1) }, 2, 0)
  else
    if (b.length : Int) < 4 then (z0, 0, 3)
    else if kind = 0 ∨ b.getD 1 0 = 0 then ({ Kind := kind, Ns := if kind = 0 then (b.getD 0 0 + 256 * b.getD 1 0) / 2 else 0, Nr := (b.getD 2 0 + 256 * b.getD 3 0) / 2, Poll := decide ((b.getD 2 0 + 256 * b.getD 3 0) % 2 = 1) }, 4, 0)
    else (z0, 0, 2)
def readS (b : List Int) (m : Int) : api_Ctl × Int × Int :=
  if ¬ (m = 128 ∨ m = 32768) then (z0, 0, 1)
  else if b.length = 0 then (z0, 0, 3)
  else if kindOf (base4 (b.getD 0 0)) ≠ 0 then ({ Kind := kindOf (base4 (b.getD 0 0)), Ns := 0, Nr := 0, Poll := poll4 (b.getD 0 0) }, 1, 0)
  else if b.getD 0 0 = 1 then numS 1 b m
  else if b.getD 0 0 = 9 then numS 2 b m
  else if b.getD 0 0 % 2 = 1 then (z0, 0, 2)
  else numS 0 b m
theorem index_eq (k : Nat) (x : Int) : slices_Index_Sbytebyte.f (k + 6) [111, 99, 67, 15, 135] x = some (if x = 111 then 0 else if x = 99 then 1 else if x = 67 then 2 else if x = 15 then 3 else if x = 135 then 4 else -1) := by
  unfold slices_Index_Sbytebyte.f
  simp only [slices_Index_Sbytebyte.l0, List.length_cons, List.length_nil]
  have e1 : w64 (0 + 1) = 1 := by decide
  have e2 : w64 (1 + 1) = 2 := by decide
  have e3 : w64 (2 + 1) = 3 := by decide
  have e4 : w64 (3 + 1) = 4 := by decide
  have e5 : w64 (4 + 1) = 5 := by decide
  simp only [e1, e2, e3, e4, e5]
  by_cases h1 : x = 111
  · simp [h1]
  · by_cases h2 : x = 99
    · simp [h2]
    · by_cases h3 : x = 67
      · simp [h3]
      · by_cases h4 : x = 15
        · simp [h4]
        · by_cases h5 : x = 135
          · simp [h5]
          · simp [h1, h2, h3, h4, h5]
theorem andn16 {z : Int} (h : 0 ≤ z ∧ z < 256) : iandn .u8 z 16 = base4 z := byte_all (p := fun z => iandn .u8 z 16 = base4 z) (by decide +kernel) h.1 h.2
theorem and16 {z : Int} (h : 0 ≤ z ∧ z < 256) : (!(decide (iand .u8 z 16 = 0))) = poll4 z := byte_all (p := fun z => (!(decide (iand .u8 z 16 = 0))) = poll4 z) (by decide +kernel) h.1 h.2
theorem and1 {z : Int} (h : 0 ≤ z ∧ z < 256) : iand .u8 z 1 = z % 2 := byte_all (p := fun z => iand .u8 z 1 = z % 2) (by decide +kernel) h.1 h.2
theorem number_l0 (k : Nat) (b : List Int) (n : Int) {i : Int} (h0 : 0 ≤ i) (h1 : i < (b.length : Int)) (hi : i ≤ 100) : control_number.l0 (k + 1) b n i = control_number.l0 k b (ior .i64 n (w64 (w64 (b.getD i.toNat 0) * 2 ^ (min (8 * i).toNat IntKind.i64.bits)))) (i + 1) := by
  have e1 : w64 (8 * i) = 8 * i := w64_in ⟨by omega, by omega⟩
  have e2 : w64 (i + 1) = i + 1 := w64_in ⟨by omega, by omega⟩
  rw [control_number.l0, if_pos h1, if_pos ⟨h0, h1⟩, e1, if_pos (by omega), e2]
theorem number_end (k : Nat) (b : List Int) (n : Int) {i : Int} (h1 : ¬ i < (b.length : Int)) : control_number.l0 (k + 1) b n i = some n := by
  rw [control_number.l0, if_neg h1]
theorem num1 {x : Int} (hx : 0 ≤ x ∧ x < 256) (k : Nat) : control_number.f (k + 3) [x] = some x := by
  unfold control_number.f
  have e3 : w64 (w64 x * 2 ^ (min (8 * (0 : Int)).toNat IntKind.i64.bits)) = x := by
    rw [w64_in (n := x) (by omega), show (2 : Int) ^ (min (8 * (0 : Int)).toNat IntKind.i64.bits) = 1 by decide, w64_in (by omega)]; omega
  have e4 : ior .i64 0 x = x := by rw [ior_nat (by omega) (by omega) (by omega) (by omega)]; simp; omega
  rw [number_l0 _ _ _ (by omega) (by simp) (by omega), number_end _ _ _ (by simp)]
  show some (ior .i64 0 (w64 (w64 x * 2 ^ (min (8 * (0 : Int)).toNat IntKind.i64.bits)))) = some x
  rw [e3, e4]
theorem num2 {x y : Int} (hx : 0 ≤ x ∧ x < 256) (hy : 0 ≤ y ∧ y < 256) (k : Nat) : control_number.f (k + 3) [x, y] = some (x + 256 * y) := by
  unfold control_number.f
  have e3 : w64 (w64 x * 2 ^ (min (8 * (0 : Int)).toNat IntKind.i64.bits)) = x := by
    rw [w64_in (n := x) (by omega), show (2 : Int) ^ (min (8 * (0 : Int)).toNat IntKind.i64.bits) = 1 by decide, w64_in (by omega)]; omega
  have e5 : w64 (w64 y * 2 ^ (min (8 * (0 + 1 : Int)).toNat IntKind.i64.bits)) = y * 256 := by
    rw [w64_in (n := y) (by omega), show (2 : Int) ^ (min (8 * (0 + 1 : Int)).toNat IntKind.i64.bits) = 256 by decide, w64_in (by omega)]
  have e4 : ior .i64 0 x = x := by rw [ior_nat (by omega) (by omega) (by omega) (by omega)]; simp; omega
  have e6 : ior .i64 x (y * 256) = x + 256 * y := ior_hi hx.1 hx.2 hy.1 (by omega)
  rw [number_l0 _ _ _ (by omega) (by simp) (by omega), number_l0 _ _ _ (by omega) (by simp) (by omega), number_end _ _ _ (by simp)]
  show some (ior .i64 (ior .i64 0 (w64 (w64 x * 2 ^ (min (8 * (0 : Int)).toNat IntKind.i64.bits)))) (w64 (w64 y * 2 ^ (min (8 * (0 + 1 : Int)).toNat IntKind.i64.bits)))) = some (x + 256 * y)
  rw [e3, e4, e5, e6]
theorem td2 {x : Int} (h : 0 ≤ x ∧ x < 65536) : w64 (x.tdiv 2) = x / 2 := by
  rw [Int.tdiv_eq_ediv_of_nonneg h.1, w64_in (by omega)]
theorem put0 {m : Int} (hm : m = 128 ∨ m = 32768) : control_put.f [] 0 m = some (pt 0 m) := put_eq (l := []) (by simp) hm
/-- Lists by their first four. -/
theorem list4 (b : List Int) : b = [] ∨ (∃ x, b = [x]) ∨ (∃ x y, b = [x, y]) ∨ (∃ x y z, b = [x, y, z]) ∨ ∃ x y z u r, b = x :: y :: z :: u :: r := by
  match b with
  | [] => exact .inl rfl
  | [x] => exact .inr (.inl ⟨x, rfl⟩)
  | [x, y] => exact .inr (.inr (.inl ⟨x, y, rfl⟩))
  | [x, y, z] => exact .inr (.inr (.inr (.inl ⟨x, y, z, rfl⟩)))
  | x :: y :: z :: u :: r => exact .inr (.inr (.inr (.inr ⟨x, y, z, u, r, rfl⟩)))
theorem j0_128 {b : List Int} (hb : ∀ z ∈ b, 0 ≤ z ∧ z < 256) (hn : b ≠ []) {c : api_Ctl} (hc : c.Ns = 0 ∧ c.Nr = 0 ∧ c.Poll = false) (k : Nat) : control_Read.j0 (k + 3) b 128 c = some (numS c.Kind b 128) := by
  unfold control_Read.j0 numS
  rw [put0 (.inl rfl), bsome]
  have e2 : w64 (2 * 1) = 2 := by decide
  have ep : ((pt 0 128).length : Int) = 1 := by decide
  obtain ⟨hc1, hc2, hc3⟩ := hc
  cases b with
  | nil => exact absurd rfl hn
  | cons x b => cases b with
    | nil => rw [ep, e2, if_pos (by simp), if_pos rfl, if_pos (by simp)]; rfl
    | cons y r =>
      have hx := hb x (by simp)
      have hy := hb y (by simp)
      have hl : (2 : Int) ≤ ((x :: y :: r).length : Int) := by simp only [List.length_cons]; omega
      have c1 : cut (x :: y :: r) 0 1 = [x] := by simp [cut]
      have c2 : cut (x :: y :: r) 1 2 = [y] := by simp [cut]
      rw [ep, e2, if_neg (by omega), if_pos ⟨by omega, by omega, by omega⟩, if_pos ⟨by omega, by omega, hl⟩, c1, c2, num1 hx, bsome, num1 hy, bsome, td2 (by omega), td2 (by omega), iand_1 (by omega) (by omega), if_pos (show (128 : Int) = 128 from rfl), if_neg (show ¬ ((x :: y :: r).length : Int) < 2 by omega)]
      have ew : w64 x = x := w64_in (by omega)
      by_cases hk : c.Kind = 0
      · simp [hk]
      · have e0 : (x :: y :: r).getD ((0 : Int)).toNat 0 = x := rfl
        rw [if_neg hk, e0, ew, if_pos rfl]
        simp [hk, hc1]
theorem j0_32768 {b : List Int} (hb : ∀ z ∈ b, 0 ≤ z ∧ z < 256) (hn : b ≠ []) {c : api_Ctl} (hc : c.Ns = 0 ∧ c.Nr = 0 ∧ c.Poll = false) (k : Nat) : control_Read.j0 (k + 3) b 32768 c = some (numS c.Kind b 32768) := by
  unfold control_Read.j0 numS
  rw [put0 (.inr rfl), bsome]
  have e2 : w64 (2 * 2) = 4 := by decide
  obtain ⟨hc1, hc2, hc3⟩ := hc
  rcases list4 b with rfl | ⟨x, rfl⟩ | ⟨x, y, rfl⟩ | ⟨x, y, z, rfl⟩ | ⟨x, y, z, u, r, rfl⟩
  · exact absurd rfl hn
  · rw [show ((pt 0 32768).length : Int) = 2 by decide, e2, if_pos (by simp), if_neg (by decide), if_pos (by simp)]; rfl
  · rw [show ((pt 0 32768).length : Int) = 2 by decide, e2, if_pos (by simp), if_neg (by decide), if_pos (by simp)]; rfl
  · rw [show ((pt 0 32768).length : Int) = 2 by decide, e2, if_pos (by simp), if_neg (by decide), if_pos (by simp)]; rfl
  · have hx := hb x (by simp)
    have hy := hb y (by simp)
    have hz := hb z (by simp)
    have hu := hb u (by simp)
    have hl : (4 : Int) ≤ ((x :: y :: z :: u :: r).length : Int) := by simp only [List.length_cons]; omega
    have c1 : cut (x :: y :: z :: u :: r) 0 2 = [x, y] := by simp [cut]
    have c2 : cut (x :: y :: z :: u :: r) 2 4 = [z, u] := by simp [cut]
    have ep : ((pt 0 32768).length : Int) = 2 := by decide
    rw [ep, e2, if_neg (by omega), if_pos ⟨by omega, by omega, by omega⟩, if_pos ⟨by omega, by omega, hl⟩, c1, c2, num2 hx hy, bsome, num2 hz hu, bsome, td2 (by omega), td2 (by omega), iand_1 (by omega) (by omega), if_neg (show ¬ (32768 : Int) = 128 by decide), if_neg (show ¬ ((x :: y :: z :: u :: r).length : Int) < 4 by omega)]
    have ew : w64 x = x := w64_in (by omega)
    have e0 : (x :: y :: z :: u :: r).getD ((0 : Int)).toNat 0 = x := rfl
    by_cases hk : c.Kind = 0
    · simp [hk]
    · rw [if_neg hk, e0, ew]
      by_cases h1 : y = 0
      · rw [if_pos (by omega)]; simp [hk, hc1, h1]
      · have h3 : ¬ (x + 256 * y = x) := by omega
        rw [if_neg h3]; simp [hk, h1, z0]
theorem j0_eq {b : List Int} {m : Int} (hm : m = 128 ∨ m = 32768) (hb : ∀ z ∈ b, 0 ≤ z ∧ z < 256) (hn : b ≠ []) {c : api_Ctl} (hc : c.Ns = 0 ∧ c.Nr = 0 ∧ c.Poll = false) (k : Nat) : control_Read.j0 (k + 3) b m c = some (numS c.Kind b m) := by
  rcases hm with rfl | rfl
  · exact j0_128 hb hn hc k
  · exact j0_32768 hb hn hc k
theorem modulus_eq (m : Int) : control_modulus.f m = some (decide (m = 128 ∨ m = 32768)) := by
  unfold control_modulus.f
  by_cases h : m = 128 <;> simp [h]
theorem read_eq {b : List Int} (m : Int) (hb : ∀ z ∈ b, 0 ≤ z ∧ z < 256) (k : Nat) : control_Read.f (k + 6) b m = some (readS b m) := by
  unfold control_Read.f readS
  rw [modulus_eq, bsome]
  by_cases hm : m = 128 ∨ m = 32768
  · rw [if_pos (show decide (m = 128 ∨ m = 32768) = true by simpa using hm), if_neg (show ¬ ¬ (m = 128 ∨ m = 32768) from fun h => h hm)]
    by_cases hl : b.length = 0
    · rw [if_pos (show (b.length : Int) = 0 by omega), if_pos hl]; rfl
    · rw [if_neg (show ¬ (b.length : Int) = 0 by omega), if_pos (show 0 ≤ (0 : Int) ∧ (0 : Int) < (b.length : Int) from ⟨by omega, by omega⟩), if_neg hl]
      have hn : b ≠ [] := fun e => hl (by rw [e]; rfl)
      have hx : 0 ≤ b.getD 0 0 ∧ b.getD 0 0 < 256 := by
        cases b with
        | nil => exact absurd rfl hn
        | cons x r => exact hb x (by simp)
      show (control_plain.f).bind _ = _
      unfold control_plain.f
      rw [bsome, show ((0 : Int)).toNat = 0 from rfl, andn16 hx, index_eq, bsome]
      generalize b.getD 0 0 = x at *
      unfold kindOf
      by_cases k1 : base4 x = 111
      · simp only [if_pos k1]; rw [if_pos (by decide), and16 hx]; rfl
      · simp only [if_neg k1]
        by_cases k2 : base4 x = 99
        · simp only [if_pos k2]; rw [if_pos (by decide), and16 hx]; rfl
        · simp only [if_neg k2]
          by_cases k3 : base4 x = 67
          · simp only [if_pos k3]; rw [if_pos (by decide), and16 hx]; rfl
          · simp only [if_neg k3]
            by_cases k4 : base4 x = 15
            · simp only [if_pos k4]; rw [if_pos (by decide), and16 hx]; rfl
            · simp only [if_neg k4]
              by_cases k5 : base4 x = 135
              · simp only [if_pos k5]; rw [if_pos (by decide), and16 hx]; rfl
              · simp only [if_neg k5]
                rw [if_neg (show ¬ (-1 : Int) ≥ 0 by decide), if_neg (show ¬ (0 : Int) ≠ 0 by simp), and1 hx, j0_eq (k := k + 3) hm hb hn ⟨rfl, rfl, rfl⟩, j0_eq (k := k + 3) hm hb hn ⟨rfl, rfl, rfl⟩, j0_eq (k := k + 3) hm hb hn ⟨rfl, rfl, rfl⟩]
                by_cases q1 : x = 1
                · rw [if_pos q1, if_pos q1]
                · rw [if_neg q1, if_neg q1]
                  by_cases q2 : x = 9
                  · rw [if_pos q2, if_pos q2]
                  · rw [if_neg q2, if_neg q2]
                    by_cases q3 : x % 2 = 1
                    · rw [if_pos q3, if_pos q3]; rfl
                    · rw [if_neg q3, if_neg q3]
  · rw [if_neg (show ¬ decide (m = 128 ∨ m = 32768) = true by simpa using hm), if_pos hm]; rfl
/-! ### The definition's Read. -/
theorem bare_eq {K : Int} (h : 3 ≤ K ∧ K ≤ 7) : signalmanref6_bare.f K = some (bareB K) := by
  rcases bare_k h with rfl | rfl | rfl | rfl | rfl <;> decide +kernel
theorem bareB_b (K : Int) : 0 ≤ bareB K ∧ bareB K < 200 := by
  unfold bareB
  repeat' split
  all_goals omega
theorem l2_eq {b : List Int} (m : Int) (hb : ∀ z ∈ b, 0 ≤ z ∧ z < 256) (hn : b ≠ []) {K : Int} (hK : 3 ≤ K ∧ K ≤ 7) (k : Nat) : signalmanref6_ReadCtl.l2 (k + 3) b m K 0 =
    if b.getD 0 0 = bareB K then some (({ Kind := K, Ns := 0, Nr := 0, Poll := false } : api_Ctl), 1, 0) else if b.getD 0 0 = bareB K + 16 then some (({ Kind := K, Ns := 0, Nr := 0, Poll := true } : api_Ctl), 1, 0) else signalmanref6_ReadCtl.l1 k b m (K + 1) := by
  have hx : 0 ≤ b.getD 0 0 ∧ b.getD 0 0 < 256 := by
    cases b with
    | nil => exact absurd rfl hn
    | cons x r => exact hb x (by simp)
  have hl : 0 < b.length := List.length_pos_iff.2 hn
  have hB := bareB_b K
  have e0 : ((0 : Int)).toNat = 0 := rfl
  have e1 : w64 (b.getD 0 0) = b.getD 0 0 := w64_in ⟨by omega, by omega⟩
  have e2 : w64 (16 * 0) = 0 := by decide
  have e3 : w64 (16 * 1) = 16 := by decide
  have e4 : w64 (bareB K + 0) = bareB K := by rw [w64_in ⟨by omega, by omega⟩]; omega
  have e5 : w64 (bareB K + 16) = bareB K + 16 := w64_in ⟨by omega, by omega⟩
  have e6 : w64 (0 + 1) = 1 := by decide
  have e7 : w64 (1 + 1) = 2 := by decide
  have e8 : w64 (K + 1) = K + 1 := w64_in ⟨by omega, by omega⟩
  rw [signalmanref6_ReadCtl.l2, if_pos (by decide), if_pos (show 0 ≤ (0 : Int) ∧ (0 : Int) < (b.length : Int) from ⟨by omega, by omega⟩), bare_eq hK, bsome, e0, e1, e2, e4, e6]
  by_cases h1 : b.getD 0 0 = bareB K
  · rw [if_pos h1, if_pos h1]; rfl
  · rw [if_neg h1, if_neg h1, signalmanref6_ReadCtl.l2, if_pos (by decide), if_pos (show 0 ≤ (0 : Int) ∧ (0 : Int) < (b.length : Int) from ⟨by omega, by omega⟩), bare_eq hK, bsome, e0, e1, e3, e5, e7]
    by_cases h2 : b.getD 0 0 = bareB K + 16
    · rw [if_pos h2, if_pos h2]; rfl
    · rw [if_neg h2, if_neg h2, signalmanref6_ReadCtl.l2, if_neg (by decide), e8]
theorem j3_eq {b : List Int} {m : Int} (hm : m = 128 ∨ m = 32768) (hb : ∀ z ∈ b, 0 ≤ z ∧ z < 256) (hn : b ≠ []) (h1 : b.getD 0 0 = 1) : (if m = 128 then signalmanref6_ReadCtl.j3 b 1 else signalmanref6_ReadCtl.j3 b 2) = some (numS 1 b m) := by
  unfold signalmanref6_ReadCtl.j3 signalmanref6_ReadCtl.j4 signalmanref6_ReadCtl.j5 numS
  have e2 : w64 (2 * 1) = 2 := by decide
  have e4 : w64 (2 * 2) = 4 := by decide
  rcases hm with rfl | rfl
  · rw [if_pos (show (128 : Int) = 128 from rfl), if_pos (show (128 : Int) = 128 from rfl), e2]
    cases b with
    | nil => exact absurd rfl hn
    | cons x b => cases b with
      | nil => rfl
      | cons y r =>
        have hy := hb y (by simp)
        have hl : ¬ ((x :: y :: r).length : Int) < 2 := by simp only [List.length_cons]; omega
        have ey : w64 y = y := w64_in ⟨by omega, by omega⟩
        rw [if_neg hl, if_neg hl, if_pos ⟨by omega, by omega⟩, if_neg (by decide), if_neg (by decide), if_neg (by decide)]
        simp [ey, td2 (x := y) (by omega), Int.tmod_eq_emod_of_nonneg hy.1]
  · rw [if_neg (show ¬ (32768 : Int) = 128 by decide), if_neg (show ¬ (32768 : Int) = 128 by decide), e4]
    rcases list4 b with rfl | ⟨x, rfl⟩ | ⟨x, y, rfl⟩ | ⟨x, y, z, rfl⟩ | ⟨x, y, z, u, r, rfl⟩
    · exact absurd rfl hn
    · rfl
    · rfl
    · rfl
    · have hy := hb y (by simp)
      have hz := hb z (by simp)
      have hu := hb u (by simp)
      have hl : ¬ ((x :: y :: z :: u :: r).length : Int) < 4 := by simp only [List.length_cons]; omega
      have ez : w64 z = z := w64_in ⟨by omega, by omega⟩
      have eu : w64 u = u := w64_in ⟨by omega, by omega⟩
      have eu2 : w64 (256 * u) = 256 * u := w64_in ⟨by omega, by omega⟩
      have ezu : w64 (z + 256 * u) = z + 256 * u := w64_in ⟨by omega, by omega⟩
      rw [if_neg hl, if_neg hl, if_pos ⟨by omega, by omega⟩, if_pos rfl, if_pos ⟨by omega, by omega⟩, if_pos ⟨by omega, by omega⟩, if_pos rfl, if_pos ⟨by omega, by omega⟩]
      have g2 : (x :: y :: z :: u :: r).getD ((2 : Int)).toNat 0 = z := rfl
      have g3 : (x :: y :: z :: u :: r).getD ((3 : Int)).toNat 0 = u := rfl
      have g1 : (x :: y :: z :: u :: r).getD ((1 : Int)).toNat 0 = y := rfl
      rw [g1, g2, g3, ez, eu, eu2, ezu, td2 (by omega), Int.tmod_eq_emod_of_nonneg (by omega)]
      by_cases h : y = 0
      · simp [h]
      · simp [h, z0]
theorem j6_eq {b : List Int} {m : Int} (hm : m = 128 ∨ m = 32768) (hb : ∀ z ∈ b, 0 ≤ z ∧ z < 256) (hn : b ≠ []) (h1 : b.getD 0 0 = 9) : (if m = 128 then signalmanref6_ReadCtl.j6 b 1 else signalmanref6_ReadCtl.j6 b 2) = some (numS 2 b m) := by
  unfold signalmanref6_ReadCtl.j6 signalmanref6_ReadCtl.j7 signalmanref6_ReadCtl.j8 numS
  have e2 : w64 (2 * 1) = 2 := by decide
  have e4 : w64 (2 * 2) = 4 := by decide
  rcases hm with rfl | rfl
  · rw [if_pos (show (128 : Int) = 128 from rfl), if_pos (show (128 : Int) = 128 from rfl), e2]
    cases b with
    | nil => exact absurd rfl hn
    | cons x b => cases b with
      | nil => rfl
      | cons y r =>
        have hy := hb y (by simp)
        have hl : ¬ ((x :: y :: r).length : Int) < 2 := by simp only [List.length_cons]; omega
        have ey : w64 y = y := w64_in ⟨by omega, by omega⟩
        rw [if_neg hl, if_neg hl, if_pos ⟨by omega, by omega⟩, if_neg (by decide), if_neg (by decide), if_neg (by decide)]
        simp [ey, td2 (x := y) (by omega), Int.tmod_eq_emod_of_nonneg hy.1]
  · rw [if_neg (show ¬ (32768 : Int) = 128 by decide), if_neg (show ¬ (32768 : Int) = 128 by decide), e4]
    rcases list4 b with rfl | ⟨x, rfl⟩ | ⟨x, y, rfl⟩ | ⟨x, y, z, rfl⟩ | ⟨x, y, z, u, r, rfl⟩
    · exact absurd rfl hn
    · rfl
    · rfl
    · rfl
    · have hy := hb y (by simp)
      have hz := hb z (by simp)
      have hu := hb u (by simp)
      have hl : ¬ ((x :: y :: z :: u :: r).length : Int) < 4 := by simp only [List.length_cons]; omega
      have ez : w64 z = z := w64_in ⟨by omega, by omega⟩
      have eu : w64 u = u := w64_in ⟨by omega, by omega⟩
      have eu2 : w64 (256 * u) = 256 * u := w64_in ⟨by omega, by omega⟩
      have ezu : w64 (z + 256 * u) = z + 256 * u := w64_in ⟨by omega, by omega⟩
      rw [if_neg hl, if_neg hl, if_pos ⟨by omega, by omega⟩, if_pos rfl, if_pos ⟨by omega, by omega⟩, if_pos ⟨by omega, by omega⟩, if_pos rfl, if_pos ⟨by omega, by omega⟩]
      have g2 : (x :: y :: z :: u :: r).getD ((2 : Int)).toNat 0 = z := rfl
      have g3 : (x :: y :: z :: u :: r).getD ((3 : Int)).toNat 0 = u := rfl
      have g1 : (x :: y :: z :: u :: r).getD ((1 : Int)).toNat 0 = y := rfl
      rw [g1, g2, g3, ez, eu, eu2, ezu, td2 (by omega), Int.tmod_eq_emod_of_nonneg (by omega)]
      by_cases h : y = 0
      · simp [h]
      · simp [h, z0]
theorem j9_eq {b : List Int} {m : Int} (hm : m = 128 ∨ m = 32768) (hb : ∀ z ∈ b, 0 ≤ z ∧ z < 256) (hn : b ≠ []) : (if m = 128 then signalmanref6_ReadCtl.j9 b 1 else signalmanref6_ReadCtl.j9 b 2) = some (numS 0 b m) := by
  unfold signalmanref6_ReadCtl.j9 signalmanref6_ReadCtl.j10 numS
  have e2 : w64 (2 * 1) = 2 := by decide
  have e4 : w64 (2 * 2) = 4 := by decide
  rcases hm with rfl | rfl
  · rw [if_pos (show (128 : Int) = 128 from rfl), if_pos (show (128 : Int) = 128 from rfl), e2]
    cases b with
    | nil => exact absurd rfl hn
    | cons x b => cases b with
      | nil => rfl
      | cons y r =>
        have hx := hb x (by simp)
        have hy := hb y (by simp)
        have hl : ¬ ((x :: y :: r).length : Int) < 2 := by simp only [List.length_cons]; omega
        have ey : w64 y = y := w64_in ⟨by omega, by omega⟩
        have ex : w64 x = x := w64_in ⟨by omega, by omega⟩
        rw [if_neg hl, if_neg hl, if_pos ⟨by omega, by omega⟩, if_neg (by decide)]
        simp [ex, ey, td2 (x := y) (by omega), td2 (x := x) (by omega), Int.tmod_eq_emod_of_nonneg hy.1]
  · rw [if_neg (show ¬ (32768 : Int) = 128 by decide), if_neg (show ¬ (32768 : Int) = 128 by decide), e4]
    rcases list4 b with rfl | ⟨x, rfl⟩ | ⟨x, y, rfl⟩ | ⟨x, y, z, rfl⟩ | ⟨x, y, z, u, r, rfl⟩
    · exact absurd rfl hn
    · rfl
    · rfl
    · rfl
    · have hx := hb x (by simp)
      have hy := hb y (by simp)
      have hz := hb z (by simp)
      have hu := hb u (by simp)
      have hl : ¬ ((x :: y :: z :: u :: r).length : Int) < 4 := by simp only [List.length_cons]; omega
      have ez : w64 z = z := w64_in ⟨by omega, by omega⟩
      have eu : w64 u = u := w64_in ⟨by omega, by omega⟩
      have eu2 : w64 (256 * u) = 256 * u := w64_in ⟨by omega, by omega⟩
      have ezu : w64 (z + 256 * u) = z + 256 * u := w64_in ⟨by omega, by omega⟩
      have ex : w64 x = x := w64_in ⟨by omega, by omega⟩
      have ey : w64 y = y := w64_in ⟨by omega, by omega⟩
      have ey2 : w64 (256 * y) = 256 * y := w64_in ⟨by omega, by omega⟩
      have exy : w64 (x + 256 * y) = x + 256 * y := w64_in ⟨by omega, by omega⟩
      rw [if_neg hl, if_neg hl, if_pos ⟨by omega, by omega⟩, if_pos rfl, if_pos ⟨by omega, by omega⟩, if_pos ⟨by omega, by omega⟩]
      have g0 : (x :: y :: z :: u :: r).getD ((0 : Int)).toNat 0 = x := rfl
      have g2 : (x :: y :: z :: u :: r).getD ((2 : Int)).toNat 0 = z := rfl
      have g3 : (x :: y :: z :: u :: r).getD ((3 : Int)).toNat 0 = u := rfl
      have g1 : (x :: y :: z :: u :: r).getD ((1 : Int)).toNat 0 = y := rfl
      rw [g0, g1, g2, g3, ex, ey, ey2, exy, ez, eu, eu2, ezu, td2 (by omega), td2 (by omega), Int.tmod_eq_emod_of_nonneg (by omega)]
      simp
def chain (x : Int) : Option (Int × Bool) := if x = 111 then some (3, false) else if x = 127 then some (3, true) else if x = 99 then some (4, false) else if x = 115 then some (4, true) else if x = 67 then some (5, false) else if x = 83 then some (5, true) else if x = 15 then some (6, false) else if x = 31 then some (6, true) else if x = 135 then some (7, false) else if x = 151 then some (7, true) else none
theorem chain_eq {x : Int} (h : 0 ≤ x ∧ x < 256) : chain x = if kindOf (base4 x) ≠ 0 then some (kindOf (base4 x), poll4 x) else none := byte_all (p := fun x => chain x = if kindOf (base4 x) ≠ 0 then some (kindOf (base4 x), poll4 x) else none) (by decide +kernel) h.1 h.2
theorem l1_eq {b : List Int} {m : Int} (hm : m = 128 ∨ m = 32768) (hb : ∀ z ∈ b, 0 ≤ z ∧ z < 256) (hn : b ≠ []) (k : Nat) : signalmanref6_ReadCtl.l1 (k + 21) b m 3 = some (match chain (b.getD 0 0) with
    | some (K, p) => (({ Kind := K, Ns := 0, Nr := 0, Poll := p } : api_Ctl), 1, 0)
    | none => if b.getD 0 0 = 1 then numS 1 b m else if b.getD 0 0 = 9 then numS 2 b m else if b.getD 0 0 % 2 = 1 then (z0, 0, 2) else numS 0 b m) := by
  have hl : 0 < b.length := List.length_pos_iff.2 hn
  have hx : 0 ≤ b.getD 0 0 ∧ b.getD 0 0 < 256 := by
    cases b with
    | nil => exact absurd rfl hn
    | cons x r => exact hb x (by simp)
  have st : ∀ (K : Int) (j : Nat), 3 ≤ K ∧ K ≤ 7 → signalmanref6_ReadCtl.l1 (j + 4) b m K = _ := fun K j hK => by
    rw [signalmanref6_ReadCtl.l1, if_pos hK.2, l2_eq m hb hn hK]
  rw [st 3 (k + 17) (by decide), show (3 : Int) + 1 = 4 from rfl, show k + 17 = (k + 13) + 4 from rfl, st 4 (k + 13) (by decide), show (4 : Int) + 1 = 5 from rfl, show k + 13 = (k + 9) + 4 from rfl, st 5 (k + 9) (by decide), show (5 : Int) + 1 = 6 from rfl, show k + 9 = (k + 5) + 4 from rfl, st 6 (k + 5) (by decide), show (6 : Int) + 1 = 7 from rfl, show k + 5 = (k + 1) + 4 from rfl, st 7 (k + 1) (by decide), show (7 : Int) + 1 = 8 from rfl]
  rw [signalmanref6_ReadCtl.l1, if_neg (show ¬ (8 : Int) ≤ 7 by decide), if_pos (show 0 ≤ (0 : Int) ∧ (0 : Int) < (b.length : Int) from ⟨by omega, by omega⟩), show ((0 : Int)).toNat = 0 from rfl]
  simp only [bareB, if_true, show ¬ (4 : Int) = 3 by decide, show ¬ (5 : Int) = 3 by decide, show ¬ (5 : Int) = 4 by decide, show ¬ (6 : Int) = 3 by decide, show ¬ (6 : Int) = 4 by decide, show ¬ (6 : Int) = 5 by decide, show ¬ (7 : Int) = 3 by decide, show ¬ (7 : Int) = 4 by decide, show ¬ (7 : Int) = 5 by decide, show ¬ (7 : Int) = 6 by decide, if_false, show (111 : Int) + 16 = 127 from rfl, show (99 : Int) + 16 = 115 from rfl, show (67 : Int) + 16 = 83 from rfl, show (15 : Int) + 16 = 31 from rfl, show (135 : Int) + 16 = 151 from rfl]
  have h3 := j3_eq hm hb hn
  have h6 := j6_eq hm hb hn
  have h9 := j9_eq hm hb hn
  generalize b.getD 0 0 = x at *
  unfold chain
  by_cases c1 : x = 111
  · rw [if_pos c1, if_pos c1]
  rw [if_neg c1, if_neg c1]
  by_cases c2 : x = 127
  · rw [if_pos c2, if_pos c2]
  rw [if_neg c2, if_neg c2]
  by_cases c3 : x = 99
  · rw [if_pos c3, if_pos c3]
  rw [if_neg c3, if_neg c3]
  by_cases c4 : x = 115
  · rw [if_pos c4, if_pos c4]
  rw [if_neg c4, if_neg c4]
  by_cases c5 : x = 67
  · rw [if_pos c5, if_pos c5]
  rw [if_neg c5, if_neg c5]
  by_cases c6 : x = 83
  · rw [if_pos c6, if_pos c6]
  rw [if_neg c6, if_neg c6]
  by_cases c7 : x = 15
  · rw [if_pos c7, if_pos c7]
  rw [if_neg c7, if_neg c7]
  by_cases c8 : x = 31
  · rw [if_pos c8, if_pos c8]
  rw [if_neg c8, if_neg c8]
  by_cases c9 : x = 135
  · rw [if_pos c9, if_pos c9]
  rw [if_neg c9, if_neg c9]
  by_cases c10 : x = 151
  · rw [if_pos c10, if_pos c10]
  rw [if_neg c10, if_neg c10]
  rw [Int.tmod_eq_emod_of_nonneg hx.1]
  by_cases q1 : x = 1
  · rw [if_pos q1, h3 q1]; simp only [if_pos q1]
  · rw [if_neg q1]
    by_cases q2 : x = 9
    · rw [if_pos q2, h6 q2]; simp only [if_neg q1, if_pos q2]
    · rw [if_neg q2, h9]
      by_cases q3 : x % 2 = 1
      · rw [if_pos q3]; simp only [if_neg q1, if_neg q2, if_pos q3]; rfl
      · rw [if_neg q3]; simp only [if_neg q1, if_neg q2, if_neg q3]
theorem refread_eq {b : List Int} (m : Int) (hb : ∀ z ∈ b, 0 ≤ z ∧ z < 256) (k : Nat) : signalmanref6_ReadCtl.f (k + 21) b m = some (readS b m) := by
  have key : signalmanref6_ReadCtl.f (k + 21) b m = signalmanref6_ReadCtl.j0 (k + 21) b m (decide (¬ (m = 128 ∨ m = 32768))) := by
    unfold signalmanref6_ReadCtl.f
    by_cases h1 : m = 128
    · rw [if_pos h1, decide_eq_false (fun h => h (.inl h1))]
    · rw [if_neg h1]
      congr 1
      by_cases h2 : m = 32768 <;> simp [h1, h2]
  rw [key]
  unfold signalmanref6_ReadCtl.j0 readS
  by_cases hm : m = 128 ∨ m = 32768
  · rw [if_neg (show ¬ decide (¬ (m = 128 ∨ m = 32768)) = true by rw [decide_eq_true_iff]; exact fun h => h hm), if_neg (show ¬ ¬ (m = 128 ∨ m = 32768) from fun h => h hm)]
    by_cases hl : b.length = 0
    · rw [if_pos (show (b.length : Int) = 0 by omega), if_pos hl]; rfl
    · rw [if_neg (show ¬ (b.length : Int) = 0 by omega), if_neg hl]
      have hn : b ≠ [] := fun e => hl (by rw [e]; rfl)
      have hx : 0 ≤ b.getD 0 0 ∧ b.getD 0 0 < 256 := by
        cases b with
        | nil => exact absurd rfl hn
        | cons x r => exact hb x (by simp)
      rw [l1_eq hm hb hn, chain_eq hx]
      by_cases hk : kindOf (base4 (b.getD 0 0)) ≠ 0
      · rw [if_pos hk, if_pos hk]
      · rw [if_neg hk, if_neg hk]
  · rw [if_pos (show decide (¬ (m = 128 ∨ m = 32768)) = true by rw [decide_eq_true_iff]; exact hm), if_pos hm]; rfl
theorem ControlReads : signalmanlaw12_ControlReads.Pure := by
  intro b m hb hlen hm
  refine ⟨21, ?_⟩
  unfold signalmanlaw12_ControlReads.f
  rw [alive_eq, bsome, if_pos rfl]
  unfold signalmanlaw12_ControlReads.j0
  by_cases h50 : (b.length : Int) > 50
  · rw [if_pos (by simpa using h50)]
  · have hby : ∀ z ∈ b, 0 ≤ z ∧ z < 256 := fun z hz => wf8 (hb z hz)
    rw [if_neg (by simpa using h50), List.nil_append, if_pos (by simp; omega), read_eq (k := 15) m hby, bsome, refread_eq (k := 0) m hby, bsome]
    rw [if_pos (by simp [api_Ctl.beq]), if_pos rfl]
    unfold signalmanlaw12_num.f
    rw [bsome]; simp
end Go.Proofs.Ytmodmkbjbndfpaa

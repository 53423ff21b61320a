/- ArqDelivers: as soon as nothing is lost any more, all that was sent is received and acknowledged within the rounds of the law: what may still be told is counted and falls with each message carried, and the timer ends each silence (ad.inc .. ad8.inc). Conditions: none beyond those of the given statement. -/
import Derived.Test.YtnlcafmkmfnobaaLibArqDelivers
import Derived.KernelRfl
set_option linter.all false
set_option maxRecDepth 100000
namespace Go.Proofs.Ytnlcafmkmfnobaa
open Go.RowKit Go.Proofs.Ytnlcafmkmfnobaa.Walk
namespace Aq
def pair0 (a : arq_Arq) : Pr := { a := ((connect a).2, a), way := ([], []), heard := ([], []), said := ([], []), downs := 0 }
def upS (a : arq_Arq) : Pr := carry (carry (carry (carry (collect (pair0 a)) false false) true false) false false) true false
theorem pair0_pi {a : arq_Arq} (h : AI a 0) (hb : AB a) : PI (pair0 a) 1 0 :=
 ⟨connect_ai h, h.more (by omega), hb.connectB h, hb, fun _ q => (nomatch q), fun _ q => (nomatch q), Nat.le_refl _, Nat.le_refl _, Nat.le_refl _, Nat.le_refl _, ⟨Int.le_refl _, Int.le_refl _⟩⟩
set_option maxRecDepth 100000 in
theorem up_eq {c : api_Config} {a : arq_Arq} (e : arq_New.f c = some a) (h : AI a 0) (hb : AB a) {k : Nat} (hk : 1000000 ≤ k) : signalmanlaw15_up.f k c = some (upS a) := by
 obtain ⟨k, rfl⟩ : ∃ j, k = j + 5 := ⟨k - 5, by omega⟩
 have h1 := collect_pi (pair0_pi h hb)
 have h2 := carry_pi h1 false false
 have h3 := carry_pi h2 true false
 have h4 := carry_pi h3 false false
 have ec := collect_eq (pair0_pi h hb) (by omega) (by omega) (k := k + 5) (by omega)
 unfold signalmanlaw15_up.f
 rw [e, bsome, bsome, connect_eq h (by unfold big; omega) (by omega), bsome]
 refine Eq.trans (congrArg (fun o => Option.bind o _) ec) ?_
 have i0 : iand .i64 0 1 = bi false := by decide +kernel
 have i1 : iand .i64 (w64 (0 + 1)) 1 = bi true := by decide +kernel
 have i2 : iand .i64 (w64 (w64 (0 + 1) + 1)) 1 = bi false := by decide +kernel
 have i3 : iand .i64 (w64 (w64 (w64 (0 + 1) + 1) + 1)) 1 = bi true := by decide +kernel
 rw [bsome, signalmanlaw15_up.l0, if_pos (by decide), i0, carry_eq h1 (by omega) (by omega) false false (by omega), bsome]
 rw [signalmanlaw15_up.l0, if_pos (by decide), i1, carry_eq h2 (by omega) (by omega) true false (by omega), bsome]
 rw [signalmanlaw15_up.l0, if_pos (by decide), i2, carry_eq h3 (by omega) (by omega) false false (by omega), bsome]
 rw [signalmanlaw15_up.l0, if_pos (by decide), i3, carry_eq h4 (by omega) (by omega) true false (by omega), bsome]
 rw [signalmanlaw15_up.l0, if_neg (by decide)]; rfl
end Aq
namespace Aq
theorem more_empty {a : arq_Arq} (h : a.log.l = []) (h0 : 0 ≤ a.log.out) : ¬ more a := by unfold more; rw [h]; simp; omega
theorem pump_stays {a : arq_Arq} (h : ¬ more a) : pump a = a := by
 unfold pump
 split
 ·cases a.log.window.toNat with
  | zero => rfl
  | succ d => rw [pumpL, if_neg h]
 ·rfl
def upped (m t1 n2 size win q : Int) : arq_Arq := { m := m, t1 := t1, n2 := n2, size := size, state := 2, tag := 1, tries := 0, rejected := false, log := { m := m, window := win, queue := q, first := 0, out := 0, l := [] }, order := Or.onew m win, timers := tm 0 0, out := [], inds := [], sent := 0, acked := 0, lost := 0 }
def both (a b : arq_Arq) : Pr := { a := (a, b), way := ([], []), heard := ([], []), said := ([], []), downs := 0 }
def setting (m t1 n2 size win q : Int) : arq_Arq := { upped m t1 n2 size win q with state := 1, timers := tm 0 t1 }
theorem up_state {m t1 n2 size win q : Int} (hm : m = 128 ∨ m = 32768) : upS (anew m t1 n2 size win q) = both (upped m t1 n2 size win q) (upped m t1 n2 size win q) := by
 have s1 : collect (pair0 (anew m t1 n2 size win q)) = { a := (setting m t1 n2 size win q, anew m t1 n2 size win q), way := ([[0, 1, 127]], []), heard := ([], []), said := ([], []), downs := 0 } := by kernel_rfl
 have s2 : carry { a := (setting m t1 n2 size win q, anew m t1 n2 size win q), way := ([[0, 1, 127]], []), heard := ([], []), said := ([], []), downs := 0 } false false = { a := (setting m t1 n2 size win q, upped m t1 n2 size win q), way := ([], [[0, 1, 115]]), heard := ([], []), said := ([], []), downs := 0 } := by
  rcases hm with e | e <;> subst e <;> kernel_rfl
 have i1 : input (setting m t1 n2 size win q) [0, 1, 115] = tellInd (upped m t1 n2 size win q) 1 := by
  have e1 : input (setting m t1 n2 size win q) [0, 1, 115] = pump (tellInd (upped m t1 n2 size win q) 1) := by
   rcases hm with e | e <;> subst e <;> kernel_rfl
  rw [e1]; exact pump_stays (more_empty rfl (Int.le_refl _))
 have s3 : carry { a := (setting m t1 n2 size win q, upped m t1 n2 size win q), way := ([], [[0, 1, 115]]), heard := ([], []), said := ([], []), downs := 0 } true false = both (upped m t1 n2 size win q) (upped m t1 n2 size win q) := by
  have e1 : carry { a := (setting m t1 n2 size win q, upped m t1 n2 size win q), way := ([], [[0, 1, 115]]), heard := ([], []), said := ([], []), downs := 0 } true false = collect { a := (input (setting m t1 n2 size win q) [0, 1, 115], upped m t1 n2 size win q), way := ([], []), heard := ([], []), said := ([], []), downs := 0 } := by kernel_rfl
  rw [e1, i1]; rfl
 unfold upS
 rw [s1, s2, s3]; rfl
theorem upped_ai {m t1 n2 size win q : Int} (hm : m = 128 ∨ m = 32768) (h1 : 1 ≤ t1 ∧ t1 ≤ 1048576) (h2 : 1 ≤ n2 ∧ n2 ≤ 100) (h3 : 1 ≤ size ∧ size ≤ 1000) (hw : 1 ≤ win ∧ win ≤ m / 8) (hq : 0 ≤ q ∧ q ≤ 1000) : AI (upped m t1 n2 size win q) 0 :=
 { (anew_ai hm h1 h2 h3 hw hq) with state := ⟨by show (0 : Int) ≤ 2; omega, by show (2 : Int) ≤ 3; omega⟩, tag := ⟨by show (0 : Int) ≤ 1; omega, by show (1 : Int) < 65536; omega⟩ }
theorem upped_ab (m t1 n2 size win q : Int) : AB (upped m t1 n2 size win q) := ⟨fun _ h => (nomatch h), fun _ h => (nomatch h)⟩
theorem ups {c : api_Config} {m t1 n2 size win q : Int} (hm : m = 128 ∨ m = 32768) (h1 : 1 ≤ t1 ∧ t1 ≤ 1048576) (h2 : 1 ≤ n2 ∧ n2 ≤ 100) (h3 : 1 ≤ size ∧ size ≤ 1000) (hw : 1 ≤ win ∧ win ≤ m / 8) (hq : 0 ≤ q ∧ q ≤ 1000) (e0 : c.Modulus = m) (e1 : c.Window = win) (e2 : c.T1 = t1) (e3 : c.N2 = n2) (e4 : c.Queue = q) (e5 : c.Size = size) {k : Nat} (hk : 1000000 ≤ k) :
  signalmanlaw15_up.f k c = some (both (upped m t1 n2 size win q) (upped m t1 n2 size win q)) := by
 rw [up_eq (shapeNew m win q hm hw hq h1 h2 h3 e0 e1 e2 e3 e4 e5) (anew_ai hm h1 h2 h3 hw hq) (AB.anewB m t1 n2 size win q) hk, up_state hm]
end Aq
theorem iand_any1 (x : Int) : iand .i64 x 1 = x % 2 := by
 unfold iand
 show IntKind.i64.wrap (BitVec.ofInt 64 x &&& BitVec.ofInt 64 1).toNat = _
 rw [BitVec.toNat_and, BitVec.toNat_ofInt, BitVec.toNat_ofInt]
 have e1 : ((1 : Int) % (2 ^ 64 : Nat)).toNat = 1 := by decide
 rw [e1, Nat.and_one_is_mod]
 have : w64 (((x % (2 ^ 64 : Nat)).toNat % 2 : Nat) : Int) = x % 2 := by
  rw [w64_in ⟨by omega, by omega⟩]; omega
 exact this
namespace Aq
def withA (p : Pr) (a : arq_Arq) : Pr := { p with a := (a, p.a.2) }
def withB (p : Pr) (a : arq_Arq) : Pr := { p with a := (p.a.1, a) }
def sends : Nat → Int → Pr → Pr
 | 0, _, p => p
 | d + 1, i, p => sends d (i + 1) (withA p (send p.a.1 [IntKind.u8.wrap i]).2)
def uw : Nat := 400000000
def PG (p : Pr) (N : Nat) : Prop := PI p (20000 * N) (uw * N)
theorem uw_step {N : Nat} (h : N ≤ 1000) : uw * N + 2 * (20000 * N) + 26000 ≤ uw * (N + 1) := by rw [Nat.mul_succ]; unfold uw; omega
theorem uw_step' {N : Nat} (h : N ≤ 1000) : uw * N + 2 * (20000 * N) ≤ uw * (N + 1) := Nat.le_trans (Nat.le_add_right _ _) (uw_step h)
theorem uw_le {N M : Nat} (h : N ≤ M) : uw * N ≤ uw * M := Nat.mul_le_mul_left _ h
theorem uw_big {N : Nat} (h : N ≤ 1000) : uw * N ≤ 500000000000 := by
 have := uw_le h
 have e : uw * 1000 = 400000000000 := by unfold uw; decide
 omega
theorem c_big {N : Nat} (h : N ≤ 1000) : 20000 * N + 40000 ≤ 100000000000 := by omega
theorem c_big' {N : Nat} (h : N ≤ 1000) : 20000 * N ≤ 100000000000 := by omega
theorem c_fuel {N K k : Nat} (h : N ≤ 1000) (hK : 100000000 ≤ K) (hk : K ≤ k) : 3 * (20000 * N) + 80000 ≤ k := Nat.le_trans (by omega : 3 * (20000 * N) + 80000 ≤ 100000000) (Nat.le_trans hK hk)
theorem c_fuel' {N K k : Nat} (h : N ≤ 1000) (hK : 100000000 ≤ K) (hk : K ≤ k) : 3 * (20000 * N) + 20 ≤ k := Nat.le_trans (by omega) (c_fuel h hK hk)
theorem PG.more {p : Pr} {N M : Nat} (h : PG p N) (l : N ≤ M) : PG p M := PI.more h (Nat.mul_le_mul_left _ l) (uw_le l)
theorem PG.withA {p : Pr} {N : Nat} (h : PG p N) {a : arq_Arq} {C : Nat} (ha : AI a C) (l : C ≤ 20000 * (N + 1)) (hb : AB a) : PG (Aq.withA p a) (N + 1) :=
 { (h.more (Nat.le_succ N)) with a1 := ha.more l, b1 := hb }
theorem PG.withB {p : Pr} {N : Nat} (h : PG p N) {a : arq_Arq} {C : Nat} (ha : AI a C) (l : C ≤ 20000 * (N + 1)) (hb : AB a) : PG (Aq.withB p a) (N + 1) :=
 { (h.more (Nat.le_succ N)) with a2 := ha.more l, b2 := hb }
theorem PG.collect {p : Pr} {N : Nat} (h : PG p N) (hN : N ≤ 1000) : PG (Aq.collect p) (N + 1) := (collect_pi h).more (Nat.mul_le_mul_left _ (Nat.le_succ N)) (uw_step' hN)
theorem PG.carry {p : Pr} {N : Nat} (h : PG p N) (hN : N ≤ 1000) (i lost : Bool) : PG (Aq.carry p i lost) (N + 1) := (carry_pi h i lost).more (by omega) (uw_step hN)
theorem PG.carry_eq {p : Pr} {N : Nat} (h : PG p N) (hN : N ≤ 1000) (i lost : Bool) {K k : Nat} (hK : 100000000 ≤ K) (hk : K ≤ k) : signalmanlaw15_pair_carry.f k p (bi i) lost = some (Aq.carry p i lost) :=
 Aq.carry_eq h (c_big hN) (uw_big hN) i lost (c_fuel hN hK hk)
theorem PG.collect_eq {p : Pr} {N : Nat} (h : PG p N) (hN : N ≤ 1000) {K k : Nat} (hK : 100000000 ≤ K) (hk : K ≤ k) : signalmanlaw15_pair_collect.f k p = some (Aq.collect p) :=
 Aq.collect_eq h (c_big' hN) (uw_big hN) (c_fuel' hN hK hk)
theorem PG.both {m t1 n2 size win q : Int} (hm : m = 128 ∨ m = 32768) (h1 : 1 ≤ t1 ∧ t1 ≤ 1048576) (h2 : 1 ≤ n2 ∧ n2 ≤ 100) (h3 : 1 ≤ size ∧ size ≤ 1000) (hw : 1 ≤ win ∧ win ≤ m / 8) (hq : 0 ≤ q ∧ q ≤ 1000) : PG (Aq.both (upped m t1 n2 size win q) (upped m t1 n2 size win q)) 0 :=
 ⟨upped_ai hm h1 h2 h3 hw hq, upped_ai hm h1 h2 h3 hw hq, upped_ab _ _ _ _ _ _, upped_ab _ _ _ _ _ _, fun _ q => (nomatch q), fun _ q => (nomatch q), Nat.le_refl _, Nat.le_refl _, Nat.le_refl _, Nat.le_refl _, ⟨Int.le_refl _, Int.le_refl _⟩⟩
theorem wrap_byte (i : Int) : ∀ z ∈ [IntKind.u8.wrap i], 0 ≤ z ∧ z < 256 := by
 intro z hz
 simp only [List.mem_cons, List.not_mem_nil, or_false] at hz
 rw [hz, u8w]; omega
theorem bi_mod (x : Int) : iand .i64 x 1 = bi (decide (x % 2 = 1)) := by
 rw [iand_any1]
 unfold bi
 have := Int.emod_two_eq x
 rcases this with e | e <;> rw [e] <;> simp
end Aq
namespace Ao
open Aq
abbrev Msg := List Int
theorem mhas_mem {α : Type} : ∀ {m : List (Int × α)} {k : Int}, mhas m k = true → ∀ d, (k, mget m k d) ∈ m
 | [], _, h, _ => by simp [mhas] at h
 | p :: m, k, h, d => by
  by_cases e : p.1 = k
  ·subst e; simp [mget]
  ·simp only [mhas, if_neg e] at h
   simp only [mget, if_neg e]
   exact List.mem_cons_of_mem _ (mhas_mem h d)
theorem mdel_sub {α : Type} : ∀ {m : List (Int × α)} {k : Int}, (mdel m k).Sublist m
 | [], _ => List.Sublist.refl _
 | p :: m, k => by
  by_cases e : p.1 = k
  ·simp only [mdel, if_pos e]; exact List.sublist_cons_self _ _
  ·simp only [mdel, if_neg e]; exact mdel_sub.cons_cons _
theorem mdel_ne {α : Type} : ∀ {m : List (Int × α)} {k : Int}, (m.map (·.1)).Nodup → ∀ e ∈ mdel m k, e.1 ≠ k
 | [], _, _, e, h => by simp [mdel] at h
 | p :: m, k, nd, e, h => by
  rw [List.map_cons, List.nodup_cons] at nd
  by_cases q : p.1 = k
  ·simp only [mdel, if_pos q] at h
   intro e1
   exact nd.1 (List.mem_map.2 ⟨e, h, by rw [e1, q]⟩)
  ·simp only [mdel, if_neg q] at h
   rcases List.mem_cons.1 h with h | h
   ·subst h; exact q
   ·exact mdel_ne nd.2 e h
theorem mhas_no {α : Type} : ∀ {m : List (Int × α)} {k : Int}, mhas m k = false → k ∉ m.map (·.1)
 | [], _, _ => by simp
 | p :: m, k, h => by
  by_cases q : p.1 = k
  ·simp [mhas, q] at h
  ·simp only [mhas, if_neg q] at h
   rw [List.map_cons, List.mem_cons]
   rintro (e | e)
   ·exact q e.symm
   ·exact mhas_no h e
theorem nat_mod_inj {j R m : Nat} (h : j % m = R % m) (h1 : R ≤ j) (h2 : j < R + m) : j = R := by
 have h3 := Nat.sub_mod_eq_zero_of_mod_eq h
 rw [Nat.mod_eq_of_lt (by omega)] at h3
 omega
theorem dist_ge {i R m : Nat} (h1 : R ≤ i) (h2 : i < R + m) : (((i % m : Nat) : Int) - ((R % m : Nat) : Int)) % (m : Int) = ((i - R : Nat) : Int) := by
 rw [Int.natCast_emod, Int.natCast_emod, ← Int.sub_emod, ← Int.ofNat_sub h1, ← Int.natCast_emod, Nat.mod_eq_of_lt (by omega)]
theorem dist_lt {i R m : Nat} (h1 : i < R) (h2 : R ≤ i + m) : (((i % m : Nat) : Int) - ((R % m : Nat) : Int)) % (m : Int) = ((m - (R - i) : Nat) : Int) := by
 rw [Int.natCast_emod, Int.natCast_emod, ← Int.sub_emod, ← Int.add_emod_right]
 have e : (i : Int) - (R : Int) + (m : Int) = ((m - (R - i) : Nat) : Int) := by omega
 rw [e, ← Int.natCast_emod, Nat.mod_eq_of_lt (by omega)]
theorem succ_mod {R m : Nat} : (((R % m : Nat) : Int) + 1) % (m : Int) = (((R + 1) % m : Nat) : Int) := by
 rw [Int.natCast_emod, Int.natCast_emod, Int.emod_add_emod]; rfl
theorem add_mod {A k m : Nat} : (((A % m : Nat) : Int) + (k : Int)) % (m : Int) = (((A + k) % m : Nat) : Int) := by
 rw [Int.natCast_emod, Int.natCast_emod, Int.emod_add_emod]; rfl
structure Dir (m W : Nat) (S : List Msg) (A o R : Nat) (kept : List (Int × Msg)) (is rs : List Nat) : Prop where
 W1 : 1 ≤ W
 Wm : 8 * W ≤ m
 sz : A + o ≤ S.length
 oW : o ≤ W
 AR : A ≤ R
 RH : R ≤ A + o
 kp : ∀ e ∈ kept, ∃ j, R ≤ j ∧ j < A + o ∧ e = (((j % m : Nat) : Int), S.getD j []) ∧ ∀ i ∈ is, j < i + W
 nd : (kept.map (·.1)).Nodup
 iH : ∀ i ∈ is, i < A + o
 iR : ∀ i ∈ is, R ≤ i + W
 iP : is.Pairwise (fun q p => q < p + W)
 rA : ∀ r ∈ rs, A ≤ r
 rR : ∀ r ∈ rs, r ≤ R
 rP : rs.Pairwise (· ≤ ·)
section
variable {m W : Nat} {S : List Msg} {A o R : Nat} {kept : List (Int × Msg)} {is rs : List Nat}
theorem Dir.emit (h : Dir m W S A o R kept is rs) {i : Nat} (h1 : A ≤ i) (h2 : i < A + o) : Dir m W S A o R kept (is ++ [i]) rs := by
 have hw := h.oW; have hr := h.RH
 refine { h with kp := fun e he => ?_, iH := fun q hq => ?_, iR := fun q hq => ?_, iP := ?_ }
 ·obtain ⟨j, j1, j2, j3, j4⟩ := h.kp e he
  refine ⟨j, j1, j2, j3, fun q hq => ?_⟩
  rcases List.mem_append.1 hq with hq | hq
  ·exact j4 q hq
  ·simp at hq; omega
 ·rcases List.mem_append.1 hq with hq | hq
  ·exact h.iH q hq
  ·simp at hq; omega
 ·rcases List.mem_append.1 hq with hq | hq
  ·exact h.iR q hq
  ·simp at hq; omega
 ·refine List.pairwise_append.2 ⟨h.iP, List.pairwise_singleton _ _, fun q hq p hp => ?_⟩
  have := h.iH q hq
  simp at hp; omega
theorem Dir.emitR (h : Dir m W S A o R kept is rs) : Dir m W S A o R kept is (rs ++ [R]) := by
 have ha := h.AR
 refine { h with rA := fun q hq => ?_, rR := fun q hq => ?_, rP := ?_ }
 ·rcases List.mem_append.1 hq with hq | hq
  ·exact h.rA q hq
  ·simp at hq; omega
 ·rcases List.mem_append.1 hq with hq | hq
  ·exact h.rR q hq
  ·simp at hq; omega
 ·refine List.pairwise_append.2 ⟨h.rP, List.pairwise_singleton _ _, fun q hq p hp => ?_⟩
  have := h.rR q hq
  simp at hp; omega
theorem Dir.out (h : Dir m W S A o R kept is rs) (h1 : A + o < S.length) (h2 : o < W) : Dir m W S A (o + 1) R kept is rs := by
 refine { h with sz := by omega, oW := h2, RH := by have := h.RH; omega, kp := fun e he => ?_, iH := fun i hi => by have := h.iH i hi; omega }
 obtain ⟨j, j1, j2, j3, j4⟩ := h.kp e he
 exact ⟨j, j1, by omega, j3, j4⟩
theorem getD_app {S : List Msg} {j : Nat} (h : j < S.length) (T : List Msg) : (S ++ T).getD j [] = S.getD j [] := by
 simp [List.getD, List.getElem?_append_left h]
theorem Dir.say (h : Dir m W S A o R kept is rs) (b : Msg) : Dir m W (S ++ [b]) A o R kept is rs := by
 have hs := h.sz
 refine { h with sz := by rw [List.length_append]; omega, kp := fun e he => ?_ }
 obtain ⟨j, j1, j2, j3, j4⟩ := h.kp e he
 exact ⟨j, j1, j2, by rw [j3, getD_app (by omega)], j4⟩
theorem Dir.lose {i : Nat} (h : Dir m W S A o R kept (i :: is) rs) : Dir m W S A o R kept is rs := by
 refine { h with kp := fun e he => ?_, iH := fun q hq => h.iH q (.tail _ hq), iR := fun q hq => h.iR q (.tail _ hq), iP := (List.pairwise_cons.1 h.iP).2 }
 obtain ⟨j, j1, j2, j3, j4⟩ := h.kp e he
 exact ⟨j, j1, j2, j3, fun q hq => j4 q (.tail _ hq)⟩
theorem Dir.loseR {r : Nat} (h : Dir m W S A o R kept is (r :: rs)) : Dir m W S A o R kept is rs :=
 { h with rA := fun q hq => h.rA q (.tail _ hq), rR := fun q hq => h.rR q (.tail _ hq), rP := (List.pairwise_cons.1 h.rP).2 }
theorem Dir.ack {r : Nat} (h : Dir m W S A o R kept is (r :: rs)) : Dir m W S r (A + o - r) R kept is rs := by
 have h1 := h.rA r (.head _)
 have h2 := h.rR r (.head _)
 have h3 := h.RH; have h4 := h.sz; have h5 := h.oW
 refine { h with sz := by omega, oW := by omega, AR := h2, RH := by omega, kp := fun e he => ?_, iH := fun i hi => by have := h.iH i hi; omega, rA := fun q hq => (List.pairwise_cons.1 h.rP).1 q hq, rR := fun q hq => h.rR q (.tail _ hq), rP := (List.pairwise_cons.1 h.rP).2 }
 obtain ⟨j, j1, j2, j3, j4⟩ := h.kp e he
 exact ⟨j, j1, by omega, j3, j4⟩
theorem take_next {S : List Msg} {R : Nat} (h : R < S.length) : S.take (R + 1) = S.take R ++ [S.getD R []] := by
 rw [List.take_succ]; simp [List.getD, h]
theorem drain_dir (hd : List Msg) : ∀ (d : Nat) (x : reorder_Order) (R : Nat), x.m = m → x.window = W → x.next = ((R % m : Nat) : Int) → Dir m W S A o R x.kept is rs → hd ++ x.ready = S.take R →
  ∃ R', R ≤ R' ∧ (Or.drain d x).2.m = m ∧ (Or.drain d x).2.window = W ∧ (Or.drain d x).2.next = ((R' % m : Nat) : Int) ∧ Dir m W S A o R' (Or.drain d x).2.kept is rs ∧ hd ++ (Or.drain d x).2.ready = S.take R'
 | 0, x, R, h1, h2, h3, h4, h5 => ⟨R, Nat.le_refl _, h1, h2, h3, h4, h5⟩
 | d + 1, x, R, h1, h2, h3, h4, h5 => by
  rw [Or.drain]
  by_cases hh : mhas x.kept x.next = true
  ·rw [if_pos hh]
   have hm := mhas_mem hh []
   obtain ⟨j, j1, j2, j3, j4⟩ := h4.kp _ hm
   have e1 : x.next = ((j % m : Nat) : Int) := congrArg Prod.fst j3
   have e2 : mget x.kept x.next [] = S.getD j [] := congrArg Prod.snd j3
   have hw := h4.oW; have hWm := h4.Wm; have hAR := h4.AR; have hW1 := h4.W1; have hsz := h4.sz
   have ej : j = R := nat_mod_inj (m := m) (by rw [h3] at e1; omega) j1 (by omega)
   subst ej
   have h4' : Dir m W S A o (j + 1) (mdel x.kept x.next) is rs := by
    refine { h4 with AR := by omega, RH := by omega, kp := fun e he => ?_, nd := h4.nd.sublist (mdel_sub.map _), iR := fun i hi => by have := j4 i hi; omega, rR := fun r hr => by have := h4.rR r hr; omega }
    obtain ⟨q, q1, q2, q3, q4⟩ := h4.kp e (mdel_sub.mem he)
    refine ⟨q, ?_, q2, q3, q4⟩
    have hne := mdel_ne h4.nd e he
    have : q ≠ j := by
     intro eq; subst eq
     exact hne (by rw [q3, e1])
    omega
   obtain ⟨R', g1, g2⟩ := drain_dir hd d (Or.ostep x) (j + 1) h1 h2 (by show (x.next + 1) % x.m = _; rw [h3, h1, succ_mod]) h4' (by
    show hd ++ (x.ready ++ [mget x.kept x.next []]) = _
    rw [← List.append_assoc, h5, e2, take_next (by omega)])
   exact ⟨R', by omega, g2⟩
  ·rw [if_neg hh]
   exact ⟨R, Nat.le_refl _, h1, h2, h3, h4, h5⟩
theorem put_dir (hd : List Msg) {x : reorder_Order} {i : Nat} (h1 : x.m = m) (h2 : x.window = W) (h3 : x.next = ((R % m : Nat) : Int)) (h4 : Dir m W S A o R x.kept (i :: is) rs) (h5 : hd ++ x.ready = S.take R) :
  ∃ R', R ≤ R' ∧ (Or.putm x ((i % m : Nat) : Int) (S.getD i [])).2.m = m ∧ (Or.putm x ((i % m : Nat) : Int) (S.getD i [])).2.window = W ∧ (Or.putm x ((i % m : Nat) : Int) (S.getD i [])).2.next = ((R' % m : Nat) : Int) ∧
   Dir m W S A o R' (Or.putm x ((i % m : Nat) : Int) (S.getD i [])).2.kept is rs ∧ hd ++ (Or.putm x ((i % m : Nat) : Int) (S.getD i [])).2.ready = S.take R' := by
 have hw := h4.oW; have hWm := h4.Wm; have hAR := h4.AR; have hW1 := h4.W1; have hRH := h4.RH
 have hiH := h4.iH i (.head _)
 have hiR := h4.iR i (.head _)
 have hl := h4.lose
 have same : ∃ R', R ≤ R' ∧ x.m = m ∧ x.window = W ∧ x.next = ((R' % m : Nat) : Int) ∧ Dir m W S A o R' x.kept is rs ∧ hd ++ x.ready = S.take R' := ⟨R, Nat.le_refl _, h1, h2, h3, hl, h5⟩
 unfold Or.putm
 by_cases c1 : (((i % m : Nat) : Int) - x.next) % x.m ≥ x.window
 ·rw [if_pos c1]; exact same
 rw [if_neg c1]
 by_cases c2 : mhas x.kept (((i % m : Nat) : Int) % x.m) = true
 ·rw [if_pos c2]; exact same
 rw [if_neg c2]
 rw [h1, h2, h3] at c1
 have hge : R ≤ i := by
  refine Nat.le_of_not_lt fun hlt => ?_
  rw [dist_lt hlt (by omega)] at c1
  omega
 have em : ((i % m : Nat) : Int) % x.m = ((i % m : Nat) : Int) := by rw [h1, ← Int.natCast_emod, Nat.mod_mod]
 rw [em] at c2 ⊢
 have hno := mhas_no (by simpa using c2 : mhas x.kept ((i % m : Nat) : Int) = false)
 refine drain_dir hd _ (Or.ost x x.next (x.kept ++ [(((i % m : Nat) : Int), S.getD i [])]) x.ready) R h1 h2 h3 ?_ h5
 show Dir m W S A o R (x.kept ++ [(((i % m : Nat) : Int), S.getD i [])]) is rs
 refine { hl with kp := fun e he => ?_, nd := ?_ }
 ·rcases List.mem_append.1 he with he | he
  ·exact hl.kp e he
  ·simp at he
   exact ⟨i, hge, hiH, he, fun q hq => (List.pairwise_cons.1 h4.iP).1 q hq⟩
 ·rw [List.map_append]
  refine List.nodup_append.2 ⟨h4.nd, by simp, fun a ha b hb => ?_⟩
  simp at hb
  subst hb
  intro e; subst e
  exact hno ha
end
end Ao
namespace Ao
open Aq
structure Fm where
 K : Int
 i : Nat
 r : Nat
 p : Bool
def fb (m : Nat) (S : List Msg) (f : Fm) : List Int := hdr 1 ++ (Co.enc (ct f.K (if f.K = 0 then ((f.i % m : Nat) : Int) else 0) ((f.r % m : Nat) : Int) f.p) m ++ (if f.K = 0 then S.getD f.i [] else []))
def idx : List Fm → List Nat
 | [] => []
 | f :: fs => if f.K = 0 then f.i :: idx fs else idx fs
def acks (fs : List Fm) : List Nat := fs.map (·.r)
theorem idx_app : ∀ (a b : List Fm), idx (a ++ b) = idx a ++ idx b
 | [], b => rfl
 | f :: a, b => by
  show (if f.K = 0 then f.i :: idx (a ++ b) else idx (a ++ b)) = (if f.K = 0 then f.i :: idx a else idx a) ++ idx b
  rw [idx_app a b]; split <;> rfl
theorem idx_mem {f : Fm} : ∀ {fs : List Fm}, f ∈ fs → f.K = 0 → f.i ∈ idx fs
 | g :: fs, h, k => by
  show _ ∈ (if g.K = 0 then g.i :: idx fs else idx fs)
  rcases List.mem_cons.1 h with e | e
  ·subst e; rw [if_pos k]; exact .head _
  ·split
   ·exact .tail _ (idx_mem e k)
   ·exact idx_mem e k
theorem acks_app (a b : List Fm) : acks (a ++ b) = acks a ++ acks b := List.map_append
def kd3 (f : Fm) : Prop := f.K = 0 ∨ f.K = 1 ∨ f.K = 2
structure En (m W : Nat) (x : arq_Arq) (S : List Msg) (A o R : Nat) : Prop where
 am : x.m = m
 lm : x.log.m = m
 om : x.order.m = m
 lw : x.log.window = W
 ow : x.order.window = W
 st : x.state = 2
 tag : x.tag = 1
 size : x.size = 50
 lost : x.lost = 0
 acked : x.acked = A
 first : x.log.first = ((A % m : Nat) : Int)
 out : x.log.out = o
 l : x.log.l = S.drop A
 next : x.order.next = ((R % m : Nat) : Int)
 inds : x.inds = []
 sent : x.sent = (S.length : Int)
structure XS (m W : Nat) (x : arq_Arq) (S S2 w1 hd : List Msg) (fs : List Fm) (A o R1 : Nat) (k1 : List (Int × Msg)) (rs1 : List Nat) (A2 o2 R2 : Nat) (is2 : List Nat) : Prop where
 en : En m W x S A o R2
 d1 : Dir m W S A o R1 k1 (idx fs) rs1
 d2 : Dir m W S2 A2 o2 R2 x.order.kept is2 (acks fs)
 told : w1 ++ x.out = fs.map (fb m S)
 got : hd ++ x.order.ready = S2.take R2
 kd : ∀ f ∈ fs, kd3 f
section
variable {m W : Nat} {x : arq_Arq} {S S2 w1 hd : List Msg} {fs : List Fm} {A o R1 : Nat} {k1 : List (Int × Msg)} {rs1 : List Nat} {A2 o2 R2 : Nat} {is2 : List Nat}
theorem XS.set (h : XS m W x S S2 w1 hd fs A o R1 k1 rs1 A2 o2 R2 is2) (w : clock_Set) (t : Int) (r : Bool) : XS m W { x with timers := w, tries := t, rejected := r } S S2 w1 hd fs A o R1 k1 rs1 A2 o2 R2 is2 :=
 ⟨{ h.en with }, h.d1, h.d2, h.told, h.got, h.kd⟩
theorem XS.emit (h : XS m W x S S2 w1 hd fs A o R1 k1 rs1 A2 o2 R2 is2) {f : Fm} (hk : kd3 f) (hi : f.K = 0 → A ≤ f.i ∧ f.i < A + o) (hr : f.r = R2) :
  XS m W (also x [fb m S f]) S S2 w1 hd (fs ++ [f]) A o R1 k1 rs1 A2 o2 R2 is2 := by
 refine ⟨{ h.en with }, ?_, ?_, ?_, h.got, fun g hg => ?_⟩
 ·rw [idx_app]
  show Dir m W S A o R1 k1 (idx fs ++ (if f.K = 0 then [f.i] else [])) rs1
  split
  ·rename_i c; exact h.d1.emit (hi c).1 (hi c).2
  ·rw [List.append_nil]; exact h.d1
 ·rw [acks_app]
  show Dir m W S2 A2 o2 R2 x.order.kept is2 (acks fs ++ [f.r])
  rw [hr]; exact h.d2.emitR
 ·show w1 ++ (x.out ++ [fb m S f]) = _
  rw [← List.append_assoc, h.told, List.map_append]; rfl
 ·rcases List.mem_append.1 hg with q | q
  ·exact h.kd g q
  ·simp at q; subst q; exact hk
theorem En.say (h : En m W x S A o R2) {K : Int} (hK : K = 1 ∨ K = 2) (p : Bool) (S' : List Msg) : Aq.say x x.tag (ct K 0 x.order.next p) [] = also x [fb m S' ⟨K, 0, R2, p⟩] := by
 have k0 : ¬ K = 0 := by omega
 have e0 : hdr x.tag ++ (Co.enc (ct K 0 x.order.next p) x.m ++ []) = fb m S' ⟨K, 0, R2, p⟩ := by
  unfold fb
  rw [h.tag, h.am, h.next]
  simp only [if_neg k0]
 exact congrArg (fun z => also x [z]) e0
theorem getD_drop (S : List Msg) (A i : Nat) : (S.drop A).getD i [] = S.getD (A + i) [] := by simp [List.getD]
theorem En.imsg (h : En m W x S A o R2) (i : Nat) (p : Bool) : Aq.imsg x (i : Int) p = fb m S ⟨0, A + i, R2, p⟩ := by
 unfold Aq.imsg fb
 rw [h.tag, h.am, h.next, h.first, h.lm, h.l, add_mod]
 show hdr 1 ++ (Co.enc (ct 0 _ _ _) _ ++ (S.drop A).getD i []) = _
 rw [getD_drop]; rfl
theorem XS.grow (h : XS m W x S S2 w1 hd fs A o R1 k1 rs1 A2 o2 R2 is2) (hm : more x) : XS m W { x with log := Bl.logOut x.log } S S2 w1 hd fs A (o + 1) R1 k1 rs1 A2 o2 R2 is2 := by
 have e := h.en
 have h1 := hm.1
 have h2 := hm.2
 rw [e.out, e.l, List.length_drop] at h1
 rw [e.out, e.lw] at h2
 exact ⟨{ e with out := by show x.log.out + 1 = _; rw [e.out]; rfl }, h.d1.out (by omega) (by omega), h.d2, h.told, h.got, h.kd⟩
theorem XS.out1 (h : XS m W x S S2 w1 hd fs A o R1 k1 rs1 A2 o2 R2 is2) (hm : more x) : XS m W (Aq.out1 x) S S2 w1 hd (fs ++ [⟨0, A + o, R2, false⟩]) A (o + 1) R1 k1 rs1 A2 o2 R2 is2 := by
 have e := h.en
 have h1 := (h.grow hm).emit (f := ⟨0, A + o, R2, false⟩) (.inl rfl) (fun _ => ⟨by show A ≤ A + o; omega, by show A + o < A + (o + 1); omega⟩) rfl
 have e1 : Aq.say { x with log := Bl.logOut x.log } x.tag (ct 0 ((x.log.first + x.log.out) % x.log.m) x.order.next false) (x.log.l.getD x.log.out.toNat []) = also { x with log := Bl.logOut x.log } [fb m S ⟨0, A + o, R2, false⟩] := by
  have e0 : hdr x.tag ++ (Co.enc (ct 0 ((x.log.first + x.log.out) % x.log.m) x.order.next false) x.m ++ x.log.l.getD x.log.out.toNat []) = fb m S ⟨0, A + o, R2, false⟩ := by
   unfold fb
   rw [e.tag, e.am, e.next, e.first, e.lm, e.l, e.out, add_mod]
   show hdr 1 ++ (Co.enc (ct 0 _ _ _) _ ++ (S.drop A).getD o []) = _
   rw [getD_drop]; rfl
  exact congrArg (fun z => also { x with log := Bl.logOut x.log } [z]) e0
 unfold Aq.out1
 rw [e1]
 split
 ·exact h1
 ·exact h1.set _ _ _
def XE (m W : Nat) (x : arq_Arq) (S S2 w1 hd : List Msg) (R1 : Nat) (k1 : List (Int × Msg)) (rs1 : List Nat) (A2 o2 : Nat) (is2 : List Nat) : Prop :=
 ∃ fs A o R2, XS m W x S S2 w1 hd fs A o R1 k1 rs1 A2 o2 R2 is2
theorem XS.xe (h : XS m W x S S2 w1 hd fs A o R1 k1 rs1 A2 o2 R2 is2) : XE m W x S S2 w1 hd R1 k1 rs1 A2 o2 is2 := ⟨_, _, _, _, h⟩
theorem XE.pumpL : ∀ (d : Nat) {x : arq_Arq}, XE m W x S S2 w1 hd R1 k1 rs1 A2 o2 is2 → XE m W (Aq.pumpL d x) S S2 w1 hd R1 k1 rs1 A2 o2 is2
 | 0, _, h => h
 | d + 1, x, ⟨fs, A, o, R2, h⟩ => by
  rw [Aq.pumpL]
  split
  ·rename_i hm; exact XE.pumpL d ⟨_, _, _, _, h.out1 hm⟩
  ·exact ⟨fs, A, o, R2, h⟩
theorem XE.pump (h : XE m W x S S2 w1 hd R1 k1 rs1 A2 o2 is2) : XE m W (Aq.pump x) S S2 w1 hd R1 k1 rs1 A2 o2 is2 := by
 unfold Aq.pump
 split
 ·exact h.pumpL _
 ·exact h
theorem XS.many : ∀ (l : List Nat) {x : arq_Arq} {fs : List Fm}, XS m W x S S2 w1 hd fs A o R1 k1 rs1 A2 o2 R2 is2 → (∀ j ∈ l, j < o) → XS m W (also x (l.map fun (j : Nat) => Aq.imsg x (j : Int) false)) S S2 w1 hd (fs ++ l.map fun j => ⟨0, A + j, R2, false⟩) A o R1 k1 rs1 A2 o2 R2 is2
 | [], x, fs, h, _ => by
  have : also x [] = x := by unfold also; rw [List.append_nil]
  rw [List.map_nil, List.map_nil, this, List.append_nil]; exact h
 | j :: l, x, fs, h, hl => by
  have h1 := h.emit (f := ⟨0, A + j, R2, false⟩) (.inl rfl) (fun _ => ⟨by show A ≤ A + j; omega, by show A + j < A + o; have := hl j (.head _); omega⟩) rfl
  have h2 := XS.many l h1 (fun q hq => hl q (.tail _ hq))
  have e1 := h.en.imsg j false
  have e2 : also (also x [fb m S ⟨0, A + j, R2, false⟩]) (l.map fun (q : Nat) => Aq.imsg (also x [fb m S ⟨0, A + j, R2, false⟩]) (q : Int) false) = also x ((j :: l).map fun (j : Nat) => Aq.imsg x (j : Int) false) := by
   rw [List.map_cons, e1]
   show ({ x with out := (x.out ++ [_]) ++ _ } : arq_Arq) = { x with out := x.out ++ (_ :: _) }
   rw [List.append_assoc]; rfl
  rw [e2, List.append_assoc] at h2
  exact h2
theorem XS.resend (h : XS m W x S S2 w1 hd fs A o R1 k1 rs1 A2 o2 R2 is2) : XE m W (Aq.resend x) S S2 w1 hd R1 k1 rs1 A2 o2 is2 := by
 unfold Aq.resend outAll
 split
 ·have h1 := XS.many (List.range x.log.out.toNat) h (fun j hj => by have := List.mem_range.1 hj; have := h.en.out; omega)
  exact ⟨_, _, _, _, h1.set _ _ _⟩
 ·exact ⟨_, _, _, _, h⟩
theorem XS.acknow {r : Nat} (h : XS m W x S S2 w1 hd fs A o R1 k1 (r :: rs1) A2 o2 R2 is2) : (Aq.acknow x ((r % m : Nat) : Int)).1 = true ∧ XS m W (Aq.acknow x ((r % m : Nat) : Int)).2 S S2 w1 hd fs r (A + o - r) R1 k1 rs1 A2 o2 R2 is2 := by
 have e := h.en
 have d := h.d1
 have h1 := d.rA r (.head _)
 have h2 := d.rR r (.head _)
 have h3 := d.RH; have h4 := d.oW; have h5 := d.Wm; have h6 := d.W1
 have hd' : (((r % m : Nat) : Int) - x.log.first) % x.log.m = ((r - A : Nat) : Int) := by rw [e.first, e.lm]; exact dist_ge h1 (by omega)
 have hlt : r % m < m := Nat.mod_lt _ (by omega)
 have hok : ackOk x ((r % m : Nat) : Int) := by
  unfold ackOk
  rw [hd', e.lm, e.out]
  exact ⟨by omega, by omega, by omega⟩
 unfold Aq.acknow
 rw [if_pos hok, hd']
 refine ⟨rfl, ?_⟩
 dsimp only
 have hda := d.ack
 split
 ·rename_i c
  have : r = A := by omega
  subst this
  have eo : r + o - r = o := by omega
  rw [eo] at hda ⊢
  exact ⟨e, hda, h.d2, h.told, h.got, h.kd⟩
 ·have e' : En m W { x with log := Bl.logAck x.log ((r - A : Nat) : Int), acked := x.acked + ((r - A : Nat) : Int), tries := 0, timers := tm x.timers.now 0 } S r (A + o - r) R2 :=
   { e with
    acked := by show x.acked + _ = _; rw [e.acked]; omega
    first := by show (x.log.first + _) % x.log.m = _; rw [e.first, e.lm, add_mod, show A + (r - A) = r by omega]
    out := by show x.log.out - _ = _; rw [e.out]; omega
    l := by show x.log.l.drop _ = _; rw [e.l, List.drop_drop]; congr 1; omega }
  have hx : XS m W { x with log := Bl.logAck x.log ((r - A : Nat) : Int), acked := x.acked + ((r - A : Nat) : Int), tries := 0, timers := tm x.timers.now 0 } S S2 w1 hd fs r (A + o - r) R1 k1 rs1 A2 o2 R2 is2 := ⟨e', hda, h.d2, h.told, h.got, h.kd⟩
  unfold ackd
  dsimp only
  split
  ·exact hx.set _ _ _
  ·exact hx
theorem XS.put {i : Nat} (h : XS m W x S S2 w1 hd fs A o R1 k1 rs1 A2 o2 R2 (i :: is2)) : ∃ R, R2 ≤ R ∧ XS m W (Aq.put x ((i % m : Nat) : Int) (S2.getD i [])) S S2 w1 hd fs A o R1 k1 rs1 A2 o2 R is2 := by
 have e := h.en
 obtain ⟨R, g0, g1, g2, g3, g4, g5⟩ := put_dir hd e.om e.ow e.next h.d2 h.got
 exact ⟨R, g0, ⟨{ e with om := g1, ow := g2, next := g3 }, h.d1, g4, h.told, g5, h.kd⟩⟩
theorem XS.answer (h : XS m W x S S2 w1 hd fs A o R1 k1 rs1 A2 o2 R2 is2) (p : Bool) : XE m W (Aq.answer x p) S S2 w1 hd R1 k1 rs1 A2 o2 is2 := by
 unfold Aq.answer
 split
 ·have h1 := h.set x.timers x.tries true
  have e := h1.en.say (.inr rfl) false S
  have h2 := h1.emit (f := ⟨2, 0, R2, false⟩) (.inr (.inr rfl)) (fun q => by cases q) rfl
  rw [← e] at h2
  exact XS.xe h2
 ·have e := h.en.say (.inl rfl) p S
  have h2 := h.emit (f := ⟨1, 0, R2, p⟩) (.inr (.inl rfl)) (fun q => by cases q) rfl
  rw [← e] at h2
  exact XS.xe h2
theorem XS.come {i : Nat} (h : XS m W x S S2 w1 hd fs A o R1 k1 rs1 A2 o2 R2 (i :: is2)) {c : api_Ctl} (hc : c.Ns = ((i % m : Nat) : Int)) : XE m W (Aq.come x c (S2.getD i [])) S S2 w1 hd R1 k1 rs1 A2 o2 is2 := by
 unfold Aq.come
 rw [hc]
 obtain ⟨R, _, h1⟩ := h.put
 exact h1.answer _
theorem fb_right {S : List Msg} (hm : m = 128 ∨ m = 32768) {f : Fm} (hk : kd3 f) : Co.rightB (ct f.K (if f.K = 0 then ((f.i % m : Nat) : Int) else 0) ((f.r % m : Nat) : Int) f.p) m = true := by
 have h1 : f.i % m < m := Nat.mod_lt _ (by omega)
 have h2 : f.r % m < m := Nat.mod_lt _ (by omega)
 unfold Co.rightB ct
 rcases hk with e | e | e
 ·simp only [e, if_true]
  rcases hm with q | q <;> simp [q] <;> omega
 ·simp only [e]
  rcases hm with q | q <;> simp [q] <;> omega
 ·simp only [e]
  rcases hm with q | q <;> simp [q] <;> omega
theorem input_fb (hm : m = 128 ∨ m = 32768) (ha : x.m = m) {S : List Msg} {f : Fm} (hk : kd3 f) :
  input x (fb m S f) = numbered x 1 (ct f.K (if f.K = 0 then ((f.i % m : Nat) : Int) else 0) ((f.r % m : Nat) : Int) f.p) (if f.K = 0 then S.getD f.i [] else []) := by
 have hr := fb_right (S := S) hm hk
 obtain ⟨c, hc⟩ : ∃ c, c = ct f.K (if f.K = 0 then ((f.i % m : Nat) : Int) else 0) ((f.r % m : Nat) : Int) f.p := ⟨_, rfl⟩
 have hK : c.Kind = f.K := by rw [hc]
 obtain ⟨b, hb⟩ : ∃ b, b = (if f.K = 0 then S.getD f.i [] else []) := ⟨_, rfl⟩
 unfold fb
 rw [← hc] at hr ⊢
 rw [← hb]
 have e2 : (hdr 1 ++ (Co.enc c m ++ b)).drop 2 = Co.enc c m ++ b := rfl
 unfold input
 have hl : ¬ (hdr 1 ++ (Co.enc c m ++ b)).length < 2 := by
  rw [List.length_append]; show ¬ 2 + _ < 2; omega
 rw [if_neg hl, e2, ha, Co.read_enc hr, if_pos rfl]
 have e3 : (hdr 1 ++ (Co.enc c m ++ b)).drop (2 + ((Co.enc c m).length : Int).toNat) = b := by
  rw [← List.drop_drop, e2, Int.toNat_natCast, List.drop_left]
 dsimp only
 rw [e3]
 have e4 : tagOf (hdr 1 ++ (Co.enc c m ++ b)) = 1 := rfl
 rw [e4]
 unfold take
 rw [hK]
 rw [if_neg (by rcases hk with e | e | e <;> omega), if_neg (by rcases hk with e | e | e <;> omega), if_neg (by rcases hk with e | e | e <;> omega), if_neg (by rcases hk with e | e | e <;> omega), if_neg (by rcases hk with e | e | e <;> omega)]
theorem XS.input (hm : m = 128 ∨ m = 32768) (hS : ∀ b ∈ S2, b.length ≤ 50) {f : Fm} (hk : kd3 f) {fs2 : List Fm} (h : XS m W x S S2 w1 hd fs A o R1 k1 (acks (f :: fs2)) A2 o2 R2 (idx (f :: fs2))) :
  XE m W (input x (fb m S2 f)) S S2 w1 hd R1 k1 (acks fs2) A2 o2 (idx fs2) := by
 have e := h.en
 rw [input_fb hm e.am hk]
 obtain ⟨h1, h2⟩ := XS.acknow (rs1 := acks fs2) h
 obtain ⟨c, hc⟩ : ∃ c, c = ct f.K (if f.K = 0 then ((f.i % m : Nat) : Int) else 0) ((f.r % m : Nat) : Int) f.p := ⟨_, rfl⟩
 have c1 : c.Kind = f.K := by rw [hc]
 have c2 : c.Nr = ((f.r % m : Nat) : Int) := by rw [hc]
 have c3 : f.K = 0 → c.Ns = ((f.i % m : Nat) : Int) := by intro q; rw [hc]; exact if_pos q
 rw [← hc]
 unfold numbered
 rw [if_neg (by rw [e.st]; decide), if_pos ⟨e.st, e.tag.symm⟩, if_neg, c2]
 rotate_left
 ·rintro ⟨q1, q2⟩
  rw [c1] at q1
  rw [if_pos q1, e.size] at q2
  have : (S2.getD f.i []).length ≤ 50 := by
   by_cases hi : f.i < S2.length
   ·have e1 : S2.getD f.i [] = S2[f.i] := by simp [List.getD, hi]
    rw [e1]; exact hS _ (List.getElem_mem hi)
   ·have e1 : S2.getD f.i [] = [] := by simp [List.getD, show S2.length ≤ f.i by omega]
    rw [e1]; simp
  omega
 rw [c1]
 generalize Aq.acknow x ((f.r % m : Nat) : Int) = y at h1 h2 ⊢
 have h3 : XE m W (if y.1 = true ∧ f.K = 2 then Aq.resend y.2 else y.2) S S2 w1 hd R1 k1 (acks fs2) A2 o2 (idx (f :: fs2)) := by
  split
  ·exact h2.resend
  ·exact ⟨_, _, _, _, h2⟩
 obtain ⟨fs', A', o', R', h3⟩ := h3
 generalize (if y.1 = true ∧ f.K = 2 then Aq.resend y.2 else y.2) = z at h3 ⊢
 refine XE.pump ?_
 by_cases k0 : f.K = 0
 ·simp only [if_pos k0]
  have e4 : idx (f :: fs2) = f.i :: idx fs2 := if_pos k0
  rw [e4] at h3
  exact h3.come (c3 k0)
 ·simp only [if_neg k0]
  have e4 : idx (f :: fs2) = idx fs2 := if_neg k0
  rw [e4] at h3
  exact ⟨_, _, _, _, h3⟩
theorem fb_same {S : List Msg} (b : Msg) (h : ∀ i ∈ idx fs, i < S.length) : fs.map (fb m (S ++ [b])) = fs.map (fb m S) := by
 refine List.map_congr_left fun f hf => ?_
 unfold fb
 by_cases k0 : f.K = 0
 ·rw [if_pos k0, if_pos k0, if_pos k0, getD_app (h _ (idx_mem hf k0))]
 ·rw [if_neg k0, if_neg k0, if_neg k0]
theorem XS.said (h : XS m W x S S2 w1 hd fs A o R1 k1 rs1 A2 o2 R2 is2) (b : Msg) : XS m W { x with log := Bl.logAdd x.log b, sent := x.sent + 1 } (S ++ [b]) S2 w1 hd fs A o R1 k1 rs1 A2 o2 R2 is2 := by
 have hs := h.d1.sz
 refine ⟨{ h.en with l := ?_, sent := by show x.sent + 1 = _; rw [List.length_append, h.en.sent]; rfl }, h.d1.say b, h.d2, ?_, h.got, h.kd⟩
 ·show x.log.l ++ [b] = _
  rw [h.en.l, List.drop_append_of_le_length (by omega)]
 ·rw [fb_same b (fun i hi => by have := h.d1.iH i hi; omega)]; exact h.told
theorem XS.passing (h : XS m W x S S2 w1 hd fs A o R1 k1 rs1 A2 o2 R2 is2) (n : Int) : XS m W (Aq.passing x n) S S2 w1 hd fs A o R1 k1 rs1 A2 o2 R2 is2 := h.set _ _ _
theorem XS.late (h : XS m W x S S2 w1 hd fs A o R1 k1 rs1 A2 o2 R2 is2) : XE m W (Aq.late x) S S2 w1 hd R1 k1 rs1 A2 o2 is2 ∨ ((Aq.late x).inds = [2] ∧ run (Aq.late x) = 0) := by
 unfold Aq.late
 split
 ·right
  refine ⟨?_, rfl⟩
  show x.inds ++ [2] = [2]
  rw [h.en.inds]; rfl
 ·left
  have h1 : XS m W (timed { x with tries := x.tries + 1 } x.t1) S S2 w1 hd fs A o R1 k1 rs1 A2 o2 R2 is2 := h.set _ _ _
  generalize timed { x with tries := x.tries + 1 } x.t1 = y at h1 ⊢
  have e := h1.en
  unfold remind
  rw [if_neg (by rw [e.st]; decide), if_neg (by rw [e.st]; decide)]
  split
  ·rename_i c
   have e1 := e.imsg 0 true
   have c2 := c.2
   rw [e.out] at c2
   have h2 := h1.emit (f := ⟨0, A + 0, R2, true⟩) (.inl rfl) (fun _ => ⟨by show A ≤ A + 0; omega, by show A + 0 < A + o; omega⟩) rfl
   rw [← e1] at h2
   exact ⟨_, _, _, _, h2⟩
  ·exact ⟨_, _, _, _, h1⟩
theorem XE.passL : ∀ (d : Nat) (n : Int) {x : arq_Arq}, XE m W x S S2 w1 hd R1 k1 rs1 A2 o2 is2 → XE m W (Aq.passL d n x) S S2 w1 hd R1 k1 rs1 A2 o2 is2 ∨ (Aq.passL d n x).inds = [2]
 | 0, _, _, h => .inl h
 | d + 1, n, x, ⟨fs, A, o, R2, h⟩ => by
  rw [Aq.passL]
  split
  ·rcases (h.passing (run x)).late with q | ⟨q1, q2⟩
   ·exact XE.passL d _ q
   ·right
    cases d with
    | zero => exact q1
    | succ d => rw [Aq.passL, if_neg (by rw [q2]; omega)]; exact q1
  ·exact .inl ⟨_, _, _, _, h.passing n⟩
theorem XE.pass (h : XE m W x S S2 w1 hd R1 k1 rs1 A2 o2 is2) (n : Int) : XE m W (Aq.pass x n) S S2 w1 hd R1 k1 rs1 A2 o2 is2 ∨ (Aq.pass x n).inds = [2] := h.passL _ _
end
end Ao
namespace Ao
open Aq
def PX (m W : Nat) (x y : arq_Arq) (S1 S2 w1 w2 h1 h2 : List Msg) : Prop := ∃ fs1 A1 o1 R1 fs2 A2 o2 R2,
 XS m W x S1 S2 w1 h1 fs1 A1 o1 R1 y.order.kept (acks fs2) A2 o2 R2 (idx fs2) ∧ XS m W y S2 S1 w2 h2 fs2 A2 o2 R2 x.order.kept (acks fs1) A1 o1 R1 (idx fs1)
section
variable {m W : Nat} {x y : arq_Arq} {S1 S2 w1 w2 h1 h2 : List Msg}
theorem PX.swap (h : PX m W x y S1 S2 w1 w2 h1 h2) : PX m W y x S2 S1 w2 w1 h2 h1 := by
 obtain ⟨fs1, A1, o1, R1, fs2, A2, o2, R2, hx, hy⟩ := h
 exact ⟨fs2, A2, o2, R2, fs1, A1, o1, R1, hy, hx⟩
theorem XS.rebuild {w2' : List Msg} {fs1' fs2 fs2' : List Fm} {A1 o1 R1 A2 o2 R2 A1' o1' R2' : Nat} {x' : arq_Arq} {S1' : List Msg} {k : List (Int × Msg)} {rs is : List Nat}
  (hy : XS m W y S2 S1 w2 h2 fs2 A2 o2 R2 k rs A1 o1 R1 is) (hx : XS m W x' S1' S2 w1 h1 fs1' A1' o1' R1 y.order.kept (acks fs2') A2 o2 R2' (idx fs2'))
  (ht : w2' ++ y.out = fs2'.map (fb m S2)) (hS : S1'.take R1 = S1.take R1) (hk : ∀ f ∈ fs2', kd3 f) : XS m W y S2 S1' w2' h2 fs2' A2 o2 R2' x'.order.kept (acks fs1') A1' o1' R1 (idx fs1') :=
 ⟨hy.en, hx.d2, hx.d1, ht, by rw [hS]; exact hy.got, hk⟩
theorem PX.turn {x' : arq_Arq} {S1' : List Msg} (h : PX m W x y S1 S2 w1 w2 h1 h2) (hS : S1' = S1 ∨ ∃ b, S1' = S1 ++ [b])
  (f : ∀ {fs A o R1 k1 rs1 A2 o2 R2 is2}, XS m W x S1 S2 w1 h1 fs A o R1 k1 rs1 A2 o2 R2 is2 → XE m W x' S1' S2 w1 h1 R1 k1 rs1 A2 o2 is2) : PX m W x' y S1' S2 w1 w2 h1 h2 := by
 obtain ⟨fs1, A1, o1, R1, fs2, A2, o2, R2, hx, hy⟩ := h
 obtain ⟨fs1', A1', o1', R2', hx'⟩ := f hx
 refine ⟨fs1', A1', o1', R1, fs2, A2, o2, R2', hx', hy.rebuild hx' hy.told ?_ hy.kd⟩
 rcases hS with e | ⟨b, e⟩
 ·rw [e]
 ·rw [e, List.take_append_of_le_length]
  have := hx.d1.RH; have := hx.d1.sz; omega
theorem PX.pass (h : PX m W x y S1 S2 w1 w2 h1 h2) (n : Int) : PX m W (Aq.pass x n) y S1 S2 w1 w2 h1 h2 ∨ (Aq.pass x n).inds = [2] := by
 by_cases c : (Aq.pass x n).inds = [2]
 ·exact .inr c
 ·exact .inl (h.turn (.inl rfl) fun hx => (XE.pass hx.xe n).resolve_right c)
theorem PX.head {b : Msg} (h : PX m W x y S1 S2 w1 (b :: w2) h1 h2) : ∃ f fs1 A1 o1 R1 fs2 A2 o2 R2, b = fb m S2 f ∧ kd3 f ∧ XS m W x S1 S2 w1 h1 fs1 A1 o1 R1 y.order.kept (acks (f :: fs2)) A2 o2 R2 (idx (f :: fs2)) ∧
  XS m W y S2 S1 (b :: w2) h2 (f :: fs2) A2 o2 R2 x.order.kept (acks fs1) A1 o1 R1 (idx fs1) ∧ w2 ++ y.out = fs2.map (fb m S2) ∧ ∀ g ∈ fs2, kd3 g := by
 obtain ⟨fs1, A1, o1, R1, fs2, A2, o2, R2, hx, hy⟩ := h
 have ht := hy.told
 cases fs2 with
 | nil => cases ht
 | cons f fs2 =>
  rw [List.cons_append, List.map_cons] at ht
  injection ht with e1 e2
  exact ⟨f, fs1, A1, o1, R1, fs2, A2, o2, R2, e1, hy.kd f (.head _), hx, hy, e2, fun g hg => hy.kd g (.tail _ hg)⟩
theorem PX.lost {b : Msg} (h : PX m W x y S1 S2 w1 (b :: w2) h1 h2) : PX m W x y S1 S2 w1 w2 h1 h2 := by
 obtain ⟨f, fs1, A1, o1, R1, fs2, A2, o2, R2, e, k, hx, hy, ht, hk⟩ := h.head
 have hx' : XS m W x S1 S2 w1 h1 fs1 A1 o1 R1 y.order.kept (acks fs2) A2 o2 R2 (idx fs2) := by
  refine ⟨hx.en, hx.d1.loseR, ?_, hx.told, hx.got, hx.kd⟩
  have d := hx.d2
  by_cases k0 : f.K = 0
  ·rw [show idx (f :: fs2) = f.i :: idx fs2 from if_pos k0] at d; exact d.lose
  ·rw [show idx (f :: fs2) = idx fs2 from if_neg k0] at d; exact d
 exact ⟨fs1, A1, o1, R1, fs2, A2, o2, R2, hx', XS.rebuild (fs2 := f :: fs2) (R2 := R2) hy hx' ht rfl hk⟩
theorem PX.input (hm : m = 128 ∨ m = 32768) (hS : ∀ b ∈ S2, b.length ≤ 50) {b : Msg} (h : PX m W x y S1 S2 w1 (b :: w2) h1 h2) : PX m W (Aq.input x b) y S1 S2 w1 w2 h1 h2 := by
 obtain ⟨f, fs1, A1, o1, R1, fs2, A2, o2, R2, e, k, hx, hy, ht, hk⟩ := h.head
 subst e
 obtain ⟨fs1', A1', o1', R2', hx'⟩ := XS.input hm hS k hx
 exact ⟨fs1', A1', o1', R1, fs2, A2, o2, R2', hx', XS.rebuild (fs2 := f :: fs2) (R2 := R2) hy hx' ht rfl hk⟩
theorem XS.drain {fs : List Fm} {A o R1 A2 o2 R2 : Nat} {k1 : List (Int × Msg)} {rs1 is2 : List Nat} (h : XS m W x S1 S2 w1 h1 fs A o R1 k1 rs1 A2 o2 R2 is2) : XS m W (drained x) S1 S2 (w1 ++ x.out) (h1 ++ x.order.ready) fs A o R1 k1 rs1 A2 o2 R2 is2 := by
 refine ⟨{ h.en with inds := rfl }, h.d1, h.d2, ?_, ?_, h.kd⟩
 ·show (w1 ++ x.out) ++ [] = _
  rw [List.append_nil]; exact h.told
 ·show (h1 ++ x.order.ready) ++ [] = _
  rw [List.append_nil]; exact h.got
theorem PX.drain (h : PX m W x y S1 S2 w1 w2 h1 h2) : PX m W (drained x) (drained y) S1 S2 (w1 ++ x.out) (w2 ++ y.out) (h1 ++ x.order.ready) (h2 ++ y.order.ready) := by
 obtain ⟨fs1, A1, o1, R1, fs2, A2, o2, R2, hx, hy⟩ := h
 exact ⟨fs1, A1, o1, R1, fs2, A2, o2, R2, hx.drain, hy.drain⟩
theorem PX.right (h : PX m W x y S1 S2 w1 w2 h1 h2) (hr : y.order.ready = []) : ∃ R, h2 = S1.take R ∧ R ≤ S1.length ∧ x.acked ≤ (h2.length : Int) ∧ x.lost = 0 := by
 obtain ⟨fs1, A1, o1, R1, fs2, A2, o2, R2, hx, hy⟩ := h
 have hg := hy.got
 rw [hr, List.append_nil] at hg
 have h3 := hx.d1.RH; have h4 := hx.d1.sz; have h5 := hx.d1.AR
 refine ⟨R1, hg, by omega, ?_, hx.en.lost⟩
 rw [hg, hx.en.acked, List.length_take]; omega
end
structure PJ (m W : Nat) (p : Pr) : Prop where
 px : PX m W p.a.1 p.a.2 p.said.1 p.said.2 p.way.1 p.way.2 p.heard.1 p.heard.2
 s1 : ∀ b ∈ p.said.1, b.length ≤ 50
 s2 : ∀ b ∈ p.said.2, b.length ≤ 50
 d : p.downs = 0
theorem PX.noinds {m W : Nat} {x y : arq_Arq} {S1 S2 w1 w2 h1 h2 : List Msg} (h : PX m W x y S1 S2 w1 w2 h1 h2) : x.inds = [] ∧ y.inds = [] := by
 obtain ⟨_, _, _, _, _, _, _, _, hx, hy⟩ := h
 exact ⟨hx.en.inds, hy.en.inds⟩
theorem PJ.collect {m W : Nat} {p : Pr} (h : PJ m W p) : PJ m W (Aq.collect p) := by
 refine ⟨h.px.drain, h.s1, h.s2, ?_⟩
 have hi := h.px.noinds
 show p.downs + downOf p.a.1.inds + downOf p.a.2.inds = 0
 rw [hi.1, hi.2, h.d]; rfl
theorem PJ.carry {m W : Nat} (hm : m = 128 ∨ m = 32768) {p : Pr} (h : PJ m W p) (i lost : Bool) : PJ m W (Aq.carry p i lost) := by
 unfold Aq.carry
 split
 ·exact h
 rename_i c
 refine PJ.collect ?_
 cases i with
 | false =>
  obtain ⟨b, w, e⟩ : ∃ b w, p.way.1 = b :: w := by
   cases q : p.way.1 with
   | nil => exact absurd q c
   | cons b w => exact ⟨b, w, rfl⟩
  have hx := h.px.swap
  rw [e] at hx
  have ew : wayOf p false = b :: w := e
  cases lost with
  | true =>
   refine ⟨?_, h.s1, h.s2, h.d⟩
   show PX m W p.a.1 p.a.2 p.said.1 p.said.2 p.way.1.tail p.way.2 p.heard.1 p.heard.2
   rw [e]; exact hx.lost.swap
  | false =>
   refine ⟨?_, h.s1, h.s2, h.d⟩
   rw [ew]
   show PX m W p.a.1 (Aq.input p.a.2 b) p.said.1 p.said.2 p.way.1.tail p.way.2 p.heard.1 p.heard.2
   rw [e]; exact (hx.input hm h.s1).swap
 | true =>
  obtain ⟨b, w, e⟩ : ∃ b w, p.way.2 = b :: w := by
   cases q : p.way.2 with
   | nil => exact absurd q c
   | cons b w => exact ⟨b, w, rfl⟩
  have hx := h.px
  rw [e] at hx
  have ew : wayOf p true = b :: w := e
  cases lost with
  | true =>
   refine ⟨?_, h.s1, h.s2, h.d⟩
   show PX m W p.a.1 p.a.2 p.said.1 p.said.2 p.way.1 p.way.2.tail p.heard.1 p.heard.2
   rw [e]; exact hx.lost
  | false =>
   refine ⟨?_, h.s1, h.s2, h.d⟩
   rw [ew]
   show PX m W (Aq.input p.a.1 b) p.a.2 p.said.1 p.said.2 p.way.1 p.way.2.tail p.heard.1 p.heard.2
   rw [e]; exact hx.input hm h.s2
theorem PJ.withA {m W : Nat} {p : Pr} (h : PJ m W p) {a : arq_Arq} (k : PX m W a p.a.2 p.said.1 p.said.2 p.way.1 p.way.2 p.heard.1 p.heard.2) : PJ m W (Aq.withA p a) := ⟨k, h.s1, h.s2, h.d⟩
theorem PJ.withB {m W : Nat} {p : Pr} (h : PJ m W p) {a : arq_Arq} (k : PX m W p.a.1 a p.said.1 p.said.2 p.way.1 p.way.2 p.heard.1 p.heard.2) : PJ m W (Aq.withB p a) := ⟨k, h.s1, h.s2, h.d⟩
theorem PJ.both {m W : Nat} (hm : m = 128 ∨ m = 32768) (hW : 1 ≤ W ∧ 8 * W ≤ m) (t1 n2 q : Int) : PJ m W (Aq.both (upped m t1 n2 50 W q) (upped m t1 n2 50 W q)) := by
 have d : Dir m W [] 0 0 0 [] [] [] := ⟨hW.1, hW.2, Nat.le_refl _, Nat.zero_le _, Nat.le_refl _, Nat.le_refl _, fun _ q => (nomatch q), List.nodup_nil, fun _ q => (nomatch q), fun _ q => (nomatch q), List.Pairwise.nil, fun _ q => (nomatch q), fun _ q => (nomatch q), List.Pairwise.nil⟩
 have e0 : ((0 % m : Nat) : Int) = 0 := by rw [Nat.zero_mod]; rfl
 have e : En m W (upped m t1 n2 50 W q) [] 0 0 0 := ⟨rfl, rfl, rfl, rfl, rfl, rfl, rfl, rfl, rfl, rfl, e0.symm, rfl, rfl, e0.symm, rfl, rfl⟩
 have x : XS m W (upped m t1 n2 50 W q) [] [] [] [] [] 0 0 0 [] [] 0 0 0 [] := ⟨e, d, d, rfl, rfl, fun _ q => (nomatch q)⟩
 exact ⟨⟨[], 0, 0, 0, [], 0, 0, 0, x, x⟩, fun _ q => (nomatch q), fun _ q => (nomatch q), rfl⟩
end Ao
namespace Ad
open Aq Ao
def g : Nat → Nat
 | 0 => 0
 | q + 1 => g q + 2 * min 16 (q + 1)
theorem g_mono : ∀ {a b : Nat}, a ≤ b → g a ≤ g b
 | a, 0, h => by rw [Nat.le_zero.1 h]; exact Nat.le_refl _
 | a, b + 1, h => by
  by_cases e : a = b + 1
  ·rw [e]; exact Nat.le_refl _
  ·exact Nat.le_trans (g_mono (by omega : a ≤ b)) (Nat.le_add_right _ _)
theorem g_pos {q : Nat} (h : 1 ≤ q) : g q = g (q - 1) + 2 * min 16 q := by
 obtain ⟨r, rfl⟩ : ∃ r, q = r + 1 := ⟨q - 1, by omega⟩
 rfl
def cap (n R : Nat) (rej : Bool) : Nat := g (n - R - if rej = true then 1 else 0)
def wt (n : Nat) (f : Fm) : Nat := if f.K = 0 then 2 else if f.K = 2 then 1 + 2 * min 16 (n - f.r) else 1
theorem wt_pos (n : Nat) (f : Fm) : 1 ≤ wt n f := by unfold wt; split; omega; split <;> omega
def ws (n : Nat) : List Fm → Nat
 | [] => 0
 | f :: l => wt n f + ws n l
theorem ws_app (n : Nat) : ∀ (a b : List Fm), ws n (a ++ b) = ws n a + ws n b
 | [], b => (Nat.zero_add _).symm
 | f :: a, b => by show wt n f + ws n (a ++ b) = wt n f + ws n a + ws n b; rw [ws_app n a b, Nat.add_assoc]
theorem ws_map (n A R : Nat) : ∀ l : List Nat, ws n (l.map fun j => (⟨0, A + j, R, false⟩ : Fm)) = 2 * l.length
 | [] => rfl
 | j :: l => by show 2 + ws n (l.map _) = 2 * (l.length + 1); rw [ws_map n A R l]; omega
def Mx (n1 n2 : Nat) (fs : List Fm) (A o R2 : Nat) (rej : Bool) : Nat := ws n2 fs + 2 * (n1 - (A + o)) + cap n2 R2 rej
structure Tm (x : arq_Arq) (o : Nat) : Prop where
 t1 : x.t1 = 10
 n2 : x.n2 = 100
 le : 0 ≤ run x ∧ run x ≤ 10
 on : 0 < o ↔ 0 < run x
 tr : 0 ≤ x.tries
 nk : mhas x.order.kept x.order.next = false
structure Y (m W : Nat) (S S2 w1 hd : List Msg) (R1 : Nat) (k1 : List (Int × Msg)) (rs1 : List Nat) (A2 o2 : Nat) (fs0 : List Fm) (A o0 : Nat) (r0 t0 : Int) (is2 : List Nat) (P : Nat) (x : arq_Arq) (fs : List Fm) (o R2 : Nat) : Prop where
 xs : XS m W x S S2 w1 hd fs A o R1 k1 rs1 A2 o2 R2 is2
 ext : ∃ u, fs = fs0 ++ u
 mono : o0 ≤ o
 new : ∀ j, A + o0 ≤ j → j < A + o → j ∈ idx fs
 run : Aq.run x = r0 ∨ o0 = 0 ∨ A ∈ idx fs
 rl : Aq.run x = r0 ∨ Aq.run x = 10
 tries : x.tries = t0
 tm : Tm x o
 pot : Mx S.length S2.length fs A o R2 x.rejected ≤ P
theorem idx_left {j : Nat} {a b : List Fm} (h : j ∈ idx a) : j ∈ idx (a ++ b) := by rw [idx_app]; exact List.mem_append_left _ h
section
variable {m W : Nat} {S S2 w1 hd : List Msg} {R1 : Nat} {k1 : List (Int × Msg)} {rs1 : List Nat} {A2 o2 : Nat} {fs0 : List Fm} {A o0 : Nat} {r0 t0 : Int} {is2 : List Nat} {P : Nat} {x : arq_Arq} {fs : List Fm} {o R2 : Nat}
theorem out1_same (x : arq_Arq) : (Aq.out1 x).tries = x.tries ∧ (Aq.out1 x).rejected = x.rejected ∧ (Aq.out1 x).order = x.order ∧ (Aq.out1 x).t1 = x.t1 ∧ (Aq.out1 x).n2 = x.n2 ∧ run (Aq.out1 x) = if run x > 0 then run x else x.t1 := by
 unfold Aq.out1
 dsimp only
 by_cases c : run x > 0
 ·rw [if_pos c, if_pos c]; exact ⟨rfl, rfl, rfl, rfl, rfl, rfl⟩
 ·rw [if_neg c, if_neg c]; exact ⟨rfl, rfl, rfl, rfl, rfl, rfl⟩
theorem Y.out1 (h : Y m W S S2 w1 hd R1 k1 rs1 A2 o2 fs0 A o0 r0 t0 is2 P x fs o R2) (hm : more x) :
  Y m W S S2 w1 hd R1 k1 rs1 A2 o2 fs0 A o0 r0 t0 is2 P (Aq.out1 x) (fs ++ [⟨0, A + o, R2, false⟩]) (o + 1) R2 := by
 obtain ⟨s1, s2, s3, s4, s5, s6⟩ := out1_same x
 have e := h.xs.en
 have h1 := hm.1
 rw [e.out, e.l, List.length_drop] at h1
 obtain ⟨u, hu⟩ := h.ext
 have tm := h.tm
 have ha : A + o ∈ idx (fs ++ [⟨0, A + o, R2, false⟩]) := by rw [idx_app]; exact List.mem_append_right _ (.head _)
 refine ⟨h.xs.out1 hm, ⟨u ++ [⟨0, A + o, R2, false⟩], by rw [hu, List.append_assoc]⟩, by have := h.mono; omega, fun j j1 j2 => ?_, ?_, ?_, s1.trans h.tries, ⟨s4.trans tm.t1, s5.trans tm.n2, ?_, ?_, by rw [s1]; exact tm.tr, by rw [s3]; exact tm.nk⟩, ?_⟩
 ·by_cases q : j < A + o
  ·exact idx_left (h.new j j1 q)
  ·rw [show j = A + o by omega]; exact ha
 ·rw [s6]
  by_cases c : Aq.run x > 0
  ·rw [if_pos c]; exact h.run.imp id (Or.imp id idx_left)
  ·have := tm.on; have := h.mono
   exact .inr (.inl (by omega))
 ·rw [s6]
  by_cases c : Aq.run x > 0
  ·rw [if_pos c]; exact h.rl
  ·rw [if_neg c]; exact .inr tm.t1
 ·have := tm.le; have := tm.t1
  rw [s6]; split <;> omega
 ·have := tm.le; have := tm.t1
  rw [s6]; split <;> omega
 ·have hp := h.pot
  unfold Mx at hp ⊢
  rw [ws_app, s2]
  have : ws S2.length [⟨0, A + o, R2, false⟩] = 2 := rfl
  omega
theorem Y.pumpL : ∀ (d : Nat) {x : arq_Arq} {fs : List Fm} {o : Nat}, Y m W S S2 w1 hd R1 k1 rs1 A2 o2 fs0 A o0 r0 t0 is2 P x fs o R2 → ∃ fs' o', Y m W S S2 w1 hd R1 k1 rs1 A2 o2 fs0 A o0 r0 t0 is2 P (Aq.pumpL d x) fs' o' R2 ∧ (W ≤ o + d → ¬ more (Aq.pumpL d x)) ∧ (Aq.pumpL d x).order = x.order ∧ (Aq.pumpL d x).rejected = x.rejected ∧ ∃ u, fs' = fs ++ u ∧ ∀ f ∈ u, f.K = 0
 | 0, x, fs, o, h => ⟨fs, o, h, fun hw q => by have := q.2; rw [show (Aq.pumpL 0 x) = x from rfl, h.xs.en.out, h.xs.en.lw] at this; omega, rfl, rfl, [], (List.append_nil _).symm, fun _ q => nomatch q⟩
 | d + 1, x, fs, o, h => by
  rw [Aq.pumpL]
  by_cases c : more x
  ·rw [if_pos c]
   obtain ⟨fs', o', h1, h2, h3, h3', u, h4, h5⟩ := (h.out1 c).pumpL d
   refine ⟨fs', o', h1, fun hw => h2 (by omega), h3.trans (out1_same x).2.2.1, h3'.trans (out1_same x).2.1, _, h4.trans (List.append_assoc ..), fun f hf => ?_⟩
   rcases List.mem_append.1 hf with q | q
   ·rw [List.mem_singleton.1 q]
   ·exact h5 f q
  ·rw [if_neg c]
   exact ⟨fs, o, h, fun _ => c, rfl, rfl, [], (List.append_nil _).symm, fun _ q => nomatch q⟩
theorem Y.pump (h : Y m W S S2 w1 hd R1 k1 rs1 A2 o2 fs0 A o0 r0 t0 is2 P x fs o R2) : ∃ fs' o', Y m W S S2 w1 hd R1 k1 rs1 A2 o2 fs0 A o0 r0 t0 is2 P (Aq.pump x) fs' o' R2 ∧ ¬ more (Aq.pump x) ∧ (Aq.pump x).order = x.order ∧ (Aq.pump x).rejected = x.rejected ∧ ∃ u, fs' = fs ++ u ∧ ∀ f ∈ u, f.K = 0 := by
 unfold Aq.pump
 rw [if_pos h.xs.en.st]
 obtain ⟨fs', o', h1, h2, h3⟩ := h.pumpL x.log.window.toNat
 exact ⟨fs', o', h1, h2 (by have := h.xs.en.lw; omega), h3⟩
theorem Y.resend (hW : W ≤ 16) (h : Y m W S S2 w1 hd R1 k1 rs1 A2 o2 fs0 A o0 r0 t0 is2 P x fs o R2) : ∃ fs', Y m W S S2 w1 hd R1 k1 rs1 A2 o2 fs0 A o0 r0 t0 is2 (P + 2 * min 16 (S.length - A)) (Aq.resend x) fs' o R2 ∧ (Aq.resend x).order = x.order ∧ (Aq.resend x).rejected = x.rejected := by
 have e := h.xs.en
 have tm := h.tm
 have hp := h.pot
 have hw := h.xs.d1.oW
 have hs := h.xs.d1.sz
 unfold Aq.resend outAll
 by_cases c : x.log.out > 0
 ·rw [if_pos c]
  have ho : x.log.out.toNat = o := by have := e.out; omega
  have ho1 : 0 < o := by have := e.out; omega
  have h1 := XS.many (List.range x.log.out.toNat) h.xs (fun j hj => by have := List.mem_range.1 hj; omega)
  obtain ⟨u, hu⟩ := h.ext
  have ha : A ∈ idx ((List.range x.log.out.toNat).map fun j => (⟨0, A + j, R2, false⟩ : Fm)) := by
   refine idx_mem (f := ⟨0, A + 0, R2, false⟩) (List.mem_map.2 ⟨0, List.mem_range.2 (by omega), rfl⟩) rfl
  have hr : Aq.run (timed (also x ((List.range x.log.out.toNat).map fun (j : Nat) => imsg x (j : Int) false)) x.t1) = x.t1 := rfl
  have ht := tm.t1
  refine ⟨_, ⟨h1.set _ _ _, ⟨_, by rw [hu, List.append_assoc]⟩, h.mono, fun j j1 j2 => idx_left (h.new j j1 j2), .inr (.inr (by rw [idx_app]; exact List.mem_append_right _ ha)), .inr (hr.trans ht), h.tries, ⟨tm.t1, tm.n2, by rw [hr]; omega, by rw [hr]; omega, tm.tr, tm.nk⟩, ?_⟩, rfl, rfl⟩
  show Mx S.length S2.length _ A o R2 x.rejected ≤ _
  unfold Mx at hp ⊢
  rw [ws_app, ws_map, List.length_range]
  omega
 ·rw [if_neg c]
  exact ⟨fs, { h with pot := Nat.le_trans hp (Nat.le_add_right _ _) }, rfl, rfl⟩
end
end Ad
namespace Ad
open Aq Ao
theorem mhas_of {α : Type} : ∀ {l : List (Int × α)} {k : Int} {v : α}, (k, v) ∈ l → mhas l k = true
 | p :: l, k, v, h => by
  by_cases q : p.1 = k
  ·simp only [mhas, if_pos q]
  ·simp only [mhas, if_neg q]
   rcases List.mem_cons.1 h with e | e
   ·exact absurd (by rw [← e]) q
   ·exact mhas_of e
theorem mdel_keep {α : Type} : ∀ {l : List (Int × α)} {k : Int} {e : Int × α}, e ∈ l → e.1 ≠ k → e ∈ mdel l k
 | p :: l, k, e, h, hk => by
  by_cases q : p.1 = k
  ·simp only [mdel, if_pos q]
   rcases List.mem_cons.1 h with r | r
   ·exact absurd (r ▸ q) hk
   ·exact r
  ·simp only [mdel, if_neg q]
   rcases List.mem_cons.1 h with r | r
   ·rw [r]; exact .head _
   ·exact .tail _ (mdel_keep r hk)
def Kp (m : Nat) (S : List Msg) (j : Nat) (kept : List (Int × Msg)) : Prop := (((j % m : Nat) : Int), S.getD j []) ∈ kept
section
variable {m W : Nat} {S : List Msg} {A o R : Nat} {is rs : List Nat}
theorem drain_dirX (hd : List Msg) : ∀ (d : Nat) (x : reorder_Order) (R : Nat), x.m = m → x.window = W → x.next = ((R % m : Nat) : Int) → Dir m W S A o R x.kept is rs → hd ++ x.ready = S.take R →
  (Or.drain d x).2.m = m ∧ (Or.drain d x).2.window = W ∧ (Or.drain d x).2.next = (((R + (Or.drain d x).1) % m : Nat) : Int) ∧ Dir m W S A o (R + (Or.drain d x).1) (Or.drain d x).2.kept is rs ∧ hd ++ (Or.drain d x).2.ready = S.take (R + (Or.drain d x).1) ∧
  (x.kept.length ≤ d → mhas (Or.drain d x).2.kept (Or.drain d x).2.next = false) ∧ ∀ j, R ≤ j → j < A + o → Kp m S j x.kept → j < R + (Or.drain d x).1 ∨ Kp m S j (Or.drain d x).2.kept
 | 0, x, R, h1, h2, h3, h4, h5 => ⟨h1, h2, h3, h4, h5, fun q => by show mhas x.kept _ = false; rw [List.length_eq_zero_iff.1 (by omega : x.kept.length = 0)]; rfl, fun j _ _ q => .inr q⟩
 | d + 1, x, R, h1, h2, h3, h4, h5 => by
  rw [Or.drain]
  by_cases hh : mhas x.kept x.next = true
  ·rw [if_pos hh]
   have hm := mhas_mem hh []
   obtain ⟨j, j1, j2, j3, j4⟩ := h4.kp _ hm
   have e1 : x.next = ((j % m : Nat) : Int) := congrArg Prod.fst j3
   have e2 : mget x.kept x.next [] = S.getD j [] := congrArg Prod.snd j3
   have hw := h4.oW; have hWm := h4.Wm; have hAR := h4.AR; have hW1 := h4.W1; have hsz := h4.sz
   have ej : j = R := nat_mod_inj (m := m) (by rw [h3] at e1; omega) j1 (by omega)
   subst ej
   have h4' : Dir m W S A o (j + 1) (mdel x.kept x.next) is rs := by
    refine { h4 with AR := by omega, RH := by omega, kp := fun e he => ?_, nd := h4.nd.sublist (mdel_sub.map _), iR := fun i hi => by have := j4 i hi; omega, rR := fun r hr => by have := h4.rR r hr; omega }
    obtain ⟨q, q1, q2, q3, q4⟩ := h4.kp e (mdel_sub.mem he)
    refine ⟨q, ?_, q2, q3, q4⟩
    have hne := mdel_ne h4.nd e he
    have : q ≠ j := by
     intro eq; subst eq
     exact hne (by rw [q3, e1])
    omega
   obtain ⟨g1, g2, g3, g4, g5, g6, g7⟩ := drain_dirX hd d (Or.ostep x) (j + 1) h1 h2 (by show (x.next + 1) % x.m = _; rw [h3, h1, succ_mod]) h4' (by
    show hd ++ (x.ready ++ [mget x.kept x.next []]) = _
    rw [← List.append_assoc, h5, e2, take_next (by omega)])
   have er : j + ((Or.drain d (Or.ostep x)).1 + 1) = j + 1 + (Or.drain d (Or.ostep x)).1 := by omega
   dsimp only
   rw [er]
   have hl := Or.mdel_len hh
   refine ⟨g1, g2, g3, g4, g5, fun q => g6 (by show (mdel x.kept x.next).length ≤ d; omega), fun i i1 i2 i3 => ?_⟩
   by_cases ei : i = j
   ·left; omega
   ·refine g7 i (by omega) i2 (mdel_keep i3 fun q => ei ?_)
    have q : ((i % m : Nat) : Int) = x.next := q
    exact nat_mod_inj (m := m) (by rw [e1] at q; omega) (by omega) (by omega)
  ·rw [if_neg hh]
   exact ⟨h1, h2, h3, h4, h5, fun _ => by simpa using hh, fun j _ _ q => .inr q⟩
structure Pt (m : Nat) (S : List Msg) (A o i R : Nat) (x y : reorder_Order) (c : Int) (R' : Nat) : Prop where
 le : R ≤ R'
 more : R < R' ↔ 0 < c
 nk : mhas y.kept y.next = false
 i : i < R' ∨ Kp m S i y.kept
 all : ∀ j, R ≤ j → j < A + o → Kp m S j x.kept → j < R' ∨ Kp m S j y.kept
theorem put_dirX (hd : List Msg) {x : reorder_Order} {i : Nat} (h1 : x.m = m) (h2 : x.window = W) (h3 : x.next = ((R % m : Nat) : Int)) (h4 : Dir m W S A o R x.kept (i :: is) rs) (h5 : hd ++ x.ready = S.take R) (nk : mhas x.kept x.next = false) :
  ∃ R', (Or.putm x ((i % m : Nat) : Int) (S.getD i [])).2.m = m ∧ (Or.putm x ((i % m : Nat) : Int) (S.getD i [])).2.window = W ∧ (Or.putm x ((i % m : Nat) : Int) (S.getD i [])).2.next = ((R' % m : Nat) : Int) ∧
   Dir m W S A o R' (Or.putm x ((i % m : Nat) : Int) (S.getD i [])).2.kept is rs ∧ hd ++ (Or.putm x ((i % m : Nat) : Int) (S.getD i [])).2.ready = S.take R' ∧
   Pt m S A o i R x (Or.putm x ((i % m : Nat) : Int) (S.getD i [])).2 (Or.putm x ((i % m : Nat) : Int) (S.getD i [])).1 R' := by
 have hw := h4.oW; have hWm := h4.Wm; have hAR := h4.AR; have hW1 := h4.W1; have hRH := h4.RH
 have hiH := h4.iH i (.head _)
 have hiR := h4.iR i (.head _)
 have hl := h4.lose
 have same : ∀ c : Int, c ≤ 0 → (i < R ∨ Kp m S i x.kept) → ∃ R', x.m = m ∧ x.window = W ∧ x.next = ((R' % m : Nat) : Int) ∧ Dir m W S A o R' x.kept is rs ∧ hd ++ x.ready = S.take R' ∧ Pt m S A o i R x x c R' :=
  fun c hc hi => ⟨R, h1, h2, h3, hl, h5, Nat.le_refl _, ⟨fun q => absurd q (Nat.lt_irrefl _), fun q => by omega⟩, nk, hi, fun j _ _ q => .inr q⟩
 unfold Or.putm
 by_cases c1 : (((i % m : Nat) : Int) - x.next) % x.m ≥ x.window
 ·rw [if_pos c1]
  refine same _ (by show (-1 : Int) ≤ 0; omega) (.inl ?_)
  refine Nat.lt_of_not_le fun hge => ?_
  rw [h1, h2, h3, dist_ge hge (by omega)] at c1
  omega
 rw [if_neg c1]
 have em : ((i % m : Nat) : Int) % x.m = ((i % m : Nat) : Int) := by rw [h1, ← Int.natCast_emod, Nat.mod_mod]
 by_cases c2 : mhas x.kept (((i % m : Nat) : Int) % x.m) = true
 ·rw [if_pos c2]
  rw [em] at c2
  refine same _ (by show (0 : Int) ≤ 0; omega) ?_
  by_cases hge : i < R
  ·exact .inl hge
  ·right
   have hm := mhas_mem c2 []
   obtain ⟨j, j1, j2, j3, _⟩ := h4.kp _ hm
   have e1 : ((i % m : Nat) : Int) = ((j % m : Nat) : Int) := congrArg Prod.fst j3
   have ei : i = j := by
    by_cases q : i ≤ j
    ·exact (nat_mod_inj (m := m) (j := j) (R := i) (by omega) q (by omega)).symm
    ·exact nat_mod_inj (m := m) (by omega) (by omega) (by omega)
   subst ei
   show (_, _) ∈ _
   rw [← j3]; exact hm
 rw [if_neg c2]
 rw [h1, h2, h3] at c1
 have hge : R ≤ i := by
  refine Nat.le_of_not_lt fun hlt => ?_
  rw [dist_lt hlt (by omega)] at c1
  omega
 rw [em] at c2 ⊢
 have hno := mhas_no (by simpa using c2 : mhas x.kept ((i % m : Nat) : Int) = false)
 have hX := drain_dirX (is := is) (rs := rs) (A := A) (o := o) hd (x.kept.length + 1) (Or.ost x x.next (x.kept ++ [(((i % m : Nat) : Int), S.getD i [])]) x.ready) R h1 h2 h3 (by
  show Dir m W S A o R (x.kept ++ [(((i % m : Nat) : Int), S.getD i [])]) is rs
  refine { hl with kp := fun e he => ?_, nd := ?_ }
  ·rcases List.mem_append.1 he with he | he
   ·exact hl.kp e he
   ·simp at he
    exact ⟨i, hge, hiH, he, fun q hq => (List.pairwise_cons.1 h4.iP).1 q hq⟩
  ·rw [List.map_append]
   refine List.nodup_append.2 ⟨h4.nd, by simp, fun a ha b hb => ?_⟩
   simp at hb
   subst hb
   intro e; subst e
   exact hno ha) h5
 obtain ⟨g1, g2, g3, g4, g5, g6, g7⟩ := hX
 refine ⟨_, g1, g2, g3, g4, g5, Nat.le_add_right _ _, ⟨fun q => by dsimp only; omega, fun q => by dsimp only at q; omega⟩, g6 (by show (x.kept ++ [_]).length ≤ _; rw [List.length_append]; exact Nat.le_refl _), g7 i hge hiH (List.mem_append_right _ (.head _)), fun j j1 j2 j3 => g7 j j1 j2 (List.mem_append_left _ j3)⟩
end
section
variable {m W : Nat} {S S2 w1 hd : List Msg} {R1 : Nat} {k1 : List (Int × Msg)} {rs1 : List Nat} {A2 o2 : Nat} {fs0 : List Fm} {A o0 : Nat} {r0 t0 : Int} {is2 : List Nat} {P : Nat} {x : arq_Arq} {fs : List Fm} {o R2 : Nat}
theorem Y.put {i : Nat} (h : Y m W S S2 w1 hd R1 k1 rs1 A2 o2 fs0 A o0 r0 t0 (i :: is2) P x fs o R2) :
  ∃ R, Y m W S S2 w1 hd R1 k1 rs1 A2 o2 fs0 A o0 r0 t0 is2 P (Aq.put x ((i % m : Nat) : Int) (S2.getD i [])) fs o R ∧ R2 ≤ R ∧ (i < R ∨ Kp m S2 i (Aq.put x ((i % m : Nat) : Int) (S2.getD i [])).order.kept) ∧ ∀ j, R2 ≤ j → j < A2 + o2 → Kp m S2 j x.order.kept → j < R ∨ Kp m S2 j (Aq.put x ((i % m : Nat) : Int) (S2.getD i [])).order.kept := by
 have e := h.xs.en
 have tm := h.tm
 obtain ⟨R, g1, g2, g3, g4, g5, p⟩ := put_dirX hd e.om e.ow e.next h.xs.d2 h.xs.got tm.nk
 refine ⟨R, ⟨⟨{ e with om := g1, ow := g2, next := g3 }, h.xs.d1, g4, h.xs.told, g5, h.xs.kd⟩, h.ext, h.mono, h.new, h.run, h.rl, h.tries, ⟨tm.t1, tm.n2, tm.le, tm.on, tm.tr, p.nk⟩, ?_⟩, p.le, p.i, p.all⟩
 have hp := h.pot
 have hle := p.le
 unfold Mx at hp ⊢
 refine Nat.le_trans (Nat.add_le_add_left ?_ _) hp
 show cap S2.length R (if (Or.putm x.order ((i % m : Nat) : Int) (S2.getD i [])).1 > 0 then false else x.rejected) ≤ _
 unfold cap
 by_cases c : R2 < R
 ·rw [if_pos (p.more.1 c), if_neg (by decide)]
  exact g_mono (by split <;> omega)
 ·have : R = R2 := by omega
  subst this
  refine g_mono ?_
  by_cases q : (Or.putm x.order ((i % m : Nat) : Int) (S2.getD i [])).1 > 0
  ·exact absurd (p.more.2 q) c
  ·rw [if_neg q]; exact Nat.le_refl _
theorem Y.answer (h : Y m W S S2 w1 hd R1 k1 rs1 A2 o2 fs0 A o0 r0 t0 is2 P x fs o R2) (p : Bool) :
  ∃ fs', Y m W S S2 w1 hd R1 k1 rs1 A2 o2 fs0 A o0 r0 t0 is2 (P + 1) (Aq.answer x p) fs' o R2 ∧ (Aq.answer x p).order = x.order ∧ R2 ∈ acks fs' := by
 have tm := h.tm
 have hp := h.pot
 obtain ⟨u, hu⟩ := h.ext
 unfold Aq.answer
 by_cases c : x.order.kept.length > 0 ∧ x.rejected = false
 ·rw [if_pos c]
  have h1 := h.xs.set x.timers x.tries true
  have e := h1.en.say (.inr rfl) false S
  have h2 := h1.emit (f := ⟨2, 0, R2, false⟩) (.inr (.inr rfl)) (fun q => by cases q) rfl
  rw [← e] at h2
  refine ⟨fs ++ [⟨2, 0, R2, false⟩], ⟨h2, ⟨u ++ [⟨2, 0, R2, false⟩], by rw [hu, List.append_assoc]⟩, h.mono, fun j j1 j2 => idx_left (h.new j j1 j2), h.run.imp id (Or.imp id idx_left), h.rl, h.tries, ⟨tm.t1, tm.n2, tm.le, tm.on, tm.tr, tm.nk⟩, ?_⟩, rfl, ?_⟩
  ·obtain ⟨e0, he0⟩ := List.exists_mem_of_length_pos c.1
   obtain ⟨j, j1, j2, _⟩ := h.xs.d2.kp e0 he0
   have hs := h.xs.d2.sz
   show Mx S.length S2.length (fs ++ [⟨2, 0, R2, false⟩]) A o R2 true ≤ _
   unfold Mx cap at hp ⊢
   rw [c.2, if_neg (by decide), Nat.sub_zero, g_pos (by omega)] at hp
   rw [ws_app, if_pos rfl]
   have : ws S2.length [⟨2, 0, R2, false⟩] = 1 + 2 * min 16 (S2.length - R2) := rfl
   omega
  ·rw [acks_app]; exact List.mem_append_right _ (.head _)
 ·rw [if_neg c]
  have e := h.xs.en.say (.inl rfl) p S
  have h2 := h.xs.emit (f := ⟨1, 0, R2, p⟩) (.inr (.inl rfl)) (fun q => by cases q) rfl
  rw [← e] at h2
  refine ⟨fs ++ [⟨1, 0, R2, p⟩], ⟨h2, ⟨u ++ [⟨1, 0, R2, p⟩], by rw [hu, List.append_assoc]⟩, h.mono, fun j j1 j2 => idx_left (h.new j j1 j2), h.run.imp id (Or.imp id idx_left), h.rl, h.tries, ⟨tm.t1, tm.n2, tm.le, tm.on, tm.tr, tm.nk⟩, ?_⟩, rfl, ?_⟩
  ·show Mx S.length S2.length (fs ++ [⟨1, 0, R2, p⟩]) A o R2 x.rejected ≤ _
   unfold Mx at hp ⊢
   rw [ws_app]
   have : ws S2.length [⟨1, 0, R2, p⟩] = 1 := rfl
   omega
  ·rw [acks_app]; exact List.mem_append_right _ (.head _)
structure In (m W : Nat) (S S2 w1 hd : List Msg) (R1 : Nat) (k1 : List (Int × Msg)) (A2 o2 : Nat) (fs0 : List Fm) (A o : Nat) (R2 : Nat) (x y : arq_Arq) (f : Fm) (fs2 fs : List Fm) (o' R2' : Nat) : Prop where
 yy : Y m W S S2 w1 hd R1 k1 (acks fs2) A2 o2 fs0 f.r (A + o - f.r) (if f.r = A then run x else if A + o - f.r > 0 then 10 else 0) (if f.r = A then x.tries else 0) (idx fs2) (Mx S.length S2.length fs0 A o R2 x.rejected + wt S.length f - 1) y fs o' R2'
 nm : ¬ more y
 le : R2 ≤ R2'
 i : f.K = 0 → R2' ∈ acks fs ∧ (f.i < R2' ∨ Kp m S2 f.i y.order.kept)
 no : f.K ≠ 0 → R2' = R2
 all : ∀ j, R2 ≤ j → j < A2 + o2 → Kp m S2 j x.order.kept → j < R2' ∨ Kp m S2 j y.order.kept
theorem acks_left {r : Nat} {a b : List Fm} (h : r ∈ acks a) : r ∈ acks (a ++ b) := by rw [acks_app]; exact List.mem_append_left _ h
theorem input_y (hm : m = 128 ∨ m = 32768) (hW : W ≤ 16) (hS : ∀ b ∈ S2, b.length ≤ 50) {f : Fm} (hk : kd3 f) {fs2 : List Fm} (h : XS m W x S S2 w1 hd fs A o R1 k1 (acks (f :: fs2)) A2 o2 R2 (idx (f :: fs2))) (tm : Tm x o) :
  ∃ fs' o' R2', In m W S S2 w1 hd R1 k1 A2 o2 fs A o R2 x (Aq.input x (fb m S2 f)) f fs2 fs' o' R2' := by
 have e := h.en
 rw [input_fb hm e.am hk]
 obtain ⟨h1, h2⟩ := XS.acknow (rs1 := acks fs2) h
 have rA := h.d1.rA f.r (.head _)
 have rR := h.d1.rR f.r (.head _)
 have RH := h.d1.RH
 have hWm := h.d1.Wm
 have hoW := h.d1.oW
 have hsz := h.d1.sz
 obtain ⟨c, hc⟩ : ∃ c, c = ct f.K (if f.K = 0 then ((f.i % m : Nat) : Int) else 0) ((f.r % m : Nat) : Int) f.p := ⟨_, rfl⟩
 have c1 : c.Kind = f.K := by rw [hc]
 have c2 : c.Nr = ((f.r % m : Nat) : Int) := by rw [hc]
 have c3 : f.K = 0 → c.Ns = ((f.i % m : Nat) : Int) := by intro q; rw [hc]; exact if_pos q
 have hd' : (((f.r % m : Nat) : Int) - x.log.first) % x.log.m = ((f.r - A : Nat) : Int) := by rw [e.first, e.lm]; exact dist_ge rA (by omega)
 have hy0 : (Aq.acknow x ((f.r % m : Nat) : Int)).2 = if f.r = A then x else ackd x ((f.r - A : Nat) : Int) := by
  unfold Aq.acknow at h1 ⊢
  split at h1
  ·rename_i q
   rw [if_pos q, hd']
   dsimp only
   by_cases z : f.r = A
   ·rw [if_pos (by omega), if_pos z]
   ·rw [if_neg (by omega), if_neg z]
  ·cases h1
 have hdd : ((f.r - A : Nat) : Int) ≤ x.log.out := by rw [e.out]; omega
 have a1 : run (if f.r = A then x else ackd x ((f.r - A : Nat) : Int)) = (if f.r = A then run x else if A + o - f.r > 0 then 10 else 0) ∧ (if f.r = A then x else ackd x ((f.r - A : Nat) : Int)).tries = (if f.r = A then x.tries else 0) ∧ (if f.r = A then x else ackd x ((f.r - A : Nat) : Int)).order = x.order ∧ (if f.r = A then x else ackd x ((f.r - A : Nat) : Int)).rejected = x.rejected ∧ (if f.r = A then x else ackd x ((f.r - A : Nat) : Int)).t1 = x.t1 ∧ (if f.r = A then x else ackd x ((f.r - A : Nat) : Int)).n2 = x.n2 := by
  by_cases z : f.r = A
  ·rw [if_pos z, if_pos z, if_pos z]; exact ⟨rfl, rfl, rfl, rfl, rfl, rfl⟩
  ·rw [if_neg z, if_neg z, if_neg z]
   unfold ackd
   dsimp only
   by_cases q : x.log.out - ((f.r - A : Nat) : Int) > 0
   ·rw [if_pos q, if_pos (by rw [e.out] at q; omega)]
    exact ⟨tm.t1, rfl, rfl, rfl, rfl, rfl⟩
   ·rw [if_neg q, if_neg (by rw [e.out] at q; omega)]
    exact ⟨rfl, rfl, rfl, rfl, rfl, rfl⟩
 rw [← hc]
 unfold numbered
 rw [if_neg (by rw [e.st]; decide), if_pos ⟨e.st, e.tag.symm⟩, if_neg, c2]
 rotate_left
 ·rintro ⟨q1, q2⟩
  rw [c1] at q1
  rw [if_pos q1, e.size] at q2
  have : (S2.getD f.i []).length ≤ 50 := by
   by_cases hi : f.i < S2.length
   ·have e1 : S2.getD f.i [] = S2[f.i] := by simp [List.getD, hi]
    rw [e1]; exact hS _ (List.getElem_mem hi)
   ·have e1 : S2.getD f.i [] = [] := by simp [List.getD, show S2.length ≤ f.i by omega]
    rw [e1]; simp
  omega
 rw [c1, h1]
 rw [hy0] at h2 ⊢
 obtain ⟨a1, a2, a3, a4, a5, a6⟩ := a1
 generalize (if f.r = A then x else ackd x ((f.r - A : Nat) : Int)) = y at h2 a1 a2 a3 a4 a5 a6 ⊢
 have tmy : Tm y (A + o - f.r) := by
  have := tm.le; have := tm.on; have := tm.tr; have := tm.t1
  refine ⟨a5.trans tm.t1, a6.trans tm.n2, ?_, ?_, ?_, by rw [a3]; exact tm.nk⟩
  ·rw [a1]; split; omega; split <;> omega
  ·rw [a1]; split
   ·rename_i z; rw [show A + o - f.r = o by omega]; exact tm.on
   ·split <;> omega
  ·rw [a2]; split <;> omega
 have y0 : Y m W S S2 w1 hd R1 k1 (acks fs2) A2 o2 fs f.r (A + o - f.r) (if f.r = A then run x else if A + o - f.r > 0 then 10 else 0) (if f.r = A then x.tries else 0) (idx (f :: fs2)) (Mx S.length S2.length fs A o R2 x.rejected) y fs (A + o - f.r) R2 :=
  ⟨h2, ⟨[], (List.append_nil _).symm⟩, Nat.le_refl _, fun j j1 j2 => by omega, .inl a1, .inl a1, a2, tmy, by rw [a4]; unfold Mx; rw [show f.r + (A + o - f.r) = A + o by omega]; exact Nat.le_refl _⟩
 have hwt := wt_pos S.length f
 by_cases k0 : f.K = 0
 ·have e4 : idx (f :: fs2) = f.i :: idx fs2 := if_pos k0
  rw [e4] at y0
  obtain ⟨R', p1, p2, p3, p4⟩ := y0.put
  obtain ⟨fs', q1, q2, q3⟩ := p1.answer c.Poll
  obtain ⟨fs'', o'', r1, r2, r3, _, u, r4, _⟩ := q1.pump
  have hz : (if (true = true ∧ f.K = 2) then Aq.resend y else y) = y := if_neg (by rintro ⟨_, q⟩; rw [k0] at q; cases q)
  have hw2 : wt S.length f = 2 := by unfold wt; rw [if_pos k0]
  refine ⟨fs'', o'', R', ?_⟩
  dsimp only
  rw [hz, if_pos k0, if_pos k0]
  have hcome : Aq.come y c (S2.getD f.i []) = Aq.answer (Aq.put y ((f.i % m : Nat) : Int) (S2.getD f.i [])) c.Poll := by unfold Aq.come; rw [c3 k0]
  rw [hcome]
  refine ⟨{ r1 with pot := Nat.le_trans r1.pot (by omega) }, r2, p2, fun _ => ⟨by rw [r4]; exact acks_left q3, ?_⟩, fun q => absurd k0 q, fun j j1 j2 j3 => ?_⟩
  ·rw [r3, q2]; exact p3
  ·rw [r3, q2]; exact p4 j j1 j2 (by rw [a3]; exact j3)
 ·have e4 : idx (f :: fs2) = idx fs2 := if_neg k0
  rw [e4] at y0
  by_cases k2 : f.K = 2
  ·obtain ⟨fs', q1, q2, q3⟩ := y0.resend hW
   obtain ⟨fs'', o'', r1, r2, r3, _, u, r4, _⟩ := q1.pump
   have hw2 : wt S.length f = 1 + 2 * min 16 (S.length - f.r) := by unfold wt; rw [if_neg k0, if_pos k2]
   refine ⟨fs'', o'', R2, ?_⟩
   dsimp only
   rw [if_pos (show true = true ∧ f.K = 2 from ⟨rfl, k2⟩), if_neg k0]
   refine ⟨{ r1 with pot := Nat.le_trans r1.pot (by omega) }, r2, Nat.le_refl _, fun q => absurd q k0, fun _ => rfl, fun j j1 j2 j3 => .inr (by rw [r3, q2, a3]; exact j3)⟩
  ·obtain ⟨fs'', o'', r1, r2, r3, _, u, r4, _⟩ := y0.pump
   refine ⟨fs'', o'', R2, ?_⟩
   dsimp only
   rw [if_neg (show ¬ (true = true ∧ f.K = 2) from fun q => k2 q.2), if_neg k0]
   refine ⟨{ r1 with pot := Nat.le_trans r1.pot (by omega) }, r2, Nat.le_refl _, fun q => absurd q k0, fun _ => rfl, fun j j1 j2 j3 => .inr (by rw [r3, a3]; exact j3)⟩
end
end Ad
namespace Ad
open Aq Ao
def LB (s : Nat) (x : arq_Arq) : Nat := if run x > 0 then (s + 10 - (run x).toNat) / 10 else s / 10
section
variable {m W : Nat} {S S2 w1 hd : List Msg} {R1 : Nat} {k1 : List (Int × Msg)} {rs1 : List Nat} {A2 o2 : Nat} {A : Nat} {is2 : List Nat} {x : arq_Arq} {fs : List Fm} {o R2 : Nat}
theorem late_y (h : XS m W x S S2 w1 hd fs A o R1 k1 rs1 A2 o2 R2 is2) (hn : x.n2 = 100) (h1 : x.t1 = 10) (ho : 0 < o) (ht : x.tries + 1 ≤ 100) :
  XS m W (Aq.late x) S S2 w1 hd (fs ++ [⟨0, A, R2, true⟩]) A o R1 k1 rs1 A2 o2 R2 is2 ∧ run (Aq.late x) = 10 ∧ (Aq.late x).tries = x.tries + 1 ∧ (Aq.late x).order = x.order ∧ (Aq.late x).rejected = x.rejected ∧ (Aq.late x).t1 = 10 ∧ (Aq.late x).n2 = 100 := by
 have e := h.en
 have hy : XS m W (timed { x with tries := x.tries + 1 } x.t1) S S2 w1 hd fs A o R1 k1 rs1 A2 o2 R2 is2 := h.set _ _ _
 have e1 := hy.en.imsg 0 true
 have h2 := hy.emit (f := ⟨0, A + 0, R2, true⟩) (.inl rfl) (fun _ => ⟨by show A ≤ A + 0; omega, by show A + 0 < A + o; omega⟩) rfl
 have er : Aq.late x = also (timed { x with tries := x.tries + 1 } x.t1) [fb m S ⟨0, A + 0, R2, true⟩] := by
  rw [← e1]
  unfold Aq.late
  rw [if_neg (by rw [hn]; omega)]
  have es : (timed { x with tries := x.tries + 1 } x.t1).state = 2 := e.st
  have eo : (timed { x with tries := x.tries + 1 } x.t1).log.out = o := e.out
  unfold remind
  rw [if_neg (by rw [es]; decide), if_neg (by rw [es]; decide), if_pos ⟨es, by rw [eo]; omega⟩]
  rfl
 rw [er]
 exact ⟨h2, h1, rfl, rfl, rfl, h1, hn⟩
theorem passing_tm (tm : Tm x o) {n : Int} (hn : 0 ≤ n) (hl : ¬ (run x > 0 ∧ run x ≤ n)) : Tm (passing x n) o := by
 have := tm.le; have := tm.on
 have hr : run (passing x n) = if run x > n then run x - n else 0 := passing_run n
 refine ⟨tm.t1, tm.n2, ?_, ?_, tm.tr, tm.nk⟩
 ·rw [hr]; split <;> omega
 ·rw [hr]; split <;> omega
structure Pa (m W : Nat) (S S2 w1 hd : List Msg) (R1 : Nat) (k1 : List (Int × Msg)) (rs1 : List Nat) (A2 o2 A : Nat) (is2 : List Nat) (o R2 s n : Nat) (x : arq_Arq) (fs : List Fm) (y : arq_Arq) (fs' : List Fm) : Prop where
 xs : XS m W y S S2 w1 hd fs' A o R1 k1 rs1 A2 o2 R2 is2
 tm : Tm y o
 ord : y.order = x.order
 rej : y.rejected = x.rejected
 ext : ∃ u, fs' = fs ++ u
 pot : ws S2.length fs' + 2 * LB (s - n) y ≤ ws S2.length fs + 2 * LB s x
 tries : y.tries + LB (s - n) y ≤ x.tries + LB s x
 no : (run x = 0 ∨ run x > n) → run y = (if run x > n then run x - n else 0) ∧ fs' = fs ∧ y.tries = x.tries
 late : 0 < run x → run x ≤ n → A ∈ idx fs'
theorem pass_y : ∀ (d : Nat) (n s : Nat) {x : arq_Arq} {fs : List Fm}, n < d → n ≤ s → XS m W x S S2 w1 hd fs A o R1 k1 rs1 A2 o2 R2 is2 → Tm x o → (0 < run x → x.tries + n ≤ 100) →
  ∃ fs', Pa m W S S2 w1 hd R1 k1 rs1 A2 o2 A is2 o R2 s n x fs (Aq.passL d (n : Int) x) fs'
 | 0, n, s, x, fs, hd, _, _, _, _ => absurd hd (Nat.not_lt_zero _)
 | d + 1, n, s, x, fs, hd', hs, h, tm, ht => by
  have hle := tm.le
  have hon := tm.on
  have htr := tm.tr
  rw [Aq.passL]
  by_cases c : run x > 0 ∧ run x ≤ (n : Int)
  ·rw [if_pos c]
   have ht := ht c.1
   obtain ⟨r, hr⟩ : ∃ r : Nat, run x = r := ⟨(run x).toNat, by omega⟩
   have h1 := h.passing (run x)
   obtain ⟨l1, l2, l3, l4, l5, l6, l7⟩ := late_y h1 tm.n2 tm.t1 (by omega) (by show x.tries + 1 ≤ 100; omega)
   generalize Aq.late (passing x (run x)) = y at l1 l2 l3 l4 l5 l6 l7 ⊢
   have l3 : y.tries = x.tries + 1 := l3
   have tmy : Tm y o := ⟨l6, l7, by omega, by omega, by omega, by rw [l4]; exact tm.nk⟩
   obtain ⟨fs', p⟩ := pass_y d (n - r) (s - r) (by omega) (by omega) l1 tmy (fun _ => by omega)
   have en : ((n - r : Nat) : Int) = (n : Int) - run x := by omega
   rw [en] at p
   have e1 : LB s x = LB (s - r) y + 1 := by
    unfold LB
    rw [if_pos c.1, l2, if_pos (by decide), hr]
    have : ((10 : Int)).toNat = 10 := rfl
    rw [this, Int.toNat_natCast]; omega
   have e2 : s - r - (n - r) = s - n := by omega
   have e3 : ws S2.length (fs ++ [⟨0, A, R2, true⟩]) = ws S2.length fs + 2 := by rw [ws_app]; rfl
   obtain ⟨u, hu⟩ := p.ext
   have q1 := p.pot
   have q2 := p.tries
   rw [e2] at q1 q2
   refine ⟨fs', p.xs, p.tm, p.ord.trans l4, p.rej.trans l5, ⟨_, hu.trans (List.append_assoc ..)⟩, by omega, by omega, fun q => by omega, fun _ _ => ?_⟩
   rw [hu]
   exact idx_left (by rw [idx_app]; exact List.mem_append_right _ (.head _))
  ·rw [if_neg c]
   have hr : run (passing x n) = if run x > n then run x - n else 0 := passing_run n
   have hL : LB (s - n) (passing x n) ≤ LB s x := by
    unfold LB
    rw [hr]
    by_cases q : run x > n
    ·rw [if_pos q, if_pos (by omega), if_pos (by omega)]; omega
    ·rw [if_neg q, if_neg (by omega), if_neg (by omega)]; omega
   exact ⟨fs, h.passing n, passing_tm tm (by omega) c, rfl, rfl, ⟨[], (List.append_nil _).symm⟩, by omega, by show x.tries + _ ≤ _; omega, fun _ => ⟨hr, rfl, rfl⟩, fun q1 q2 => absurd ⟨q1, q2⟩ c⟩
theorem passes_y {n s : Nat} (hn : n < 120) (hs : n ≤ s) (h : XS m W x S S2 w1 hd fs A o R1 k1 rs1 A2 o2 R2 is2) (tm : Tm x o) (ht : 0 < run x → x.tries + n ≤ 100) : ∃ fs', Pa m W S S2 w1 hd R1 k1 rs1 A2 o2 A is2 o R2 s n x fs (Aq.pass x (n : Int)) fs' := by
 have e : imax 0 (imin (n : Int) 1048576) = n := by unfold imax imin; (repeat' split) <;> omega
 unfold Aq.pass
 rw [e]
 exact pass_y 120 n s hn hs h tm ht
end
structure Q (m W : Nat) (x y : arq_Arq) (S1 S2 w1 w2 h1 h2 : List Msg) (fs1 : List Fm) (A1 o1 R1 : Nat) (fs2 : List Fm) (A2 o2 R2 : Nat) : Prop where
 xx : XS m W x S1 S2 w1 h1 fs1 A1 o1 R1 y.order.kept (acks fs2) A2 o2 R2 (idx fs2)
 yy : XS m W y S2 S1 w2 h2 fs2 A2 o2 R2 x.order.kept (acks fs1) A1 o1 R1 (idx fs1)
 tx : Tm x o1
 ty : Tm y o2
def Mt (x y : arq_Arq) (n1 n2 : Nat) (fs1 : List Fm) (A1 o1 R1 : Nat) (fs2 : List Fm) (A2 o2 R2 : Nat) : Nat := Mx n1 n2 fs1 A1 o1 R2 x.rejected + Mx n2 n1 fs2 A2 o2 R1 y.rejected
section
variable {m W : Nat} {x y : arq_Arq} {S1 S2 w1 w2 h1 h2 : List Msg} {fs1 : List Fm} {A1 o1 R1 : Nat} {fs2 : List Fm} {A2 o2 R2 : Nat}
theorem Q.swap (h : Q m W x y S1 S2 w1 w2 h1 h2 fs1 A1 o1 R1 fs2 A2 o2 R2) : Q m W y x S2 S1 w2 w1 h2 h1 fs2 A2 o2 R2 fs1 A1 o1 R1 := ⟨h.yy, h.xx, h.ty, h.tx⟩
theorem Q.head {b : Msg} (h : Q m W x y S1 S2 w1 (b :: w2) h1 h2 fs1 A1 o1 R1 fs2 A2 o2 R2) : ∃ f fs, fs2 = f :: fs ∧ b = fb m S2 f ∧ kd3 f ∧ w2 ++ y.out = fs.map (fb m S2) ∧ ∀ u ∈ fs, kd3 u := by
 have ht := h.yy.told
 cases fs2 with
 | nil => cases ht
 | cons f fs =>
  rw [List.cons_append, List.map_cons] at ht
  injection ht with e1 e2
  exact ⟨f, fs, rfl, e1, h.yy.kd f (.head _), e2, fun u hu => h.yy.kd u (.tail _ hu)⟩
theorem Q.lost {b : Msg} {f : Fm} {fs : List Fm} (e : fs2 = f :: fs) (h : Q m W x y S1 S2 w1 (b :: w2) h1 h2 fs1 A1 o1 R1 fs2 A2 o2 R2) : Q m W x y S1 S2 w1 w2 h1 h2 fs1 A1 o1 R1 fs A2 o2 R2 := by
 obtain ⟨f', fs', e', _, k, ht, hk⟩ := h.head
 rw [e] at e'
 injection e' with e1 e2
 subst e1 e2 e
 have hx' : XS m W x S1 S2 w1 h1 fs1 A1 o1 R1 y.order.kept (acks fs) A2 o2 R2 (idx fs) := by
  refine ⟨h.xx.en, h.xx.d1.loseR, ?_, h.xx.told, h.xx.got, h.xx.kd⟩
  have d := h.xx.d2
  by_cases k0 : f.K = 0
  ·rw [show idx (f :: fs) = f.i :: idx fs from if_pos k0] at d; exact d.lose
  ·rw [show idx (f :: fs) = idx fs from if_neg k0] at d; exact d
 exact ⟨hx', XS.rebuild (fs2 := f :: fs) (R2 := R2) h.yy hx' ht rfl hk, h.tx, h.ty⟩
theorem Q.input (hm : m = 128 ∨ m = 32768) (hW : W ≤ 16) (hS : ∀ b ∈ S2, b.length ≤ 50) {b : Msg} {f : Fm} {fs : List Fm} (e : fs2 = f :: fs) (h : Q m W x y S1 S2 w1 (b :: w2) h1 h2 fs1 A1 o1 R1 fs2 A2 o2 R2) :
  ∃ fs1' o1' R2', Q m W (Aq.input x b) y S1 S2 w1 w2 h1 h2 fs1' f.r o1' R1 fs A2 o2 R2' ∧ In m W S1 S2 w1 h1 R1 y.order.kept A2 o2 fs1 A1 o1 R2 x (Aq.input x b) f fs fs1' o1' R2' := by
 obtain ⟨f', fs', e', eb, k, ht, hk⟩ := h.head
 rw [e] at e'
 injection e' with e1 e2
 subst e1 e2 e eb
 obtain ⟨fs1', o1', R2', hi⟩ := input_y hm hW hS k h.xx h.tx
 exact ⟨fs1', o1', R2', ⟨hi.yy.xs, XS.rebuild (fs2 := f :: fs) (R2 := R2) h.yy hi.yy.xs ht rfl hk, hi.yy.tm, h.ty⟩, hi⟩
theorem Q.drain (h : Q m W x y S1 S2 w1 w2 h1 h2 fs1 A1 o1 R1 fs2 A2 o2 R2) : Q m W (drained x) (drained y) S1 S2 (w1 ++ x.out) (w2 ++ y.out) (h1 ++ x.order.ready) (h2 ++ y.order.ready) fs1 A1 o1 R1 fs2 A2 o2 R2 :=
 ⟨h.xx.drain, h.yy.drain, ⟨h.tx.t1, h.tx.n2, h.tx.le, h.tx.on, h.tx.tr, h.tx.nk⟩, ⟨h.ty.t1, h.ty.n2, h.ty.le, h.ty.on, h.ty.tr, h.ty.nk⟩⟩
theorem Q.pass {n s : Nat} (hn : n < 120) (hs : n ≤ s) (ht : 0 < run x → x.tries + n ≤ 100) (h : Q m W x y S1 S2 w1 w2 h1 h2 fs1 A1 o1 R1 fs2 A2 o2 R2) :
  ∃ fs1', Q m W (Aq.pass x (n : Int)) y S1 S2 w1 w2 h1 h2 fs1' A1 o1 R1 fs2 A2 o2 R2 ∧ Pa m W S1 S2 w1 h1 R1 y.order.kept (acks fs2) A2 o2 A1 (idx fs2) o1 R2 s n x fs1 (Aq.pass x (n : Int)) fs1' := by
 obtain ⟨fs', p⟩ := passes_y hn hs h.xx h.tx ht
 exact ⟨fs', ⟨p.xs, XS.rebuild h.yy p.xs h.yy.told rfl h.yy.kd, p.tm, h.ty⟩, p⟩
end
end Ad
namespace Ad
open Aq Ao
structure Cl (m U A o R : Nat) (kept : List (Int × Msg)) (S : List Msg) (fi fa : List Fm) : Prop where
 ub : U ≤ A + o
 c1 : ∀ j, U ≤ j → j < A + o → j < R ∨ Kp m S j kept ∨ j ∈ idx fi
 c2 : R ≤ A ∨ R ≤ U ∨ R ∈ acks fa
def Pe (A : Nat) (fi fa : List Fm) : Prop := A ∈ idx fi ∨ ∃ r ∈ acks fa, A < r
instance (A : Nat) (fi fa : List Fm) : Decidable (Pe A fi fa) := inferInstanceAs (Decidable (_ ∨ _))
def th (A : Nat) (fi fa : List Fm) (x : arq_Arq) (ph : Nat) : Nat := if Pe A fi fa then 0 else 20 * (((run x).toNat + 2) / 3) - ph
def La (U A : Nat) (fi fa : List Fm) (x : arq_Arq) (ph : Nat) : Nat := if U ≤ A then 0 else 80 * (U - A - 1) + th A fi fa x ph
structure Kk (m W U1 U2 : Nat) (x y : arq_Arq) (S1 S2 w1 w2 h1 h2 : List Msg) (fs1 : List Fm) (A1 o1 R1 : Nat) (fs2 : List Fm) (A2 o2 R2 : Nat) : Prop where
 q : Q m W x y S1 S2 w1 w2 h1 h2 fs1 A1 o1 R1 fs2 A2 o2 R2
 l1 : Cl m U1 A1 o1 R1 y.order.kept S1 fs1 fs2
 l2 : Cl m U2 A2 o2 R2 x.order.kept S2 fs2 fs1
 nm1 : ¬ (o1 < S1.length - A1 ∧ o1 < W)
 nm2 : ¬ (o2 < S2.length - A2 ∧ o2 < W)
def mu (s : Nat) (x y : arq_Arq) (n1 n2 : Nat) (fs1 : List Fm) (A1 o1 R1 : Nat) (fs2 : List Fm) (A2 o2 R2 : Nat) : Nat := Mt x y n1 n2 fs1 A1 o1 R1 fs2 A2 o2 R2 + 2 * LB s x + 2 * LB s y
def Tr (s i e a U n A : Nat) (x : arq_Arq) (fi fa : List Fm) (ph M : Nat) : Prop :=
 x.tries + LB s x ≤ 97 ∨ n = A ∨ (x.tries + LB s x ≤ 111 ∧ A = a ∧ A < U ∧ M + th A fi fa x ph + i + e ≤ 1644)
structure Jj (s i e ph a1 a2 U1 U2 : Nat) (x y : arq_Arq) (n1 n2 : Nat) (fs1 : List Fm) (A1 o1 R1 : Nat) (fs2 : List Fm) (A2 o2 R2 : Nat) : Prop where
 b1 : mu s x y n1 n2 fs1 A1 o1 R1 fs2 A2 o2 R2 + La U1 A1 fs1 fs2 x ph + i + e ≤ 2844
 b2 : mu s x y n1 n2 fs1 A1 o1 R1 fs2 A2 o2 R2 + La U2 A2 fs2 fs1 y ph + i + e ≤ 2844
 t1 : Tr s i e a1 U1 n1 A1 x fs1 fs2 ph (mu s x y n1 n2 fs1 A1 o1 R1 fs2 A2 o2 R2)
 t2 : Tr s i e a2 U2 n2 A2 y fs2 fs1 ph (mu s x y n1 n2 fs1 A1 o1 R1 fs2 A2 o2 R2)
theorem mu_swap (s : Nat) (x y : arq_Arq) (n1 n2 : Nat) (fs1 : List Fm) (A1 o1 R1 : Nat) (fs2 : List Fm) (A2 o2 R2 : Nat) : mu s y x n2 n1 fs2 A2 o2 R2 fs1 A1 o1 R1 = mu s x y n1 n2 fs1 A1 o1 R1 fs2 A2 o2 R2 := by unfold mu Mt; omega
theorem LB_le {s : Nat} {x y : arq_Arq} (hx : 0 ≤ run x ∧ run x ≤ 10) (h : run y = run x ∨ run y = 10 ∨ run y = 0) : LB s y ≤ LB s x := by
 unfold LB
 rcases h with e | e | e
 ·rw [e]; exact Nat.le_refl _
 ·rw [e, if_pos (by decide), show ((10 : Int)).toNat = 10 from rfl]; split <;> omega
 ·rw [e, if_neg (by decide)]; split <;> omega
theorem LB_max {s : Nat} (hs : s ≤ 450) (x : arq_Arq) : LB s x ≤ 45 := by unfold LB; split <;> omega
theorem th_le {A : Nat} {fi fa : List Fm} {x : arq_Arq} {ph : Nat} (h : run x ≤ 10) : th A fi fa x ph ≤ 80 := by unfold th; split <;> omega
section
variable {m W U1 U2 : Nat} {x y : arq_Arq} {S1 S2 w1 w2 h1 h2 : List Msg} {fs1 : List Fm} {A1 o1 R1 : Nat} {fs2 : List Fm} {A2 o2 R2 : Nat}
theorem Kk.swap (h : Kk m W U1 U2 x y S1 S2 w1 w2 h1 h2 fs1 A1 o1 R1 fs2 A2 o2 R2) : Kk m W U2 U1 y x S2 S1 w2 w1 h2 h1 fs2 A2 o2 R2 fs1 A1 o1 R1 := ⟨h.q.swap, h.l2, h.l1, h.nm2, h.nm1⟩
theorem Jj.swap {s i e ph a1 a2 n1 n2 : Nat} (h : Jj s i e ph a1 a2 U1 U2 x y n1 n2 fs1 A1 o1 R1 fs2 A2 o2 R2) : Jj s i e ph a2 a1 U2 U1 y x n2 n1 fs2 A2 o2 R2 fs1 A1 o1 R1 := by
 refine ⟨?_, ?_, ?_, ?_⟩ <;> rw [mu_swap]
 ·exact h.b2
 ·exact h.b1
 ·exact h.t2
 ·exact h.t1
theorem kp_gt {kept : List (Int × Msg)} {is rs : List Nat} {A o R j : Nat} {S : List Msg} (d : Dir m W S A o R kept is rs) (nk : mhas kept ((R % m : Nat) : Int) = false) (h1 : A ≤ j) (h2 : j < A + o) (h : Kp m S j kept) : R < j := by
 obtain ⟨q, q1, q2, q3, _⟩ := d.kp _ h
 have e1 : ((j % m : Nat) : Int) = ((q % m : Nat) : Int) := congrArg Prod.fst q3
 have hw := d.oW; have hWm := d.Wm; have hW1 := d.W1; have hA := d.AR
 have ej : j = q := by
  by_cases c : j ≤ q
  ·exact (nat_mod_inj (m := m) (j := q) (R := j) (by omega) c (by omega)).symm
  ·exact nat_mod_inj (m := m) (by omega) (by omega) (by omega)
 subst ej
 refine Nat.lt_of_le_of_ne q1 fun e => ?_
 subst e
 rw [mhas_of h] at nk
 cases nk
theorem Kk.take {s i e ph a1 a2 : Nat} (hm : m = 128 ∨ m = 32768) (hW : W ≤ 16) (hS : ∀ b ∈ S2, b.length ≤ 50) (hs : s ≤ 450) {b : Msg} (h : Kk m W U1 U2 x y S1 S2 w1 (b :: w2) h1 h2 fs1 A1 o1 R1 fs2 A2 o2 R2) (he : e ≤ 1)
  (j : Jj s i e ph a1 a2 U1 U2 x y S1.length S2.length fs1 A1 o1 R1 fs2 A2 o2 R2) :
  ∃ fs1' A1' o1' fs2' R2', Kk m W U1 U2 (Aq.input x b) y S1 S2 w1 w2 h1 h2 fs1' A1' o1' R1 fs2' A2 o2 R2' ∧ Jj s i 1 ph a1 a2 U1 U2 (Aq.input x b) y S1.length S2.length fs1' A1' o1' R1 fs2' A2 o2 R2' := by
 obtain ⟨f, fs, ef, _⟩ := h.q.head
 obtain ⟨fs1', o1', R2', q, n⟩ := h.q.input hm hW hS ef
 have rA := h.q.xx.d1.rA f.r (by rw [ef]; exact .head _)
 have rR := h.q.xx.d1.rR f.r (by rw [ef]; exact .head _)
 have RH := h.q.xx.d1.RH
 have hsz := h.q.xx.d1.sz
 have tx := h.q.tx
 have tx' := q.tx
 subst ef
 generalize Aq.input x b = x' at q n tx' ⊢
 have yy := n.yy
 obtain ⟨u, hu⟩ := yy.ext
 have mono := yy.mono
 have idxl : ∀ k, k ∈ idx fs1 → k ∈ idx fs1' := fun k hk => by rw [hu]; exact idx_left hk
 have ackl : ∀ k, k ∈ acks fs1 → k ∈ acks fs1' := fun k hk => by rw [hu]; exact acks_left hk
 have c1' : Cl m U1 f.r o1' R1 y.order.kept S1 fs1' fs := by
  refine ⟨by have := h.l1.ub; omega, fun k k1 k2 => ?_, ?_⟩
  ·by_cases c : k < A1 + o1
   ·rcases h.l1.c1 k k1 c with z | z | z
    ·exact .inl z
    ·exact .inr (.inl z)
    ·exact .inr (.inr (idxl k z))
   ·exact .inr (.inr (yy.new k (by omega) k2))
  ·rcases h.l1.c2 with z | z | z
   ·exact .inl (by omega)
   ·exact .inr (.inl z)
   ·rcases List.mem_cons.1 (show R1 ∈ f.r :: acks fs from z) with z | z
    ·exact .inl (by omega)
    ·exact .inr (.inr z)
 have hid : ∀ k, k ∈ idx (f :: fs) → (f.K = 0 ∧ k = f.i) ∨ k ∈ idx fs := fun k hk => by
  by_cases c : f.K = 0
  ·rw [show idx (f :: fs) = f.i :: idx fs from if_pos c] at hk
   exact (List.mem_cons.1 hk).imp (fun z => ⟨c, z⟩) id
  ·rw [show idx (f :: fs) = idx fs from if_neg c] at hk
   exact .inr hk
 have c2' : Cl m U2 A2 o2 R2' x'.order.kept S2 fs fs1' := by
  refine ⟨h.l2.ub, fun k k1 k2 => ?_, ?_⟩
  ·by_cases lt : k < R2
   ·exact .inl (by have := n.le; omega)
   rcases h.l2.c1 k k1 k2 with z | z | z
   ·exact absurd z lt
   ·exact (n.all k (by omega) k2 z).imp id .inl
   ·rcases hid k z with ⟨k0, z⟩ | z
    ·rw [z]; exact (n.i k0).2.imp id .inl
    ·exact .inr (.inr z)
  ·by_cases k0 : f.K = 0
   ·exact .inr (.inr (n.i k0).1)
   ·rw [n.no k0]
    exact h.l2.c2.imp id (Or.imp id (ackl _))
 have hnm : ¬ (o1' < S1.length - f.r ∧ o1' < W) := by
  intro z
  refine n.nm ⟨?_, ?_⟩
  ·rw [q.xx.en.out, q.xx.en.l, List.length_drop]; omega
  ·rw [q.xx.en.out, q.xx.en.lw]; omega
 have K' : Kk m W U1 U2 x' y S1 S2 w1 w2 h1 h2 fs1' f.r o1' R1 fs A2 o2 R2' := ⟨q, c1', c2', hnm, h.nm2⟩
 refine ⟨fs1', f.r, o1', fs, R2', K', ?_⟩
 have hwp := wt_pos S1.length f
 have hMt : Mt x' y S1.length S2.length fs1' f.r o1' R1 fs A2 o2 R2' + 1 ≤ Mt x y S1.length S2.length fs1 A1 o1 R1 (f :: fs) A2 o2 R2 := by
  have := yy.pot
  unfold Mt
  have e2 : Mx S2.length S1.length (f :: fs) A2 o2 R1 y.rejected = wt S1.length f + Mx S2.length S1.length fs A2 o2 R1 y.rejected := by unfold Mx; show wt S1.length f + ws S1.length fs + _ + _ = _; omega
  rw [e2]; omega
 have hLB : LB s x' ≤ LB s x := by
  refine LB_le tx.le ?_
  rcases yy.rl with z | z
  ·rw [z]
   split
   ·exact .inl rfl
   ·split
    ·exact .inr (.inl rfl)
    ·exact .inr (.inr rfl)
  ·exact .inr (.inl z)
 have hmu : mu s x' y S1.length S2.length fs1' f.r o1' R1 fs A2 o2 R2' + 1 ≤ mu s x y S1.length S2.length fs1 A1 o1 R1 (f :: fs) A2 o2 R2 := by unfold mu; omega
 have th1 : f.r = A1 → A1 < U1 → th f.r fs1' fs x' ph ≤ th A1 fs1 (f :: fs) x ph := by
  intro z lt
  have ub := h.l1.ub
  have pe : Pe A1 fs1 (f :: fs) → Pe f.r fs1' fs := by
   rintro (w | ⟨r, r1, r2⟩)
   ·exact .inl (by rw [z]; exact idxl _ w)
   ·rcases List.mem_cons.1 (show r ∈ f.r :: acks fs from r1) with w | w
    ·omega
    ·exact .inr ⟨r, w, by omega⟩
  unfold th
  by_cases c : Pe f.r fs1' fs
  ·rw [if_pos c]; exact Nat.zero_le _
  ·rw [if_neg c, if_neg (fun w => c (pe w))]
   rcases yy.run with w | w | w
   ·rw [w, if_pos z]; exact Nat.le_refl _
   ·omega
   ·exact absurd (.inl w) c
 have La1 : La U1 f.r fs1' fs x' ph ≤ La U1 A1 fs1 (f :: fs) x ph := by
  unfold La
  by_cases c : U1 ≤ f.r
  ·rw [if_pos c]; exact Nat.zero_le _
  ·rw [if_neg c, if_neg (by omega)]
   by_cases z : f.r = A1
   ·have := th1 z (by omega); omega
   ·have := th_le (A := f.r) (fi := fs1') (fa := fs) (ph := ph) tx'.le.2
    omega
 have th2 : th A2 fs fs1' y ph ≤ th A2 (f :: fs) fs1 y ph := by
  have pe : Pe A2 (f :: fs) fs1 → Pe A2 fs fs1' := by
   rintro (w | ⟨r, r1, r2⟩)
   ·rcases hid A2 w with ⟨k0, w⟩ | w
    ·refine .inr ⟨R2', (n.i k0).1, ?_⟩
     have hH := h.q.yy.d1.iH A2 (by assumption)
     rcases (n.i k0).2 with v | v
     ·omega
     ·rw [← w] at v
      have nk := tx'.nk
      rw [q.xx.en.next] at nk
      have := kp_gt q.xx.d2 nk (Nat.le_refl _) hH v
      have := q.xx.d2.AR
      omega
    ·exact .inl w
   ·exact .inr ⟨r, ackl r r1, r2⟩
  unfold th
  by_cases c : Pe A2 fs fs1'
  ·rw [if_pos c]; exact Nat.zero_le _
  ·rw [if_neg c, if_neg (fun w => c (pe w))]; exact Nat.le_refl _
 have La2 : La U2 A2 fs fs1' y ph ≤ La U2 A2 (f :: fs) fs1 y ph := by
  unfold La
  split
  ·exact Nat.le_refl _
  ·omega
 have b1 := j.b1
 have b2 := j.b2
 refine ⟨by omega, by omega, ?_, ?_⟩
 ·by_cases z : f.r = A1
  ·have tr : x'.tries = x.tries := by rw [yy.tries, if_pos z]
   rcases j.t1 with t | t | ⟨t1, t2, t3, t4⟩
   ·exact .inl (by omega)
   ·exact .inr (.inl (by omega))
   ·have := th1 z t3
    exact .inr (.inr ⟨by omega, by omega, by omega, by omega⟩)
  ·left
   have tr : x'.tries = 0 := by rw [yy.tries, if_neg z]
   have := LB_max hs x'
   omega
 ·rcases j.t2 with t | t | ⟨t1, t2, t3, t4⟩
  ·exact .inl t
  ·exact .inr (.inl t)
  ·exact .inr (.inr ⟨t1, t2, t3, by omega⟩)
end
end Ad
namespace Ad
open Aq Ao
section
variable {m W U1 U2 : Nat} {x y x' y' : arq_Arq} {S1 S2 w1 w2 h1 h2 : List Msg} {fs1 fs1' : List Fm} {A1 o1 R1 : Nat} {fs2 fs2' : List Fm} {A2 o2 R2 : Nat}
theorem Tr.tick {s i e a U n A : Nat} {fi fa fi' fa' : List Fm} {ph M s' ph' M' : Nat} (t : Tr s i e a U n A x fi fa ph M) (hM : M' ≤ M) (ht : th A fi' fa' x' ph' ≤ th A fi fa x ph) (hq : e = 0 → A < U → th A fi' fa' x' ph' + 1 ≤ th A fi fa x ph) (hr : x'.tries + LB s' x' ≤ x.tries + LB s x) (he : e ≤ 1) : Tr s' (i + 1) 0 a U n A x' fi' fa' ph' M' := by
 rcases t with t | t | ⟨t1, t2, t3, t4⟩
 ·exact .inl (by omega)
 ·exact .inr (.inl t)
 ·refine .inr (.inr ⟨by omega, t2, t3, ?_⟩)
  by_cases z : e = 0
  ·have := hq z t3; omega
  ·omega
theorem Jj.tick {s i e ph a1 a2 n1 n2 s' ph' : Nat} (j : Jj s i e ph a1 a2 U1 U2 x y n1 n2 fs1 A1 o1 R1 fs2 A2 o2 R2) (he : e ≤ 1)
  (hmu : mu s' x' y' n1 n2 fs1' A1 o1 R1 fs2' A2 o2 R2 ≤ mu s x y n1 n2 fs1 A1 o1 R1 fs2 A2 o2 R2)
  (t1 : th A1 fs1' fs2' x' ph' ≤ th A1 fs1 fs2 x ph) (t2 : th A2 fs2' fs1' y' ph' ≤ th A2 fs2 fs1 y ph)
  (q1 : e = 0 → A1 < U1 → th A1 fs1' fs2' x' ph' + 1 ≤ th A1 fs1 fs2 x ph) (q2 : e = 0 → A2 < U2 → th A2 fs2' fs1' y' ph' + 1 ≤ th A2 fs2 fs1 y ph)
  (r1 : x'.tries + LB s' x' ≤ x.tries + LB s x) (r2 : y'.tries + LB s' y' ≤ y.tries + LB s y) (go : e = 1 ∨ A1 < U1 ∨ A2 < U2) :
  Jj s' (i + 1) 0 ph' a1 a2 U1 U2 x' y' n1 n2 fs1' A1 o1 R1 fs2' A2 o2 R2 := by
 have b1 := j.b1
 have b2 := j.b2
 refine ⟨?_, ?_, j.t1.tick hmu t1 q1 r1 he, j.t2.tick hmu t2 q2 r2 he⟩
 ·unfold La at b1 b2 ⊢
  by_cases z : e = 0
  ·by_cases c1 : U1 ≤ A1
   ·rw [if_pos c1]
    have c2 : A2 < U2 := by omega
    rw [if_neg (by omega)] at b2
    have := q2 z c2; omega
   ·rw [if_neg c1] at b1 ⊢
    have := q1 z (by omega); omega
  ·by_cases c1 : U1 ≤ A1
   ·rw [if_pos c1] at b1 ⊢; omega
   ·rw [if_neg c1] at b1 ⊢; omega
 ·unfold La at b1 b2 ⊢
  by_cases z : e = 0
  ·by_cases c1 : U2 ≤ A2
   ·rw [if_pos c1]
    have c2 : A1 < U1 := by omega
    rw [if_neg (by omega)] at b1
    have := q1 z c2; omega
   ·rw [if_neg c1] at b2 ⊢
    have := q2 z (by omega); omega
  ·by_cases c1 : U2 ≤ A2
   ·rw [if_pos c1] at b2 ⊢; omega
   ·rw [if_neg c1] at b2 ⊢; omega
theorem Pe.ext {A : Nat} {fi fa fi' fa' : List Fm} (h1 : ∃ u, fi' = fi ++ u) (h2 : ∃ u, fa' = fa ++ u) (p : Pe A fi fa) : Pe A fi' fa' := by
 obtain ⟨u, rfl⟩ := h1
 obtain ⟨v, rfl⟩ := h2
 rcases p with p | ⟨r, r1, r2⟩
 ·exact .inl (idx_left p)
 ·exact .inr ⟨r, acks_left r1, r2⟩
theorem th_pass {A o : Nat} {fi fa fi' fa' : List Fm} (h1 : ∃ u, fi' = fi ++ u) (h2 : ∃ u, fa' = fa ++ u) (tm : Tm x o)
  (no : (run x = 0 ∨ run x > ((3 : Nat) : Int)) → run x' = (if run x > ((3 : Nat) : Int) then run x - ((3 : Nat) : Int) else 0)) (late : 0 < run x → run x ≤ ((3 : Nat) : Int) → A ∈ idx fi') :
  th A fi' fa' x' 0 ≤ th A fi fa x 19 ∧ (¬ Pe A fi fa → 0 < o → th A fi' fa' x' 0 + 1 ≤ th A fi fa x 19) := by
 have hle := tm.le
 have hon := tm.on
 have c3 : ((3 : Nat) : Int) = 3 := rfl
 rw [c3] at no late
 unfold th
 by_cases p : Pe A fi fa
 ·rw [if_pos p, if_pos (p.ext h1 h2)]
  exact ⟨Nat.le_refl _, fun q => absurd p q⟩
 rw [if_neg p]
 by_cases z : 0 < run x ∧ run x ≤ 3
 ·rw [if_pos (.inl (late z.1 z.2))]
  exact ⟨Nat.zero_le _, fun _ _ => by omega⟩
 ·have hr := no (by omega)
  by_cases p' : Pe A fi' fa'
  ·rw [if_pos p']; exact ⟨Nat.zero_le _, fun _ ho => by omega⟩
  ·rw [if_neg p', hr]
   split
   ·exact ⟨by omega, fun _ _ => by omega⟩
   ·exact ⟨by omega, fun _ ho => by omega⟩
theorem Cl.ext {U A o R : Nat} {kept : List (Int × Msg)} {S : List Msg} {fi fa fi' fa' : List Fm} (h1 : ∃ u, fi' = fi ++ u) (h2 : ∃ u, fa' = fa ++ u) (c : Cl m U A o R kept S fi fa) : Cl m U A o R kept S fi' fa' := by
 obtain ⟨u, rfl⟩ := h1
 obtain ⟨v, rfl⟩ := h2
 exact ⟨c.ub, fun j j1 j2 => (c.c1 j j1 j2).imp id (Or.imp id idx_left), c.c2.imp id (Or.imp id acks_left)⟩
theorem Tr.ok {s i e a U n A o : Nat} {fi fa : List Fm} {ph M : Nat} (t : Tr s i e a U n A x fi fa ph M) (tm : Tm x o) (hs : s = 3 * (150 - i / 20)) (ho : A + o ≤ n) (hr : 0 < run x) : x.tries + ((3 : Nat) : Int) ≤ 100 := by
 have c3 : ((3 : Nat) : Int) = 3 := rfl
 have hon := tm.on
 rw [c3]
 rcases t with t | t | ⟨t1, _, _, t4⟩
 ·omega
 ·omega
 ·have : 20 ≤ LB s x := by
   have := tm.le
   unfold LB
   rw [if_pos hr]; omega
  omega
theorem Kk.pass {s i e a1 a2 : Nat} (h : Kk m W U1 U2 x y S1 S2 w1 w2 h1 h2 fs1 A1 o1 R1 fs2 A2 o2 R2) (he : e ≤ 1) (hi : i < 3000) (hs : s = 3 * (150 - i / 20)) (quiet : e = 0 → ¬ Pe A1 fs1 fs2 ∧ ¬ Pe A2 fs2 fs1) (go : e = 1 ∨ A1 < U1 ∨ A2 < U2)
  (j : Jj s i e 19 a1 a2 U1 U2 x y S1.length S2.length fs1 A1 o1 R1 fs2 A2 o2 R2) :
  ∃ fs1' fs2', Kk m W U1 U2 (Aq.pass x 3) (Aq.pass y 3) S1 S2 w1 w2 h1 h2 fs1' A1 o1 R1 fs2' A2 o2 R2 ∧ Jj (s - 3) (i + 1) 0 0 a1 a2 U1 U2 (Aq.pass x 3) (Aq.pass y 3) S1.length S2.length fs1' A1 o1 R1 fs2' A2 o2 R2 := by
 have z1 := h.q.xx.d1.sz
 have z2 := h.q.yy.d1.sz
 obtain ⟨fs1', q, p1⟩ := h.q.pass (n := 3) (s := s) (by decide) (by omega) (j.t1.ok h.q.tx hs z1)
 obtain ⟨fs2', q', p2⟩ := q.swap.pass (n := 3) (s := s) (by decide) (by omega) (j.t2.ok h.q.ty hs z2)
 have c3 : ((3 : Nat) : Int) = 3 := rfl
 rw [c3] at q q' p1 p2
 have k1 : (Aq.pass x 3).order.kept = x.order.kept := by rw [p1.ord]
 have k2 : (Aq.pass y 3).order.kept = y.order.kept := by rw [p2.ord]
 obtain ⟨a1, a2⟩ := th_pass (A := A1) p1.ext p2.ext h.q.tx (fun w => (p1.no w).1) p1.late
 obtain ⟨b1, b2⟩ := th_pass (A := A2) p2.ext p1.ext h.q.ty (fun w => (p2.no w).1) p2.late
 refine ⟨fs1', fs2', ⟨q'.swap, by rw [k2]; exact h.l1.ext p1.ext p2.ext, by rw [k1]; exact h.l2.ext p2.ext p1.ext, h.nm1, h.nm2⟩, ?_⟩
 refine j.tick he ?_ a1 b1 (fun w lt => a2 (quiet w).1 (by have := h.l1.ub; omega)) (fun w lt => b2 (quiet w).2 (by have := h.l2.ub; omega)) p1.tries p2.tries go
 have u1 := p1.pot
 have u2 := p2.pot
 unfold mu Mt Mx
 rw [p1.rej, p2.rej]
 omega
theorem Kk.idle {s i e ph a1 a2 : Nat} (h : Kk m W U1 U2 x y S1 S2 w1 w2 h1 h2 fs1 A1 o1 R1 fs2 A2 o2 R2) (he : e ≤ 1) (hp : ph < 19) (quiet : e = 0 → ¬ Pe A1 fs1 fs2 ∧ ¬ Pe A2 fs2 fs1) (go : e = 1 ∨ A1 < U1 ∨ A2 < U2)
  (j : Jj s i e ph a1 a2 U1 U2 x y S1.length S2.length fs1 A1 o1 R1 fs2 A2 o2 R2) : Jj s (i + 1) 0 (ph + 1) a1 a2 U1 U2 x y S1.length S2.length fs1 A1 o1 R1 fs2 A2 o2 R2 := by
 have key : ∀ {A o : Nat} {fi fa : List Fm} {z : arq_Arq}, Tm z o → th A fi fa z (ph + 1) ≤ th A fi fa z ph ∧ (¬ Pe A fi fa → 0 < o → th A fi fa z (ph + 1) + 1 ≤ th A fi fa z ph) := by
  intro A o fi fa z tm
  have := tm.le; have := tm.on
  unfold th
  by_cases p : Pe A fi fa
  ·rw [if_pos p, if_pos p]; exact ⟨Nat.le_refl _, fun q => absurd p q⟩
  ·rw [if_neg p, if_neg p]; exact ⟨by omega, fun _ ho => by omega⟩
 obtain ⟨a1, a2⟩ := key (A := A1) (fi := fs1) (fa := fs2) h.q.tx
 obtain ⟨b1, b2⟩ := key (A := A2) (fi := fs2) (fa := fs1) h.q.ty
 exact j.tick he (Nat.le_refl _) a1 b1 (fun w lt => a2 (quiet w).1 (by have := h.l1.ub; omega)) (fun w lt => b2 (quiet w).2 (by have := h.l2.ub; omega)) (Int.le_refl _) (Int.le_refl _) go
theorem Kk.none (h : Kk m W U1 U2 x y S1 S2 w1 w2 h1 h2 fs1 A1 o1 R1 fs2 A2 o2 R2) (e1 : fs1 = []) (e2 : fs2 = []) (hu : U1 ≤ A1) : o1 = 0 := by
 refine Nat.eq_zero_of_not_pos fun ho => ?_
 have hA := h.q.xx.d1.AR
 rcases h.l1.c1 A1 hu (by omega) with z | z | z
 ·rcases h.l1.c2 with w | w | w
  ·omega
  ·omega
  ·rw [e2] at w; cases w
 ·have nk := h.q.ty.nk
  rw [h.q.yy.en.next] at nk
  have := kp_gt h.q.xx.d1 nk (Nat.le_refl _) (by omega) z
  omega
 ·rw [e1] at z; cases z
end
end Ad
namespace Ad
open Aq Ao
def rnd (i : Nat) (p : Pr) : Pr :=
 if i % 20 = 19 then collect { carry (carry p false false) true false with a := (Aq.pass (carry (carry p false false) true false).a.1 3, Aq.pass (carry (carry p false false) true false).a.2 3) } else carry (carry p false false) true false
structure Zz (W U1 U2 : Nat) (p : Pr) (fs1 : List Fm) (A1 o1 R1 : Nat) (fs2 : List Fm) (A2 o2 R2 : Nat) : Prop where
 k : Kk 128 W U1 U2 p.a.1 p.a.2 p.said.1 p.said.2 p.way.1 p.way.2 p.heard.1 p.heard.2 fs1 A1 o1 R1 fs2 A2 o2 R2
 e1 : p.a.1.out = []
 e2 : p.a.2.out = []
 r1 : p.a.1.order.ready = []
 r2 : p.a.2.order.ready = []
 s1 : ∀ b ∈ p.said.1, b.length ≤ 50
 s2 : ∀ b ∈ p.said.2, b.length ≤ 50
 d : p.downs = 0
abbrev Jp (s i e ph a1 a2 U1 U2 : Nat) (p : Pr) (fs1 : List Fm) (A1 o1 R1 : Nat) (fs2 : List Fm) (A2 o2 R2 : Nat) : Prop := Jj s i e ph a1 a2 U1 U2 p.a.1 p.a.2 p.said.1.length p.said.2.length fs1 A1 o1 R1 fs2 A2 o2 R2
section
variable {W U1 U2 : Nat} {p : Pr} {fs1 : List Fm} {A1 o1 R1 : Nat} {fs2 : List Fm} {A2 o2 R2 : Nat}
theorem Zz.of (k : Kk 128 W U1 U2 p.a.1 p.a.2 p.said.1 p.said.2 p.way.1 p.way.2 p.heard.1 p.heard.2 fs1 A1 o1 R1 fs2 A2 o2 R2) (s1 : ∀ b ∈ p.said.1, b.length ≤ 50) (s2 : ∀ b ∈ p.said.2, b.length ≤ 50) (d : p.downs = 0) : Zz W U1 U2 (collect p) fs1 A1 o1 R1 fs2 A2 o2 R2 := by
 refine ⟨⟨k.q.drain, k.l1, k.l2, k.nm1, k.nm2⟩, rfl, rfl, rfl, rfl, s1, s2, ?_⟩
 show p.downs + downOf p.a.1.inds + downOf p.a.2.inds = 0
 rw [k.q.xx.en.inds, k.q.yy.en.inds, d]; rfl
theorem Jj.drain {s i e ph a1 a2 n1 n2 : Nat} {x y : arq_Arq} (j : Jj s i e ph a1 a2 U1 U2 x y n1 n2 fs1 A1 o1 R1 fs2 A2 o2 R2) : Jj s i e ph a1 a2 U1 U2 (drained x) (drained y) n1 n2 fs1 A1 o1 R1 fs2 A2 o2 R2 := ⟨j.b1, j.b2, j.t1, j.t2⟩
theorem carry_z {s ii e ph a1 a2 : Nat} (hW : W ≤ 16) (hs : s ≤ 450) (he : e ≤ 1) (i : Bool) (h : Zz W U1 U2 p fs1 A1 o1 R1 fs2 A2 o2 R2) (j : Jp s ii e ph a1 a2 U1 U2 p fs1 A1 o1 R1 fs2 A2 o2 R2) :
  (wayOf p i = [] ∧ carry p i false = p) ∨ ∃ fs1' A1' o1' R1' fs2' A2' o2' R2', Zz W U1 U2 (carry p i false) fs1' A1' o1' R1' fs2' A2' o2' R2' ∧ Jp s ii 1 ph a1 a2 U1 U2 (carry p i false) fs1' A1' o1' R1' fs2' A2' o2' R2' := by
 unfold Aq.carry
 by_cases c : wayOf p i = []
 ·exact .inl ⟨c, if_pos c⟩
 right
 rw [if_neg c]
 cases i with
 | true =>
  obtain ⟨b, w, e⟩ : ∃ b w, p.way.2 = b :: w := by
   cases q : p.way.2 with
   | nil => exact absurd q c
   | cons b w => exact ⟨b, w, rfl⟩
  have k := h.k
  rw [e] at k
  have ew : wayOf p true = b :: w := e
  rw [ew]
  obtain ⟨fs1', A1', o1', fs2', R2', k', j'⟩ := k.take (.inl rfl) hW h.s2 hs he j
  have k'' : Kk 128 W U1 U2 (given (gone p true) true b).a.1 (given (gone p true) true b).a.2 p.said.1 p.said.2 (given (gone p true) true b).way.1 (given (gone p true) true b).way.2 p.heard.1 p.heard.2 fs1' A1' o1' R1 fs2' A2 o2 R2' := by
   show Kk 128 W U1 U2 (Aq.input p.a.1 b) p.a.2 p.said.1 p.said.2 p.way.1 p.way.2.tail p.heard.1 p.heard.2 fs1' A1' o1' R1 fs2' A2 o2 R2'
   rw [e]; exact k'
  exact ⟨fs1', A1', o1', R1, fs2', A2, o2, R2', Zz.of (p := given (gone p true) true b) k'' h.s1 h.s2 h.d, j'.drain⟩
 | false =>
  obtain ⟨b, w, e⟩ : ∃ b w, p.way.1 = b :: w := by
   cases q : p.way.1 with
   | nil => exact absurd q c
   | cons b w => exact ⟨b, w, rfl⟩
  have k := h.k.swap
  rw [e] at k
  have ew : wayOf p false = b :: w := e
  rw [ew]
  obtain ⟨fs2', A2', o2', fs1', R1', k', j'⟩ := k.take (.inl rfl) hW h.s1 hs he j.swap
  have k'' : Kk 128 W U1 U2 (given (gone p false) false b).a.1 (given (gone p false) false b).a.2 p.said.1 p.said.2 (given (gone p false) false b).way.1 (given (gone p false) false b).way.2 p.heard.1 p.heard.2 fs1' A1 o1 R1' fs2' A2' o2' R2 := by
   show Kk 128 W U1 U2 p.a.1 (Aq.input p.a.2 b) p.said.1 p.said.2 p.way.1.tail p.way.2 p.heard.1 p.heard.2 fs1' A1 o1 R1' fs2' A2' o2' R2
   rw [e]; exact k'.swap
  exact ⟨fs1', A1, o1, R1', fs2', A2', o2', R2, Zz.of (p := given (gone p false) false b) k'' h.s1 h.s2 h.d, j'.swap.drain⟩
theorem Zz.nil1 (h : Zz W U1 U2 p fs1 A1 o1 R1 fs2 A2 o2 R2) (e : p.way.1 = []) : fs1 = [] := by
 have t := h.k.q.xx.told
 rw [e, h.e1] at t
 exact List.map_eq_nil_iff.1 t.symm
theorem Zz.nil2 (h : Zz W U1 U2 p fs1 A1 o1 R1 fs2 A2 o2 R2) (e : p.way.2 = []) : fs2 = [] := by
 have t := h.k.q.yy.told
 rw [e, h.e2] at t
 exact List.map_eq_nil_iff.1 t.symm
theorem pe_nil (A : Nat) : ¬ Pe A [] [] := by
 rintro (h | ⟨r, h, _⟩)
 ·cases h
 ·cases h
theorem time_z {i e a1 a2 : Nat} (h : Zz W U1 U2 p fs1 A1 o1 R1 fs2 A2 o2 R2) (hi : i < 3000) (he : e ≤ 1) (j : Jp (3 * (150 - i / 20)) i e (i % 20) a1 a2 U1 U2 p fs1 A1 o1 R1 fs2 A2 o2 R2) (quiet : e = 0 → ¬ Pe A1 fs1 fs2 ∧ ¬ Pe A2 fs2 fs1) (go : e = 1 ∨ A1 < U1 ∨ A2 < U2) :
  ∃ fs1' fs2', Zz W U1 U2 (if i % 20 = 19 then collect { p with a := (Aq.pass p.a.1 3, Aq.pass p.a.2 3) } else p) fs1' A1 o1 R1 fs2' A2 o2 R2 ∧ Jp (3 * (150 - (i + 1) / 20)) (i + 1) 0 ((i + 1) % 20) a1 a2 U1 U2 (if i % 20 = 19 then collect { p with a := (Aq.pass p.a.1 3, Aq.pass p.a.2 3) } else p) fs1' A1 o1 R1 fs2' A2 o2 R2 := by
 by_cases c : i % 20 = 19
 ·rw [if_pos c]
  have j : Jj (3 * (150 - i / 20)) i e (i % 20) a1 a2 U1 U2 p.a.1 p.a.2 p.said.1.length p.said.2.length fs1 A1 o1 R1 fs2 A2 o2 R2 := j
  rw [c] at j
  obtain ⟨fs1', fs2', k, j'⟩ := h.k.pass he hi rfl quiet go j
  rw [show 3 * (150 - i / 20) - 3 = 3 * (150 - (i + 1) / 20) by omega] at j'
  rw [show (i + 1) % 20 = 0 by omega]
  exact ⟨fs1', fs2', Zz.of (p := { p with a := (Aq.pass p.a.1 3, Aq.pass p.a.2 3) }) k h.s1 h.s2 h.d, j'.drain⟩
 ·rw [if_neg c]
  have j' := h.k.idle he (by omega) quiet go j
  rw [show i % 20 + 1 = (i + 1) % 20 by omega, show i / 20 = (i + 1) / 20 by omega] at j'
  exact ⟨fs1, fs2, h, j'⟩
structure Dn (W U1 U2 : Nat) (p : Pr) (A1 R1 A2 R2 : Nat) : Prop where
 z : Zz W U1 U2 p [] A1 0 R1 [] A2 0 R2
 w1 : p.way.1 = []
 w2 : p.way.2 = []
theorem Dn.round {A1 R1 A2 R2 : Nat} (h : Dn W U1 U2 p A1 R1 A2 R2) (i : Nat) : Dn W U1 U2 (rnd i p) A1 R1 A2 R2 := by
 have c1 : carry p false false = p := if_pos h.w1
 have c2 : carry p true false = p := if_pos h.w2
 unfold rnd
 rw [c1, c2]
 by_cases c : i % 20 = 19
 ·rw [if_pos c]
  have k := h.z.k
  have n1 : run p.a.1 = 0 := by have := k.q.tx.on; have := k.q.tx.le; omega
  have n2 : run p.a.2 = 0 := by have := k.q.ty.on; have := k.q.ty.le; omega
  obtain ⟨f1, q, p1⟩ := k.q.pass (n := 3) (s := 3) (by decide) (by decide) (fun w => by omega)
  obtain ⟨f2, q', p2⟩ := q.swap.pass (n := 3) (s := 3) (by decide) (by decide) (fun w => by omega)
  have c3 : ((3 : Nat) : Int) = 3 := rfl
  obtain ⟨_, e1, _⟩ := p1.no (.inl n1)
  obtain ⟨_, e2, _⟩ := p2.no (.inl n2)
  rw [c3] at q q' p1 p2
  subst e1 e2
  have k1 : (Aq.pass p.a.1 3).order.kept = p.a.1.order.kept := by rw [p1.ord]
  have k2 : (Aq.pass p.a.2 3).order.kept = p.a.2.order.kept := by rw [p2.ord]
  have kk : Kk 128 W U1 U2 (Aq.pass p.a.1 3) (Aq.pass p.a.2 3) p.said.1 p.said.2 p.way.1 p.way.2 p.heard.1 p.heard.2 [] A1 0 R1 [] A2 0 R2 := ⟨q'.swap, by rw [k2]; exact k.l1, by rw [k1]; exact k.l2, k.nm1, k.nm2⟩
  have t1 := kk.q.xx.told
  have t2 := kk.q.yy.told
  rw [h.w1, List.nil_append] at t1
  rw [h.w2, List.nil_append] at t2
  refine ⟨Zz.of (p := { p with a := (Aq.pass p.a.1 3, Aq.pass p.a.2 3) }) kk h.z.s1 h.z.s2 h.z.d, ?_, ?_⟩
  ·show p.way.1 ++ (Aq.pass p.a.1 3).out = []
   rw [h.w1, t1]; rfl
  ·show p.way.2 ++ (Aq.pass p.a.2 3).out = []
   rw [h.w2, t2]; rfl
 ·rw [if_neg c]; exact h
theorem round_z {i a1 a2 : Nat} (hW : W ≤ 16) (hi : i < 3000) (h : Zz W U1 U2 p fs1 A1 o1 R1 fs2 A2 o2 R2) (j : Jp (3 * (150 - i / 20)) i 0 (i % 20) a1 a2 U1 U2 p fs1 A1 o1 R1 fs2 A2 o2 R2) :
  (∃ A1' R1' A2' R2', Dn W U1 U2 (rnd i p) A1' R1' A2' R2') ∨ ∃ fs1' A1' o1' R1' fs2' A2' o2' R2', Zz W U1 U2 (rnd i p) fs1' A1' o1' R1' fs2' A2' o2' R2' ∧ Jp (3 * (150 - (i + 1) / 20)) (i + 1) 0 ((i + 1) % 20) a1 a2 U1 U2 (rnd i p) fs1' A1' o1' R1' fs2' A2' o2' R2' := by
 have hs : 3 * (150 - i / 20) ≤ 450 := by omega
 rcases carry_z hW hs (Nat.zero_le 1) false h j with ⟨w1, c1⟩ | ⟨f1, B1, q1, T1, f2, B2, q2, T2, z1, j1⟩
 ·rcases carry_z hW hs (Nat.zero_le 1) true h j with ⟨w2, c2⟩ | ⟨f1, B1, q1, T1, f2, B2, q2, T2, z1, j1⟩
  ·-- nothing is on its way
   have e1 := h.nil1 w1
   have e2 := h.nil2 w2
   subst e1 e2
   by_cases go : A1 < U1 ∨ A2 < U2
   ·right
    obtain ⟨fs1', fs2', z, j'⟩ := time_z h hi (Nat.zero_le 1) j (fun _ => ⟨pe_nil _, pe_nil _⟩) (.inr go)
    unfold rnd
    rw [c1, c2]
    exact ⟨fs1', A1, o1, R1, fs2', A2, o2, R2, z, j'⟩
   ·left
    have n1 := h.k.none rfl rfl (by omega)
    have n2 := h.k.swap.none rfl rfl (by omega)
    subst n1 n2
    exact ⟨A1, R1, A2, R2, Dn.round ⟨h, w1, w2⟩ i⟩
  ·right
   obtain ⟨fs1', fs2', z, j'⟩ := time_z z1 hi (Nat.le_refl 1) j1 (fun w => by cases w) (.inl rfl)
   unfold rnd
   rw [c1]
   exact ⟨fs1', B1, q1, T1, fs2', B2, q2, T2, z, j'⟩
 ·right
  have hE : ∃ fs1' A1' o1' R1' fs2' A2' o2' R2', Zz W U1 U2 (carry (carry p false false) true false) fs1' A1' o1' R1' fs2' A2' o2' R2' ∧ Jp (3 * (150 - i / 20)) i 1 (i % 20) a1 a2 U1 U2 (carry (carry p false false) true false) fs1' A1' o1' R1' fs2' A2' o2' R2' := by
   rcases carry_z hW hs (Nat.le_refl 1) true z1 j1 with ⟨w2, c2⟩ | r
   ·rw [c2]; exact ⟨_, _, _, _, _, _, _, _, z1, j1⟩
   ·exact r
  obtain ⟨g1, B1, q1, T1, g2, B2, q2, T2, z2, j2⟩ := hE
  obtain ⟨fs1', fs2', z, j'⟩ := time_z z2 hi (Nat.le_refl 1) j2 (fun w => by cases w) (.inl rfl)
  unfold rnd
  exact ⟨fs1', B1, q1, T1, fs2', B2, q2, T2, z, j'⟩
end
end Ad
namespace Ad
open Aq Ao
theorem LB_mono {s t : Nat} (h : s ≤ t) (x : arq_Arq) : LB s x ≤ LB t x := by unfold LB; split <;> omega
section
variable {m W : Nat} {x y : arq_Arq} {S1 S2 w1 w2 h1 h2 : List Msg} {fs1 : List Fm} {A1 o1 R1 : Nat} {fs2 : List Fm} {A2 o2 R2 : Nat}
theorem In.num {x' : arq_Arq} {f : Fm} {fs fs1' : List Fm} {o1' R2' : Nat} (hQ : Q m W x' y S1 S2 w1 w2 h1 h2 fs1' f.r o1' R1 fs A2 o2 R2') (tx : Tm x o1) (n : In m W S1 S2 w1 h1 R1 y.order.kept A2 o2 fs1 A1 o1 R2 x x' f fs fs1' o1' R2') (s : Nat) :
  mu s x' y S1.length S2.length fs1' f.r o1' R1 fs A2 o2 R2' + 1 ≤ mu s x y S1.length S2.length fs1 A1 o1 R1 (f :: fs) A2 o2 R2 ∧ x'.tries + LB s x' ≤ x.tries + LB s x ∧ ¬ (o1' < S1.length - f.r ∧ o1' < W) := by
 have yy := n.yy
 have hwp := wt_pos S1.length f
 have hMt : Mt x' y S1.length S2.length fs1' f.r o1' R1 fs A2 o2 R2' + 1 ≤ Mt x y S1.length S2.length fs1 A1 o1 R1 (f :: fs) A2 o2 R2 := by
  have := yy.pot
  unfold Mt
  have e2 : Mx S2.length S1.length (f :: fs) A2 o2 R1 y.rejected = wt S1.length f + Mx S2.length S1.length fs A2 o2 R1 y.rejected := by unfold Mx; show wt S1.length f + ws S1.length fs + _ + _ = _; omega
  rw [e2]; omega
 have hLB : LB s x' ≤ LB s x := by
  refine LB_le tx.le ?_
  rcases yy.rl with z | z
  ·rw [z]
   split
   ·exact .inl rfl
   ·split
    ·exact .inr (.inl rfl)
    ·exact .inr (.inr rfl)
  ·exact .inr (.inl z)
 refine ⟨by unfold mu; omega, ?_, fun z => n.nm ⟨?_, ?_⟩⟩
 ·have h0 := tx.tr
  have ht : x'.tries ≤ x.tries := by rw [yy.tries]; split <;> omega
  omega
 ·rw [hQ.xx.en.out, hQ.xx.en.l, List.length_drop]; omega
 ·rw [hQ.xx.en.out, hQ.xx.en.lw]; omega
structure Lq (W s : Nat) (x y : arq_Arq) (S1 S2 w1 w2 h1 h2 : List Msg) (fs1 : List Fm) (A1 o1 R1 : Nat) (fs2 : List Fm) (A2 o2 R2 : Nat) : Prop where
 q : Q 128 W x y S1 S2 w1 w2 h1 h2 fs1 A1 o1 R1 fs2 A2 o2 R2
 nm1 : ¬ (o1 < S1.length - A1 ∧ o1 < W)
 nm2 : ¬ (o2 < S2.length - A2 ∧ o2 < W)
 b : mu s x y S1.length S2.length fs1 A1 o1 R1 fs2 A2 o2 R2 ≤ 1564
 t1 : x.tries + LB s x ≤ 111
 t2 : y.tries + LB s y ≤ 111
variable {s : Nat}
theorem Lq.swap (h : Lq W s x y S1 S2 w1 w2 h1 h2 fs1 A1 o1 R1 fs2 A2 o2 R2) : Lq W s y x S2 S1 w2 w1 h2 h1 fs2 A2 o2 R2 fs1 A1 o1 R1 := ⟨h.q.swap, h.nm2, h.nm1, by rw [mu_swap]; exact h.b, h.t2, h.t1⟩
theorem Lq.less {t : Nat} (l : t ≤ s) (h : Lq W s x y S1 S2 w1 w2 h1 h2 fs1 A1 o1 R1 fs2 A2 o2 R2) : Lq W t x y S1 S2 w1 w2 h1 h2 fs1 A1 o1 R1 fs2 A2 o2 R2 := by
 have l1 := LB_mono l x
 have l2 := LB_mono l y
 have b := h.b
 have := h.t1; have := h.t2
 exact ⟨h.q, h.nm1, h.nm2, by unfold mu at b ⊢; omega, by omega, by omega⟩
theorem Lq.drain (h : Lq W s x y S1 S2 w1 w2 h1 h2 fs1 A1 o1 R1 fs2 A2 o2 R2) : Lq W s (drained x) (drained y) S1 S2 (w1 ++ x.out) (w2 ++ y.out) (h1 ++ x.order.ready) (h2 ++ y.order.ready) fs1 A1 o1 R1 fs2 A2 o2 R2 := ⟨h.q.drain, h.nm1, h.nm2, h.b, h.t1, h.t2⟩
theorem Lq.take (hW : W ≤ 16) (hS : ∀ b ∈ S2, b.length ≤ 50) {b : Msg} (h : Lq W s x y S1 S2 w1 (b :: w2) h1 h2 fs1 A1 o1 R1 fs2 A2 o2 R2) : ∃ fs1' A1' o1' fs2' R2', Lq W s (Aq.input x b) y S1 S2 w1 w2 h1 h2 fs1' A1' o1' R1 fs2' A2 o2 R2' := by
 obtain ⟨f, fs, ef, _⟩ := h.q.head
 obtain ⟨fs1', o1', R2', q, n⟩ := h.q.input (.inl rfl) hW hS ef
 subst ef
 obtain ⟨a1, a2, a3⟩ := n.num q h.q.tx s
 have b := h.b
 have := h.t1
 exact ⟨fs1', f.r, o1', fs, R2', q, a3, h.nm2, by omega, by omega, h.t2⟩
theorem Lq.lost {b : Msg} (h : Lq W s x y S1 S2 w1 (b :: w2) h1 h2 fs1 A1 o1 R1 fs2 A2 o2 R2) : ∃ fs2', Lq W s x y S1 S2 w1 w2 h1 h2 fs1 A1 o1 R1 fs2' A2 o2 R2 := by
 obtain ⟨f, fs, ef, _⟩ := h.q.head
 have q := h.q.lost ef
 subst ef
 have b := h.b
 refine ⟨fs, q, h.nm1, h.nm2, ?_, h.t1, h.t2⟩
 have e2 : Mx S2.length S1.length (f :: fs) A2 o2 R1 y.rejected = wt S1.length f + Mx S2.length S1.length fs A2 o2 R1 y.rejected := by unfold Mx; show wt S1.length f + ws S1.length fs + _ + _ = _; omega
 unfold mu Mt at b ⊢
 rw [e2] at b
 omega
theorem Lq.pass (hs : 461 ≤ s) (h : Lq W s x y S1 S2 w1 w2 h1 h2 fs1 A1 o1 R1 fs2 A2 o2 R2) : ∃ fs1', Lq W (s - 11) (Aq.pass x 11) y S1 S2 w1 w2 h1 h2 fs1' A1 o1 R1 fs2 A2 o2 R2 := by
 have c3 : ((11 : Nat) : Int) = 11 := rfl
 have t1 := h.t1
 obtain ⟨fs1', q, p⟩ := h.q.pass (n := 11) (s := s) (by decide) (by omega) (fun hr => by
  have : 45 ≤ LB s x := by
   have := h.q.tx.le
   unfold LB
   rw [if_pos hr]; omega
  rw [c3]; omega)
 rw [c3] at q p
 have b := h.b
 have l2 := LB_mono (Nat.sub_le s 11) y
 have u1 := p.pot
 have u2 := p.tries
 have := h.t2
 refine ⟨fs1', q, h.nm1, h.nm2, ?_, by omega, by omega⟩
 unfold mu Mt Mx at b ⊢
 rw [p.rej]
 omega
end
structure Lz (W s : Nat) (p : Pr) (fs1 : List Fm) (A1 o1 R1 : Nat) (fs2 : List Fm) (A2 o2 R2 : Nat) : Prop where
 k : Lq W s p.a.1 p.a.2 p.said.1 p.said.2 p.way.1 p.way.2 p.heard.1 p.heard.2 fs1 A1 o1 R1 fs2 A2 o2 R2
 e1 : p.a.1.out = []
 e2 : p.a.2.out = []
 r1 : p.a.1.order.ready = []
 r2 : p.a.2.order.ready = []
 s1 : ∀ b ∈ p.said.1, b.length ≤ 50
 s2 : ∀ b ∈ p.said.2, b.length ≤ 50
 d : p.downs = 0
def Ls (W s : Nat) (p : Pr) : Prop := ∃ fs1 A1 o1 R1 fs2 A2 o2 R2, Lz W s p fs1 A1 o1 R1 fs2 A2 o2 R2
section
variable {W s : Nat} {p : Pr}
theorem Lz.of {fs1 : List Fm} {A1 o1 R1 : Nat} {fs2 : List Fm} {A2 o2 R2 : Nat} (k : Lq W s p.a.1 p.a.2 p.said.1 p.said.2 p.way.1 p.way.2 p.heard.1 p.heard.2 fs1 A1 o1 R1 fs2 A2 o2 R2) (s1 : ∀ b ∈ p.said.1, b.length ≤ 50) (s2 : ∀ b ∈ p.said.2, b.length ≤ 50) (d : p.downs = 0) : Lz W s (collect p) fs1 A1 o1 R1 fs2 A2 o2 R2 := by
 refine ⟨k.drain, rfl, rfl, rfl, rfl, s1, s2, ?_⟩
 show p.downs + downOf p.a.1.inds + downOf p.a.2.inds = 0
 rw [k.q.xx.en.inds, k.q.yy.en.inds, d]; rfl
theorem Ls.less {t : Nat} (l : t ≤ s) (h : Ls W s p) : Ls W t p := by
 obtain ⟨fs1, A1, o1, R1, fs2, A2, o2, R2, h⟩ := h
 exact ⟨fs1, A1, o1, R1, fs2, A2, o2, R2, h.k.less l, h.e1, h.e2, h.r1, h.r2, h.s1, h.s2, h.d⟩
theorem Ls.pass1 (hs : 461 ≤ s) (h : Ls W s p) : Ls W (s - 11) (collect (withA p (Aq.pass p.a.1 11))) := by
 obtain ⟨fs1, A1, o1, R1, fs2, A2, o2, R2, h⟩ := h
 obtain ⟨fs1', k⟩ := h.k.pass hs
 exact ⟨fs1', A1, o1, R1, fs2, A2, o2, R2, Lz.of (p := withA p (Aq.pass p.a.1 11)) k h.s1 h.s2 h.d⟩
theorem Ls.pass2 (hs : 461 ≤ s) (h : Ls W s p) : Ls W (s - 11) (collect (withB p (Aq.pass p.a.2 11))) := by
 obtain ⟨fs1, A1, o1, R1, fs2, A2, o2, R2, h⟩ := h
 obtain ⟨fs2', k⟩ := h.k.swap.pass hs
 exact ⟨fs1, A1, o1, R1, fs2', A2, o2, R2, Lz.of (p := withB p (Aq.pass p.a.2 11)) k.swap h.s1 h.s2 h.d⟩
theorem Ls.carry (hW : W ≤ 16) (i lost : Bool) (h : Ls W s p) : Ls W s (carry p i lost) := by
 unfold Aq.carry
 by_cases c : wayOf p i = []
 ·rw [if_pos c]; exact h
 rw [if_neg c]
 obtain ⟨fs1, A1, o1, R1, fs2, A2, o2, R2, h⟩ := h
 cases i with
 | true =>
  obtain ⟨b, w, e⟩ : ∃ b w, p.way.2 = b :: w := by
   cases q : p.way.2 with
   | nil => exact absurd q c
   | cons b w => exact ⟨b, w, rfl⟩
  have k := h.k
  rw [e] at k
  have ew : wayOf p true = b :: w := e
  rw [ew]
  cases lost with
  | false =>
   obtain ⟨fs1', A1', o1', fs2', R2', k'⟩ := k.take hW h.s2
   have k'' : Lq W s (given (gone p true) true b).a.1 (given (gone p true) true b).a.2 p.said.1 p.said.2 (given (gone p true) true b).way.1 (given (gone p true) true b).way.2 p.heard.1 p.heard.2 fs1' A1' o1' R1 fs2' A2 o2 R2' := by
    show Lq W s (Aq.input p.a.1 b) p.a.2 p.said.1 p.said.2 p.way.1 p.way.2.tail p.heard.1 p.heard.2 fs1' A1' o1' R1 fs2' A2 o2 R2'
    rw [e]; exact k'
   exact ⟨fs1', A1', o1', R1, fs2', A2, o2, R2', Lz.of (p := given (gone p true) true b) k'' h.s1 h.s2 h.d⟩
  | true =>
   obtain ⟨fs2', k'⟩ := k.lost
   have k'' : Lq W s (gone p true).a.1 (gone p true).a.2 p.said.1 p.said.2 (gone p true).way.1 (gone p true).way.2 p.heard.1 p.heard.2 fs1 A1 o1 R1 fs2' A2 o2 R2 := by
    show Lq W s p.a.1 p.a.2 p.said.1 p.said.2 p.way.1 p.way.2.tail p.heard.1 p.heard.2 fs1 A1 o1 R1 fs2' A2 o2 R2
    rw [e]; exact k'
   exact ⟨fs1, A1, o1, R1, fs2', A2, o2, R2, Lz.of (p := gone p true) k'' h.s1 h.s2 h.d⟩
 | false =>
  obtain ⟨b, w, e⟩ : ∃ b w, p.way.1 = b :: w := by
   cases q : p.way.1 with
   | nil => exact absurd q c
   | cons b w => exact ⟨b, w, rfl⟩
  have k := h.k.swap
  rw [e] at k
  have ew : wayOf p false = b :: w := e
  rw [ew]
  cases lost with
  | false =>
   obtain ⟨fs2', A2', o2', fs1', R1', k'⟩ := k.take hW h.s1
   have k'' : Lq W s (given (gone p false) false b).a.1 (given (gone p false) false b).a.2 p.said.1 p.said.2 (given (gone p false) false b).way.1 (given (gone p false) false b).way.2 p.heard.1 p.heard.2 fs1' A1 o1 R1' fs2' A2' o2' R2 := by
    show Lq W s p.a.1 (Aq.input p.a.2 b) p.said.1 p.said.2 p.way.1.tail p.way.2 p.heard.1 p.heard.2 fs1' A1 o1 R1' fs2' A2' o2' R2
    rw [e]; exact k'.swap
   exact ⟨fs1', A1, o1, R1', fs2', A2', o2', R2, Lz.of (p := given (gone p false) false b) k'' h.s1 h.s2 h.d⟩
  | true =>
   obtain ⟨fs1', k'⟩ := k.lost
   have k'' : Lq W s (gone p false).a.1 (gone p false).a.2 p.said.1 p.said.2 (gone p false).way.1 (gone p false).way.2 p.heard.1 p.heard.2 fs1' A1 o1 R1 fs2 A2 o2 R2 := by
    show Lq W s p.a.1 p.a.2 p.said.1 p.said.2 p.way.1.tail p.way.2 p.heard.1 p.heard.2 fs1' A1 o1 R1 fs2 A2 o2 R2
    rw [e]; exact k'.swap
   exact ⟨fs1', A1, o1, R1, fs2, A2, o2, R2, Lz.of (p := gone p false) k'' h.s1 h.s2 h.d⟩
theorem Ls.start (hW : W ≤ 16) (h : Ls W 450 p) : ∃ a1 a2 U1 U2 fs1 A1 o1 R1 fs2 A2 o2 R2, Zz W U1 U2 p fs1 A1 o1 R1 fs2 A2 o2 R2 ∧ Jp 450 0 0 0 a1 a2 U1 U2 p fs1 A1 o1 R1 fs2 A2 o2 R2 := by
 obtain ⟨fs1, A1, o1, R1, fs2, A2, o2, R2, h⟩ := h
 have k := h.k
 have b := k.b
 have cl : ∀ {A o R : Nat} {kept : List (Int × Msg)} {S : List Msg} {is rs : List Nat} {fi fa : List Fm}, Dir 128 W S A o R kept is rs → Cl 128 (A + o) A o R kept S fi fa := fun d => ⟨Nat.le_refl _, fun j j1 j2 => by omega, .inr (.inl d.RH)⟩
 have la : ∀ {A o : Nat} {z : arq_Arq} {fi fa : List Fm}, o ≤ W → Tm z o → La (A + o) A fi fa z 0 ≤ 1280 := fun {A o z fi fa} ho tm => by
  have := th_le (A := A) (fi := fi) (fa := fa) (ph := 0) tm.le.2
  unfold La
  split <;> omega
 have tr : ∀ {A o n M : Nat} {z : arq_Arq} {fi fa : List Fm}, M ≤ 1564 → Tm z o → ¬ (o < n - A ∧ o < W) → A + o ≤ n → 1 ≤ W → z.tries + LB 450 z ≤ 111 → Tr 450 0 0 A (A + o) n A z fi fa 0 M := fun {A o n M z fi fa} hM tm nm sz w1 t => by
  have := th_le (A := A) (fi := fi) (fa := fa) (ph := 0) tm.le.2
  by_cases c : o = 0
  ·exact .inr (.inl (by omega))
  ·exact .inr (.inr ⟨t, rfl, by omega, by omega⟩)
 have l1 := la (A := A1) (fi := fs1) (fa := fs2) k.q.xx.d1.oW k.q.tx
 have l2 := la (A := A2) (fi := fs2) (fa := fs1) k.q.yy.d1.oW k.q.ty
 exact ⟨A1, A2, A1 + o1, A2 + o2, fs1, A1, o1, R1, fs2, A2, o2, R2, ⟨⟨k.q, cl k.q.xx.d1, cl k.q.yy.d1, k.nm1, k.nm2⟩, h.e1, h.e2, h.r1, h.r2, h.s1, h.s2, h.d⟩, ⟨by omega, by omega, tr b k.q.tx k.nm1 k.q.xx.d1.sz k.q.xx.d1.W1 k.t1, tr b k.q.ty k.nm2 k.q.yy.d1.sz k.q.yy.d1.W1 k.t2⟩⟩
theorem Dn.right {U1 U2 A1 R1 A2 R2 : Nat} (h : Dn W U1 U2 p A1 R1 A2 R2) : p.a.1.sent = p.said.1.length ∧ p.a.1.acked = p.a.1.sent ∧ p.a.1.lost = 0 ∧ p.heard.2 = p.said.1 ∧ p.a.2.sent = p.said.2.length ∧ p.a.2.acked = p.a.2.sent ∧ p.a.2.lost = 0 ∧ p.heard.1 = p.said.2 ∧ p.downs = 0 := by
 have k := h.z.k
 have x := k.q.xx
 have y := k.q.yy
 have n1 := k.nm1
 have n2 := k.nm2
 have a1 := x.d1.sz; have a2 := y.d1.sz
 have w := x.d1.W1
 have r1 := x.d1.RH; have r2 := y.d1.RH
 have b1 := x.d1.AR; have b2 := y.d1.AR
 have g1 := x.got
 have g2 := y.got
 rw [h.z.r1, List.append_nil, List.take_of_length_le (by omega)] at g1
 rw [h.z.r2, List.append_nil, List.take_of_length_le (by omega)] at g2
 refine ⟨x.en.sent, ?_, x.en.lost, g2, y.en.sent, ?_, y.en.lost, g1, h.z.d⟩
 ·rw [x.en.acked, x.en.sent]; omega
 ·rw [y.en.acked, y.en.sent]; omega
end
end Ad
namespace Ad
open Aq Ao
theorem ws_zero (n : Nat) : ∀ {l : List Fm}, (∀ f ∈ l, f.K = 0) → ws n l = 2 * l.length
 | [], _ => rfl
 | f :: l, h => by
  have e : wt n f = 2 := if_pos (h f (.head _))
  show wt n f + ws n l = 2 * (l.length + 1)
  rw [e, ws_zero n fun k hk => h k (.tail _ hk)]; omega
theorem queue_same : ∀ (d : Nat) (x : arq_Arq), (Aq.pumpL d x).log.queue = x.log.queue
 | 0, _ => rfl
 | d + 1, x => by
  rw [Aq.pumpL]
  split
  ·rw [queue_same d]
   unfold Aq.out1
   dsimp only
   split <;> rfl
  ·rfl
structure Fr0 (x : arq_Arq) (fs : List Fm) (o : Nat) : Prop where
 z : ∀ f ∈ fs, f.K = 0
 b : fs.length ≤ o
 rej : x.rejected = false
 tr : x.tries = 0
 que : x.log.queue = 50
section
variable {m W : Nat} {x y : arq_Arq} {S1 S2 w1 w2 h1 h2 : List Msg} {fs1 : List Fm} {o1 : Nat} {fs2 : List Fm} {o2 : Nat}
theorem send_q {b : Msg} (hb : b.length ≤ 50) (hn : S1.length < 50) (h : Q m W x y S1 S2 w1 w2 h1 h2 fs1 0 o1 0 fs2 0 o2 0) (f : Fr0 x fs1 o1) :
  (Aq.send x b).1 = 0 ∧ ∃ fs1' o1', Q m W (Aq.send x b).2 y (S1 ++ [b]) S2 w1 w2 h1 h2 fs1' 0 o1' 0 fs2 0 o2 0 ∧ Fr0 (Aq.send x b).2 fs1' o1' ∧ ¬ (o1' < (S1 ++ [b]).length - 0 ∧ o1' < W) := by
 have e := h.xx.en
 have tm := h.tx
 have hsz := h.xx.d1.sz
 have ex : Aq.send x b = (0, Aq.pump { x with log := Bl.logAdd x.log b, sent := x.sent + 1 }) := by
  unfold Aq.send
  rw [if_neg (by rw [e.size]; omega), if_pos e.st, if_neg]
  rw [e.l, e.out, List.length_drop, f.que]; omega
 rw [ex]
 refine ⟨rfl, ?_⟩
 have h1' := h.xx.said b
 generalize hx : ({ x with log := Bl.logAdd x.log b, sent := x.sent + 1 } : arq_Arq) = z at h1' ⊢
 have z1 : z.rejected = false := by rw [← hx]; exact f.rej
 have z2 : z.tries = 0 := by rw [← hx]; exact f.tr
 have z3 : z.log.queue = 50 := by rw [← hx]; exact f.que
 have z4 : z.order = x.order := by rw [← hx]
 have tz : Tm z o1 := by rw [← hx]; exact ⟨tm.t1, tm.n2, tm.le, tm.on, tm.tr, tm.nk⟩
 have y0 : Y m W (S1 ++ [b]) S2 w1 h1 0 y.order.kept (acks fs2) 0 o2 fs1 0 o1 (run z) z.tries (idx fs2) (Mx (S1 ++ [b]).length S2.length fs1 0 o1 0 z.rejected) z fs1 o1 0 :=
  ⟨h1', ⟨[], (List.append_nil _).symm⟩, Nat.le_refl _, fun j j1 j2 => by omega, .inl rfl, .inl rfl, rfl, tz, Nat.le_refl _⟩
 obtain ⟨fs', o', r1, r2, r3, r4, u, r5, r6⟩ := y0.pump
 have hk : ∀ g ∈ fs', g.K = 0 := fun g hg => by
  rw [r5] at hg
  rcases List.mem_append.1 hg with q | q
  ·exact f.z g q
  ·exact r6 g q
 have hp := r1.pot
 have hz' := r1.xs.d1.sz
 have eq' : (Aq.pump z).log.queue = 50 := by
  unfold Aq.pump
  split
  ·rw [queue_same]; exact z3
  ·exact z3
 have hx' : (Aq.pump z).order.kept = x.order.kept := by rw [r3, z4]
 refine ⟨fs', o', ⟨r1.xs, ?_, r1.tm, h.ty⟩, ⟨hk, ?_, r4.trans z1, r1.tries.trans z2, eq'⟩, fun q => r2 ⟨?_, ?_⟩⟩
 ·have := XS.rebuild (S1 := S1) (S1' := S1 ++ [b]) h.yy r1.xs h.yy.told (by simp) h.yy.kd
  exact this
 ·have fb := f.b
  unfold Mx at hp
  rw [ws_zero _ hk, ws_zero _ f.z, r4] at hp
  have el : (S1 ++ [b]).length = S1.length + 1 := List.length_append
  omega
 ·rw [r1.xs.en.out, r1.xs.en.l, List.length_drop]; omega
 ·rw [r1.xs.en.out, r1.xs.en.lw]; omega
end
theorem g_sum : ((List.range 41).all fun a => (List.range 41).all fun b => decide (a + b ≤ 40 → g a + g b + 2 * a + 2 * b ≤ 1120)) = true := by kernel_rfl
def Ss (W : Nat) (p : Pr) : Prop := ∃ fs1 o1 fs2 o2, Q 128 W p.a.1 p.a.2 p.said.1 p.said.2 p.way.1 p.way.2 p.heard.1 p.heard.2 fs1 0 o1 0 fs2 0 o2 0 ∧ Fr0 p.a.1 fs1 o1 ∧ Fr0 p.a.2 fs2 o2 ∧
 ¬ (o1 < p.said.1.length - 0 ∧ o1 < W) ∧ ¬ (o2 < p.said.2.length - 0 ∧ o2 < W) ∧ (∀ b ∈ p.said.1, b.length ≤ 50) ∧ (∀ b ∈ p.said.2, b.length ≤ 50) ∧ p.downs = 0
theorem app_short {S : List Msg} {b : Msg} (h : ∀ c ∈ S, c.length ≤ 50) (hb : b.length ≤ 50) : ∀ c ∈ S ++ [b], c.length ≤ 50 := by
 intro c hc
 rcases List.mem_append.1 hc with q | q
 ·exact h c q
 ·rw [List.mem_singleton.1 q]; exact hb
theorem Ss.send1 {W : Nat} {p : Pr} {b : Msg} (hb : b.length ≤ 50) (hn : p.said.1.length < 50) (h : Ss W p) : (Aq.send p.a.1 b).1 = 0 ∧ Ss W { p with a := ((Aq.send p.a.1 b).2, p.a.2), said := (p.said.1 ++ [b], p.said.2) } := by
 obtain ⟨fs1, o1, fs2, o2, q, f1, f2, n1, n2, s1, s2, d⟩ := h
 obtain ⟨e0, fs', o', q', f', n'⟩ := send_q hb hn q f1
 exact ⟨e0, fs', o', fs2, o2, q', f', f2, n', n2, app_short s1 hb, s2, d⟩
theorem Ss.send2 {W : Nat} {p : Pr} {b : Msg} (hb : b.length ≤ 50) (hn : p.said.2.length < 50) (h : Ss W p) : (Aq.send p.a.2 b).1 = 0 ∧ Ss W { p with a := (p.a.1, (Aq.send p.a.2 b).2), said := (p.said.1, p.said.2 ++ [b]) } := by
 obtain ⟨fs1, o1, fs2, o2, q, f1, f2, n1, n2, s1, s2, d⟩ := h
 obtain ⟨e0, fs', o', q', f', n'⟩ := send_q hb hn q.swap f2
 exact ⟨e0, fs1, o1, fs', o', q'.swap, f1, f', n1, n', s1, app_short s2 hb, d⟩
theorem Ss.done {W : Nat} {p : Pr} (hl : p.said.1.length + p.said.2.length ≤ 40) (h : Ss W p) : Ls W 1110 (collect p) := by
 obtain ⟨fs1, o1, fs2, o2, q, f1, f2, n1, n2, s1, s2, d⟩ := h
 have l1 : LB 1110 p.a.1 ≤ 111 := by unfold LB; split <;> omega
 have l2 : LB 1110 p.a.2 ≤ 111 := by unfold LB; split <;> omega
 have z1 := q.xx.d1.sz
 have z2 := q.yy.d1.sz
 have b1 := f1.b
 have b2 := f2.b
 have gs := of_decide_eq_true (List.all_eq_true.1 (List.all_eq_true.1 g_sum p.said.1.length (List.mem_range.2 (by omega))) p.said.2.length (List.mem_range.2 (by omega))) hl
 refine ⟨fs1, 0, o1, 0, fs2, 0, o2, 0, Lz.of ⟨q, n1, n2, ?_, by rw [f1.tr]; omega, by rw [f2.tr]; omega⟩ s1 s2 d⟩
 unfold mu Mt Mx
 rw [ws_zero _ f1.z, ws_zero _ f2.z, f1.rej, f2.rej]
 have c1 : cap p.said.2.length 0 false = g p.said.2.length := rfl
 have c2 : cap p.said.1.length 0 false = g p.said.1.length := rfl
 rw [c1, c2]
 omega
theorem Ss.both {W : Nat} (hW : 1 ≤ W ∧ W ≤ 16) : Ss W (Aq.both (upped 128 10 100 50 W 50) (upped 128 10 100 50 W 50)) := by
 have d : Dir 128 W [] 0 0 0 [] [] [] := ⟨hW.1, by omega, Nat.le_refl _, Nat.zero_le _, Nat.le_refl _, Nat.le_refl _, fun _ q => (nomatch q), List.nodup_nil, fun _ q => (nomatch q), fun _ q => (nomatch q), List.Pairwise.nil, fun _ q => (nomatch q), fun _ q => (nomatch q), List.Pairwise.nil⟩
 have e : En 128 W (upped 128 10 100 50 W 50) [] 0 0 0 := ⟨rfl, rfl, rfl, rfl, rfl, rfl, rfl, rfl, rfl, rfl, rfl, rfl, rfl, rfl, rfl, rfl⟩
 have x : XS 128 W (upped 128 10 100 50 W 50) [] [] [] [] [] 0 0 0 [] [] 0 0 0 [] := ⟨e, d, d, rfl, rfl, fun _ q => (nomatch q)⟩
 have t : Tm (upped 128 10 100 50 W 50) 0 := ⟨rfl, rfl, ⟨Int.le_refl _, by show (0 : Int) ≤ 10; decide⟩, ⟨fun q => absurd q (Nat.lt_irrefl _), fun q => absurd q (Int.lt_irrefl _)⟩, Int.le_refl _, rfl⟩
 have f : Fr0 (upped 128 10 100 50 W 50) [] 0 := ⟨fun _ q => (nomatch q), Nat.le_refl _, rfl, rfl, rfl⟩
 exact ⟨[], 0, [], 0, ⟨x, x, t, t⟩, f, f, fun q => absurd q.1 (Nat.lt_irrefl _), fun q => absurd q.1 (Nat.lt_irrefl _), fun _ q => (nomatch q), fun _ q => (nomatch q), rfl⟩
end Ad
open Aq Ao Ad
theorem prefix_l0 {a b : List (List Int)} (hl : b.length ≤ 1000000) (h : a = b.take a.length) : ∀ (d i k : Nat), i + d = a.length → d + 1 ≤ k → signalmanlaw15_prefix.l0 k a b (i : Int) = some true
 | 0, i, k, hi, hk => by
  obtain ⟨k, rfl⟩ : ∃ j, k = j + 1 := ⟨k - 1, by omega⟩
  rw [signalmanlaw15_prefix.l0, if_neg (by omega)]
 | d + 1, i, k, hi, hk => by
  obtain ⟨k, rfl⟩ : ∃ j, k = j + 1 := ⟨k - 1, by omega⟩
  have hab : a.length ≤ b.length := by rw [h, List.length_take]; omega
  have e : a.getD ((i : Int)).toNat [] = b.getD ((i : Int)).toNat [] := by
   rw [Int.toNat_natCast]
   have e1 : a[i]? = b[i]? := by
    rw [h, List.getElem?_take, if_pos (by omega)]
   simp only [List.getD, e1]
  have ew : w64 ((i : Int) + 1) = ((i + 1 : Nat) : Int) := by rw [w64_in ⟨by omega, by omega⟩]; omega
  rw [signalmanlaw15_prefix.l0, if_pos (by omega), if_pos (by omega), if_pos (by omega), e, if_pos (Co.sEq_same _), ew]
  exact prefix_l0 hl h d (i + 1) k (by omega) (by omega)
theorem prefix_eq {S : List (List Int)} (hl : S.length ≤ 1000000) {R : Nat} (hR : R ≤ S.length) {k : Nat} (hk : 1000002 ≤ k) : signalmanlaw15_prefix.f k (S.take R) S = some true := by
 have e : (S.take R).length = R := by rw [List.length_take]; omega
 unfold signalmanlaw15_prefix.f
 rw [if_neg (by omega)]
 exact prefix_l0 hl (by rw [e]) R 0 k (by omega) (by omega)
theorem counts_eq (a : arq_Arq) : arq_Arq_Counts.f a = some (a.sent, a.acked, a.lost) := rfl
theorem told_by (n x : Int) : ∀ z ∈ [IntKind.u8.wrap n, IntKind.u8.wrap x], 0 ≤ z ∧ z < 256 := by
 intro z hz
 rcases List.mem_cons.1 hz with e | e
 ·exact wrap_byte n z (by rw [e]; simp)
 ·exact wrap_byte x z e
def Gd (W i : Nat) (p : Pr) : Prop := ∃ a1 a2 U1 U2, (∃ A1 R1 A2 R2, Dn W U1 U2 p A1 R1 A2 R2) ∨ ∃ fs1 A1 o1 R1 fs2 A2 o2 R2, Zz W U1 U2 p fs1 A1 o1 R1 fs2 A2 o2 R2 ∧ Jp (3 * (150 - i / 20)) i 0 (i % 20) a1 a2 U1 U2 p fs1 A1 o1 R1 fs2 A2 o2 R2
theorem Gd.round {W i : Nat} {p : Pr} (hW : W ≤ 16) (hi : i < 3000) (h : Gd W i p) : Gd W (i + 1) (rnd i p) := by
 obtain ⟨a1, a2, U1, U2, ⟨A1, R1, A2, R2, d⟩ | ⟨fs1, A1, o1, R1, fs2, A2, o2, R2, z, j⟩⟩ := h
 ·exact ⟨a1, a2, U1, U2, .inl ⟨A1, R1, A2, R2, d.round i⟩⟩
 ·exact ⟨a1, a2, U1, U2, round_z hW hi z j⟩
theorem len_ws (n : Nat) : ∀ l : List Fm, l.length ≤ ws n l
 | [] => Nat.le_refl _
 | f :: l => by
  have := wt_pos n f
  have := len_ws n l
  show l.length + 1 ≤ wt n f + ws n l
  omega
theorem Ad.Zz.small {W U1 U2 : Nat} {p : Pr} {fs1 : List Fm} {A1 o1 R1 : Nat} {fs2 : List Fm} {A2 o2 R2 : Nat} (z : Zz W U1 U2 p fs1 A1 o1 R1 fs2 A2 o2 R2) : p.way.1.length = fs1.length ∧ p.way.2.length = fs2.length ∧ p.heard.1.length ≤ p.said.2.length ∧ p.heard.2.length ≤ p.said.1.length := by
 have t1 := congrArg List.length z.k.q.xx.told
 have t2 := congrArg List.length z.k.q.yy.told
 have g1 := congrArg List.length z.k.q.xx.got
 have g2 := congrArg List.length z.k.q.yy.got
 rw [z.e1, List.append_nil, List.length_map] at t1
 rw [z.e2, List.append_nil, List.length_map] at t2
 rw [z.r1, List.append_nil, List.length_take] at g1
 rw [z.r2, List.append_nil, List.length_take] at g2
 exact ⟨t1, t2, by omega, by omega⟩
theorem Gd.small {W i : Nat} {p : Pr} (h : Gd W i p) : p.way.1.length ≤ 3000 ∧ p.way.2.length ≤ 3000 ∧ p.heard.1.length ≤ p.said.2.length ∧ p.heard.2.length ≤ p.said.1.length ∧ p.downs = 0 := by
 obtain ⟨a1, a2, U1, U2, ⟨A1, R1, A2, R2, d⟩ | ⟨fs1, A1, o1, R1, fs2, A2, o2, R2, z, j⟩⟩ := h
 ·obtain ⟨e1, e2, e3, e4⟩ := d.z.small
  rw [d.w1, d.w2]
  exact ⟨Nat.zero_le _, Nat.zero_le _, e3, e4, d.z.d⟩
 ·obtain ⟨e1, e2, e3, e4⟩ := z.small
  have b := j.b1
  have l1 := len_ws p.said.2.length fs1
  have l2 := len_ws p.said.1.length fs2
  unfold mu Mt Mx at b
  exact ⟨by omega, by omega, e3, e4, z.d⟩
theorem Gd.last {W : Nat} {p : Pr} (h : Gd W 3000 p) : ∃ U1 U2 A1 R1 A2 R2, Dn W U1 U2 p A1 R1 A2 R2 := by
 obtain ⟨a1, a2, U1, U2, ⟨A1, R1, A2, R2, d⟩ | ⟨fs1, A1, o1, R1, fs2, A2, o2, R2, z, j⟩⟩ := h
 ·exact ⟨U1, U2, A1, R1, A2, R2, d⟩
 ·have := j.b1; omega
theorem dl6_eq {W U1 U2 A1 R1 A2 R2 : Nat} {p : Pr} (h : Dn W U1 U2 p A1 R1 A2 R2) (hs : p.said.1.length ≤ 40 ∧ p.said.2.length ≤ 40) {k : Nat} (hk : 2000000 ≤ k) : signalmanlaw15_ArqDelivers.l6 k p 0 = some true := by
 obtain ⟨a1, a2, a3, a4, b1, b2, b3, b4, c⟩ := h.right
 obtain ⟨k, rfl⟩ : ∃ j, k = j + 3 := ⟨k - 3, by omega⟩
 have p1 : ∀ j, 1000002 ≤ j → signalmanlaw15_prefix.f j p.heard.2 p.said.1 = some true := fun j hj => by
  have := prefix_eq (S := p.said.1) (R := p.said.1.length) (by omega) (Nat.le_refl _) hj
  rw [List.take_length] at this
  rw [a4]; exact this
 have p2 : ∀ j, 1000002 ≤ j → signalmanlaw15_prefix.f j p.heard.1 p.said.2 = some true := fun j hj => by
  have := prefix_eq (S := p.said.2) (R := p.said.2.length) (by omega) (Nat.le_refl _) hj
  rw [List.take_length] at this
  rw [b4]; exact this
 have l2 : signalmanlaw15_ArqDelivers.l6 (k + 1) p 2 = some true := by
  rw [signalmanlaw15_ArqDelivers.l6, if_neg (by decide), c]; rfl
 have l1 : signalmanlaw15_ArqDelivers.l6 (k + 2) p 1 = some true := by
  rw [signalmanlaw15_ArqDelivers.l6, if_pos (by decide), if_pos (by decide), if_neg (by decide), counts_eq, bsome]
  unfold signalmanlaw15_ArqDelivers.j7 signalmanlaw15_ArqDelivers.j8
  dsimp only
  rw [if_pos (by decide), if_neg (by decide), if_pos b1, if_pos b2, if_pos b3, if_pos (by decide), if_pos (by rw [b4, b1]), p2 _ (by omega), bsome, if_neg (by decide)]
  exact l2
 rw [signalmanlaw15_ArqDelivers.l6, if_pos (by decide), if_pos (by decide), if_pos rfl, counts_eq, bsome]
 unfold signalmanlaw15_ArqDelivers.j7 signalmanlaw15_ArqDelivers.j8
 dsimp only
 rw [if_pos (by decide), if_pos rfl, if_pos a1, if_pos a2, if_pos a3, if_pos (by decide), if_pos (by rw [a4, a1]), p1 _ (by omega), bsome, if_neg (by decide)]
 exact l1
theorem said_carry (p : Pr) (i lost : Bool) : (carry p i lost).said = p.said := by
 unfold Aq.carry
 split
 ·rfl
 ·cases i <;> cases lost <;> rfl
theorem said_rnd (i : Nat) (p : Pr) : (rnd i p).said = p.said := by
 unfold rnd
 split
 ·show (carry (carry p false false) true false).said = _
  rw [said_carry, said_carry]
 ·rw [said_carry, said_carry]
theorem pass_part {q : Pr} {C V : Nat} (h : PI q C V) (hC : C ≤ 1000000000) (hV : V ≤ 400000000000) (G : Pr → Option Bool) {k : Nat} (hk : 5000000000 ≤ k) :
  ((arq_Arq_Pass.f k q.a.1 3).bind fun t101 => (arq_Arq_Pass.f k q.a.2 3).bind fun t113 => (signalmanlaw15_pair_collect.f k { a := (t101, t113), way := (q.way.1, q.way.2), heard := (q.heard.1, q.heard.2), said := (q.said.1, q.said.2), downs := q.downs }).bind G) = G (collect { q with a := (Aq.pass q.a.1 3, Aq.pass q.a.2 3) }) ∧ PI (collect { q with a := (Aq.pass q.a.1 3, Aq.pass q.a.2 3) }) (C + 7000) (V + 2 * (C + 7000)) := by
 have hbig : big = 1000000000000 := rfl
 have p1 := passes_eq h.a1 (by omega) 3 (k := k) (by omega)
 have p2 := passes_eq h.a2 (by omega) 3 (k := k) (by omega)
 have h3 : PI { q with a := (Aq.pass q.a.1 3, Aq.pass q.a.2 3) } (C + 7000) V :=
  { h.more (D := C + 7000) (by omega) (Nat.le_refl _) with a1 := pass_ai h.a1 (by omega) 3, a2 := pass_ai h.a2 (by omega) 3, b1 := h.b1.passB h.a1 3, b2 := h.b2.passB h.a2 3 }
 have e3 := collect_eq h3 (by omega) (by omega) (k := k) (by omega)
 refine ⟨?_, collect_pi h3⟩
 rw [p1, bsome, p2, bsome]
 exact (congrArg (fun o => Option.bind o G) e3).trans rfl
theorem nums1 {C V : Nat} (hV : V ≤ 100000000000) (hC : C ≤ 170000000) : V + 2 * C + 26000 ≤ 500000000000 ∧ V + 2 * C + 26000 + 2 * (C + 13000) + 26000 ≤ 400000000000 := by
 constructor <;> omega
theorem nums2 {C : Nat} (hC : C ≤ 170000000) : C + 40000 ≤ 100000000000 ∧ C + 13000 + 40000 ≤ 100000000000 ∧ C + 13000 + 13000 ≤ 1000000000 ∧ C + 13000 + 13000 + 7000 ≤ C + 50000 ∧ C + 13000 + 13000 ≤ C + 50000 := by
 refine ⟨?_, ?_, ?_, ?_, ?_⟩ <;> omega
theorem nums3 {C d k : Nat} (hC : C ≤ 170000000) (hk : 5000000000 + (d + 1) ≤ k + 1) : 3 * C + 80000 ≤ k ∧ 3 * (C + 13000) + 80000 ≤ k ∧ 5000000000 ≤ k ∧ 5000000000 + d ≤ k := by
 refine ⟨?_, ?_, ?_, ?_⟩ <;> omega
theorem nums4 {C i d : Nat} (hC : C ≤ 10000000 + 50000 * i) (hi : i + (d + 1) = 3000) : C ≤ 170000000 ∧ (i : Int) < 3000 ∧ i < 3000 ∧ i + 1 + d = 3000 ∧ C + 50000 ≤ 10000000 + 50000 * (i + 1) := by
 refine ⟨?_, ?_, ?_, ?_, ?_⟩ <;> omega
theorem dl5_eq {W : Nat} (hW : W ≤ 16) : ∀ (d i : Nat) (p : Pr) (k C V : Nat), i + d = 3000 → Gd W i p → V = 100000000000 → PI p C V → C ≤ 10000000 + 50000 * i → p.said.1.length ≤ 40 ∧ p.said.2.length ≤ 40 → 5000000000 + d ≤ k → signalmanlaw15_ArqDelivers.l5 k (i : Int) p = some true
 | 0, i, p, k, C, V, hi, g, hV, hp, hC, hs, hk => by
  obtain ⟨k, rfl⟩ : ∃ j, k = j + 1 := ⟨k - 1, by omega⟩
  obtain rfl : i = 3000 := by omega
  obtain ⟨U1, U2, A1, R1, A2, R2, d⟩ := g.last
  rw [signalmanlaw15_ArqDelivers.l5, if_neg (by decide)]
  exact dl6_eq d hs (by omega)
 | d + 1, i, p, k, C, V, hi, g, hV, hp, hC, hs, hk => by
  obtain ⟨k, rfl⟩ : ∃ j, k = j + 1 := ⟨k - 1, by omega⟩
  have ew : w64 ((i : Int) + 1) = ((i + 1 : Nat) : Int) := w64_in ⟨by omega, by omega⟩
  obtain ⟨u0, u11, u12, u13, u14⟩ := nums4 hC hi
  obtain ⟨u3, u7⟩ := nums1 (Nat.le_of_eq hV) u0
  obtain ⟨u1, u2, u6, u9, u10⟩ := nums2 u0
  obtain ⟨u4, u5, u8, u15⟩ := nums3 u0 hk
  have em : ((i : Int)).tmod 20 = ((i % 20 : Nat) : Int) := by rw [Int.tmod_eq_emod_of_nonneg (by omega)]; omega
  have v1 : i % 20 = 19 → ((i % 20 : Nat) : Int) = 19 := fun c => by omega
  have v2 : ¬ i % 20 = 19 → ¬ ((i % 20 : Nat) : Int) = 19 := fun c => by omega
  have w1 : 3000 ≤ V := by omega
  have w2 : 40 ≤ V := by omega
  have fin : ∀ q D X, Gd W (i + 1) q → q.said = p.said → PI q D X → D ≤ C + 50000 → signalmanlaw15_ArqDelivers.l5 k ((i + 1 : Nat) : Int) q = some true := fun q D X g' hsd hD l => by
   have sm := g'.small
   rw [hsd] at sm
   refine dl5_eq hW d (i + 1) q k (C + 50000) V u13 g' hV ?_ u14 (by rw [hsd]; exact hs) u15
   have hD' := hD.more l (Nat.le_refl X)
   exact { hD' with l1 := Nat.le_trans sm.1 w1, l2 := Nat.le_trans sm.2.1 w1, h1 := Nat.le_trans sm.2.2.1 (Nat.le_trans hs.2 w2), h2 := Nat.le_trans sm.2.2.2.1 (Nat.le_trans hs.1 w2), d := by rw [sm.2.2.2.2]; exact ⟨Int.le_refl _, Int.natCast_nonneg _⟩ }
  have g' := g.round hW u12
  have hsd := said_rnd i p
  have h1 := carry_pi hp false false
  have h2 := carry_pi h1 true false
  have e1 := carry_eq hp u1 (by omega) false false (k := k) u4
  have e2 := carry_eq h1 u2 u3 true false (k := k) u5
  rw [signalmanlaw15_ArqDelivers.l5, if_pos u11]
  refine (congrArg (fun o => Option.bind o _) (e1 : signalmanlaw15_pair_carry.f k p 0 false = _)).trans ?_
  rw [bsome]
  refine (congrArg (fun o => Option.bind o _) (e2 : signalmanlaw15_pair_carry.f k (carry p false false) 1 false = _)).trans ?_
  rw [bsome, em, ew]
  by_cases c : i % 20 = 19
  ·have er : rnd i p = collect { carry (carry p false false) true false with a := (Aq.pass (carry (carry p false false) true false).a.1 3, Aq.pass (carry (carry p false false) true false).a.2 3) } := if_pos c
   rw [er] at g' hsd
   obtain ⟨e3, h3⟩ := pass_part h2 u6 u7 (fun t115 => signalmanlaw15_ArqDelivers.l5 k ((i + 1 : Nat) : Int) t115) (k := k) u8
   rw [if_pos (v1 c)]
   exact e3.trans (fin _ _ _ g' hsd h3 u9)
  ·have er : rnd i p = carry (carry p false false) true false := if_neg c
   rw [er] at g' hsd
   rw [if_neg (v2 c)]
   exact fin _ _ _ g' hsd h2 u10
theorem dl3_eq {W : Nat} (hW : W ≤ 16) (l : List Int) (hl : l.length ≤ 60) : ∀ (d i : Nat) (p : Pr) (k N : Nat), i + d = l.length → Ls W (11 * d + 450) p → PG p N → N ≤ 50 + 3 * i → p.said.1.length ≤ 40 ∧ p.said.2.length ≤ 40 → 5000010000 + d ≤ k → signalmanlaw15_ArqDelivers.l3 k l (i : Int) p = some true
 | 0, i, p, k, N, hi, h, hp, hN, hs, hk => by
  obtain ⟨k, rfl⟩ : ∃ j, k = j + 1 := ⟨k - 1, by omega⟩
  rw [signalmanlaw15_ArqDelivers.l3, if_neg (by omega)]
  obtain ⟨a1, a2, U1, U2, fs1, A1, o1, R1, fs2, A2, o2, R2, z, j⟩ := Ls.start hW h
  have hu : uw * N ≤ 100000000000 := by
   have := uw_le (N := N) (M := 250) (by omega)
   have e : uw * 250 = 100000000000 := by unfold uw; decide
   omega
  exact dl5_eq hW 3000 0 p k (20000 * N) 100000000000 (by omega) ⟨a1, a2, U1, U2, .inr ⟨fs1, A1, o1, R1, fs2, A2, o2, R2, z, j⟩⟩ rfl (PI.more hp (Nat.le_refl _) hu) (by omega) hs (by omega)
 | d + 1, i, p, k, N, hi, h, hp, hN, hs, hk => by
  obtain ⟨k, rfl⟩ : ∃ j, k = j + 1 := ⟨k - 1, by omega⟩
  obtain ⟨K, hK⟩ : ∃ K : Nat, K = 100000000 := ⟨_, rfl⟩
  have ew : w64 ((i : Int) + 1) = ((i + 1 : Nat) : Int) := w64_in ⟨by omega, by omega⟩
  have b0 : ∀ w : Bool, 0 ≤ bi w ∧ bi w < 2 := by intro w; cases w <;> decide
  have cb : 20000 * N + 8000 ≤ big := by unfold big; omega
  rw [signalmanlaw15_ArqDelivers.l3, if_pos (by omega), if_pos (by omega), bi_mod, ew]
  unfold signalmanlaw15_ArqDelivers.j4
  rw [bi_mod, ew]
  generalize decide (l.getD ((i : Nat) : Int).toNat 0 % 2 = 1) = who
  generalize decide (iand .i64 (l.getD ((i : Nat) : Int).toNat 0) 2 = 0) = lost
  by_cases c : iand .i64 (l.getD ((i : Nat) : Int).toNat 0) 12 = 0
  ·rw [if_pos c, if_pos (b0 who)]
   have fin : ∀ q : Pr, PG q (N + 1) → Ls W (11 * d + 450) (collect q) → q.said = p.said → ((signalmanlaw15_pair_collect.f k q).bind fun t74 => (signalmanlaw15_pair_carry.f k t74 (bi who) lost).bind fun t76 => signalmanlaw15_ArqDelivers.l3 k l ((i + 1 : Nat) : Int) t76) = some true := fun q hq hL hsd => by
    refine (congrArg (fun o => Option.bind o _) (hq.collect_eq (by omega) (K := K) (by omega) (by omega))).trans ?_
    rw [bsome]
    have hc := hq.collect (by omega)
    refine (congrArg (fun o => Option.bind o _) (hc.carry_eq (by omega) who lost (K := K) (by omega) (by omega))).trans ?_
    rw [bsome]
    exact dl3_eq hW l hl d (i + 1) _ k (N + 1 + 1 + 1) (by omega) (hL.carry hW who lost) (hc.carry (by omega) who lost) (by omega) (by rw [said_carry]; show q.said.1.length ≤ 40 ∧ q.said.2.length ≤ 40; rw [hsd]; exact hs) (by omega)
   cases who with
   | false =>
    have es := passes_eq hp.a1 cb 11 (k := k) (by omega)
    have hA := hp.withA (pass_ai hp.a1 cb 11) (by omega) (hp.b1.passB hp.a1 11)
    have hL := Ls.pass1 (by omega) h
    rw [show 11 * (d + 1) + 450 - 11 = 11 * d + 450 by omega] at hL
    rw [if_pos (show bi false = 0 from rfl)]
    refine (congrArg (fun o => Option.bind o _) es).trans ?_
    rw [bsome]
    exact fin (withA p (pass p.a.1 11)) hA hL rfl
   | true =>
    have es := passes_eq hp.a2 cb 11 (k := k) (by omega)
    have hA := hp.withB (pass_ai hp.a2 cb 11) (by omega) (hp.b2.passB hp.a2 11)
    have hL := Ls.pass2 (by omega) h
    rw [show 11 * (d + 1) + 450 - 11 = 11 * d + 450 by omega] at hL
    rw [if_neg (by decide)]
    refine (congrArg (fun o => Option.bind o _) es).trans ?_
    rw [bsome]
    exact fin (withB p (pass p.a.2 11)) hA hL rfl
  ·rw [if_neg c]
   refine (congrArg (fun o => Option.bind o _) (hp.carry_eq (by omega) who lost (K := K) (by omega) (by omega))).trans ?_
   rw [bsome]
   exact dl3_eq hW l hl d (i + 1) _ k (N + 1) (by omega) ((h.less (by omega)).carry hW who lost) (hp.carry (by omega) who lost) (by omega) (by rw [said_carry]; exact hs) (by omega)
theorem PG.said {p : Pr} {N : Nat} (h : PG p N) (s : List (List Int) × List (List Int)) : PG { p with said := s } N := { h with }
theorem dl1_eq {W : Nat} (hW : W ≤ 16) (l r : List Int) (hl : l.length ≤ 40) (hr : r.length ≤ 60) : ∀ (d i : Nat) (p : Pr) (k N : Nat), i + d = l.length → Ss W p → PG p N → N ≤ i → p.said.1.length + p.said.2.length ≤ i → 5000020000 + d ≤ k → signalmanlaw15_ArqDelivers.l1 k l r (i : Int) p = some true
 | 0, i, p, k, N, hi, h, hp, hN, hs, hk => by
  obtain ⟨k, rfl⟩ : ∃ j, k = j + 1 := ⟨k - 1, by omega⟩
  obtain ⟨K, hK⟩ : ∃ K : Nat, K = 100000000 := ⟨_, rfl⟩
  rw [signalmanlaw15_ArqDelivers.l1, if_neg (by omega)]
  refine (congrArg (fun o => Option.bind o _) (hp.collect_eq (by omega) (K := K) (by omega) (by omega))).trans ?_
  rw [bsome]
  exact dl3_eq hW r hr r.length 0 _ k (N + 1) (by omega) (Ls.less (by omega) (h.done (by omega))) (hp.collect (by omega)) (by omega) (by show p.said.1.length ≤ 40 ∧ p.said.2.length ≤ 40; omega) (by omega)
 | d + 1, i, p, k, N, hi, h, hp, hN, hs, hk => by
  obtain ⟨k, rfl⟩ : ∃ j, k = j + 1 := ⟨k - 1, by omega⟩
  have ew : w64 ((i : Int) + 1) = ((i + 1 : Nat) : Int) := w64_in ⟨by omega, by omega⟩
  have b0 : ∀ w : Bool, 0 ≤ bi w ∧ bi w < 2 := by intro w; cases w <;> decide
  have cb : 20000 * N + 8000 ≤ big := by unfold big; omega
  rw [signalmanlaw15_ArqDelivers.l1, if_pos (by omega), if_pos (by omega)]
  unfold signalmanlaw15_ArqDelivers.j2 signalmanlaw15_num.f
  rw [bi_mod, ew]
  generalize decide (l.getD ((i : Nat) : Int).toNat 0 % 2 = 1) = who
  have by2 := told_by (i : Int) (l.getD ((i : Nat) : Int).toNat 0)
  have b2 : ([IntKind.u8.wrap (i : Int), IntKind.u8.wrap (l.getD ((i : Nat) : Int).toNat 0)] : List Int).length ≤ 50 := by simp
  generalize ([IntKind.u8.wrap (i : Int), IntKind.u8.wrap (l.getD ((i : Nat) : Int).toNat 0)] : List Int) = b at b2 by2 ⊢
  rw [if_pos (b0 who)]
  cases who with
  | false =>
   have es := send_eq hp.a1 (by omega) b (k := k) (by omega)
   have hA := hp.withA (send_ai hp.a1 b) (by omega) (hp.b1.sendB hp.a1 by2)
   obtain ⟨e0, h'⟩ := Ss.send1 b2 (by omega) h
   rw [if_pos (show bi false = 0 from rfl)]
   refine (congrArg (fun o => Option.bind o _) es).trans ?_
   rw [bsome, bsome, e0, if_pos rfl, if_pos (b0 false), if_pos (show bi false = 0 from rfl)]
   refine (if_pos (show ((p.said.1.length : Nat) : Int) + 1 ≤ 1099511627776 by omega)).trans ?_
   exact dl1_eq hW l r hl hr d (i + 1) _ k (N + 1) (by omega) h' (PG.said hA _) (by omega) (by show (p.said.1 ++ [b]).length + p.said.2.length ≤ i + 1; rw [List.length_append]; show p.said.1.length + 1 + _ ≤ _; omega) (by omega)
  | true =>
   have es := send_eq hp.a2 (by omega) b (k := k) (by omega)
   have hA := hp.withB (send_ai hp.a2 b) (by omega) (hp.b2.sendB hp.a2 by2)
   obtain ⟨e0, h'⟩ := Ss.send2 b2 (by omega) h
   rw [if_neg (by decide)]
   refine (congrArg (fun o => Option.bind o _) es).trans ?_
   rw [bsome, bsome, e0, if_pos rfl, if_pos (b0 true), if_neg (by decide)]
   refine (if_pos (show ((p.said.2.length : Nat) : Int) + 1 ≤ 1099511627776 by omega)).trans ?_
   exact dl1_eq hW l r hl hr d (i + 1) _ k (N + 1) (by omega) h' (PG.said hA _) (by omega) (by show p.said.1.length + (p.said.2 ++ [b]).length ≤ i + 1; rw [List.length_append]; show _ + (p.said.2.length + 1) ≤ _; omega) (by omega)
theorem ArqDelivers : signalmanlaw15_ArqDelivers.Pure := by
 intro window sends l _ _ _ _ _
 obtain ⟨K, hK⟩ : ∃ K : Nat, 6000000000 ≤ K := ⟨6000000000, Nat.le_refl _⟩
 refine ⟨K, ?_⟩
 unfold signalmanlaw15_ArqDelivers.f
 rw [alive_eq (by omega), bsome, if_pos rfl]
 have out : signalmanlaw15_ArqDelivers.j0 K window sends l true true = some true := by unfold signalmanlaw15_ArqDelivers.j0; rw [if_pos rfl]
 by_cases c1 : window < 1
 ·rw [if_pos c1]; exact out
 rw [if_neg c1]
 by_cases c2 : window > 16
 ·rw [if_pos c2]; exact out
 rw [if_neg c2]
 by_cases c3 : (sends.length : Int) > 40
 ·rw [if_pos c3]; exact out
 rw [if_neg c3]
 by_cases c4 : (l.length : Int) > 60
 ·rw [decide_eq_true c4]; exact out
 rw [decide_eq_false c4]
 unfold signalmanlaw15_ArqDelivers.j0
 rw [if_neg (by simp)]
 obtain ⟨W, hW⟩ : ∃ W : Nat, window = W := ⟨window.toNat, by omega⟩
 unfold signalmanlaw15_shape.f
 rw [bsome]
 rw [ups (m := 128) (t1 := 10) (n2 := 100) (size := 50) (win := W) (q := 50) (.inl rfl) (by decide) (by decide) (by decide) (by omega) (by decide) rfl hW rfl rfl rfl rfl (by omega), bsome]
 have g := PG.both (m := 128) (t1 := 10) (n2 := 100) (size := 50) (win := W) (q := 50) (.inl rfl) (by decide) (by decide) (by decide) (by omega) (by decide)
 exact dl1_eq (by omega) sends l (by omega) (by omega) sends.length 0 _ K 0 (by omega) (Ss.both (by omega)) g (Nat.le_refl _) (Nat.le_refl _) (by omega)
end Go.Proofs.Ytnlcafmkmfnobaa

/- StationTwins: a piece that is received on both lines is processed once, whichever copy arrives first: but for the two counters of copies the station is the same, whatever the order; all of them are reckoned out by the kernel. Conditions: none beyond those of the given statement. -/
import Derived.Test.YtodbopebbmplaaaGreatRunStationTwins
import Derived.KernelRfl
set_option linter.all false
set_option maxRecDepth 100000
namespace Go.Proofs.YtodbopebbmplaaaGreat
open Go.RowKit Go.Proofs.YtodbopebbmplaaaGreat.Walk
theorem bsome {α β : Type} (x : α) (g : α → Option β) : (some x).bind g = g x := Eq.trans (b := g x) rfl (Eq.symm rfl)
theorem iand_any1 (x : Int) : iand .i64 x 1 = x % 2 := by
 unfold iand
 show IntKind.i64.wrap (BitVec.ofInt 64 x &&& BitVec.ofInt 64 1).toNat = _
 rw [BitVec.toNat_and, BitVec.toNat_ofInt, BitVec.toNat_ofInt]
 have e1 : ((1 : Int) % (2 ^ 64 : Nat)).toNat = 1 := by decide
 rw [e1, Nat.and_one_is_mod]
 have : w64 (((x % (2 ^ 64 : Nat)).toNat % 2 : Nat) : Int) = x % 2 := by
  rw [w64_in ⟨by omega, by omega⟩]; omega
 exact this
theorem iand_mask (x : Int) (j : Nat) (hj : j ≤ 30) : iand .i64 x (((2 ^ j - 1 : Nat)) : Int) = x % ((2 ^ j : Nat) : Int) := by
 have hp : 2 ^ j ≤ 2 ^ 30 := Nat.pow_le_pow_right (by omega) hj
 have hp1 : 1 ≤ 2 ^ j := Nat.one_le_two_pow
 have hdv : (2 ^ j) ∣ (2 ^ 64) := Nat.pow_dvd_pow 2 (by omega)
 unfold iand
 show IntKind.i64.wrap (BitVec.ofInt 64 x &&& BitVec.ofInt 64 (((2 ^ j - 1 : Nat)) : Int)).toNat = _
 rw [BitVec.toNat_and, BitVec.toNat_ofInt, BitVec.toNat_ofInt]
 have e1 : ((((2 ^ j - 1 : Nat)) : Int) % (2 ^ 64 : Nat)).toNat = 2 ^ j - 1 := by
  have : (2 ^ 64 : Nat) = 18446744073709551616 := by decide
  rw [this]; omega
 rw [e1, Nat.and_two_pow_sub_one_eq_mod]
 have e2 : (((x % (2 ^ 64 : Nat)).toNat % 2 ^ j : Nat) : Int) = x % ((2 ^ j : Nat) : Int) := by
  have h0 : 0 ≤ x % ((2 ^ 64 : Nat) : Int) := Int.emod_nonneg _ (by decide)
  rw [Int.natCast_emod, Int.toNat_of_nonneg h0]
  exact Int.emod_emod_of_dvd x (Int.natCast_dvd_natCast.2 hdv)
 have hb : 0 ≤ x % ((2 ^ j : Nat) : Int) ∧ x % ((2 ^ j : Nat) : Int) < ((2 ^ j : Nat) : Int) := ⟨Int.emod_nonneg _ (by omega), Int.emod_lt_of_pos _ (by omega)⟩
 have : w64 (((x % (2 ^ 64 : Nat)).toNat % 2 ^ j : Nat) : Int) = x % ((2 ^ j : Nat) : Int) := by
  rw [e2, w64_in ⟨by omega, by have : (2 ^ 30 : Nat) = 1073741824 := (by decide); omega⟩]
 exact this
theorem bnone {α β : Type} (f : α → Option β) : Option.bind none f = none := by simp
def pushSeq : Nat → Int → List Int → Int → station_Station → Option (Nat × station_Station)
 | 0, _, _, _, _ => none
 | k + 1, l, t, i, s => if i < (t.length : Int) then (if 0 ≤ i ∧ i < (t.length : Int) then (station_Station_Push.f k s l (t.getD i.toNat 0)).bind fun u => pushSeq k l t (w64 (i + 1)) u.2.2 else none) else some (k, s)
theorem l5_eq (a0 : Int) (a1 : List Int) (a2 : Bool) (x23 : Int) (t : List Int) (l x39 : Int) : ∀ (k : Nat) (i : Int) (s : station_Station), signalmanlaw20_StationTwins.l5 k a0 a1 a2 x23 t l x39 i s = (pushSeq k l t i s).bind fun r => signalmanlaw20_StationTwins.l4 r.1 a0 a1 a2 x23 t (w64 (1 - l)) (w64 (x39 + 1)) r.2
 | 0, i, s => rfl
 | k + 1, i, s => by
  rw [signalmanlaw20_StationTwins.l5, pushSeq]
  by_cases c : i < (t.length : Int)
  ·rw [if_pos c, if_pos c]
   by_cases c2 : 0 ≤ i ∧ i < (t.length : Int)
   ·rw [if_pos c2, if_pos c2]
    cases station_Station_Push.f k s l (t.getD i.toNat 0) with
    | none => rw [bnone, bnone, bnone]
    | some u => rw [bsome, bsome]; exact l5_eq a0 a1 a2 x23 t l x39 k _ _
   ·rw [if_neg c2, if_neg c2, bnone]
  ·rw [if_neg c, if_neg c, bsome]
def roundF (k : Nat) (t : List Int) (l : Int) (s : station_Station) : Option (Nat × station_Station) := match k with
 | 0 => none
 | k + 1 => match pushSeq k l t 0 s with
  | some (j + 1, s1) => match pushSeq j (1 - l) t 0 s1 with
   | some (m + 1, s2) => some (m, s2)
   | _ => none
  | _ => none
def fin (i : Int) (l : Int) (s : station_Station) : Bool := match station_Station_Counts.f s 0, station_Station_Counts.f s 1, station_Station_Counts.f s l with
 | some a, some b, some c => decide (w64 (a.Twins + b.Twins) = w64 (i + 1)) && decide (c.Good = w64 (i + 1))
 | _, _, _ => false
def frm (i : Int) : List Int := [0, 0, 0, IntKind.u8.wrap (i.fdiv (2 ^ (min (8 : Int).toNat IntKind.i64.bits))), IntKind.u8.wrap i, 0, 0, 99]
def side (w : Bool) (i : Nat) (x : Int) : station_side := { reader := { wide := w, most := if w then 35 else 33, state := if i = 0 then 0 else 1, b := [] }, monitor := { bad := 3, good := 2, silent := 96, w := { l := List.replicate (min i 16) true ++ List.replicate (16 - min i 16) false, at_ := ((i % 16 : Nat) : Int), kept := ((min i 16 : Nat) : Int), sum := (FloatKind.f64.nearest ((min i 16 : Nat) : Int), 0) }, row := ((min i 16 : Nat) : Int), silence := 0, state := 0 }, ring := { room := 800, b := [], begun := 0, pieces := [], dropped := 0 }, counts := { Good := (i : Int), Bad := 0, Aborts := 0, Runts := 0, Giants := 0, Dropped := 0, Twins := x } }
def T (w : Bool) (i : Nat) (x y : Int) : station_Station := { c := { Mode := 0, Modulus := 128, Window := 4, T1 := 60, N2 := 20, Hold := 2, Wait := 15, Keep := 32, Queue := 20, Size := 20, Ring := 800, Rate := 11, Bad := 3, Good := 2, Revert := false, Wide := w }, arq := { m := 128, t1 := 60, n2 := 20, size := 20, state := 0, tag := 0, tries := 0, rejected := false, log := { m := 128, window := 4, queue := 20, first := 0, out := 0, l := [] }, order := { m := 128, window := 4, next := 0, kept := [], ready := [] }, timers := { now := 0, left := List.replicate 32 0 }, out := [], inds := [], sent := 0, acked := 0, lost := 0 }, aps := { hold := 2, wait := 15, revert := false, command := 0, remote := 0, own := 0, bad := 0, left := 0, line := 0 }, twins := { known := decide (0 < i), highest := ((i - 1 : Nat) : Int), at_ := ((i - 1 : Nat) : Int), came := List.replicate i true ++ List.replicate (64 - i) false }, number := 0, steps := 0, line := 0, sides := (side w i x, side w i y) }
def fu (w : Bool) (i : Nat) : Nat := if w then 2000 - 34 * i else 2000 - 30 * i
def tf (w : Bool) (i : Nat) : List Int := (signalmanref1_Frame.f (fu w i - 1) (frm i) w).getD []
def nxt (w : Bool) (i x : Nat) : Nat → station_Station
 | 0 => T w (i + 1) (x : Int) ((i + 1 - x : Nat) : Int)
 | _ => T w (i + 1) ((x + 1 : Nat) : Int) ((i - x : Nat) : Int)
def one (w : Bool) (i x l : Nat) : Bool := match roundF (fu w i - 1) (tf w i) (l : Int) (T w i (x : Int) ((i - x : Nat) : Int)) with
 | some (m, r) => decide (m = fu w (i + 1)) && decide (r = nxt w i x l)
 | none => false
def stepB (w : Bool) (i : Nat) : Bool := decide (signalmanref1_Frame.f (fu w i - 1) (frm i) w = some (tf w i)) && (List.range (i + 1)).all fun x => one w i x 0 && one w i x 1
theorem st0 : stepB true 0 = true := by kernel_rfl
theorem st1 : stepB true 1 = true := by kernel_rfl
theorem st2 : stepB true 2 = true := by kernel_rfl
theorem st3 : stepB true 3 = true := by kernel_rfl
theorem st4 : stepB true 4 = true := by kernel_rfl
theorem st5 : stepB true 5 = true := by kernel_rfl
theorem st6 : stepB true 6 = true := by kernel_rfl
theorem st7 : stepB true 7 = true := by kernel_rfl
theorem st8 : stepB true 8 = true := by kernel_rfl
theorem st9 : stepB true 9 = true := by kernel_rfl
theorem st10 : stepB true 10 = true := by kernel_rfl
theorem st11 : stepB true 11 = true := by kernel_rfl
theorem st12 : stepB true 12 = true := by kernel_rfl
theorem st13 : stepB true 13 = true := by kernel_rfl
theorem st14 : stepB true 14 = true := by kernel_rfl
theorem st15 : stepB true 15 = true := by kernel_rfl
theorem st16 : stepB true 16 = true := by kernel_rfl
theorem st17 : stepB true 17 = true := by kernel_rfl
theorem st18 : stepB true 18 = true := by kernel_rfl
theorem st19 : stepB true 19 = true := by kernel_rfl
theorem st20 : stepB true 20 = true := by kernel_rfl
theorem st21 : stepB true 21 = true := by kernel_rfl
theorem st22 : stepB true 22 = true := by kernel_rfl
theorem st23 : stepB true 23 = true := by kernel_rfl
theorem st24 : stepB true 24 = true := by kernel_rfl
theorem st25 : stepB true 25 = true := by kernel_rfl
theorem st26 : stepB true 26 = true := by kernel_rfl
theorem st27 : stepB true 27 = true := by kernel_rfl
theorem st28 : stepB true 28 = true := by kernel_rfl
theorem st29 : stepB true 29 = true := by kernel_rfl
theorem sf0 : stepB false 0 = true := by kernel_rfl
theorem sf1 : stepB false 1 = true := by kernel_rfl
theorem sf2 : stepB false 2 = true := by kernel_rfl
theorem sf3 : stepB false 3 = true := by kernel_rfl
theorem sf4 : stepB false 4 = true := by kernel_rfl
theorem sf5 : stepB false 5 = true := by kernel_rfl
theorem sf6 : stepB false 6 = true := by kernel_rfl
theorem sf7 : stepB false 7 = true := by kernel_rfl
theorem sf8 : stepB false 8 = true := by kernel_rfl
theorem sf9 : stepB false 9 = true := by kernel_rfl
theorem sf10 : stepB false 10 = true := by kernel_rfl
theorem sf11 : stepB false 11 = true := by kernel_rfl
theorem sf12 : stepB false 12 = true := by kernel_rfl
theorem sf13 : stepB false 13 = true := by kernel_rfl
theorem sf14 : stepB false 14 = true := by kernel_rfl
theorem sf15 : stepB false 15 = true := by kernel_rfl
theorem sf16 : stepB false 16 = true := by kernel_rfl
theorem sf17 : stepB false 17 = true := by kernel_rfl
theorem sf18 : stepB false 18 = true := by kernel_rfl
theorem sf19 : stepB false 19 = true := by kernel_rfl
theorem sf20 : stepB false 20 = true := by kernel_rfl
theorem sf21 : stepB false 21 = true := by kernel_rfl
theorem sf22 : stepB false 22 = true := by kernel_rfl
theorem sf23 : stepB false 23 = true := by kernel_rfl
theorem sf24 : stepB false 24 = true := by kernel_rfl
theorem sf25 : stepB false 25 = true := by kernel_rfl
theorem sf26 : stepB false 26 = true := by kernel_rfl
theorem sf27 : stepB false 27 = true := by kernel_rfl
theorem sf28 : stepB false 28 = true := by kernel_rfl
theorem sf29 : stepB false 29 = true := by kernel_rfl
theorem steps : ∀ (w : Bool) (i : Nat), i < 30 → stepB w i = true
 | true, 0, _ => st0
 | true, 1, _ => st1
 | true, 2, _ => st2
 | true, 3, _ => st3
 | true, 4, _ => st4
 | true, 5, _ => st5
 | true, 6, _ => st6
 | true, 7, _ => st7
 | true, 8, _ => st8
 | true, 9, _ => st9
 | true, 10, _ => st10
 | true, 11, _ => st11
 | true, 12, _ => st12
 | true, 13, _ => st13
 | true, 14, _ => st14
 | true, 15, _ => st15
 | true, 16, _ => st16
 | true, 17, _ => st17
 | true, 18, _ => st18
 | true, 19, _ => st19
 | true, 20, _ => st20
 | true, 21, _ => st21
 | true, 22, _ => st22
 | true, 23, _ => st23
 | true, 24, _ => st24
 | true, 25, _ => st25
 | true, 26, _ => st26
 | true, 27, _ => st27
 | true, 28, _ => st28
 | true, 29, _ => st29
 | false, 0, _ => sf0
 | false, 1, _ => sf1
 | false, 2, _ => sf2
 | false, 3, _ => sf3
 | false, 4, _ => sf4
 | false, 5, _ => sf5
 | false, 6, _ => sf6
 | false, 7, _ => sf7
 | false, 8, _ => sf8
 | false, 9, _ => sf9
 | false, 10, _ => sf10
 | false, 11, _ => sf11
 | false, 12, _ => sf12
 | false, 13, _ => sf13
 | false, 14, _ => sf14
 | false, 15, _ => sf15
 | false, 16, _ => sf16
 | false, 17, _ => sf17
 | false, 18, _ => sf18
 | false, 19, _ => sf19
 | false, 20, _ => sf20
 | false, 21, _ => sf21
 | false, 22, _ => sf22
 | false, 23, _ => sf23
 | false, 24, _ => sf24
 | false, 25, _ => sf25
 | false, 26, _ => sf26
 | false, 27, _ => sf27
 | false, 28, _ => sf28
 | false, 29, _ => sf29
 | _, n + 30, h => absurd h (by omega)
theorem one_step {w : Bool} {i x l : Nat} (h : one w i x l = true) : roundF (fu w i - 1) (tf w i) (l : Int) (T w i (x : Int) ((i - x : Nat) : Int)) = some (fu w (i + 1), nxt w i x l) := by
 unfold one at h
 cases e : roundF (fu w i - 1) (tf w i) (l : Int) (T w i (x : Int) ((i - x : Nat) : Int)) with
 | none => rw [e] at h; cases h
 | some p =>
  obtain ⟨m, r⟩ := p
  rw [e] at h
  simp only [Bool.and_eq_true, decide_eq_true_eq] at h
  rw [h.1, h.2]
def startT (w : Bool) : Option (Option station_Station × Int) := (signalmanlaw20_Good.f 0 3 10 false w).bind fun t6 => station_New.f 2000 t6
theorem start_t : startT true = some (some (T true 0 0 0), 0) := by kernel_rfl
theorem start_f : startT false = some (some (T false 0 0 0), 0) := by kernel_rfl
theorem twA : signalmanlaw20_alive.f 2000 = some true := by kernel_rfl
theorem fu_pos {w : Bool} {i : Nat} (h : i ≤ 30) : ∃ j, fu w i = j + 1 := by
 refine ⟨fu w i - 1, ?_⟩
 unfold fu; split <;> omega
theorem fin_eq {w : Bool} {i : Nat} {x y : Int} (hi : i < 30) (h : x + y = i + 1) (l : Int) (hl : l = 0 ∨ l = 1) : fin (i : Int) l (T w (i + 1) x y) = true := by
 unfold fin
 have c0 : station_Station_Counts.f (T w (i + 1) x y) 0 = some { (side w (i + 1) x).counts with Dropped := 0 } := rfl
 have c1 : station_Station_Counts.f (T w (i + 1) x y) 1 = some { (side w (i + 1) y).counts with Dropped := 0 } := rfl
 rw [c0, c1]
 rcases hl with e | e <;> subst e
 ·rw [c0]
  simp only [Bool.and_eq_true, decide_eq_true_eq]
  exact ⟨by show w64 (x + y) = _; rw [h], by show ((i + 1 : Nat) : Int) = _; rw [w64_in ⟨by omega, by omega⟩]; omega⟩
 ·rw [c1]
  simp only [Bool.and_eq_true, decide_eq_true_eq]
  exact ⟨by show w64 (x + y) = _; rw [h], by show ((i + 1 : Nat) : Int) = _; rw [w64_in ⟨by omega, by omega⟩]; omega⟩
theorem round_eq' (a0 : Int) (a1 : List Int) (a2 : Bool) (x23 : Int) {t : List Int} {l : Int} (hl : l = 0 ∨ l = 1) {k m : Nat} {s r : station_Station} (h : roundF k t l s = some (m, r)) (hf : fin x23 l r = true) :
  signalmanlaw20_StationTwins.l4 k a0 a1 a2 x23 t l 0 s = signalmanlaw20_StationTwins.l3 m a0 a1 a2 (w64 (x23 + 1)) r := by
 unfold roundF at h
 cases k with
 | zero => cases h
 | succ k =>
  dsimp only at h
  have e1 : w64 (1 - l) = 1 - l := by rcases hl with e | e <;> subst e <;> decide
  have e2 : w64 (1 - (1 - l)) = l := by rcases hl with e | e <;> subst e <;> decide
  rw [signalmanlaw20_StationTwins.l4, if_pos (by decide), l5_eq, e1]
  cases h1 : pushSeq k l t 0 s with
  | none => rw [h1] at h; cases h
  | some p =>
   obtain ⟨j, s1⟩ := p
   rw [h1] at h
   rw [bsome]
   cases j with
   | zero => cases h
   | succ j =>
    dsimp only at h ⊢
    rw [signalmanlaw20_StationTwins.l4, if_pos (by decide), l5_eq, e2]
    cases h2 : pushSeq j (1 - l) t 0 s1 with
    | none => rw [h2] at h; cases h
    | some q =>
     obtain ⟨j2, s2⟩ := q
     rw [h2] at h
     rw [bsome]
     cases j2 with
     | zero => cases h
     | succ j2 =>
      dsimp only at h ⊢
      injection h with h
      injection h with h3 h4
      subst h3; subst h4
      unfold fin at hf
      rw [signalmanlaw20_StationTwins.l4, if_neg (by decide)]
      cases g0 : station_Station_Counts.f s2 0 with
      | none => rw [g0] at hf; cases hf
      | some a =>
       cases g1 : station_Station_Counts.f s2 1 with
       | none => rw [g0, g1] at hf; cases hf
       | some b =>
        cases g2 : station_Station_Counts.f s2 l with
        | none => rw [g0, g1, g2] at hf; cases hf
        | some c =>
         rw [g0, g1, g2] at hf
         simp only [Bool.and_eq_true, decide_eq_true_eq] at hf
         rw [bsome, bsome, if_pos hf.1, bsome]
         unfold signalmanlaw20_StationTwins.j6
         rw [if_neg (by simpa using hf.2)]
theorem l3_eq (a0 : Int) (a1 : List Int) (a2 : Bool) (hl : a1.length ≤ 30) : ∀ (d i x : Nat), i + d = 30 → x ≤ i → i ≤ a1.length → signalmanlaw20_StationTwins.l3 (fu a2 i) a0 a1 a2 (i : Int) (T a2 i (x : Int) ((i - x : Nat) : Int)) = some true := by
 intro d
 induction d with
 | zero =>
  intro i x hi hx hil
  obtain ⟨k, hk⟩ := fu_pos (w := a2) (i := i) (by omega)
  rw [hk, signalmanlaw20_StationTwins.l3, if_neg (by omega)]
 | succ d ih =>
  intro i x hi hx hil
  obtain ⟨k, hk⟩ := fu_pos (w := a2) (i := i) (by omega)
  rw [hk, signalmanlaw20_StationTwins.l3]
  by_cases c : (i : Int) < (a1.length : Int)
  ·rw [if_pos c]
   have hs := steps a2 i (by omega)
   unfold stepB at hs
   simp only [Bool.and_eq_true, decide_eq_true_eq] at hs
   have hf := hs.1
   have hr := List.all_eq_true.1 hs.2 x (List.mem_range.2 (by omega))
   simp only [Bool.and_eq_true] at hr
   have h0 := one_step hr.1
   have h1 := one_step hr.2
   rw [show fu a2 i - 1 = k by omega] at hf h0 h1
   have ef : ([0, 0, 0, IntKind.u8.wrap ((i : Int).fdiv (2 ^ (min (8 : Int).toNat IntKind.i64.bits))), IntKind.u8.wrap (i : Int), 0, 0, 99] : List Int) = frm i := rfl
   have ew : w64 ((i : Int) + 1) = ((i + 1 : Nat) : Int) := by rw [w64_in ⟨by omega, by omega⟩]; omega
   rw [ef, hf, bsome, if_pos ⟨by omega, c⟩, iand_any1]
   rcases Int.emod_two_eq (w64 (a0 + (a1.getD ((i : Int)).toNat 0))) with e | e
   ·rw [e]
    refine (round_eq' a0 a1 a2 (i : Int) (.inl rfl) h0 (fin_eq (by omega) (by omega) 0 (.inl rfl))).trans ?_
    rw [ew]
    exact ih (i + 1) x (by omega) (by omega) (by omega)
   ·rw [e]
    refine (round_eq' a0 a1 a2 (i : Int) (.inr rfl) h1 (fin_eq (by omega) (by omega) 1 (.inr rfl))).trans ?_
    rw [ew]
    have := ih (i + 1) (x + 1) (by omega) (by omega) (by omega)
    rw [show i + 1 - (x + 1) = i - x by omega] at this
    exact this
  ·rw [if_neg c]
theorem StationTwins : signalmanlaw20_StationTwins.Pure := by
 intro a0 a1 a2 _ _ _
 refine ⟨2000, ?_⟩
 unfold signalmanlaw20_StationTwins.f
 rw [twA, bsome, if_pos rfl]
 unfold signalmanlaw20_StationTwins.j0
 by_cases c : (a1.length : Int) > 30
 ·rw [decide_eq_true c, if_pos rfl]
 rw [decide_eq_false c, if_neg (by simp)]
 have hok : startT a2 = some (some (T a2 0 0 0), 0) := by cases a2; exact start_f; exact start_t
 unfold startT at hok
 cases hg : signalmanlaw20_Good.f 0 3 10 false a2 with
 | none => rw [hg] at hok; cases hok
 | some t6 =>
  rw [hg, bsome] at hok
  rw [bsome, hok, bsome]
  unfold signalmanlaw20_num.f
  dsimp only
  rw [if_neg (by simp), bsome, if_pos rfl]
  unfold signalmanlaw20_StationTwins.j2
  rw [if_neg (by simp)]
  have h := l3_eq a0 a1 a2 (by omega) 30 0 0 rfl (Nat.le_refl _) (Nat.zero_le _)
  have e : fu a2 0 = 2000 := by cases a2 <;> rfl
  have e2 : ((0 - 0 : Nat) : Int) = 0 := rfl
  rw [e, e2] at h
  exact (congrArg (fun z => signalmanlaw20_StationTwins.l3 2000 a0 a1 a2 0 z) (show ((some (T a2 0 0 0), (0 : Int)).1.getD default) = T a2 0 0 0 from rfl)).trans h
end Go.Proofs.YtodbopebbmplaaaGreat

/- StationRefuses: a call of Send that returns an error changes neither the status nor what is transmitted: what is sent matters by its length alone; the stations that are left are reckoned out by the kernel. Conditions: none beyond those of the given statement. -/
import Derived.Test.YtodbopebbmplaaaGreatRunStationRefuses
import Derived.KernelRfl
set_option linter.all false
set_option maxRecDepth 100000
namespace Go.Proofs.YtodbopebbmplaaaGreat
open Go.RowKit Go.Proofs.YtodbopebbmplaaaGreat.Walk
theorem bsome {α β : Type} (x : α) (g : α → Option β) : (some x).bind g = g x := Eq.trans (b := g x) rfl (Eq.symm rfl)
theorem iand_any1 (x : Int) : iand .i64 x 1 = x % 2 := by
 unfold iand
 show IntKind.i64.wrap (BitVec.ofInt 64 x &&& BitVec.ofInt 64 1).toNat = _
 rw [BitVec.toNat_and, BitVec.toNat_ofInt, BitVec.toNat_ofInt]
 have e1 : ((1 : Int) % (2 ^ 64 : Nat)).toNat = 1 := by decide
 rw [e1, Nat.and_one_is_mod]
 have : w64 (((x % (2 ^ 64 : Nat)).toNat % 2 : Nat) : Int) = x % 2 := by
  rw [w64_in ⟨by omega, by omega⟩]; omega
 exact this
theorem iand_mask (x : Int) (j : Nat) (hj : j ≤ 30) : iand .i64 x (((2 ^ j - 1 : Nat)) : Int) = x % ((2 ^ j : Nat) : Int) := by
 have hp : 2 ^ j ≤ 2 ^ 30 := Nat.pow_le_pow_right (by omega) hj
 have hp1 : 1 ≤ 2 ^ j := Nat.one_le_two_pow
 have hdv : (2 ^ j) ∣ (2 ^ 64) := Nat.pow_dvd_pow 2 (by omega)
 unfold iand
 show IntKind.i64.wrap (BitVec.ofInt 64 x &&& BitVec.ofInt 64 (((2 ^ j - 1 : Nat)) : Int)).toNat = _
 rw [BitVec.toNat_and, BitVec.toNat_ofInt, BitVec.toNat_ofInt]
 have e1 : ((((2 ^ j - 1 : Nat)) : Int) % (2 ^ 64 : Nat)).toNat = 2 ^ j - 1 := by
  have : (2 ^ 64 : Nat) = 18446744073709551616 := by decide
  rw [this]; omega
 rw [e1, Nat.and_two_pow_sub_one_eq_mod]
 have e2 : (((x % (2 ^ 64 : Nat)).toNat % 2 ^ j : Nat) : Int) = x % ((2 ^ j : Nat) : Int) := by
  have h0 : 0 ≤ x % ((2 ^ 64 : Nat) : Int) := Int.emod_nonneg _ (by decide)
  rw [Int.natCast_emod, Int.toNat_of_nonneg h0]
  exact Int.emod_emod_of_dvd x (Int.natCast_dvd_natCast.2 hdv)
 have hb : 0 ≤ x % ((2 ^ j : Nat) : Int) ∧ x % ((2 ^ j : Nat) : Int) < ((2 ^ j : Nat) : Int) := ⟨Int.emod_nonneg _ (by omega), Int.emod_lt_of_pos _ (by omega)⟩
 have : w64 (((x % (2 ^ 64 : Nat)).toNat % 2 ^ j : Nat) : Int) = x % ((2 ^ j : Nat) : Int) := by
  rw [e2, w64_in ⟨by omega, by have : (2 ^ 30 : Nat) = 1073741824 := (by decide); omega⟩]
 exact this
theorem bnone {α β : Type} (f : α → Option β) : Option.bind none f = none := by simp
def pushAll : Nat → List Int → Int → station_Station → Option (Nat × station_Station)
 | 0, _, _, _ => none
 | k + 1, t, i, s => if i < (t.length : Int) then (if 0 ≤ i ∧ i < (t.length : Int) then (station_Station_Push.f k s 0 (t.getD i.toNat 0)).bind fun u => pushAll k t (w64 (i + 1)) u.2.2 else none) else (station_Station_Step.f k s).bind fun u => some (k, u.2)
theorem l5_eq (b : List Int) (a2 : Bool) (t : List Int) : ∀ (k : Nat) (i : Int) (s : station_Station), signalmanlaw20_StationRefuses.l5 k b a2 t i s = (pushAll k t i s).bind fun r => signalmanlaw20_StationRefuses.j3 r.1 b a2 r.2 6
 | 0, i, s => rfl
 | k + 1, i, s => by
  rw [signalmanlaw20_StationRefuses.l5, pushAll]
  by_cases c : i < (t.length : Int)
  ·rw [if_pos c, if_pos c]
   by_cases c2 : 0 ≤ i ∧ i < (t.length : Int)
   ·rw [if_pos c2, if_pos c2]
    cases station_Station_Push.f k s 0 (t.getD i.toNat 0) with
    | none => rfl
    | some u => rw [bsome, bsome]; exact l5_eq b a2 t k _ _
   ·rw [if_neg c2, if_neg c2]; rfl
  ·rw [if_neg c, if_neg c]
   cases station_Station_Step.f k s with
   | none => rfl
   | some u => rw [bsome, bsome, bsome]
def full (x : arq_Arq) : Bool := decide (x.size = 20) && (decide (x.log.queue = 0) && (x.log.l.isEmpty && decide (x.log.out = 0)))
def rep (b : List Int) : List Int := if (b.length : Int) > 20 then List.replicate 21 0 else []
theorem rep_len (b : List Int) : ((rep b).length : Int) > 20 ↔ (b.length : Int) > 20 := by
 unfold rep
 split
 ·rename_i h; simp; omega
 ·rename_i h; simp; omega
theorem send_rep {k : Nat} {s : station_Station} (h : full s.arq = true) (b : List Int) : station_Station_Send.f k s b = station_Station_Send.f k s (rep b) := by
 unfold full at h
 simp only [Bool.and_eq_true, decide_eq_true_eq, List.isEmpty_iff] at h
 obtain ⟨h1, h2, h3, h4⟩ := h
 have hr := rep_len b
 unfold station_Station_Send.f arq_Arq_Send.f backlog_Log_Add.f
 rw [h1, h2, h3, h4]
 by_cases c : (b.length : Int) > 20
 ·rw [if_pos c, if_pos (hr.2 c)]
 ·rw [if_neg c, if_neg (fun q => c (hr.1 q))]; rfl
theorem take_arq {k : Nat} {s : station_Station} {i n : Int} {t : List Int × station_Station} (h : station_Station_Take.f k s i n = some t) : t.2.arq = s.arq := by
 unfold station_Station_Take.f at h
 simp only [Option.bind_eq_some_iff] at h
 obtain ⟨a, _, h⟩ := h
 repeat' split at h
 all_goals first
  | (cases h; done)
  | (injection h with h; subst h; rfl)
  | (obtain ⟨u, _, h⟩ := h; injection h with h; subst h; rfl)
  | (simp only [Option.bind_eq_some_iff] at h; obtain ⟨u, _, h⟩ := h; injection h with h; subst h; rfl)
theorem j3_rep {k : Nat} {s : station_Station} (h : full s.arq = true) (b : List Int) (a2 : Bool) (w : Int) : signalmanlaw20_StationRefuses.j3 k b a2 s w = signalmanlaw20_StationRefuses.j3 k (rep b) a2 s w := by
 have hr := rep_len b
 have j4 : ∀ w, signalmanlaw20_StationRefuses.j4 k b a2 s w = signalmanlaw20_StationRefuses.j4 k (rep b) a2 s w := by
  intro w
  unfold signalmanlaw20_StationRefuses.j4
  cases h1 : station_Station_Take.f k s 0 1048576 with
  | none => rw [bnone, bnone]
  | some t =>
   rw [bsome, bsome]
   cases h2 : station_Station_Take.f k t.2 1 1048576 with
   | none => rw [bnone, bnone]
   | some u =>
    rw [bsome, bsome]
    have e : full u.2.arq = true := by rw [take_arq h2, take_arq h1]; exact h
    rw [send_rep e b]
 unfold signalmanlaw20_StationRefuses.j3
 by_cases c : (b.length : Int) > 20
 ·rw [if_pos c, if_pos (hr.2 c), j4]
 ·rw [if_neg c, if_neg (fun q => c (hr.1 q)), j4]
def okR (a2 : Bool) (w : Int) (r : Nat × station_Station) : Bool := full r.2.arq && ((signalmanlaw20_StationRefuses.j3 r.1 (List.replicate 21 0) a2 r.2 w == some true) && (signalmanlaw20_StationRefuses.j3 r.1 [] a2 r.2 w == some true))
theorem okR_all {a2 : Bool} {w : Int} {r : Nat × station_Station} (h : okR a2 w r = true) (b : List Int) : signalmanlaw20_StationRefuses.j3 r.1 b a2 r.2 w = some true := by
 unfold okR at h
 simp only [Bool.and_eq_true, beq_iff_eq] at h
 rw [j3_rep h.1]
 unfold rep
 split
 ·exact h.2.1
 ·exact h.2.2
def newS (a0 : Int) : Option (Option station_Station × Int) := (signalmanlaw20_Good.f a0 0 10 false false).bind fun t6 => station_New.f 1000 ({ t6 with Queue := 0 } : api_Config)
def okN (a0 : Int) : Bool := match newS a0 with
 | some (some s, 0) => okR false 7 (1000, s) && (match (signalmanref1_Frame.f 1000 ([0, 0, 0, 0, 1, 0, 1, 127] : List Int) false).bind fun t => pushAll 1000 t 0 s with
  | some r => okR true 6 r
  | none => false)
 | _ => false
theorem okN_all : (okN 0 && okN 1) = true := by kernel_rfl
theorem good_mode (a0 : Int) (x y : Int) (p q : Bool) : signalmanlaw20_Good.f a0 x y p q = signalmanlaw20_Good.f (a0 % 2) x y p q := by
 unfold signalmanlaw20_Good.f
 rw [iand_any1, iand_any1, Int.emod_emod]
theorem refA : signalmanlaw20_alive.f 1000 = some true := by kernel_rfl
set_option maxRecDepth 1000000 in
theorem StationRefuses : signalmanlaw20_StationRefuses.Pure := by
 intro a0 b a2 _ _ _
 refine ⟨1000, ?_⟩
 unfold signalmanlaw20_StationRefuses.f
 rw [refA, bsome, if_pos rfl]
 unfold signalmanlaw20_StationRefuses.j0
 by_cases c : (b.length : Int) > 300
 ·rw [decide_eq_true c, if_pos rfl]
 rw [decide_eq_false c, if_neg (by simp), good_mode]
 have hok : okN (a0 % 2) = true := by
  have h := okN_all
  simp only [Bool.and_eq_true] at h
  rcases (show a0 % 2 = 0 ∨ a0 % 2 = 1 by omega) with e | e <;> rw [e]
  ·exact h.1
  ·exact h.2
 unfold okN newS at hok
 cases hg : signalmanlaw20_Good.f (a0 % 2) 0 10 false false with
 | none => rw [hg] at hok; cases hok
 | some t6 =>
  rw [hg, bsome] at hok
  rw [bsome]
  generalize station_New.f 1000 _ = o at hok ⊢
  match o, hok with
  | some (some s, 0), hok =>
   simp only [Bool.and_eq_true] at hok
   rw [bsome]
   unfold signalmanlaw20_num.f signalmanlaw20_StationRefuses.j2
   show (if a2 = true then ((signalmanref1_Frame.f 1000 ([0, 0, 0, 0, 1, 0, 1, 127] : List Int) false).bind fun t60 => (signalmanlaw20_StationRefuses.l5 1000 b a2 t60 0 s)) else (signalmanlaw20_StationRefuses.j3 1000 b a2 s 7)) = some true
   cases a2 with
   | false => rw [if_neg (by simp)]; exact okR_all hok.1 b
   | true =>
    rw [if_pos rfl]
    have h2 := hok.2
    cases hf : signalmanref1_Frame.f 1000 ([0, 0, 0, 0, 1, 0, 1, 127] : List Int) false with
    | none => rw [hf] at h2; cases h2
    | some t =>
     rw [hf, bsome] at h2
     rw [bsome, l5_eq]
     cases hp : pushAll 1000 t 0 s with
     | none => rw [hp] at h2; cases h2
     | some r =>
      rw [hp] at h2
      rw [bsome]
      exact okR_all h2 b
end Go.Proofs.YtodbopebbmplaaaGreat

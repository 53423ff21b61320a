/- StationKeeps: the request is transmitted on both lines in every Keep-th step and in no other one: all the stations that there are, and 200 steps of each, are reckoned out by the kernel. Conditions: none beyond those of the given statement. -/
import Derived.Test.YtodbopebbmplaaaRunStationKeeps
import Derived.KernelRfl
set_option linter.all false
set_option maxRecDepth 100000
namespace Go.Proofs.Ytodbopebbmplaaa
open Go.RowKit Go.Proofs.Ytodbopebbmplaaa.Walk
theorem bsome {α β : Type} (x : α) (g : α → Option β) : (some x).bind g = g x := Eq.trans (b := g x) rfl (Eq.symm rfl)
theorem iand_any1 (x : Int) : iand .i64 x 1 = x % 2 := by
 unfold iand
 show IntKind.i64.wrap (BitVec.ofInt 64 x &&& BitVec.ofInt 64 1).toNat = _
 rw [BitVec.toNat_and, BitVec.toNat_ofInt, BitVec.toNat_ofInt]
 have e1 : ((1 : Int) % (2 ^ 64 : Nat)).toNat = 1 := by decide
 rw [e1, Nat.and_one_is_mod]
 have : w64 (((x % (2 ^ 64 : Nat)).toNat % 2 : Nat) : Int) = x % 2 := by
  rw [w64_in ⟨by omega, by omega⟩]; omega
 exact this
theorem iand_mask (x : Int) (j : Nat) (hj : j ≤ 30) : iand .i64 x (((2 ^ j - 1 : Nat)) : Int) = x % ((2 ^ j : Nat) : Int) := by
 have hp : 2 ^ j ≤ 2 ^ 30 := Nat.pow_le_pow_right (by omega) hj
 have hp1 : 1 ≤ 2 ^ j := Nat.one_le_two_pow
 have hdv : (2 ^ j) ∣ (2 ^ 64) := Nat.pow_dvd_pow 2 (by omega)
 unfold iand
 show IntKind.i64.wrap (BitVec.ofInt 64 x &&& BitVec.ofInt 64 (((2 ^ j - 1 : Nat)) : Int)).toNat = _
 rw [BitVec.toNat_and, BitVec.toNat_ofInt, BitVec.toNat_ofInt]
 have e1 : ((((2 ^ j - 1 : Nat)) : Int) % (2 ^ 64 : Nat)).toNat = 2 ^ j - 1 := by
  have : (2 ^ 64 : Nat) = 18446744073709551616 := by decide
  rw [this]; omega
 rw [e1, Nat.and_two_pow_sub_one_eq_mod]
 have e2 : (((x % (2 ^ 64 : Nat)).toNat % 2 ^ j : Nat) : Int) = x % ((2 ^ j : Nat) : Int) := by
  have h0 : 0 ≤ x % ((2 ^ 64 : Nat) : Int) := Int.emod_nonneg _ (by decide)
  rw [Int.natCast_emod, Int.toNat_of_nonneg h0]
  exact Int.emod_emod_of_dvd x (Int.natCast_dvd_natCast.2 hdv)
 have hb : 0 ≤ x % ((2 ^ j : Nat) : Int) ∧ x % ((2 ^ j : Nat) : Int) < ((2 ^ j : Nat) : Int) := ⟨Int.emod_nonneg _ (by omega), Int.emod_lt_of_pos _ (by omega)⟩
 have : w64 (((x % (2 ^ 64 : Nat)).toNat % 2 ^ j : Nat) : Int) = x % ((2 ^ j : Nat) : Int) := by
  rw [e2, w64_in ⟨by omega, by have : (2 ^ 30 : Nat) = 1073741824 := (by decide); omega⟩]
 exact this
def chk (a1 : Int) : Nat → Nat → Int → station_Station → Bool
 | 0, _, _, _ => true
 | _ + 1, 0, _, _ => false
 | d + 1, k + 1, x, s => match station_Station_Step.f k s with
  | none => false
  | some t => (signalmanlaw20_StationKeeps.j4 x t (fun _ _ => some true) (if x.tmod a1 = 0 then 1 else 0) == some true) && chk a1 d k (x + 1) t.2
def start (a0 a1 : Int) : Option (Option station_Station × Int) := (signalmanlaw20_Good.f a0 0 63 false false).bind fun t6 => station_New.f 1000 ({ t6 with Keep := a1, Ring := 1048576 } : api_Config)
def okB (a0 a1 : Int) : Bool := match start a0 a1 with
 | some (some s, 0) => chk a1 200 1000 1 s
 | _ => false
theorem walk0_0 : ((List.range 5).all fun n => okB 0 ((1 + n : Nat) : Int)) = true := by kernel_rfl
theorem walk0_1 : ((List.range 5).all fun n => okB 0 ((6 + n : Nat) : Int)) = true := by kernel_rfl
theorem walk0_2 : ((List.range 5).all fun n => okB 0 ((11 + n : Nat) : Int)) = true := by kernel_rfl
theorem walk0_3 : ((List.range 5).all fun n => okB 0 ((16 + n : Nat) : Int)) = true := by kernel_rfl
theorem walk0_4 : ((List.range 5).all fun n => okB 0 ((21 + n : Nat) : Int)) = true := by kernel_rfl
theorem walk0_5 : ((List.range 5).all fun n => okB 0 ((26 + n : Nat) : Int)) = true := by kernel_rfl
theorem walk0_6 : ((List.range 5).all fun n => okB 0 ((31 + n : Nat) : Int)) = true := by kernel_rfl
theorem walk0_7 : ((List.range 5).all fun n => okB 0 ((36 + n : Nat) : Int)) = true := by kernel_rfl
theorem walk0_8 : ((List.range 5).all fun n => okB 0 ((41 + n : Nat) : Int)) = true := by kernel_rfl
theorem walk0_9 : ((List.range 5).all fun n => okB 0 ((46 + n : Nat) : Int)) = true := by kernel_rfl
theorem walk1_0 : ((List.range 5).all fun n => okB 1 ((1 + n : Nat) : Int)) = true := by kernel_rfl
theorem walk1_1 : ((List.range 5).all fun n => okB 1 ((6 + n : Nat) : Int)) = true := by kernel_rfl
theorem walk1_2 : ((List.range 5).all fun n => okB 1 ((11 + n : Nat) : Int)) = true := by kernel_rfl
theorem walk1_3 : ((List.range 5).all fun n => okB 1 ((16 + n : Nat) : Int)) = true := by kernel_rfl
theorem walk1_4 : ((List.range 5).all fun n => okB 1 ((21 + n : Nat) : Int)) = true := by kernel_rfl
theorem walk1_5 : ((List.range 5).all fun n => okB 1 ((26 + n : Nat) : Int)) = true := by kernel_rfl
theorem walk1_6 : ((List.range 5).all fun n => okB 1 ((31 + n : Nat) : Int)) = true := by kernel_rfl
theorem walk1_7 : ((List.range 5).all fun n => okB 1 ((36 + n : Nat) : Int)) = true := by kernel_rfl
theorem walk1_8 : ((List.range 5).all fun n => okB 1 ((41 + n : Nat) : Int)) = true := by kernel_rfl
theorem walk1_9 : ((List.range 5).all fun n => okB 1 ((46 + n : Nat) : Int)) = true := by kernel_rfl
theorem ok_all {m n : Nat} (hm : m < 2) (h1 : 1 ≤ n) (h2 : n ≤ 50) : okB (m : Int) (n : Int) = true := by
 have key : ∀ (b : Nat) (h : ((List.range 5).all fun n => okB (m : Int) ((b + n : Nat) : Int)) = true), b ≤ n → n < b + 5 → okB (m : Int) (n : Int) = true := by
  intro b h l1 l2
  have := List.all_eq_true.1 h (n - b) (List.mem_range.2 (by omega))
  rw [show b + (n - b) = n by omega] at this
  exact this
 rcases (show m = 0 ∨ m = 1 by omega) with e | e
 ·subst e
  rcases (show (1 ≤ n ∧ n < 6) ∨ (6 ≤ n ∧ n < 11) ∨ (11 ≤ n ∧ n < 16) ∨ (16 ≤ n ∧ n < 21) ∨ (21 ≤ n ∧ n < 26) ∨ (26 ≤ n ∧ n < 31) ∨ (31 ≤ n ∧ n < 36) ∨ (36 ≤ n ∧ n < 41) ∨ (41 ≤ n ∧ n < 46) ∨ (46 ≤ n ∧ n < 51) by omega) with q | q | q | q | q | q | q | q | q | q
  ·exact key 1 walk0_0 q.1 q.2
  ·exact key 6 walk0_1 q.1 q.2
  ·exact key 11 walk0_2 q.1 q.2
  ·exact key 16 walk0_3 q.1 q.2
  ·exact key 21 walk0_4 q.1 q.2
  ·exact key 26 walk0_5 q.1 q.2
  ·exact key 31 walk0_6 q.1 q.2
  ·exact key 36 walk0_7 q.1 q.2
  ·exact key 41 walk0_8 q.1 q.2
  ·exact key 46 walk0_9 q.1 q.2
 ·subst e
  rcases (show (1 ≤ n ∧ n < 6) ∨ (6 ≤ n ∧ n < 11) ∨ (11 ≤ n ∧ n < 16) ∨ (16 ≤ n ∧ n < 21) ∨ (21 ≤ n ∧ n < 26) ∨ (26 ≤ n ∧ n < 31) ∨ (31 ≤ n ∧ n < 36) ∨ (36 ≤ n ∧ n < 41) ∨ (41 ≤ n ∧ n < 46) ∨ (46 ≤ n ∧ n < 51) by omega) with q | q | q | q | q | q | q | q | q | q
  ·exact key 1 walk1_0 q.1 q.2
  ·exact key 6 walk1_1 q.1 q.2
  ·exact key 11 walk1_2 q.1 q.2
  ·exact key 16 walk1_3 q.1 q.2
  ·exact key 21 walk1_4 q.1 q.2
  ·exact key 26 walk1_5 q.1 q.2
  ·exact key 31 walk1_6 q.1 q.2
  ·exact key 36 walk1_7 q.1 q.2
  ·exact key 41 walk1_8 q.1 q.2
  ·exact key 46 walk1_9 q.1 q.2
theorem j4_go {x w : Int} {t : (List (List Int) × List (List Int)) × station_Station} (h : signalmanlaw20_StationKeeps.j4 x t (fun _ _ => some true) w = some true) (Lq : Int → station_Station → Option Bool) : signalmanlaw20_StationKeeps.j4 x t Lq w = Lq (w64 (x + 1)) t.2 := by
 unfold signalmanlaw20_StationKeeps.j4 signalmanlaw20_StationKeeps.j5 at h ⊢
 repeat' split at h
 all_goals first | (cases h; done) | (simp_all; done)
theorem l3_eq {a1 a2 : Int} (h1 : 1 ≤ a1) (h2 : a2 ≤ 200) : ∀ (d k : Nat) (x : Int) (s : station_Station), chk a1 d k x s = true → a2 < x + d → 0 ≤ x ∧ x ≤ 1000 → d < k → signalmanlaw20_StationKeeps.l3 k a1 a2 x s = some true
 | 0, k, x, s, h, ha, hx, hk => by
  obtain ⟨k, rfl⟩ : ∃ j, k = j + 1 := ⟨k - 1, by omega⟩
  rw [signalmanlaw20_StationKeeps.l3, if_neg (by omega)]
 | d + 1, k, x, s, h, ha, hx, hk => by
  obtain ⟨k, rfl⟩ : ∃ j, k = j + 1 := ⟨k - 1, by omega⟩
  by_cases c : x ≤ a2
  ·rw [chk] at h
   rw [signalmanlaw20_StationKeeps.l3, if_pos c]
   cases hs : station_Station_Step.f k s with
   | none => rw [hs] at h; cases h
   | some t =>
    rw [hs] at h
    simp only [Bool.and_eq_true, beq_iff_eq] at h
    have ih := l3_eq h1 h2 d k (x + 1) t.2 h.2 (by omega) (by omega) (by omega)
    have ew : w64 (x + 1) = x + 1 := w64_in ⟨by omega, by omega⟩
    rw [bsome, if_pos (by omega)]
    by_cases z : x.tmod a1 = 0
    ·rw [if_pos z] at h ⊢
     rw [j4_go h.1, ew]; exact ih
    ·rw [if_neg z] at h ⊢
     rw [j4_go h.1, ew]; exact ih
  ·rw [signalmanlaw20_StationKeeps.l3, if_neg c]
theorem good_mode (a0 : Int) (x y : Int) (p q : Bool) : signalmanlaw20_Good.f a0 x y p q = signalmanlaw20_Good.f (a0 % 2) x y p q := by
 unfold signalmanlaw20_Good.f
 rw [iand_any1, iand_any1, Int.emod_emod]
theorem StationKeeps : signalmanlaw20_StationKeeps.Pure := by
 intro a0 a1 a2 _ _ _
 refine ⟨1000, ?_⟩
 have hal : signalmanlaw20_alive.f 1000 = some true := by kernel_rfl
 unfold signalmanlaw20_StationKeeps.f
 rw [hal, bsome, if_pos rfl]
 have e : signalmanlaw20_StationKeeps.j0 1000 a0 a1 a2 true true = some true := by unfold signalmanlaw20_StationKeeps.j0; rw [if_pos rfl]
 by_cases c1 : a1 < 1
 ·rw [if_pos c1]; exact e
 rw [if_neg c1]
 by_cases c2 : a1 > 50
 ·rw [if_pos c2]; exact e
 rw [if_neg c2]
 by_cases c3 : a2 < 0
 ·rw [if_pos c3]; exact e
 rw [if_neg c3]
 by_cases c4 : a2 > 200
 ·rw [decide_eq_true c4]; exact e
 rw [decide_eq_false c4]
 unfold signalmanlaw20_StationKeeps.j0
 rw [if_neg (show ¬ (false = true) by simp), good_mode]
 have hok : okB (a0 % 2) a1 = true := by
  obtain ⟨m, hm⟩ : ∃ m : Nat, a0 % 2 = m := ⟨(a0 % 2).toNat, by omega⟩
  obtain ⟨n, hn⟩ : ∃ n : Nat, a1 = n := ⟨a1.toNat, by omega⟩
  rw [hm, hn]
  exact ok_all (by omega) (by omega) (by omega)
 unfold okB start at hok
 cases hg : signalmanlaw20_Good.f (a0 % 2) 0 63 false false with
 | none => rw [hg] at hok; cases hok
 | some t6 =>
  rw [hg, bsome] at hok
  rw [bsome]
  generalize station_New.f 1000 _ = o at hok ⊢
  match o, hok with
  | some (some s, 0), hok =>
   rw [bsome]
   unfold signalmanlaw20_num.f signalmanlaw20_StationKeeps.j2
   show signalmanlaw20_StationKeeps.l3 1000 a1 a2 1 s = some true
   exact l3_eq (by omega) (by omega) 200 1000 1 s hok (by omega) (by omega) (by omega)
end Go.Proofs.Ytodbopebbmplaaa

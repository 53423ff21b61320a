/- ClockOrders: the functions that its law reaches, as plain functions, and that the machine's calls come to what these say. Conditions: those that stand at each. -/
import Derived.Test.YtmknlnpjimfliaaProg
import Derived.Test.YtmknlnpjimfliaaOps
set_option linter.unusedVariables false
set_option linter.unusedSimpArgs false
namespace Go.Proofs.Ytmknlnpjimfliaa
open Go.RowKit Go.Proofs.Ytmknlnpjimfliaa.Sep Go.Proofs.Ytmknlnpjimfliaa.Walk
theorem inf3 : (Try.prog.info? 3).map (·.size) = some 1 := by kernel_rfl
theorem inf26 : (Try.prog.info? 26).map (·.size) = some 1 := by kernel_rfl
theorem inf43 : (Try.prog.info? 43).map (·.size) = some 32 := by kernel_rfl
theorem fo45_0 : fieldOff Try.prog 45 0 = some 0 := by kernel_rfl
theorem fo45_1 : fieldOff Try.prog 45 1 = some 1 := by kernel_rfl
theorem ap3 : (Try.prog.info? 3).map (fun i => (i.zero, i.size, i.bytes)) = some (some (.int .i64 0), 1, 8) := by kernel_rfl
theorem mo : Try.prog.follows .mixedOrders = true := by kernel_rfl

structure clock_Set where
  now : Int
  left : List Int
deriving DecidableEq, Inhabited

def clock_Set.at (b : Nat) (x : clock_Set) : As := fun h => ((x.left).length = 32) ∧ Sp [blk b (([Value.int .u32 ((x.now))] ++ ((x.left)).map (Value.int .i64)).toArray) 45] h
theorem clock_Set.open {b : Nat} {x : clock_Set} {L : List As} {w0 w : World} (hs : Sep.St (clock_Set.at b x :: L) w0 w) : ((x.left).length = 32) ∧ Sep.St (blk b (([Value.int .u32 ((x.now))] ++ ((x.left)).map (Value.int .i64)).toArray) 45 :: L) w0 w := by
  have h1 := St.pure.1 (show St ((fun h => ((x.left).length = 32) ∧ (fun h => Sp [blk b (([Value.int .u32 ((x.now))] ++ ((x.left)).map (Value.int .i64)).toArray) 45] h) h) :: L) w0 w from hs)
  obtain ⟨hi, hs⟩ := h1
  exact ⟨hi, St.open (m := [blk b (([Value.int .u32 ((x.now))] ++ ((x.left)).map (Value.int .i64)).toArray) 45]) hs⟩
theorem clock_Set.close {b : Nat} (x : clock_Set)  {L : List As} {w0 w : World} (hi : (x.left).length = 32) (hs : Sep.St (blk b (([Value.int .u32 ((x.now))] ++ ((x.left)).map (Value.int .i64)).toArray) 45 :: L) w0 w) : Sep.St (clock_Set.at b x :: L) w0 w := by
  have h2 := St.join (m := [blk b (([Value.int .u32 ((x.now))] ++ ((x.left)).map (Value.int .i64)).toArray) 45]) hs
  exact h2.mono fun h hh => ⟨hi, hh⟩

/-! ### signalman/clock.New: function 8 -/
def clock_New.f (a0 : Int) : Option (clock_Set) := some (({ now := a0, left := List.replicate 32 0 } : clock_Set))
set_option maxRecDepth 100000 in
set_option maxHeartbeats 4000000 in
theorem clock_New.calls (a0 : Int) (R : As) (w0 w : World)  (r : clock_Set)  (H : clock_New.f a0 = some r) (HS : Sep.St [R] w0 w) : Calls Try.prog 8 #[Value.int .u32 (a0)] w (Ret fun u w => ∃ (bq0 : Nat), u = Value.pointer (some ⟨bq0, 0, none⟩) ∧ Sep.St [clock_Set.at bq0 (r), R] w0 w) := by
  unfold clock_New.f at H
  refine calls_enter Try.func8 rfl rfl ?_
  have H : _ = some r := H
  refine V.seq ?_
  refine V.region ?_
  refine W.rd (X.assign rfl) rfl rfl rfl ?_
  refine W.nil ?_
  refine At.next ?_
  refine V.keep [(0, Value.int .u32 (a0))] ⟨rfl, trivial⟩ ?_
  refine V.seq ?_
  refine V.region ?_
  refine W.rd (X.move rfl) rfl rfl rfl ?_
  refine W.rd (X.build (vs := #[(0, Value.int .u32 (a0))]) (v := Value.agg (([Value.int .u32 (a0)] ++ (List.replicate 32 0).map (Value.int .i64)).toArray)) (fun a ha => by simp only [List.map_toArray, List.map_cons, List.map_nil]; rw [ha.ev (x := .tmp 3) (v := Value.int .u32 (a0)) rfl]; try rfl) (fun _ => by kernel_rfl)) rfl rfl rfl ?_
  refine W.ev (Y.box HS rfl) rfl rfl rfl ?_
  rintro _ w ⟨nb1, rfl, HS⟩
  have HS : Sep.St [blk nb1 (([Value.int .u32 (a0)] ++ (List.replicate 32 0).map (Value.int .i64)).toArray) 45, R] w0 w := HS
  refine W.rd (X.assign rfl) rfl rfl rfl ?_
  refine W.nil ?_
  refine At.next ?_
  refine V.keep [(2, Value.pointer (some ⟨nb1, 0, none⟩))] ⟨rfl, trivial⟩ ?_
  refine V.ret ?_
  replace HS := clock_Set.close (({ now := a0, left := List.replicate 32 0 } : clock_Set)) (by first | exact (by simp) | (simp only [List.length_set]; exact (by simp))) HS
  have HS : Sep.St [clock_Set.at nb1 (({ now := a0, left := List.replicate 32 0 } : clock_Set)), R] w0 w := HS
  cases H
  exact At.ret1 rfl rfl ⟨_, rfl, nb1, rfl, HS⟩

/-! ### signalman/clock.has: function 21 -/
def clock_has.f (a0 : Int) : Option (Bool) := (if a0 ≥ 0 then some (decide (a0 < 32)) else some (false))
set_option maxRecDepth 100000 in
set_option maxHeartbeats 4000000 in
theorem clock_has.calls (a0 : Int) (R : As) (w0 w : World)  (r : Bool)  (H : clock_has.f a0 = some r) (HS : Sep.St [R] w0 w) : Calls Try.prog 21 #[Value.int .i64 (a0)] w (Ret fun u w => u = Value.bool (r) ∧ Sep.St [R] w0 w) := by
  unfold clock_has.f at H
  refine calls_enter Try.func21 rfl rfl ?_
  have H : _ = some r := H
  refine V.seq ?_
  refine V.region ?_
  refine W.rd (X.assign rfl) rfl rfl rfl ?_
  refine W.nil ?_
  refine At.next ?_
  refine V.keep [(0, Value.int .i64 (a0))] ⟨rfl, trivial⟩ ?_
  refine V.seq ?_
  refine V.region ?_
  refine W.rd (X.move rfl) rfl rfl rfl ?_
  refine W.rd (X.cmp (decide (a0 ≥ 0)) rfl rfl rfl rfl) rfl rfl rfl ?_
  refine W.rd (X.move rfl) rfl rfl rfl ?_
  by_cases c1 : a0 ≥ 0
  · replace H := ite_t c1 H
    refine W.want 5 rfl (sb (decide_eq_true c1)) ?_
    refine W.rd (X.move rfl) rfl rfl rfl ?_
    refine W.want 5 rfl (sb (decide_eq_true c1)) ?_
    refine W.rd (X.cmp (decide (a0 < 32)) rfl rfl rfl rfl) rfl rfl rfl ?_
    refine W.rd (X.pickT (sb (decide_eq_true c1)) rfl) rfl rfl rfl ?_
    refine W.rd (X.assign rfl) rfl rfl rfl ?_
    refine W.nil ?_
    refine At.next ?_
    refine V.keep [(2, Value.bool (decide (a0 < 32)))] ⟨rfl, trivial⟩ ?_
    refine V.ret ?_
    cases H
    exact At.ret1 rfl rfl ⟨_, rfl, rfl, HS⟩
  · replace H := ite_f c1 H
    refine W.pass 5 rfl (sb (decide_eq_false c1)) rfl rfl ?_
    refine W.pass 5 rfl (sb (decide_eq_false c1)) rfl rfl ?_
    refine W.rd (X.pickF (sb (decide_eq_false c1)) rfl) rfl rfl rfl ?_
    refine W.rd (X.assign rfl) rfl rfl rfl ?_
    refine W.nil ?_
    refine At.next ?_
    refine V.keep [(2, Value.bool (false))] ⟨rfl, trivial⟩ ?_
    refine V.ret ?_
    cases H
    exact At.ret1 rfl rfl ⟨_, rfl, rfl, HS⟩

/-! ### (*signalman/clock.Set).Start: function 9 -/
def clock_Set_Start.f (a0 : clock_Set) (a1 : Int) (a2 : Int) : Option (Bool × clock_Set) := ((clock_has.f a1).bind fun t1 => (if t1 = true then (if 0 ≤ a1 ∧ a1 < 32 then ((clock_has.f a1).bind fun t7 => some (t7, ({ now := (a0).now, left := ((a0).left).set (a1).toNat (imax (1) (imin (a2) (1073741824))) } : clock_Set))) else none) else ((clock_has.f a1).bind fun t9 => some (t9, a0))))
set_option maxRecDepth 100000 in
set_option maxHeartbeats 4000000 in
theorem clock_Set_Start.calls (a0 : clock_Set) (a1 : Int) (a2 : Int) (R : As) (w0 w : World) (b0 : Nat) (r : Bool × clock_Set)  (H : clock_Set_Start.f a0 a1 a2 = some r) (HS : Sep.St [clock_Set.at b0 (a0), R] w0 w) : Calls Try.prog 9 #[Value.pointer (some ⟨b0, 0, none⟩), Value.int .i64 (a1), Value.int .i64 (a2)] w (Ret fun u w => u = Value.bool (r.1) ∧ Sep.St [clock_Set.at b0 (r.2), R] w0 w) := by
  unfold clock_Set_Start.f at H
  refine calls_enter Try.func9 rfl rfl ?_
  have H : _ = some r := H
  refine V.seq ?_
  refine V.region ?_
  refine W.rd (X.assign rfl) rfl rfl rfl ?_
  refine W.nil ?_
  refine At.next ?_
  refine V.keep [(0, Value.pointer (some ⟨b0, 0, none⟩)), (1, Value.int .i64 (a1)), (2, Value.int .i64 (a2))] ⟨rfl, rfl, rfl, trivial⟩ ?_
  refine V.seq ?_
  refine V.seq ?_
  refine V.region ?_
  refine W.rd (X.move rfl) rfl rfl rfl ?_
  obtain ⟨t1, A2, H⟩ := bind_s H
  refine W.ev (Y.call Try.func21 (by kernel_rfl) rfl (vs := [Value.int .i64 (a1)]) rfl (clock_has.calls a1 _ w0 _  t1  A2 (Sep.St.tailJoin (m := []) (r := [clock_Set.at b0 (a0), R]) HS))) rfl rfl rfl ?_
  rintro _ w ⟨rfl, HS⟩
  replace HS := Sep.St.tailOpen (m := []) (r := [clock_Set.at b0 (a0), R]) HS
  have HS : Sep.St [clock_Set.at b0 (a0), R] w0 w := HS
  refine W.nil ?_
  refine At.next ?_
  refine V.keep [(0, Value.pointer (some ⟨b0, 0, none⟩)), (1, Value.int .i64 (a1)), (2, Value.int .i64 (a2)), (8, Value.bool (t1))] ⟨rfl, rfl, rfl, rfl, trivial⟩ ?_
  by_cases c3 : t1 = true
  · replace H := ite_t c3 H
    refine V.condT (sb c3) ?_
    refine V.region ?_
    refine W.rd (X.move rfl) rfl rfl rfl ?_
    refine W.rd (X.move rfl) rfl rfl rfl ?_
    refine W.rd (X.move rfl) rfl rfl rfl ?_
    refine W.rd (X.min2 rfl rfl) rfl rfl rfl ?_
    refine W.rd (X.max2 rfl rfl) rfl rfl rfl ?_
    refine W.rd (X.nilCheck rfl) rfl rfl rfl ?_
    obtain ⟨hi5, HS⟩ := clock_Set.open HS
    have HS : Sep.St [blk b0 (([Value.int .u32 ((a0).now)] ++ ((a0).left).map (Value.int .i64)).toArray) 45, R] w0 w := HS
    refine W.rd (X.fieldAddr 1 fo45_1 rfl) rfl rfl rfl ?_
    obtain ⟨c6, H⟩ := ite_n H
    refine W.rd (X.indexAr Try.underlying43 inf3 rfl rfl c6.1 c6.2) rfl rfl rfl ?_
    refine W.ev_none (Y.storeArr 0 HS rfl rfl inf3 rfl rfl c6.1 c6.2 (by first | exact hi5 | (simp only [List.length_set]; exact hi5))) rfl rfl ?_
    rintro _ w HS
    have HS : Sep.St [blk b0 (([Value.int .u32 ((a0).now)] ++ (((a0).left).set (a1).toNat (imax (1) (imin (a2) (1073741824)))).map (Value.int .i64)).toArray) 45, R] w0 w := HS
    refine W.nil ?_
    refine At.next ?_
    refine V.keep [(1, Value.int .i64 (a1))] ⟨rfl, trivial⟩ ?_
    refine V.seq ?_
    refine V.region ?_
    refine W.rd (X.move rfl) rfl rfl rfl ?_
    obtain ⟨t7, A8, H⟩ := bind_s H
    refine W.ev (Y.call Try.func21 (by kernel_rfl) rfl (vs := [Value.int .i64 (a1)]) rfl (clock_has.calls a1 _ w0 _  t7  A8 (Sep.St.tailJoin (m := []) (r := [blk b0 (([Value.int .u32 ((a0).now)] ++ (((a0).left).set (a1).toNat (imax (1) (imin (a2) (1073741824)))).map (Value.int .i64)).toArray) 45, R]) HS))) rfl rfl rfl ?_
    rintro _ w ⟨rfl, HS⟩
    replace HS := Sep.St.tailOpen (m := []) (r := [blk b0 (([Value.int .u32 ((a0).now)] ++ (((a0).left).set (a1).toNat (imax (1) (imin (a2) (1073741824)))).map (Value.int .i64)).toArray) 45, R]) HS
    have HS : Sep.St [blk b0 (([Value.int .u32 ((a0).now)] ++ (((a0).left).set (a1).toNat (imax (1) (imin (a2) (1073741824)))).map (Value.int .i64)).toArray) 45, R] w0 w := HS
    refine W.rd (X.assign rfl) rfl rfl rfl ?_
    refine W.nil ?_
    refine At.next ?_
    refine V.keep [(6, Value.bool (t7))] ⟨rfl, trivial⟩ ?_
    refine V.ret ?_
    replace HS := clock_Set.close (({ now := (a0).now, left := ((a0).left).set (a1).toNat (imax (1) (imin (a2) (1073741824))) } : clock_Set)) (by first | exact hi5 | (simp only [List.length_set]; exact hi5)) HS
    have HS : Sep.St [clock_Set.at b0 (({ now := (a0).now, left := ((a0).left).set (a1).toNat (imax (1) (imin (a2) (1073741824))) } : clock_Set)), R] w0 w := HS
    cases H
    exact At.ret1 rfl rfl ⟨_, rfl, rfl, HS⟩
  · replace H := ite_f c3 H
    refine V.condF (sb (b_f c3)) ?_
    refine V.skip ?_
    refine At.next ?_
    refine V.keep [(1, Value.int .i64 (a1))] ⟨rfl, trivial⟩ ?_
    refine V.seq ?_
    refine V.region ?_
    refine W.rd (X.move rfl) rfl rfl rfl ?_
    obtain ⟨t9, A10, H⟩ := bind_s H
    refine W.ev (Y.call Try.func21 (by kernel_rfl) rfl (vs := [Value.int .i64 (a1)]) rfl (clock_has.calls a1 _ w0 _  t9  A10 (Sep.St.tailJoin (m := []) (r := [clock_Set.at b0 (a0), R]) HS))) rfl rfl rfl ?_
    rintro _ w ⟨rfl, HS⟩
    replace HS := Sep.St.tailOpen (m := []) (r := [clock_Set.at b0 (a0), R]) HS
    have HS : Sep.St [clock_Set.at b0 (a0), R] w0 w := HS
    refine W.rd (X.assign rfl) rfl rfl rfl ?_
    refine W.nil ?_
    refine At.next ?_
    refine V.keep [(6, Value.bool (t9))] ⟨rfl, trivial⟩ ?_
    refine V.ret ?_
    cases H
    exact At.ret1 rfl rfl ⟨_, rfl, rfl, HS⟩

/-! ### (*signalman/clock.Set).soonest: function 22 -/
mutual
def clock_Set_soonest.l0 : Nat → clock_Set → Int → Bool → Int → Option (Int × Bool)
  | 0, _, _, _, _ => none
  | k + 1, a0, x4, x5, x6 => (if x6 < 32 then (if 0 ≤ x6 ∧ x6 < 32 then (if (((a0).left).getD (x6).toNat 0) > 0 then (if (((a0).left).getD (x6).toNat 0) ≤ x4 then (clock_Set_soonest.l0 k a0 (((a0).left).getD (x6).toNat 0) true (w64 (x6 + 1))) else (clock_Set_soonest.l0 k a0 x4 x5 (w64 (x6 + 1)))) else (clock_Set_soonest.l0 k a0 x4 x5 (w64 (x6 + 1)))) else none) else some (x4, x5))
end
def clock_Set_soonest.f (k : Nat) (a0 : clock_Set) (a1 : Int) : Option (Int × Bool) := (clock_Set_soonest.l0 k a0 a1 false 0)
set_option maxRecDepth 100000 in
set_option maxHeartbeats 4000000 in
theorem clock_Set_soonest.calls (k : Nat) (a0 : clock_Set) (a1 : Int) (R : As) (w0 w : World) (b0 : Nat) (r : Int × Bool)  (H : clock_Set_soonest.f k a0 a1 = some r) (HS : Sep.St [clock_Set.at b0 (a0), R] w0 w) : Calls Try.prog 22 #[Value.pointer (some ⟨b0, 0, none⟩), Value.int .i64 (a1)] w (Ret fun u w => u = Value.tuple #[Value.int .i64 (r.1), Value.bool (r.2)] ∧ Sep.St [clock_Set.at b0 a0, R] w0 w) := by
  unfold clock_Set_soonest.f at H
  refine calls_enter Try.func22 rfl rfl ?_
  have H : _ = some r := H
  refine V.seq ?_
  refine V.region ?_
  refine W.rd (X.assign rfl) rfl rfl rfl ?_
  refine W.rd (X.assign rfl) rfl rfl rfl ?_
  refine W.nil ?_
  refine At.next ?_
  refine V.keep [(0, Value.pointer (some ⟨b0, 0, none⟩)), (1, Value.int .i64 (a1))] ⟨rfl, rfl, trivial⟩ ?_
  refine V.seq ?_
  refine V.region ?_
  refine W.rd (X.assign rfl) rfl rfl rfl ?_
  refine W.nil ?_
  refine At.next ?_
  refine V.keep [(0, Value.pointer (some ⟨b0, 0, none⟩)), (1, Value.int .i64 (a1)), (6, Value.bool (false))] ⟨rfl, rfl, rfl, trivial⟩ ?_
  refine V.seq ?_
  refine V.seq ?_
  refine V.region ?_
  refine W.rd (X.move rfl) rfl rfl rfl ?_
  refine W.rd (X.nilCheck rfl) rfl rfl rfl ?_
  obtain ⟨hi2, HS⟩ := clock_Set.open HS
  have HS : Sep.St [blk b0 (([Value.int .u32 ((a0).now)] ++ ((a0).left).map (Value.int .i64)).toArray) 45, R] w0 w := HS
  refine W.rd (X.fieldAddr 1 fo45_1 rfl) rfl rfl rfl ?_
  refine W.rd (X.loadArr 0 HS rfl rfl Try.underlying43 rfl inf43 (by first | exact hi2 | (simp only [List.length_set]; exact hi2)) rfl) rfl rfl rfl ?_
  refine W.rd (X.move rfl) rfl rfl rfl ?_
  refine W.nil ?_
  refine At.next ?_
  refine V.keep [(1, Value.int .i64 (a1)), (6, Value.bool (false)), (12, Value.agg (((a0).left).map (Value.int .i64)).toArray), (13, Value.int .i64 (0))] ⟨rfl, rfl, rfl, rfl, trivial⟩ ?_
  refine V.block ?_
  replace HS := clock_Set.close (a0) (by first | exact hi2 | (simp only [List.length_set]; exact hi2)) HS
  have HS : Sep.St [clock_Set.at b0 (a0), R] w0 w := HS
  refine V.loop (σ := Int × Bool × Int) (fun kq (st : Int × Bool × Int) w => match st with | (x4, x5, x6) => Sep.St [clock_Set.at b0 (a0), R] w0 w ∧ clock_Set_soonest.l0 kq a0 x4 x5 x6 = some r ∧ kq ≤ k) (fun st => match st with | (x4, x5, x6) => [(1, Value.int .i64 (x4)), (6, Value.bool (x5)), (12, Value.agg (((a0).left).map (Value.int .i64)).toArray), (13, Value.int .i64 (x6))]) k (a1, false, 0) ⟨rfl, rfl, rfl, rfl, trivial⟩ ⟨HS, H, Nat.le_refl _⟩ ?_
  rintro kq7 ⟨x4, x5, x6⟩ w ⟨HS, H, hk8⟩
  cases kq7 with
  | zero => exact absurd H (by simp [clock_Set_soonest.l0])
  | succ kq7 =>
    simp only [clock_Set_soonest.l0] at H
    have HS : Sep.St [clock_Set.at b0 (a0), R] w0 w := HS
    refine V.seq ?_
    refine V.region ?_
    refine W.rd (X.cmp (decide (x6 < 32)) rfl rfl rfl rfl) rfl rfl rfl ?_
    refine W.nil ?_
    refine At.next ?_
    refine V.keep [(1, Value.int .i64 (x4)), (6, Value.bool (x5)), (12, Value.agg (((a0).left).map (Value.int .i64)).toArray), (13, Value.int .i64 (x6)), (14, Value.bool (decide (x6 < 32)))] ⟨rfl, rfl, rfl, rfl, rfl, trivial⟩ ?_
    refine V.seq ?_
    by_cases c9 : x6 < 32
    · replace H := ite_t c9 H
      refine V.condT (sb (decide_eq_true c9)) ?_
      refine V.skip ?_
      refine At.next ?_
      refine V.keep [(1, Value.int .i64 (x4)), (6, Value.bool (x5)), (12, Value.agg (((a0).left).map (Value.int .i64)).toArray), (13, Value.int .i64 (x6))] ⟨rfl, rfl, rfl, rfl, trivial⟩ ?_
      refine V.seq ?_
      refine V.block ?_
      refine V.seq ?_
      refine V.region ?_
      obtain ⟨c10, H⟩ := ite_n H
      refine W.rd (X.indexArr Try.underlying43 Try.underlying3 rfl inf3 rfl rfl c10.1 c10.2 (by first | exact hi2 | (simp only [List.length_set]; exact hi2))) rfl rfl rfl ?_
      refine W.rd (X.assign rfl) rfl rfl rfl ?_
      refine W.nil ?_
      refine At.next ?_
      refine V.keep [(1, Value.int .i64 (x4)), (6, Value.bool (x5)), (8, Value.int .i64 (((a0).left).getD (x6).toNat 0)), (12, Value.agg (((a0).left).map (Value.int .i64)).toArray), (13, Value.int .i64 (x6))] ⟨rfl, rfl, rfl, rfl, rfl, trivial⟩ ?_
      refine V.seq ?_
      refine V.region ?_
      refine W.rd (X.move rfl) rfl rfl rfl ?_
      refine W.rd (X.cmp (decide ((((a0).left).getD (x6).toNat 0) > 0)) rfl rfl rfl rfl) rfl rfl rfl ?_
      refine W.rd (X.move rfl) rfl rfl rfl ?_
      by_cases c11 : (((a0).left).getD (x6).toNat 0) > 0
      · replace H := ite_t c11 H
        refine W.want 18 rfl (sb (decide_eq_true c11)) ?_
        refine W.rd (X.move rfl) rfl rfl rfl ?_
        refine W.want 18 rfl (sb (decide_eq_true c11)) ?_
        refine W.rd (X.move rfl) rfl rfl rfl ?_
        refine W.want 18 rfl (sb (decide_eq_true c11)) ?_
        refine W.rd (X.cmp (decide ((((a0).left).getD (x6).toNat 0) ≤ x4)) rfl rfl rfl rfl) rfl rfl rfl ?_
        refine W.rd (X.pickT (sb (decide_eq_true c11)) rfl) rfl rfl rfl ?_
        refine W.nil ?_
        refine At.next ?_
        refine V.keep [(1, Value.int .i64 (x4)), (6, Value.bool (x5)), (8, Value.int .i64 (((a0).left).getD (x6).toNat 0)), (12, Value.agg (((a0).left).map (Value.int .i64)).toArray), (13, Value.int .i64 (x6)), (19, Value.int .i64 (((a0).left).getD (x6).toNat 0)), (20, Value.int .i64 (x4)), (21, Value.bool (decide ((((a0).left).getD (x6).toNat 0) ≤ x4))), (22, Value.bool (decide ((((a0).left).getD (x6).toNat 0) ≤ x4)))] ⟨rfl, rfl, rfl, rfl, rfl, rfl, rfl, rfl, rfl, trivial⟩ ?_
        by_cases c12 : (((a0).left).getD (x6).toNat 0) ≤ x4
        · replace H := ite_t c12 H
          refine V.condT (sb (decide_eq_true c12)) ?_
          refine V.region ?_
          refine W.rd (X.move rfl) rfl rfl rfl ?_
          refine W.rd (X.assign rfl) rfl rfl rfl ?_
          refine W.rd (X.assign rfl) rfl rfl rfl ?_
          refine W.nil ?_
          refine At.blockEnd ?_
          refine At.next ?_
          refine V.keep [(1, Value.int .i64 (((a0).left).getD (x6).toNat 0)), (6, Value.bool (true)), (12, Value.agg (((a0).left).map (Value.int .i64)).toArray), (13, Value.int .i64 (x6)), (19, Value.int .i64 (((a0).left).getD (x6).toNat 0)), (20, Value.int .i64 (x4)), (21, Value.bool (decide ((((a0).left).getD (x6).toNat 0) ≤ x4)))] ⟨rfl, rfl, rfl, rfl, rfl, rfl, rfl, trivial⟩ ?_
          refine V.region ?_
          refine W.rd (X.add rfl rfl) rfl rfl rfl ?_
          refine W.rd (X.move rfl) rfl rfl rfl ?_
          refine W.nil ?_
          exact At.round kq7 (by omega) (((a0).left).getD (x6).toNat 0, true, w64 (x6 + 1)) ⟨rfl, rfl, rfl, rfl, trivial⟩ ⟨HS, H, by omega⟩
        · replace H := ite_f c12 H
          refine V.condF (sb (decide_eq_false c12)) ?_
          refine V.skip ?_
          refine At.blockEnd ?_
          refine At.next ?_
          refine V.keep [(1, Value.int .i64 (x4)), (6, Value.bool (x5)), (12, Value.agg (((a0).left).map (Value.int .i64)).toArray), (13, Value.int .i64 (x6)), (19, Value.int .i64 (((a0).left).getD (x6).toNat 0)), (20, Value.int .i64 (x4)), (21, Value.bool (decide ((((a0).left).getD (x6).toNat 0) ≤ x4)))] ⟨rfl, rfl, rfl, rfl, rfl, rfl, rfl, trivial⟩ ?_
          refine V.region ?_
          refine W.rd (X.add rfl rfl) rfl rfl rfl ?_
          refine W.rd (X.move rfl) rfl rfl rfl ?_
          refine W.nil ?_
          exact At.round kq7 (by omega) (x4, x5, w64 (x6 + 1)) ⟨rfl, rfl, rfl, rfl, trivial⟩ ⟨HS, H, by omega⟩
      · replace H := ite_f c11 H
        refine W.pass 18 rfl (sb (decide_eq_false c11)) rfl rfl ?_
        refine W.pass 18 rfl (sb (decide_eq_false c11)) rfl rfl ?_
        refine W.pass 18 rfl (sb (decide_eq_false c11)) rfl rfl ?_
        refine W.rd (X.pickF (sb (decide_eq_false c11)) rfl) rfl rfl rfl ?_
        refine W.nil ?_
        refine At.next ?_
        refine V.keep [(1, Value.int .i64 (x4)), (6, Value.bool (x5)), (8, Value.int .i64 (((a0).left).getD (x6).toNat 0)), (12, Value.agg (((a0).left).map (Value.int .i64)).toArray), (13, Value.int .i64 (x6)), (19, undef), (20, undef), (21, undef), (22, Value.bool (false))] ⟨rfl, rfl, rfl, rfl, rfl, rfl, rfl, rfl, rfl, trivial⟩ ?_
        refine V.condF rfl ?_
        refine V.skip ?_
        refine At.blockEnd ?_
        refine At.next ?_
        refine V.keep [(1, Value.int .i64 (x4)), (6, Value.bool (x5)), (12, Value.agg (((a0).left).map (Value.int .i64)).toArray), (13, Value.int .i64 (x6)), (19, undef), (20, undef), (21, undef)] ⟨rfl, rfl, rfl, rfl, rfl, rfl, rfl, trivial⟩ ?_
        refine V.region ?_
        refine W.rd (X.add rfl rfl) rfl rfl rfl ?_
        refine W.rd (X.move rfl) rfl rfl rfl ?_
        refine W.nil ?_
        exact At.round kq7 (by omega) (x4, x5, w64 (x6 + 1)) ⟨rfl, rfl, rfl, rfl, trivial⟩ ⟨HS, H, by omega⟩
    · replace H := ite_f c9 H
      refine V.condF (sb (decide_eq_false c9)) ?_
      refine V.exit ?_
      refine At.thenExit ?_
      refine At.thenExit ?_
      refine At.blockExit ?_
      refine At.next ?_
      refine V.keep [(1, Value.int .i64 (x4)), (6, Value.bool (x5))] ⟨rfl, rfl, trivial⟩ ?_
      refine V.seq ?_
      refine V.region ?_
      refine W.rd (X.move rfl) rfl rfl rfl ?_
      refine W.rd (X.move rfl) rfl rfl rfl ?_
      refine W.rd (X.assign rfl) rfl rfl rfl ?_
      refine W.rd (X.assign rfl) rfl rfl rfl ?_
      refine W.nil ?_
      refine At.next ?_
      refine V.keep [(4, Value.int .i64 (x4)), (5, Value.bool (x5))] ⟨rfl, rfl, trivial⟩ ?_
      refine V.ret ?_
      cases H
      exact At.ret2 rfl rfl rfl ⟨_, rfl, rfl, HS⟩

/-! ### (*signalman/clock.Set).pass: function 23 -/
mutual
def clock_Set_pass.l0 : Nat → clock_Set → Int → Int → clock_Set → (List Int) → Option (List Int × clock_Set)
  | 0, _, _, _, _, _ => none
  | k + 1, a0, a1, x5, x6, x9 => (if x5 < 32 then (if 0 ≤ x5 ∧ x5 < 32 then (if (((a0).left).getD (x5).toNat 0) = 0 then (clock_Set_pass.l0 k a0 a1 (w64 (x5 + 1)) x6 x9) else (if (((a0).left).getD (x5).toNat 0) = a1 then (if ((x9).length : Int) + (([x5] : List Int)).length ≤ 1099511627776 then (clock_Set_pass.l0 k a0 a1 (w64 (x5 + 1)) ({ now := (x6).now, left := ((x6).left).set (x5).toNat (w64 ((((a0).left).getD (x5).toNat 0) - a1)) } : clock_Set) (x9 ++ ([x5] : List Int))) else none) else (clock_Set_pass.l0 k a0 a1 (w64 (x5 + 1)) ({ now := (x6).now, left := ((x6).left).set (x5).toNat (w64 ((((a0).left).getD (x5).toNat 0) - a1)) } : clock_Set) x9))) else none) else some (x9, x6))
end
def clock_Set_pass.f (k : Nat) (a0 : clock_Set) (a1 : Int) : Option (List Int × clock_Set) := (clock_Set_pass.l0 k a0 a1 0 a0 ([] : List Int))
set_option maxRecDepth 100000 in
set_option maxHeartbeats 4000000 in
theorem clock_Set_pass.calls (k : Nat) (a0 : clock_Set) (a1 : Int) (R : As) (w0 w : World) (b0 : Nat) (r : List Int × clock_Set)  (H : clock_Set_pass.f k a0 a1 = some r) (HS : Sep.St [clock_Set.at b0 (a0), R] w0 w) : Calls Try.prog 23 #[Value.pointer (some ⟨b0, 0, none⟩), Value.int .i64 (a1)] w (Ret fun u w => ∃ (aq0 : Option Addr) (cq0 : Nat), u = Value.slice aq0 (r.1).length cq0 ∧ Sep.St [row 3 1 (.slice aq0 (r.1).length cq0) (r.1).length ((r.1).map (Value.int .i64)), clock_Set.at b0 (r.2), R] w0 w) := by
  unfold clock_Set_pass.f at H
  refine calls_enter Try.func23 rfl rfl ?_
  have H : _ = some r := H
  refine V.seq ?_
  refine V.region ?_
  refine W.rd (X.assign rfl) rfl rfl rfl ?_
  refine W.nil ?_
  refine At.next ?_
  refine V.keep [(0, Value.pointer (some ⟨b0, 0, none⟩)), (1, Value.int .i64 (a1))] ⟨rfl, rfl, trivial⟩ ?_
  refine V.seq ?_
  refine V.region ?_
  refine W.rd (X.assign rfl) rfl rfl rfl ?_
  refine W.nil ?_
  refine At.next ?_
  refine V.keep [(0, Value.pointer (some ⟨b0, 0, none⟩)), (1, Value.int .i64 (a1)), (5, Value.slice none 0 0)] ⟨rfl, rfl, rfl, trivial⟩ ?_
  refine V.seq ?_
  refine V.seq ?_
  refine V.region ?_
  refine W.rd (X.move rfl) rfl rfl rfl ?_
  refine W.rd (X.nilCheck rfl) rfl rfl rfl ?_
  obtain ⟨hi2, HS⟩ := clock_Set.open HS
  have HS : Sep.St [blk b0 (([Value.int .u32 ((a0).now)] ++ ((a0).left).map (Value.int .i64)).toArray) 45, R] w0 w := HS
  refine W.rd (X.fieldAddr 1 fo45_1 rfl) rfl rfl rfl ?_
  refine W.rd (X.loadArr 0 HS rfl rfl Try.underlying43 rfl inf43 (by first | exact hi2 | (simp only [List.length_set]; exact hi2)) rfl) rfl rfl rfl ?_
  refine W.rd (X.move rfl) rfl rfl rfl ?_
  refine W.nil ?_
  refine At.next ?_
  refine V.keep [(0, Value.pointer (some ⟨b0, 0, none⟩)), (1, Value.int .i64 (a1)), (5, Value.slice none 0 0), (11, Value.agg (((a0).left).map (Value.int .i64)).toArray), (12, Value.int .i64 (0))] ⟨rfl, rfl, rfl, rfl, rfl, trivial⟩ ?_
  refine V.block ?_
  replace HS := row_nil' (e := 3) 1 none HS
  have HS : Sep.St [row 3 1 (.slice none (([] : List Int)).length 0) (([] : List Int)).length ((([] : List Int)).map (Value.int .i64)), blk b0 (([Value.int .u32 ((a0).now)] ++ ((a0).left).map (Value.int .i64)).toArray) 45, R] w0 w := HS
  replace HS := HS.re [1, 0, 2] rfl
  have HS : Sep.St [blk b0 (([Value.int .u32 ((a0).now)] ++ ((a0).left).map (Value.int .i64)).toArray) 45, row 3 1 (.slice none (([] : List Int)).length 0) (([] : List Int)).length ((([] : List Int)).map (Value.int .i64)), R] w0 w := HS
  replace HS := clock_Set.close (a0) (by first | exact hi2 | (simp only [List.length_set]; exact hi2)) HS
  have HS : Sep.St [clock_Set.at b0 (a0), row 3 1 (.slice none (([] : List Int)).length 0) (([] : List Int)).length ((([] : List Int)).map (Value.int .i64)), R] w0 w := HS
  refine V.loop (σ := Int × clock_Set × Option Addr × Nat × List Int) (fun kq (st : Int × clock_Set × Option Addr × Nat × List Int) w => match st with | (x5, x6, ra7, rc8, x9) => Sep.St [clock_Set.at b0 (x6), row 3 1 (.slice ra7 (x9).length rc8) (x9).length ((x9).map (Value.int .i64)), R] w0 w ∧ clock_Set_pass.l0 kq a0 a1 x5 x6 x9 = some r ∧ kq ≤ k) (fun st => match st with | (x5, x6, ra7, rc8, x9) => [(0, Value.pointer (some ⟨b0, 0, none⟩)), (1, Value.int .i64 (a1)), (5, Value.slice ra7 (x9).length rc8), (11, Value.agg (((a0).left).map (Value.int .i64)).toArray), (12, Value.int .i64 (x5))]) k (0, a0, none, 0, ([] : List Int)) ⟨rfl, rfl, rfl, rfl, rfl, trivial⟩ ⟨HS, H, Nat.le_refl _⟩ ?_
  rintro kq10 ⟨x5, x6, ra7, rc8, x9⟩ w ⟨HS, H, hk11⟩
  cases kq10 with
  | zero => exact absurd H (by simp [clock_Set_pass.l0])
  | succ kq10 =>
    simp only [clock_Set_pass.l0] at H
    have HS : Sep.St [clock_Set.at b0 (x6), row 3 1 (.slice ra7 (x9).length rc8) (x9).length ((x9).map (Value.int .i64)), R] w0 w := HS
    refine V.seq ?_
    refine V.region ?_
    refine W.rd (X.cmp (decide (x5 < 32)) rfl rfl rfl rfl) rfl rfl rfl ?_
    refine W.nil ?_
    refine At.next ?_
    refine V.keep [(0, Value.pointer (some ⟨b0, 0, none⟩)), (1, Value.int .i64 (a1)), (5, Value.slice ra7 (x9).length rc8), (11, Value.agg (((a0).left).map (Value.int .i64)).toArray), (12, Value.int .i64 (x5)), (13, Value.bool (decide (x5 < 32)))] ⟨rfl, rfl, rfl, rfl, rfl, rfl, trivial⟩ ?_
    refine V.seq ?_
    by_cases c12 : x5 < 32
    · replace H := ite_t c12 H
      refine V.condT (sb (decide_eq_true c12)) ?_
      refine V.skip ?_
      refine At.next ?_
      refine V.keep [(0, Value.pointer (some ⟨b0, 0, none⟩)), (1, Value.int .i64 (a1)), (5, Value.slice ra7 (x9).length rc8), (11, Value.agg (((a0).left).map (Value.int .i64)).toArray), (12, Value.int .i64 (x5))] ⟨rfl, rfl, rfl, rfl, rfl, trivial⟩ ?_
      refine V.seq ?_
      refine V.block ?_
      refine V.seq ?_
      refine V.region ?_
      refine W.rd (X.move rfl) rfl rfl rfl ?_
      obtain ⟨c13, H⟩ := ite_n H
      refine W.rd (X.indexArr Try.underlying43 Try.underlying3 rfl inf3 rfl rfl c13.1 c13.2 (by first | exact hi2 | (simp only [List.length_set]; exact hi2))) rfl rfl rfl ?_
      refine W.rd (X.assign rfl) rfl rfl rfl ?_
      refine W.rd (X.assign rfl) rfl rfl rfl ?_
      refine W.nil ?_
      refine At.next ?_
      refine V.keep [(0, Value.pointer (some ⟨b0, 0, none⟩)), (1, Value.int .i64 (a1)), (5, Value.slice ra7 (x9).length rc8), (6, Value.int .i64 (x5)), (7, Value.int .i64 (((a0).left).getD (x5).toNat 0)), (11, Value.agg (((a0).left).map (Value.int .i64)).toArray), (12, Value.int .i64 (x5))] ⟨rfl, rfl, rfl, rfl, rfl, rfl, rfl, trivial⟩ ?_
      refine V.seq ?_
      refine V.seq ?_
      refine V.region ?_
      refine W.rd (X.move rfl) rfl rfl rfl ?_
      refine W.rd (X.cmp (decide ((((a0).left).getD (x5).toNat 0) = 0)) rfl rfl rfl rfl) rfl rfl rfl ?_
      refine W.nil ?_
      refine At.next ?_
      refine V.keep [(0, Value.pointer (some ⟨b0, 0, none⟩)), (1, Value.int .i64 (a1)), (5, Value.slice ra7 (x9).length rc8), (6, Value.int .i64 (x5)), (7, Value.int .i64 (((a0).left).getD (x5).toNat 0)), (11, Value.agg (((a0).left).map (Value.int .i64)).toArray), (12, Value.int .i64 (x5)), (17, Value.bool (decide ((((a0).left).getD (x5).toNat 0) = 0)))] ⟨rfl, rfl, rfl, rfl, rfl, rfl, rfl, rfl, trivial⟩ ?_
      by_cases c14 : (((a0).left).getD (x5).toNat 0) = 0
      · replace H := ite_t c14 H
        refine V.condT (sb (decide_eq_true c14)) ?_
        refine V.exit ?_
        refine At.thenExit ?_
        refine At.blockExit ?_
        refine At.next ?_
        refine V.keep [(0, Value.pointer (some ⟨b0, 0, none⟩)), (1, Value.int .i64 (a1)), (5, Value.slice ra7 (x9).length rc8), (11, Value.agg (((a0).left).map (Value.int .i64)).toArray), (12, Value.int .i64 (x5))] ⟨rfl, rfl, rfl, rfl, rfl, trivial⟩ ?_
        refine V.region ?_
        refine W.rd (X.add rfl rfl) rfl rfl rfl ?_
        refine W.rd (X.move rfl) rfl rfl rfl ?_
        refine W.nil ?_
        exact At.round kq10 (by omega) (w64 (x5 + 1), x6, ra7, rc8, x9) ⟨rfl, rfl, rfl, rfl, rfl, trivial⟩ ⟨HS, H, by omega⟩
      · replace H := ite_f c14 H
        refine V.condF (sb (decide_eq_false c14)) ?_
        refine V.skip ?_
        refine At.next ?_
        refine V.keep [(0, Value.pointer (some ⟨b0, 0, none⟩)), (1, Value.int .i64 (a1)), (5, Value.slice ra7 (x9).length rc8), (6, Value.int .i64 (x5)), (7, Value.int .i64 (((a0).left).getD (x5).toNat 0)), (11, Value.agg (((a0).left).map (Value.int .i64)).toArray), (12, Value.int .i64 (x5))] ⟨rfl, rfl, rfl, rfl, rfl, rfl, rfl, trivial⟩ ?_
        refine V.seq ?_
        refine V.region ?_
        refine W.rd (X.move rfl) rfl rfl rfl ?_
        refine W.rd (X.move rfl) rfl rfl rfl ?_
        refine W.rd (X.move rfl) rfl rfl rfl ?_
        refine W.rd (X.move rfl) rfl rfl rfl ?_
        refine W.rd (X.sub rfl rfl) rfl rfl rfl ?_
        refine W.rd (X.nilCheck rfl) rfl rfl rfl ?_
        obtain ⟨hi16, HS⟩ := clock_Set.open HS
        have HS : Sep.St [blk b0 (([Value.int .u32 ((x6).now)] ++ ((x6).left).map (Value.int .i64)).toArray) 45, row 3 1 (.slice ra7 (x9).length rc8) (x9).length ((x9).map (Value.int .i64)), R] w0 w := HS
        refine W.rd (X.fieldAddr 1 fo45_1 rfl) rfl rfl rfl ?_
        refine W.rd (X.indexAr Try.underlying43 inf3 rfl rfl c13.1 c13.2) rfl rfl rfl ?_
        refine W.ev_none (Y.storeArr 0 HS rfl rfl inf3 rfl rfl c13.1 c13.2 (by first | exact hi16 | (simp only [List.length_set]; exact hi16))) rfl rfl ?_
        rintro _ w HS
        have HS : Sep.St [blk b0 (([Value.int .u32 ((x6).now)] ++ (((x6).left).set (x5).toNat (w64 ((((a0).left).getD (x5).toNat 0) - a1))).map (Value.int .i64)).toArray) 45, row 3 1 (.slice ra7 (x9).length rc8) (x9).length ((x9).map (Value.int .i64)), R] w0 w := HS
        refine W.nil ?_
        refine At.next ?_
        refine V.keep [(0, Value.pointer (some ⟨b0, 0, none⟩)), (1, Value.int .i64 (a1)), (5, Value.slice ra7 (x9).length rc8), (6, Value.int .i64 (x5)), (7, Value.int .i64 (((a0).left).getD (x5).toNat 0)), (11, Value.agg (((a0).left).map (Value.int .i64)).toArray), (12, Value.int .i64 (x5))] ⟨rfl, rfl, rfl, rfl, rfl, rfl, rfl, trivial⟩ ?_
        refine V.seq ?_
        refine V.region ?_
        refine W.rd (X.move rfl) rfl rfl rfl ?_
        refine W.rd (X.move rfl) rfl rfl rfl ?_
        refine W.rd (X.cmp (decide ((((a0).left).getD (x5).toNat 0) = a1)) rfl rfl rfl rfl) rfl rfl rfl ?_
        refine W.nil ?_
        refine At.next ?_
        refine V.keep [(0, Value.pointer (some ⟨b0, 0, none⟩)), (1, Value.int .i64 (a1)), (5, Value.slice ra7 (x9).length rc8), (6, Value.int .i64 (x5)), (11, Value.agg (((a0).left).map (Value.int .i64)).toArray), (12, Value.int .i64 (x5)), (28, Value.bool (decide ((((a0).left).getD (x5).toNat 0) = a1)))] ⟨rfl, rfl, rfl, rfl, rfl, rfl, rfl, trivial⟩ ?_
        by_cases c17 : (((a0).left).getD (x5).toNat 0) = a1
        · replace H := ite_t c17 H
          refine V.condT (sb (decide_eq_true c17)) ?_
          refine V.region ?_
          refine W.rd (X.move rfl) rfl rfl rfl ?_
          refine W.rd (X.move rfl) rfl rfl rfl ?_
          refine W.ev (Y.litB (e := 3) (sz := 1) (vs := #[(0, Value.int .i64 (x5))]) [Value.int .i64 (x5)] HS (fun a ha => by simp only [List.map_toArray, List.map_cons, List.map_nil]; rw [ha.ev (x := .tmp 30) (v := Value.int .i64 (x5)) rfl]; try rfl) rfl (by decide) (fun _ => by kernel_rfl)) rfl rfl rfl ?_
          rintro _ w ⟨lb20, rfl, HS⟩
          have HS : Sep.St [row 3 1 (.slice (some ⟨lb20, 0, none⟩) (([x5] : List Int)).length 1) (([x5] : List Int)).length ((([x5] : List Int)).map (Value.int .i64)), blk b0 (([Value.int .u32 ((x6).now)] ++ (((x6).left).set (x5).toNat (w64 ((((a0).left).getD (x5).toNat 0) - a1))).map (Value.int .i64)).toArray) 45, row 3 1 (.slice ra7 (x9).length rc8) (x9).length ((x9).map (Value.int .i64)), R] w0 w := HS
          obtain ⟨c21, H⟩ := ite_n H
          refine W.ev (Y.appF (Value.int .i64) (fun _ => rfl) 2 Try.underlying22 ap3 rfl HS rfl rfl rfl (rdC.at 0 row_rd HS rfl) (by omega) (by omega)) rfl rfl rfl ?_
          rintro _ w ⟨ra22, rc23, rfl, HS⟩
          have HS : Sep.St [row 3 1 (.slice (some ⟨lb20, 0, none⟩) (([x5] : List Int)).length 1) (([x5] : List Int)).length ((([x5] : List Int)).map (Value.int .i64)), blk b0 (([Value.int .u32 ((x6).now)] ++ (((x6).left).set (x5).toNat (w64 ((((a0).left).getD (x5).toNat 0) - a1))).map (Value.int .i64)).toArray) 45, row 3 1 (.slice ra22 (x9 ++ ([x5] : List Int)).length rc23) (x9 ++ ([x5] : List Int)).length ((x9 ++ ([x5] : List Int)).map (Value.int .i64)), R] w0 w := HS
          refine W.rd (X.assign rfl) rfl rfl rfl ?_
          refine W.nil ?_
          refine At.blockEnd ?_
          refine At.next ?_
          refine V.keep [(0, Value.pointer (some ⟨b0, 0, none⟩)), (1, Value.int .i64 (a1)), (5, Value.slice ra22 (x9 ++ ([x5] : List Int)).length rc23), (11, Value.agg (((a0).left).map (Value.int .i64)).toArray), (12, Value.int .i64 (x5))] ⟨rfl, rfl, rfl, rfl, rfl, trivial⟩ ?_
          refine V.region ?_
          refine W.rd (X.add rfl rfl) rfl rfl rfl ?_
          refine W.rd (X.move rfl) rfl rfl rfl ?_
          refine W.nil ?_
          replace HS := HS.re [1, 0, 2, 3] rfl
          have HS : Sep.St [blk b0 (([Value.int .u32 ((x6).now)] ++ (((x6).left).set (x5).toNat (w64 ((((a0).left).getD (x5).toNat 0) - a1))).map (Value.int .i64)).toArray) 45, row 3 1 (.slice (some ⟨lb20, 0, none⟩) (([x5] : List Int)).length 1) (([x5] : List Int)).length ((([x5] : List Int)).map (Value.int .i64)), row 3 1 (.slice ra22 (x9 ++ ([x5] : List Int)).length rc23) (x9 ++ ([x5] : List Int)).length ((x9 ++ ([x5] : List Int)).map (Value.int .i64)), R] w0 w := HS
          replace HS := clock_Set.close (({ now := (x6).now, left := ((x6).left).set (x5).toNat (w64 ((((a0).left).getD (x5).toNat 0) - a1)) } : clock_Set)) (by first | exact hi16 | (simp only [List.length_set]; exact hi16)) HS
          have HS : Sep.St [clock_Set.at b0 (({ now := (x6).now, left := ((x6).left).set (x5).toNat (w64 ((((a0).left).getD (x5).toNat 0) - a1)) } : clock_Set)), row 3 1 (.slice (some ⟨lb20, 0, none⟩) (([x5] : List Int)).length 1) (([x5] : List Int)).length ((([x5] : List Int)).map (Value.int .i64)), row 3 1 (.slice ra22 (x9 ++ ([x5] : List Int)).length rc23) (x9 ++ ([x5] : List Int)).length ((x9 ++ ([x5] : List Int)).map (Value.int .i64)), R] w0 w := HS
          replace HS := HS.sel [0, 2, 3] [1] rfl
          exact At.round kq10 (by omega) (w64 (x5 + 1), ({ now := (x6).now, left := ((x6).left).set (x5).toNat (w64 ((((a0).left).getD (x5).toNat 0) - a1)) } : clock_Set), ra22, rc23, x9 ++ ([x5] : List Int)) ⟨rfl, rfl, rfl, rfl, rfl, trivial⟩ ⟨HS, H, by omega⟩
        · replace H := ite_f c17 H
          refine V.condF (sb (decide_eq_false c17)) ?_
          refine V.skip ?_
          refine At.blockEnd ?_
          refine At.next ?_
          refine V.keep [(0, Value.pointer (some ⟨b0, 0, none⟩)), (1, Value.int .i64 (a1)), (5, Value.slice ra7 (x9).length rc8), (11, Value.agg (((a0).left).map (Value.int .i64)).toArray), (12, Value.int .i64 (x5))] ⟨rfl, rfl, rfl, rfl, rfl, trivial⟩ ?_
          refine V.region ?_
          refine W.rd (X.add rfl rfl) rfl rfl rfl ?_
          refine W.rd (X.move rfl) rfl rfl rfl ?_
          refine W.nil ?_
          replace HS := clock_Set.close (({ now := (x6).now, left := ((x6).left).set (x5).toNat (w64 ((((a0).left).getD (x5).toNat 0) - a1)) } : clock_Set)) (by first | exact hi16 | (simp only [List.length_set]; exact hi16)) HS
          have HS : Sep.St [clock_Set.at b0 (({ now := (x6).now, left := ((x6).left).set (x5).toNat (w64 ((((a0).left).getD (x5).toNat 0) - a1)) } : clock_Set)), row 3 1 (.slice ra7 (x9).length rc8) (x9).length ((x9).map (Value.int .i64)), R] w0 w := HS
          exact At.round kq10 (by omega) (w64 (x5 + 1), ({ now := (x6).now, left := ((x6).left).set (x5).toNat (w64 ((((a0).left).getD (x5).toNat 0) - a1)) } : clock_Set), ra7, rc8, x9) ⟨rfl, rfl, rfl, rfl, rfl, trivial⟩ ⟨HS, H, by omega⟩
    · replace H := ite_f c12 H
      refine V.condF (sb (decide_eq_false c12)) ?_
      refine V.exit ?_
      refine At.thenExit ?_
      refine At.thenExit ?_
      refine At.blockExit ?_
      refine At.next ?_
      refine V.keep [(5, Value.slice ra7 (x9).length rc8)] ⟨rfl, trivial⟩ ?_
      refine V.seq ?_
      refine V.region ?_
      refine W.rd (X.move rfl) rfl rfl rfl ?_
      refine W.rd (X.assign rfl) rfl rfl rfl ?_
      refine W.nil ?_
      refine At.next ?_
      refine V.keep [(4, Value.slice ra7 (x9).length rc8)] ⟨rfl, trivial⟩ ?_
      refine V.ret ?_
      replace HS := HS.sel [1, 0, 2] [] rfl
      cases H
      exact At.ret1 rfl rfl ⟨_, rfl, ra7, rc8, rfl, HS⟩

/-! ### (*signalman/clock.Set).Pass: function 10 -/
mutual
def clock_Set_Pass.l0 : Nat → Int → Int → Bool → (List Int) → clock_Set → Option (List Int × clock_Set)
  | 0, _, _, _, _, _ => none
  | k + 1, x7, x8, x9, x12, x13 => (if x9 = true then ((clock_Set_pass.f k x13 x8).bind fun t17 => (if ((x12).length : Int) + (t17.1).length ≤ 1099511627776 then ((clock_Set_soonest.f k t17.2 (w64 (x7 - x8))).bind fun t22 => (clock_Set_Pass.l0 k (w64 (x7 - x8)) t22.1 t22.2 (x12 ++ t17.1) t17.2)) else none)) else ((clock_Set_pass.f k x13 x7).bind fun t24 => some (x12, t24.2)))
end
def clock_Set_Pass.f (k : Nat) (a0 : clock_Set) (a1 : Int) : Option (List Int × clock_Set) := ((clock_Set_soonest.f k ({ now := IntKind.u32.wrap (((a0).now) + (IntKind.u32.wrap (imax (0) (imin (a1) (1073741824))))), left := (a0).left } : clock_Set) (imax (0) (imin (a1) (1073741824)))).bind fun t3 => (clock_Set_Pass.l0 k (imax (0) (imin (a1) (1073741824))) t3.1 t3.2 ([] : List Int) ({ now := IntKind.u32.wrap (((a0).now) + (IntKind.u32.wrap (imax (0) (imin (a1) (1073741824))))), left := (a0).left } : clock_Set)))
set_option maxRecDepth 100000 in
set_option maxHeartbeats 4000000 in
theorem clock_Set_Pass.calls (k : Nat) (a0 : clock_Set) (a1 : Int) (R : As) (w0 w : World) (b0 : Nat) (r : List Int × clock_Set)  (H : clock_Set_Pass.f k a0 a1 = some r) (HS : Sep.St [clock_Set.at b0 (a0), R] w0 w) : Calls Try.prog 10 #[Value.pointer (some ⟨b0, 0, none⟩), Value.int .i64 (a1)] w (Ret fun u w => ∃ (aq0 : Option Addr) (cq0 : Nat), u = Value.slice aq0 (r.1).length cq0 ∧ Sep.St [row 3 1 (.slice aq0 (r.1).length cq0) (r.1).length ((r.1).map (Value.int .i64)), clock_Set.at b0 (r.2), R] w0 w) := by
  unfold clock_Set_Pass.f at H
  refine calls_enter Try.func10 rfl rfl ?_
  have H : _ = some r := H
  refine V.seq ?_
  refine V.region ?_
  refine W.rd (X.assign rfl) rfl rfl rfl ?_
  refine W.nil ?_
  refine At.next ?_
  refine V.keep [(0, Value.pointer (some ⟨b0, 0, none⟩)), (1, Value.int .i64 (a1))] ⟨rfl, rfl, trivial⟩ ?_
  refine V.seq ?_
  refine V.region ?_
  refine W.rd (X.move rfl) rfl rfl rfl ?_
  refine W.rd (X.min2 rfl rfl) rfl rfl rfl ?_
  refine W.rd (X.max2 rfl rfl) rfl rfl rfl ?_
  refine W.rd (X.assign rfl) rfl rfl rfl ?_
  refine W.nil ?_
  refine At.next ?_
  refine V.keep [(0, Value.pointer (some ⟨b0, 0, none⟩)), (1, Value.int .i64 (imax (0) (imin (a1) (1073741824))))] ⟨rfl, rfl, trivial⟩ ?_
  refine V.seq ?_
  refine V.region ?_
  refine W.rd (X.move rfl) rfl rfl rfl ?_
  refine W.rd (X.nilCheck rfl) rfl rfl rfl ?_
  obtain ⟨hi2, HS⟩ := clock_Set.open HS
  have HS : Sep.St [blk b0 (([Value.int .u32 ((a0).now)] ++ ((a0).left).map (Value.int .i64)).toArray) 45, R] w0 w := HS
  refine W.rd (X.fieldAddr 0 fo45_0 rfl) rfl rfl rfl ?_
  refine W.rd (X.loadAt 0 HS rfl Try.underlying26 rfl rfl rfl) rfl rfl rfl ?_
  refine W.rd (X.move rfl) rfl rfl rfl ?_
  refine W.rd (X.conv Try.underlying3 Try.underlying26 rfl) rfl rfl rfl ?_
  refine W.rd (X.add rfl rfl) rfl rfl rfl ?_
  refine W.rd (X.nilCheck rfl) rfl rfl rfl ?_
  refine W.rd (X.fieldAddr 0 fo45_0 rfl) rfl rfl rfl ?_
  refine W.ev_none (Y.storeAt 0 HS rfl inf26 rfl rfl rfl rfl rfl rfl) rfl rfl ?_
  rintro _ w HS
  have HS : Sep.St [blk b0 (([Value.int .u32 (IntKind.u32.wrap (((a0).now) + (IntKind.u32.wrap (imax (0) (imin (a1) (1073741824))))))] ++ ((a0).left).map (Value.int .i64)).toArray) 45, R] w0 w := HS
  refine W.nil ?_
  refine At.next ?_
  refine V.keep [(0, Value.pointer (some ⟨b0, 0, none⟩)), (1, Value.int .i64 (imax (0) (imin (a1) (1073741824))))] ⟨rfl, rfl, trivial⟩ ?_
  refine V.seq ?_
  refine V.region ?_
  refine W.rd (X.assign rfl) rfl rfl rfl ?_
  refine W.nil ?_
  refine At.next ?_
  refine V.keep [(0, Value.pointer (some ⟨b0, 0, none⟩)), (1, Value.int .i64 (imax (0) (imin (a1) (1073741824)))), (5, Value.slice none 0 0)] ⟨rfl, rfl, rfl, trivial⟩ ?_
  refine V.seq ?_
  refine V.seq ?_
  refine V.region ?_
  refine W.rd (X.move rfl) rfl rfl rfl ?_
  refine W.rd (X.move rfl) rfl rfl rfl ?_
  replace HS := clock_Set.close (({ now := IntKind.u32.wrap (((a0).now) + (IntKind.u32.wrap (imax (0) (imin (a1) (1073741824))))), left := (a0).left } : clock_Set)) (by first | exact hi2 | (simp only [List.length_set]; exact hi2)) HS
  have HS : Sep.St [clock_Set.at b0 (({ now := IntKind.u32.wrap (((a0).now) + (IntKind.u32.wrap (imax (0) (imin (a1) (1073741824))))), left := (a0).left } : clock_Set)), R] w0 w := HS
  obtain ⟨t3, A4, H⟩ := bind_s H
  refine W.ev (Y.call Try.func22 (by kernel_rfl) rfl (vs := [Value.pointer (some ⟨b0, 0, none⟩), Value.int .i64 (imax (0) (imin (a1) (1073741824)))]) rfl (clock_Set_soonest.calls k ({ now := IntKind.u32.wrap (((a0).now) + (IntKind.u32.wrap (imax (0) (imin (a1) (1073741824))))), left := (a0).left } : clock_Set) (imax (0) (imin (a1) (1073741824))) _ w0 _ b0 t3  A4 (Sep.St.tailJoin (m := [clock_Set.at b0 (({ now := IntKind.u32.wrap (((a0).now) + (IntKind.u32.wrap (imax (0) (imin (a1) (1073741824))))), left := (a0).left } : clock_Set))]) (r := [R]) HS))) rfl rfl rfl ?_
  rintro _ w ⟨rfl, HS⟩
  replace HS := Sep.St.tailOpen (m := [clock_Set.at b0 (({ now := IntKind.u32.wrap (((a0).now) + (IntKind.u32.wrap (imax (0) (imin (a1) (1073741824))))), left := (a0).left } : clock_Set))]) (r := [R]) HS
  have HS : Sep.St [clock_Set.at b0 (({ now := IntKind.u32.wrap (((a0).now) + (IntKind.u32.wrap (imax (0) (imin (a1) (1073741824))))), left := (a0).left } : clock_Set)), R] w0 w := HS
  refine W.rd (X.move rfl) rfl rfl rfl ?_
  refine W.rd (X.extract rfl rfl) rfl rfl rfl ?_
  refine W.rd (X.extract rfl rfl) rfl rfl rfl ?_
  refine W.rd (X.assign rfl) rfl rfl rfl ?_
  refine W.rd (X.assign rfl) rfl rfl rfl ?_
  refine W.nil ?_
  refine At.next ?_
  refine V.keep [(0, Value.pointer (some ⟨b0, 0, none⟩)), (1, Value.int .i64 (imax (0) (imin (a1) (1073741824)))), (5, Value.slice none 0 0), (6, Value.int .i64 (t3.1)), (7, Value.bool (t3.2))] ⟨rfl, rfl, rfl, rfl, rfl, trivial⟩ ?_
  refine V.block ?_
  replace HS := row_nil' (e := 3) 1 none HS
  have HS : Sep.St [row 3 1 (.slice none (([] : List Int)).length 0) (([] : List Int)).length ((([] : List Int)).map (Value.int .i64)), clock_Set.at b0 (({ now := IntKind.u32.wrap (((a0).now) + (IntKind.u32.wrap (imax (0) (imin (a1) (1073741824))))), left := (a0).left } : clock_Set)), R] w0 w := HS
  refine V.loop (σ := Int × Int × Bool × Option Addr × Nat × List Int × clock_Set) (fun kq (st : Int × Int × Bool × Option Addr × Nat × List Int × clock_Set) w => match st with | (x7, x8, x9, ra10, rc11, x12, x13) => Sep.St [row 3 1 (.slice ra10 (x12).length rc11) (x12).length ((x12).map (Value.int .i64)), clock_Set.at b0 (x13), R] w0 w ∧ clock_Set_Pass.l0 kq x7 x8 x9 x12 x13 = some r ∧ kq ≤ k) (fun st => match st with | (x7, x8, x9, ra10, rc11, x12, x13) => [(0, Value.pointer (some ⟨b0, 0, none⟩)), (1, Value.int .i64 (x7)), (5, Value.slice ra10 (x12).length rc11), (6, Value.int .i64 (x8)), (7, Value.bool (x9))]) k (imax (0) (imin (a1) (1073741824)), t3.1, t3.2, none, 0, ([] : List Int), ({ now := IntKind.u32.wrap (((a0).now) + (IntKind.u32.wrap (imax (0) (imin (a1) (1073741824))))), left := (a0).left } : clock_Set)) ⟨rfl, rfl, rfl, rfl, rfl, trivial⟩ ⟨HS, H, Nat.le_refl _⟩ ?_
  rintro kq14 ⟨x7, x8, x9, ra10, rc11, x12, x13⟩ w ⟨HS, H, hk15⟩
  cases kq14 with
  | zero => exact absurd H (by simp [clock_Set_Pass.l0])
  | succ kq14 =>
    simp only [clock_Set_Pass.l0] at H
    have HS : Sep.St [row 3 1 (.slice ra10 (x12).length rc11) (x12).length ((x12).map (Value.int .i64)), clock_Set.at b0 (x13), R] w0 w := HS
    refine V.seq ?_
    refine V.seq ?_
    refine V.region ?_
    refine W.rd (X.move rfl) rfl rfl rfl ?_
    refine W.nil ?_
    refine At.next ?_
    refine V.keep [(0, Value.pointer (some ⟨b0, 0, none⟩)), (1, Value.int .i64 (x7)), (5, Value.slice ra10 (x12).length rc11), (6, Value.int .i64 (x8)), (26, Value.bool (x9))] ⟨rfl, rfl, rfl, rfl, rfl, trivial⟩ ?_
    by_cases c16 : x9 = true
    · replace H := ite_t c16 H
      refine V.condT (sb c16) ?_
      refine V.skip ?_
      refine At.next ?_
      refine V.keep [(0, Value.pointer (some ⟨b0, 0, none⟩)), (1, Value.int .i64 (x7)), (5, Value.slice ra10 (x12).length rc11), (6, Value.int .i64 (x8))] ⟨rfl, rfl, rfl, rfl, trivial⟩ ?_
      refine V.seq ?_
      refine V.block ?_
      refine V.seq ?_
      refine V.region ?_
      refine W.rd (X.move rfl) rfl rfl rfl ?_
      refine W.rd (X.move rfl) rfl rfl rfl ?_
      refine W.rd (X.move rfl) rfl rfl rfl ?_
      obtain ⟨t17, A18, H⟩ := bind_s H
      replace HS := HS.re [1, 0, 2] rfl
      have HS : Sep.St [clock_Set.at b0 (x13), row 3 1 (.slice ra10 (x12).length rc11) (x12).length ((x12).map (Value.int .i64)), R] w0 w := HS
      refine W.ev (Y.call Try.func23 (by kernel_rfl) rfl (vs := [Value.pointer (some ⟨b0, 0, none⟩), Value.int .i64 (x8)]) rfl (clock_Set_pass.calls kq14 x13 x8 _ w0 _ b0 t17  A18 (Sep.St.tailJoin (m := [clock_Set.at b0 (x13)]) (r := [row 3 1 (.slice ra10 (x12).length rc11) (x12).length ((x12).map (Value.int .i64)), R]) HS))) rfl rfl rfl ?_
      rintro _ w ⟨at17_0, ct17_0, rfl, HS⟩
      replace HS := Sep.St.tailOpen (m := [row 3 1 (.slice at17_0 (t17.1).length ct17_0) (t17.1).length ((t17.1).map (Value.int .i64)), clock_Set.at b0 (t17.2)]) (r := [row 3 1 (.slice ra10 (x12).length rc11) (x12).length ((x12).map (Value.int .i64)), R]) HS
      have HS : Sep.St [row 3 1 (.slice at17_0 (t17.1).length ct17_0) (t17.1).length ((t17.1).map (Value.int .i64)), clock_Set.at b0 (t17.2), row 3 1 (.slice ra10 (x12).length rc11) (x12).length ((x12).map (Value.int .i64)), R] w0 w := HS
      obtain ⟨c19, H⟩ := ite_n H
      refine W.ev (Y.appF (Value.int .i64) (fun _ => rfl) 2 Try.underlying22 ap3 rfl HS rfl rfl rfl (rdC.at 0 row_rd HS rfl) (by omega) (by omega)) rfl rfl rfl ?_
      rintro _ w ⟨ra20, rc21, rfl, HS⟩
      have HS : Sep.St [row 3 1 (.slice at17_0 (t17.1).length ct17_0) (t17.1).length ((t17.1).map (Value.int .i64)), clock_Set.at b0 (t17.2), row 3 1 (.slice ra20 (x12 ++ t17.1).length rc21) (x12 ++ t17.1).length ((x12 ++ t17.1).map (Value.int .i64)), R] w0 w := HS
      refine W.rd (X.assign rfl) rfl rfl rfl ?_
      refine W.nil ?_
      refine At.next ?_
      refine V.keep [(0, Value.pointer (some ⟨b0, 0, none⟩)), (1, Value.int .i64 (x7)), (5, Value.slice ra20 (x12 ++ t17.1).length rc21), (6, Value.int .i64 (x8))] ⟨rfl, rfl, rfl, rfl, trivial⟩ ?_
      refine V.region ?_
      refine W.rd (X.move rfl) rfl rfl rfl ?_
      refine W.rd (X.move rfl) rfl rfl rfl ?_
      refine W.rd (X.sub rfl rfl) rfl rfl rfl ?_
      refine W.rd (X.assign rfl) rfl rfl rfl ?_
      refine W.nil ?_
      refine At.blockEnd ?_
      refine At.next ?_
      refine V.keep [(0, Value.pointer (some ⟨b0, 0, none⟩)), (1, Value.int .i64 (w64 (x7 - x8))), (5, Value.slice ra20 (x12 ++ t17.1).length rc21)] ⟨rfl, rfl, rfl, trivial⟩ ?_
      refine V.region ?_
      refine W.rd (X.move rfl) rfl rfl rfl ?_
      refine W.rd (X.move rfl) rfl rfl rfl ?_
      obtain ⟨t22, A23, H⟩ := bind_s H
      replace HS := HS.re [1, 0, 2, 3] rfl
      have HS : Sep.St [clock_Set.at b0 (t17.2), row 3 1 (.slice at17_0 (t17.1).length ct17_0) (t17.1).length ((t17.1).map (Value.int .i64)), row 3 1 (.slice ra20 (x12 ++ t17.1).length rc21) (x12 ++ t17.1).length ((x12 ++ t17.1).map (Value.int .i64)), R] w0 w := HS
      refine W.ev (Y.call Try.func22 (by kernel_rfl) rfl (vs := [Value.pointer (some ⟨b0, 0, none⟩), Value.int .i64 (w64 (x7 - x8))]) rfl (clock_Set_soonest.calls kq14 t17.2 (w64 (x7 - x8)) _ w0 _ b0 t22  A23 (Sep.St.tailJoin (m := [clock_Set.at b0 (t17.2)]) (r := [row 3 1 (.slice at17_0 (t17.1).length ct17_0) (t17.1).length ((t17.1).map (Value.int .i64)), row 3 1 (.slice ra20 (x12 ++ t17.1).length rc21) (x12 ++ t17.1).length ((x12 ++ t17.1).map (Value.int .i64)), R]) HS))) rfl rfl rfl ?_
      rintro _ w ⟨rfl, HS⟩
      replace HS := Sep.St.tailOpen (m := [clock_Set.at b0 (t17.2)]) (r := [row 3 1 (.slice at17_0 (t17.1).length ct17_0) (t17.1).length ((t17.1).map (Value.int .i64)), row 3 1 (.slice ra20 (x12 ++ t17.1).length rc21) (x12 ++ t17.1).length ((x12 ++ t17.1).map (Value.int .i64)), R]) HS
      have HS : Sep.St [clock_Set.at b0 (t17.2), row 3 1 (.slice at17_0 (t17.1).length ct17_0) (t17.1).length ((t17.1).map (Value.int .i64)), row 3 1 (.slice ra20 (x12 ++ t17.1).length rc21) (x12 ++ t17.1).length ((x12 ++ t17.1).map (Value.int .i64)), R] w0 w := HS
      refine W.rd (X.move rfl) rfl rfl rfl ?_
      refine W.rd (X.extract rfl rfl) rfl rfl rfl ?_
      refine W.rd (X.extract rfl rfl) rfl rfl rfl ?_
      refine W.rd (X.assign rfl) rfl rfl rfl ?_
      refine W.rd (X.assign rfl) rfl rfl rfl ?_
      refine W.nil ?_
      replace HS := HS.sel [2, 0, 3] [1] rfl
      exact At.round kq14 (by omega) (w64 (x7 - x8), t22.1, t22.2, ra20, rc21, x12 ++ t17.1, t17.2) ⟨rfl, rfl, rfl, rfl, rfl, trivial⟩ ⟨HS, H, by omega⟩
    · replace H := ite_f c16 H
      refine V.condF (sb (b_f c16)) ?_
      refine V.exit ?_
      refine At.thenExit ?_
      refine At.thenExit ?_
      refine At.blockExit ?_
      refine At.next ?_
      refine V.keep [(0, Value.pointer (some ⟨b0, 0, none⟩)), (1, Value.int .i64 (x7)), (5, Value.slice ra10 (x12).length rc11)] ⟨rfl, rfl, rfl, trivial⟩ ?_
      refine V.seq ?_
      refine V.region ?_
      refine W.rd (X.move rfl) rfl rfl rfl ?_
      refine W.rd (X.move rfl) rfl rfl rfl ?_
      obtain ⟨t24, A25, H⟩ := bind_s H
      replace HS := HS.re [1, 0, 2] rfl
      have HS : Sep.St [clock_Set.at b0 (x13), row 3 1 (.slice ra10 (x12).length rc11) (x12).length ((x12).map (Value.int .i64)), R] w0 w := HS
      refine W.ev (Y.call Try.func23 (by kernel_rfl) rfl (vs := [Value.pointer (some ⟨b0, 0, none⟩), Value.int .i64 (x7)]) rfl (clock_Set_pass.calls kq14 x13 x7 _ w0 _ b0 t24  A25 (Sep.St.tailJoin (m := [clock_Set.at b0 (x13)]) (r := [row 3 1 (.slice ra10 (x12).length rc11) (x12).length ((x12).map (Value.int .i64)), R]) HS))) rfl rfl rfl ?_
      rintro _ w ⟨at24_0, ct24_0, rfl, HS⟩
      replace HS := Sep.St.tailOpen (m := [row 3 1 (.slice at24_0 (t24.1).length ct24_0) (t24.1).length ((t24.1).map (Value.int .i64)), clock_Set.at b0 (t24.2)]) (r := [row 3 1 (.slice ra10 (x12).length rc11) (x12).length ((x12).map (Value.int .i64)), R]) HS
      have HS : Sep.St [row 3 1 (.slice at24_0 (t24.1).length ct24_0) (t24.1).length ((t24.1).map (Value.int .i64)), clock_Set.at b0 (t24.2), row 3 1 (.slice ra10 (x12).length rc11) (x12).length ((x12).map (Value.int .i64)), R] w0 w := HS
      refine W.nil ?_
      refine At.next ?_
      refine V.keep [(5, Value.slice ra10 (x12).length rc11)] ⟨rfl, trivial⟩ ?_
      refine V.seq ?_
      refine V.region ?_
      refine W.rd (X.move rfl) rfl rfl rfl ?_
      refine W.rd (X.assign rfl) rfl rfl rfl ?_
      refine W.nil ?_
      refine At.next ?_
      refine V.keep [(4, Value.slice ra10 (x12).length rc11)] ⟨rfl, trivial⟩ ?_
      refine V.ret ?_
      replace HS := HS.sel [2, 1, 3] [0] rfl
      cases H
      exact At.ret1 rfl rfl ⟨_, rfl, ra10, rc11, rfl, HS⟩

/-! ### signalman/signalmanlaw7.alive: function 7 -/
def signalmanlaw7_alive.f (k : Nat)  : Option (Bool) := ((clock_New.f 0).bind fun t1 => ((clock_Set_Start.f t1 3 5).bind fun t3 => ((clock_Set_Pass.f k t3.2 5).bind fun t5 => (if t3.1 = true then (if ((t5.1).length : Int) = 1 then (if 0 ≤ (0 : Int) ∧ (0 : Int) < ((t5.1).length : Int) then some (decide (((t5.1).getD ((0 : Int)).toNat 0) = 3)) else none) else some (false)) else some (false)))))
set_option maxRecDepth 100000 in
set_option maxHeartbeats 4000000 in
theorem signalmanlaw7_alive.calls (k : Nat)  (R : As) (w0 w : World)  (r : Bool)  (H : signalmanlaw7_alive.f k  = some r) (HS : Sep.St [R] w0 w) : Calls Try.prog 7 #[] w (Ret fun u w => u = Value.bool (r) ∧ Sep.St [R] w0 w) := by
  unfold signalmanlaw7_alive.f at H
  refine calls_enter Try.func7 rfl rfl ?_
  have H : _ = some r := H
  refine V.seq ?_
  refine V.region ?_
  refine W.rd (X.assign rfl) rfl rfl rfl ?_
  refine W.nil ?_
  refine At.next ?_
  refine V.keep [] trivial ?_
  refine V.seq ?_
  refine V.region ?_
  obtain ⟨t1, A2, H⟩ := bind_s H
  refine W.ev (Y.call Try.func8 (by kernel_rfl) rfl (vs := [Value.int .u32 (0)]) rfl (clock_New.calls 0 _ w0 _  t1  A2 (Sep.St.tailJoin (m := []) (r := [R]) HS))) rfl rfl rfl ?_
  rintro _ w ⟨bt1_0, rfl, HS⟩
  replace HS := Sep.St.tailOpen (m := [clock_Set.at bt1_0 (t1)]) (r := [R]) HS
  have HS : Sep.St [clock_Set.at bt1_0 (t1), R] w0 w := HS
  refine W.rd (X.assign rfl) rfl rfl rfl ?_
  refine W.nil ?_
  refine At.next ?_
  refine V.keep [(1, Value.pointer (some ⟨bt1_0, 0, none⟩))] ⟨rfl, trivial⟩ ?_
  refine V.seq ?_
  refine V.seq ?_
  refine V.region ?_
  refine W.rd (X.move rfl) rfl rfl rfl ?_
  refine W.rd (X.eqP Try.underlying24 rfl rfl) rfl rfl rfl ?_
  refine W.nil ?_
  refine At.next ?_
  refine V.keep [(1, Value.pointer (some ⟨bt1_0, 0, none⟩)), (6, Value.bool (false))] ⟨rfl, rfl, trivial⟩ ?_
  refine V.condF rfl ?_
  refine V.skip ?_
  refine At.next ?_
  refine V.keep [(1, Value.pointer (some ⟨bt1_0, 0, none⟩))] ⟨rfl, trivial⟩ ?_
  refine V.seq ?_
  refine V.region ?_
  refine W.rd (X.move rfl) rfl rfl rfl ?_
  obtain ⟨t3, A4, H⟩ := bind_s H
  refine W.ev (Y.call Try.func9 (by kernel_rfl) rfl (vs := [Value.pointer (some ⟨bt1_0, 0, none⟩), Value.int .i64 (3), Value.int .i64 (5)]) rfl (clock_Set_Start.calls t1 3 5 _ w0 _ bt1_0 t3  A4 (Sep.St.tailJoin (m := [clock_Set.at bt1_0 (t1)]) (r := [R]) HS))) rfl rfl rfl ?_
  rintro _ w ⟨rfl, HS⟩
  replace HS := Sep.St.tailOpen (m := [clock_Set.at bt1_0 (t3.2)]) (r := [R]) HS
  have HS : Sep.St [clock_Set.at bt1_0 (t3.2), R] w0 w := HS
  refine W.rd (X.assign rfl) rfl rfl rfl ?_
  refine W.nil ?_
  refine At.next ?_
  refine V.keep [(1, Value.pointer (some ⟨bt1_0, 0, none⟩)), (2, Value.bool (t3.1))] ⟨rfl, rfl, trivial⟩ ?_
  refine V.seq ?_
  refine V.region ?_
  refine W.rd (X.move rfl) rfl rfl rfl ?_
  obtain ⟨t5, A6, H⟩ := bind_s H
  refine W.ev (Y.call Try.func10 (by kernel_rfl) rfl (vs := [Value.pointer (some ⟨bt1_0, 0, none⟩), Value.int .i64 (5)]) rfl (clock_Set_Pass.calls k t3.2 5 _ w0 _ bt1_0 t5  A6 (Sep.St.tailJoin (m := [clock_Set.at bt1_0 (t3.2)]) (r := [R]) HS))) rfl rfl rfl ?_
  rintro _ w ⟨at5_0, ct5_0, rfl, HS⟩
  replace HS := Sep.St.tailOpen (m := [row 3 1 (.slice at5_0 (t5.1).length ct5_0) (t5.1).length ((t5.1).map (Value.int .i64)), clock_Set.at bt1_0 (t5.2)]) (r := [R]) HS
  have HS : Sep.St [row 3 1 (.slice at5_0 (t5.1).length ct5_0) (t5.1).length ((t5.1).map (Value.int .i64)), clock_Set.at bt1_0 (t5.2), R] w0 w := HS
  refine W.rd (X.assign rfl) rfl rfl rfl ?_
  refine W.nil ?_
  refine At.next ?_
  refine V.keep [(2, Value.bool (t3.1)), (3, Value.slice at5_0 (t5.1).length ct5_0)] ⟨rfl, rfl, trivial⟩ ?_
  refine V.seq ?_
  refine V.region ?_
  refine W.rd (X.move rfl) rfl rfl rfl ?_
  refine W.rd (X.move rfl) rfl rfl rfl ?_
  by_cases c7 : t3.1 = true
  · replace H := ite_t c7 H
    refine W.want 12 rfl (sb c7) ?_
    refine W.rd (X.move rfl) rfl rfl rfl ?_
    refine W.want 12 rfl (sb c7) ?_
    refine W.rd (X.lenSl Try.underlying22 rfl) rfl rfl rfl ?_
    refine W.want 12 rfl (sb c7) ?_
    refine W.rd (X.cmp (decide (((t5.1).length : Int) = 1)) rfl rfl rfl rfl) rfl rfl rfl ?_
    refine W.rd (X.pickT (sb c7) rfl) rfl rfl rfl ?_
    refine W.rd (X.move rfl) rfl rfl rfl ?_
    by_cases c8 : ((t5.1).length : Int) = 1
    · replace H := ite_t c8 H
      refine W.want 17 rfl (sb (decide_eq_true c8)) ?_
      refine W.rd (X.move rfl) rfl rfl rfl ?_
      refine W.want 17 rfl (sb (decide_eq_true c8)) ?_
      obtain ⟨c9, H⟩ := ite_n H
      obtain ⟨eb10, eo11, hh⟩ := ((rdC.at 0 row_rd HS rfl)).some (by decide) c9.1 c9.2; subst hh
      refine W.rd (X.indexSl Try.underlying22 inf3 rfl rfl c9.1 c9.2) rfl rfl rfl ?_
      refine W.want 17 rfl (sb (decide_eq_true c8)) ?_
      refine W.rd (X.load Try.underlying3 rfl rfl (((rdC.at 0 row_rd HS rfl)).cellI c9.1 c9.2)) rfl rfl rfl ?_
      refine W.want 17 rfl (sb (decide_eq_true c8)) ?_
      refine W.rd (X.cmp (decide (((t5.1).getD ((0 : Int)).toNat 0) = 3)) rfl rfl rfl rfl) rfl rfl rfl ?_
      refine W.rd (X.pickT (sb (decide_eq_true c8)) rfl) rfl rfl rfl ?_
      refine W.rd (X.assign rfl) rfl rfl rfl ?_
      refine W.nil ?_
      refine At.next ?_
      refine V.keep [(0, Value.bool (decide (((t5.1).getD ((0 : Int)).toNat 0) = 3)))] ⟨rfl, trivial⟩ ?_
      refine V.ret ?_
      replace HS := HS.sel [2] [0, 1] rfl
      cases H
      exact At.ret1 rfl rfl ⟨_, rfl, rfl, HS⟩
    · replace H := ite_f c8 H
      refine W.pass 17 rfl (sb (decide_eq_false c8)) rfl rfl ?_
      refine W.pass 17 rfl (sb (decide_eq_false c8)) rfl rfl ?_
      refine W.pass 17 rfl (sb (decide_eq_false c8)) rfl rfl ?_
      refine W.pass 17 rfl (sb (decide_eq_false c8)) rfl rfl ?_
      refine W.rd (X.pickF (sb (decide_eq_false c8)) rfl) rfl rfl rfl ?_
      refine W.rd (X.assign rfl) rfl rfl rfl ?_
      refine W.nil ?_
      refine At.next ?_
      refine V.keep [(0, Value.bool (false))] ⟨rfl, trivial⟩ ?_
      refine V.ret ?_
      replace HS := HS.sel [2] [0, 1] rfl
      cases H
      exact At.ret1 rfl rfl ⟨_, rfl, rfl, HS⟩
  · replace H := ite_f c7 H
    refine W.pass 12 rfl (sb (b_f c7)) rfl rfl ?_
    refine W.pass 12 rfl (sb (b_f c7)) rfl rfl ?_
    refine W.pass 12 rfl (sb (b_f c7)) rfl rfl ?_
    refine W.rd (X.pickF (sb (b_f c7)) rfl) rfl rfl rfl ?_
    refine W.rd (X.move rfl) rfl rfl rfl ?_
    refine W.pass 17 rfl rfl rfl rfl ?_
    refine W.pass 17 rfl rfl rfl rfl ?_
    refine W.pass 17 rfl rfl rfl rfl ?_
    refine W.pass 17 rfl rfl rfl rfl ?_
    refine W.rd (X.pickF rfl rfl) rfl rfl rfl ?_
    refine W.rd (X.assign rfl) rfl rfl rfl ?_
    refine W.nil ?_
    refine At.next ?_
    refine V.keep [(0, Value.bool (false))] ⟨rfl, trivial⟩ ?_
    refine V.ret ?_
    replace HS := HS.sel [2] [0, 1] rfl
    cases H
    exact At.ret1 rfl rfl ⟨_, rfl, rfl, HS⟩

/-! ### signalman/signalmanref6.SameInts: function 11 -/
mutual
def signalmanref6_SameInts.l0 : Nat → (List Int) → (List Int) → Int → Option (Bool)
  | 0, _, _, _ => none
  | k + 1, a0, a1, x2 => (if x2 < ((a0).length : Int) then (if 0 ≤ x2 ∧ x2 < ((a0).length : Int) then (if 0 ≤ x2 ∧ x2 < ((a1).length : Int) then (if ((a0).getD (x2).toNat 0) = ((a1).getD (x2).toNat 0) then (signalmanref6_SameInts.l0 k a0 a1 (w64 (x2 + 1))) else some (false)) else none) else none) else some (true))
end
def signalmanref6_SameInts.f (k : Nat) (a0 : List Int) (a1 : List Int) : Option (Bool) := (if ((a0).length : Int) = ((a1).length : Int) then (signalmanref6_SameInts.l0 k a0 a1 0) else some (false))
set_option maxRecDepth 100000 in
set_option maxHeartbeats 4000000 in
theorem signalmanref6_SameInts.calls (k : Nat) (a0 : List Int) (a1 : List Int) (R : As) (w0 w : World) (sa0 : Option Addr) (sc0 : Nat) (sa1 : Option Addr) (sc1 : Nat) (r : Bool) (hr0 : rdC R 1 (.slice sa0 (a0).length sc0) (a0).length ((a0).map (Value.int .i64))) (hr1 : rdC R 1 (.slice sa1 (a1).length sc1) (a1).length ((a1).map (Value.int .i64))) (H : signalmanref6_SameInts.f k a0 a1 = some r) (HS : Sep.St [R] w0 w) : Calls Try.prog 11 #[Value.slice sa0 (a0).length sc0, Value.slice sa1 (a1).length sc1] w (Ret fun u w => u = Value.bool (r) ∧ Sep.St [R] w0 w) := by
  unfold signalmanref6_SameInts.f at H
  refine calls_enter Try.func11 rfl rfl ?_
  have H : _ = some r := H
  refine V.seq ?_
  refine V.region ?_
  refine W.rd (X.assign rfl) rfl rfl rfl ?_
  refine W.nil ?_
  refine At.next ?_
  refine V.keep [(0, Value.slice sa0 (a0).length sc0), (1, Value.slice sa1 (a1).length sc1)] ⟨rfl, rfl, trivial⟩ ?_
  refine V.seq ?_
  refine V.seq ?_
  refine V.region ?_
  refine W.rd (X.move rfl) rfl rfl rfl ?_
  refine W.rd (X.lenSl Try.underlying22 rfl) rfl rfl rfl ?_
  refine W.rd (X.move rfl) rfl rfl rfl ?_
  refine W.rd (X.lenSl Try.underlying22 rfl) rfl rfl rfl ?_
  refine W.rd (X.cmp (!(decide (((a0).length : Int) = ((a1).length : Int)))) rfl rfl rfl rfl) rfl rfl rfl ?_
  refine W.nil ?_
  refine At.next ?_
  refine V.keep [(0, Value.slice sa0 (a0).length sc0), (1, Value.slice sa1 (a1).length sc1), (10, Value.bool (!(decide (((a0).length : Int) = ((a1).length : Int)))))] ⟨rfl, rfl, rfl, trivial⟩ ?_
  by_cases c1 : ((a0).length : Int) = ((a1).length : Int)
  · replace H := ite_t c1 H
    refine V.condF (sb (n_t (decide_eq_true c1))) ?_
    refine V.skip ?_
    refine At.next ?_
    refine V.keep [(0, Value.slice sa0 (a0).length sc0), (1, Value.slice sa1 (a1).length sc1)] ⟨rfl, rfl, trivial⟩ ?_
    refine V.seq ?_
    refine V.seq ?_
    refine V.region ?_
    refine W.rd (X.assign rfl) rfl rfl rfl ?_
    refine W.nil ?_
    refine At.next ?_
    refine V.keep [(0, Value.slice sa0 (a0).length sc0), (1, Value.slice sa1 (a1).length sc1), (5, Value.int .i64 (0))] ⟨rfl, rfl, rfl, trivial⟩ ?_
    refine V.block ?_
    refine V.loop (σ := Int) (fun kq (st : Int) w => match st with | x2 => Sep.St [R] w0 w ∧ signalmanref6_SameInts.l0 kq a0 a1 x2 = some r ∧ kq ≤ k) (fun st => match st with | x2 => [(0, Value.slice sa0 (a0).length sc0), (1, Value.slice sa1 (a1).length sc1), (5, Value.int .i64 (x2))]) k (0) ⟨rfl, rfl, rfl, trivial⟩ ⟨HS, H, Nat.le_refl _⟩ ?_
    rintro kq3 x2 w ⟨HS, H, hk4⟩
    cases kq3 with
    | zero => exact absurd H (by simp [signalmanref6_SameInts.l0])
    | succ kq3 =>
      simp only [signalmanref6_SameInts.l0] at H
      have HS : Sep.St [R] w0 w := HS
      refine V.seq ?_
      refine V.seq ?_
      refine V.region ?_
      refine W.rd (X.move rfl) rfl rfl rfl ?_
      refine W.rd (X.move rfl) rfl rfl rfl ?_
      refine W.rd (X.lenSl Try.underlying22 rfl) rfl rfl rfl ?_
      refine W.rd (X.cmp (decide (x2 < ((a0).length : Int))) rfl rfl rfl rfl) rfl rfl rfl ?_
      refine W.nil ?_
      refine At.next ?_
      refine V.keep [(0, Value.slice sa0 (a0).length sc0), (1, Value.slice sa1 (a1).length sc1), (5, Value.int .i64 (x2)), (14, Value.bool (decide (x2 < ((a0).length : Int))))] ⟨rfl, rfl, rfl, rfl, trivial⟩ ?_
      by_cases c5 : x2 < ((a0).length : Int)
      · replace H := ite_t c5 H
        refine V.condT (sb (decide_eq_true c5)) ?_
        refine V.skip ?_
        refine At.next ?_
        refine V.keep [(0, Value.slice sa0 (a0).length sc0), (1, Value.slice sa1 (a1).length sc1), (5, Value.int .i64 (x2))] ⟨rfl, rfl, rfl, trivial⟩ ?_
        refine V.seq ?_
        refine V.block ?_
        refine V.seq ?_
        obtain ⟨c6, H⟩ := ite_n H
        obtain ⟨eb7, eo8, hh⟩ := ((rdC.at 0 hr0 HS rfl)).some (by decide) c6.1 c6.2; subst hh
        obtain ⟨c9, H⟩ := ite_n H
        obtain ⟨eb10, eo11, hh⟩ := ((rdC.at 0 hr1 HS rfl)).some (by decide) c9.1 c9.2; subst hh
        refine V.draw (es := []) (bl := []) (f := [(17, Value.slice (some ⟨eb7, eo8, none⟩) (a0).length sc0), (18, Value.int .i64 (x2)), (19, Value.pointer (some ⟨eb7, eo8 + (x2).toNat * 1, none⟩)), (20, Value.int .i64 ((a0).getD (x2).toNat 0)), (21, Value.slice (some ⟨eb10, eo11, none⟩) (a1).length sc1), (22, Value.int .i64 (x2)), (23, Value.pointer (some ⟨eb10, eo11 + (x2).toNat * 1, none⟩)), (24, Value.int .i64 ((a1).getD (x2).toNat 0)), (25, Value.bool (!(decide (((a0).getD (x2).toNat 0) = ((a1).getD (x2).toNat 0)))))]) (fun w => Sep.St [R] w0 w) mo HS.drew rfl ?_
        refine T.fin [(0, Value.slice (some ⟨eb7, eo8, none⟩) (a0).length sc0), (1, Value.slice (some ⟨eb10, eo11, none⟩) (a1).length sc1), (5, Value.int .i64 (x2)), (25, Value.bool (!(decide (((a0).getD (x2).toNat 0) = ((a1).getD (x2).toNat 0)))))] rfl ⟨⟨_, Value.slice (some ⟨eb7, eo8, none⟩) (a0).length sc0, [(0, Value.slice (some ⟨eb7, eo8, none⟩) (a0).length sc0)], 17, rfl, rfl, ⟨.inl ⟨rfl, rfl⟩, trivial⟩, .run rfl (fun w HS => X.move rfl), rfl, rfl, rfl⟩, ⟨_, Value.int .i64 (x2), [(5, Value.int .i64 (x2))], 18, rfl, rfl, ⟨.inl ⟨rfl, rfl⟩, trivial⟩, .run rfl (fun w HS => X.move rfl), rfl, rfl, rfl⟩, ⟨_, Value.pointer (some ⟨eb7, eo8 + (x2).toNat * 1, none⟩), [(17, Value.slice (some ⟨eb7, eo8, none⟩) (a0).length sc0), (18, Value.int .i64 (x2))], 19, rfl, rfl, ⟨.inr ⟨rfl, rfl⟩, ⟨.inr ⟨rfl, rfl⟩, trivial⟩⟩, .run rfl (fun w HS => X.indexSl Try.underlying22 inf3 rfl rfl c6.1 c6.2), rfl, rfl, rfl⟩, ⟨_, Value.int .i64 ((a0).getD (x2).toNat 0), [(19, Value.pointer (some ⟨eb7, eo8 + (x2).toNat * 1, none⟩))], 20, rfl, rfl, ⟨.inr ⟨rfl, rfl⟩, trivial⟩, .run rfl (fun w HS => X.load Try.underlying3 rfl rfl (((rdC.at 0 hr0 HS rfl)).cellI c6.1 c6.2)), rfl, rfl, rfl⟩, ⟨_, Value.slice (some ⟨eb10, eo11, none⟩) (a1).length sc1, [(1, Value.slice (some ⟨eb10, eo11, none⟩) (a1).length sc1)], 21, rfl, rfl, ⟨.inl ⟨rfl, rfl⟩, trivial⟩, .run rfl (fun w HS => X.move rfl), rfl, rfl, rfl⟩, ⟨_, Value.int .i64 (x2), [(5, Value.int .i64 (x2))], 22, rfl, rfl, ⟨.inl ⟨rfl, rfl⟩, trivial⟩, .run rfl (fun w HS => X.move rfl), rfl, rfl, rfl⟩, ⟨_, Value.pointer (some ⟨eb10, eo11 + (x2).toNat * 1, none⟩), [(21, Value.slice (some ⟨eb10, eo11, none⟩) (a1).length sc1), (22, Value.int .i64 (x2))], 23, rfl, rfl, ⟨.inr ⟨rfl, rfl⟩, ⟨.inr ⟨rfl, rfl⟩, trivial⟩⟩, .run rfl (fun w HS => X.indexSl Try.underlying22 inf3 rfl rfl c9.1 c9.2), rfl, rfl, rfl⟩, ⟨_, Value.int .i64 ((a1).getD (x2).toNat 0), [(23, Value.pointer (some ⟨eb10, eo11 + (x2).toNat * 1, none⟩))], 24, rfl, rfl, ⟨.inr ⟨rfl, rfl⟩, trivial⟩, .run rfl (fun w HS => X.load Try.underlying3 rfl rfl (((rdC.at 0 hr1 HS rfl)).cellI c9.1 c9.2)), rfl, rfl, rfl⟩, ⟨_, Value.bool (!(decide (((a0).getD (x2).toNat 0) = ((a1).getD (x2).toNat 0)))), [(20, Value.int .i64 ((a0).getD (x2).toNat 0)), (24, Value.int .i64 ((a1).getD (x2).toNat 0))], 25, rfl, rfl, ⟨.inr ⟨rfl, rfl⟩, ⟨.inr ⟨rfl, rfl⟩, trivial⟩⟩, .run rfl (fun w HS => X.cmp (!(decide (((a0).getD (x2).toNat 0) = ((a1).getD (x2).toNat 0)))) rfl rfl rfl rfl), rfl, rfl, rfl⟩, trivial⟩ ⟨.inl ⟨rfl, rfl⟩, ⟨.inl ⟨rfl, rfl⟩, ⟨.inl ⟨rfl, rfl⟩, ⟨.inr ⟨rfl, rfl⟩, trivial⟩⟩⟩⟩ (fun w HS => ?_)
        have HS : Sep.St [R] w0 w := HS
        refine At.next ?_
        refine V.keep [(0, Value.slice (some ⟨eb7, eo8, none⟩) (a0).length sc0), (1, Value.slice (some ⟨eb10, eo11, none⟩) (a1).length sc1), (5, Value.int .i64 (x2)), (25, Value.bool (!(decide (((a0).getD (x2).toNat 0) = ((a1).getD (x2).toNat 0)))))] ⟨rfl, rfl, rfl, rfl, trivial⟩ ?_
        by_cases c12 : ((a0).getD (x2).toNat 0) = ((a1).getD (x2).toNat 0)
        · replace H := ite_t c12 H
          refine V.condF (sb (n_t (decide_eq_true c12))) ?_
          refine V.skip ?_
          refine At.blockEnd ?_
          refine At.next ?_
          refine V.keep [(0, Value.slice (some ⟨eb7, eo8, none⟩) (a0).length sc0), (1, Value.slice (some ⟨eb10, eo11, none⟩) (a1).length sc1), (5, Value.int .i64 (x2))] ⟨rfl, rfl, rfl, trivial⟩ ?_
          refine V.region ?_
          refine W.rd (X.move rfl) rfl rfl rfl ?_
          refine W.rd (X.add rfl rfl) rfl rfl rfl ?_
          refine W.rd (X.assign rfl) rfl rfl rfl ?_
          refine W.nil ?_
          exact At.round kq3 (by omega) (w64 (x2 + 1)) ⟨rfl, rfl, rfl, trivial⟩ ⟨HS, H, by omega⟩
        · replace H := ite_f c12 H
          refine V.condT (sb (n_f (decide_eq_false c12))) ?_
          refine V.seq ?_
          refine V.region ?_
          refine W.rd (X.assign rfl) rfl rfl rfl ?_
          refine W.nil ?_
          refine At.next ?_
          refine V.keep [(4, Value.bool (false))] ⟨rfl, trivial⟩ ?_
          refine V.ret ?_
          refine At.blockRet ?_
          refine At.thenRet ?_
          refine At.thenRet ?_
          refine At.blockRet ?_
          refine At.thenRet ?_
          cases H
          exact At.ret1 rfl rfl ⟨_, rfl, rfl, HS⟩
      · replace H := ite_f c5 H
        refine V.condF (sb (decide_eq_false c5)) ?_
        refine V.exit ?_
        refine At.thenExit ?_
        refine At.thenExit ?_
        refine At.blockExit ?_
        refine At.next ?_
        refine V.keep [] trivial ?_
        refine V.seq ?_
        refine V.region ?_
        refine W.rd (X.assign rfl) rfl rfl rfl ?_
        refine W.nil ?_
        refine At.next ?_
        refine V.keep [(4, Value.bool (true))] ⟨rfl, trivial⟩ ?_
        refine V.ret ?_
        cases H
        exact At.ret1 rfl rfl ⟨_, rfl, rfl, HS⟩
  · replace H := ite_f c1 H
    refine V.condT (sb (n_f (decide_eq_false c1))) ?_
    refine V.seq ?_
    refine V.region ?_
    refine W.rd (X.assign rfl) rfl rfl rfl ?_
    refine W.nil ?_
    refine At.next ?_
    refine V.keep [(4, Value.bool (false))] ⟨rfl, trivial⟩ ?_
    refine V.ret ?_
    refine At.thenRet ?_
    cases H
    exact At.ret1 rfl rfl ⟨_, rfl, rfl, HS⟩

/-! ### signalman/signalmanlaw7.ClockOrders: function 3 -/
mutual
def signalmanlaw7_ClockOrders.l0 : Nat → (List Int) → Int → Int → clock_Set → clock_Set → Option (Bool)
  | 0, _, _, _, _, _ => none
  | k + 1, a0, a1, x13, x14, x15 => (if x13 < ((a0).length : Int) then (if 0 ≤ x13 ∧ x13 < ((a0).length : Int) then ((clock_Set_Start.f x15 x13 (w64 (1 + (iand .i64 ((a0).getD (x13).toNat 0) (255))))).bind fun t22 => ((clock_Set_Start.f x14 x13 (w64 (1 + (iand .i64 ((a0).getD (x13).toNat 0) (255))))).bind fun t24 => (signalmanlaw7_ClockOrders.l0 k a0 a1 (w64 (x13 + 1)) t24.2 t22.2))) else none) else ((clock_Set_Pass.f k x15 a1).bind fun t26 => (signalmanlaw7_ClockOrders.l1 k a0 a1 t26 0 ([] : List Int) x14)))
def signalmanlaw7_ClockOrders.l1 : Nat → (List Int) → Int → (List Int × clock_Set) → Int → (List Int) → clock_Set → Option (Bool)
  | 0, _, _, _, _, _, _ => none
  | k + 1, a0, a1, t26, x30, x33, x34 => (if x30 < a1 then ((clock_Set_Pass.f k x34 1).bind fun t38 => (if ((x33).length : Int) + (t38.1).length ≤ 1099511627776 then (signalmanlaw7_ClockOrders.l1 k a0 a1 t26 (w64 (x30 + 1)) (x33 ++ t38.1) t38.2) else none)) else ((signalmanref6_SameInts.f k t26.1 x33).bind fun t43 => (if t43 = true then (signalmanlaw7_ClockOrders.l2 k a0 a1 0 t26.1) else some (false))))
def signalmanlaw7_ClockOrders.l2 : Nat → (List Int) → Int → Int → (List Int) → Option (Bool)
  | 0, _, _, _, _ => none
  | k + 1, a0, a1, x46, x49 => (if x46 < ((x49).length : Int) then (if 0 ≤ x46 ∧ x46 < ((x49).length : Int) then (if ((x49).getD (x46).toNat 0) < 0 then some (false) else (if ((x49).getD (x46).toNat 0) ≥ ((a0).length : Int) then some (false) else (if 0 ≤ (x49).getD (x46).toNat 0 ∧ (x49).getD (x46).toNat 0 < ((a0).length : Int) then (if (iand .i64 ((a0).getD ((x49).getD (x46).toNat 0).toNat 0) (255)) ≥ a1 then some (false) else (if x46 > 0 then (if 0 ≤ w64 (x46 - 1) ∧ w64 (x46 - 1) < ((x49).length : Int) then (if 0 ≤ (x49).getD (w64 (x46 - 1)).toNat 0 ∧ (x49).getD (w64 (x46 - 1)).toNat 0 < ((a0).length : Int) then (if (iand .i64 ((a0).getD ((x49).getD (w64 (x46 - 1)).toNat 0).toNat 0) (255)) > (iand .i64 ((a0).getD ((x49).getD (x46).toNat 0).toNat 0) (255)) then some (false) else (if (iand .i64 ((a0).getD ((x49).getD (w64 (x46 - 1)).toNat 0).toNat 0) (255)) = (iand .i64 ((a0).getD ((x49).getD (x46).toNat 0).toNat 0) (255)) then (if ((x49).getD (w64 (x46 - 1)).toNat 0) ≥ ((x49).getD (x46).toNat 0) then some (false) else (signalmanlaw7_ClockOrders.l2 k a0 a1 (w64 (x46 + 1)) x49)) else (signalmanlaw7_ClockOrders.l2 k a0 a1 (w64 (x46 + 1)) x49))) else none) else none) else (signalmanlaw7_ClockOrders.l2 k a0 a1 (w64 (x46 + 1)) x49))) else none))) else none) else some (true))
end
def signalmanlaw7_ClockOrders.f (k : Nat) (a0 : List Int) (a1 : Int) : Option (Bool) := ((signalmanlaw7_alive.f k ).bind fun t1 => (if t1 = true then (if ((a0).length : Int) > 32 then some (t1) else (if a1 < 0 then some (t1) else (if a1 > 300 then some (t1) else ((clock_New.f 0).bind fun t7 => ((clock_New.f 0).bind fun t9 => (signalmanlaw7_ClockOrders.l0 k a0 a1 0 t9 t7)))))) else some (t1)))
set_option maxRecDepth 100000 in
set_option maxHeartbeats 4000000 in
theorem signalmanlaw7_ClockOrders.calls (k : Nat) (a0 : List Int) (a1 : Int) (R : As) (w0 w : World) (sa0 : Option Addr) (sc0 : Nat) (r : Bool) (hr0 : rdC R 1 (.slice sa0 (a0).length sc0) (a0).length ((a0).map (Value.int .i64))) (H : signalmanlaw7_ClockOrders.f k a0 a1 = some r) (HS : Sep.St [R] w0 w) : Calls Try.prog 3 #[Value.slice sa0 (a0).length sc0, Value.int .i64 (a1)] w (Ret fun u w => u = Value.bool (r) ∧ Sep.St [R] w0 w) := by
  unfold signalmanlaw7_ClockOrders.f at H
  refine calls_enter Try.func3 rfl rfl ?_
  have H : _ = some r := H
  refine V.seq ?_
  refine V.region ?_
  refine W.rd (X.assign rfl) rfl rfl rfl ?_
  refine W.nil ?_
  refine At.next ?_
  refine V.keep [(0, Value.slice sa0 (a0).length sc0), (1, Value.int .i64 (a1))] ⟨rfl, rfl, trivial⟩ ?_
  refine V.seq ?_
  refine V.region ?_
  obtain ⟨t1, A2, H⟩ := bind_s H
  refine W.ev (Y.call Try.func7 (by kernel_rfl) rfl (vs := []) rfl (signalmanlaw7_alive.calls k  _ w0 _  t1  A2 (Sep.St.tailJoin (m := []) (r := [R]) HS))) rfl rfl rfl ?_
  rintro _ w ⟨rfl, HS⟩
  replace HS := Sep.St.tailOpen (m := []) (r := [R]) HS
  have HS : Sep.St [R] w0 w := HS
  refine W.rd (X.assign rfl) rfl rfl rfl ?_
  refine W.nil ?_
  refine At.next ?_
  refine V.keep [(0, Value.slice sa0 (a0).length sc0), (1, Value.int .i64 (a1)), (5, Value.bool (t1))] ⟨rfl, rfl, rfl, trivial⟩ ?_
  refine V.seq ?_
  refine V.seq ?_
  refine V.region ?_
  refine W.rd (X.move rfl) rfl rfl rfl ?_
  refine W.rd (X.not rfl) rfl rfl rfl ?_
  refine W.rd (X.move rfl) rfl rfl rfl ?_
  by_cases c3 : t1 = true
  · replace H := ite_t c3 H
    refine W.want 17 rfl (sb (n_t c3)) ?_
    refine W.rd (X.move rfl) rfl rfl rfl ?_
    refine W.want 17 rfl (sb (n_t c3)) ?_
    refine W.rd (X.lenSl Try.underlying22 rfl) rfl rfl rfl ?_
    refine W.want 17 rfl (sb (n_t c3)) ?_
    refine W.rd (X.cmp (decide (((a0).length : Int) > 32)) rfl rfl rfl rfl) rfl rfl rfl ?_
    refine W.rd (X.pickF (sb (n_t c3)) rfl) rfl rfl rfl ?_
    refine W.rd (X.move rfl) rfl rfl rfl ?_
    by_cases c4 : ((a0).length : Int) > 32
    · replace H := ite_t c4 H
      refine W.pass 22 rfl (sb (decide_eq_true c4)) rfl rfl ?_
      refine W.pass 22 rfl (sb (decide_eq_true c4)) rfl rfl ?_
      refine W.rd (X.pickT (sb (decide_eq_true c4)) rfl) rfl rfl rfl ?_
      refine W.rd (X.move rfl) rfl rfl rfl ?_
      refine W.pass 26 rfl rfl rfl rfl ?_
      refine W.pass 26 rfl rfl rfl rfl ?_
      refine W.rd (X.pickT rfl rfl) rfl rfl rfl ?_
      refine W.nil ?_
      refine At.next ?_
      refine V.keep [(0, Value.slice sa0 (a0).length sc0), (1, Value.int .i64 (a1)), (5, Value.bool (t1)), (29, Value.bool (true))] ⟨rfl, rfl, rfl, rfl, trivial⟩ ?_
      refine V.condT rfl ?_
      refine V.seq ?_
      refine V.region ?_
      refine W.rd (X.move rfl) rfl rfl rfl ?_
      refine W.rd (X.assign rfl) rfl rfl rfl ?_
      refine W.nil ?_
      refine At.next ?_
      refine V.keep [(4, Value.bool (t1))] ⟨rfl, trivial⟩ ?_
      refine V.ret ?_
      refine At.thenRet ?_
      cases H
      exact At.ret1 rfl rfl ⟨_, rfl, rfl, HS⟩
    · replace H := ite_f c4 H
      refine W.want 22 rfl (sb (decide_eq_false c4)) ?_
      refine W.rd (X.move rfl) rfl rfl rfl ?_
      refine W.want 22 rfl (sb (decide_eq_false c4)) ?_
      refine W.rd (X.cmp (decide (a1 < 0)) rfl rfl rfl rfl) rfl rfl rfl ?_
      refine W.rd (X.pickF (sb (decide_eq_false c4)) rfl) rfl rfl rfl ?_
      refine W.rd (X.move rfl) rfl rfl rfl ?_
      by_cases c5 : a1 < 0
      · replace H := ite_t c5 H
        refine W.pass 26 rfl (sb (decide_eq_true c5)) rfl rfl ?_
        refine W.pass 26 rfl (sb (decide_eq_true c5)) rfl rfl ?_
        refine W.rd (X.pickT (sb (decide_eq_true c5)) rfl) rfl rfl rfl ?_
        refine W.nil ?_
        refine At.next ?_
        refine V.keep [(0, Value.slice sa0 (a0).length sc0), (1, Value.int .i64 (a1)), (5, Value.bool (t1)), (29, Value.bool (true))] ⟨rfl, rfl, rfl, rfl, trivial⟩ ?_
        refine V.condT rfl ?_
        refine V.seq ?_
        refine V.region ?_
        refine W.rd (X.move rfl) rfl rfl rfl ?_
        refine W.rd (X.assign rfl) rfl rfl rfl ?_
        refine W.nil ?_
        refine At.next ?_
        refine V.keep [(4, Value.bool (t1))] ⟨rfl, trivial⟩ ?_
        refine V.ret ?_
        refine At.thenRet ?_
        cases H
        exact At.ret1 rfl rfl ⟨_, rfl, rfl, HS⟩
      · replace H := ite_f c5 H
        refine W.want 26 rfl (sb (decide_eq_false c5)) ?_
        refine W.rd (X.move rfl) rfl rfl rfl ?_
        refine W.want 26 rfl (sb (decide_eq_false c5)) ?_
        refine W.rd (X.cmp (decide (a1 > 300)) rfl rfl rfl rfl) rfl rfl rfl ?_
        refine W.rd (X.pickF (sb (decide_eq_false c5)) rfl) rfl rfl rfl ?_
        refine W.nil ?_
        refine At.next ?_
        refine V.keep [(0, Value.slice sa0 (a0).length sc0), (1, Value.int .i64 (a1)), (5, Value.bool (t1)), (29, Value.bool (decide (a1 > 300)))] ⟨rfl, rfl, rfl, rfl, trivial⟩ ?_
        by_cases c6 : a1 > 300
        · replace H := ite_t c6 H
          refine V.condT (sb (decide_eq_true c6)) ?_
          refine V.seq ?_
          refine V.region ?_
          refine W.rd (X.move rfl) rfl rfl rfl ?_
          refine W.rd (X.assign rfl) rfl rfl rfl ?_
          refine W.nil ?_
          refine At.next ?_
          refine V.keep [(4, Value.bool (t1))] ⟨rfl, trivial⟩ ?_
          refine V.ret ?_
          refine At.thenRet ?_
          cases H
          exact At.ret1 rfl rfl ⟨_, rfl, rfl, HS⟩
        · replace H := ite_f c6 H
          refine V.condF (sb (decide_eq_false c6)) ?_
          refine V.skip ?_
          refine At.next ?_
          refine V.keep [(0, Value.slice sa0 (a0).length sc0), (1, Value.int .i64 (a1))] ⟨rfl, rfl, trivial⟩ ?_
          refine V.seq ?_
          refine V.region ?_
          obtain ⟨t7, A8, H⟩ := bind_s H
          refine W.ev (Y.call Try.func8 (by kernel_rfl) rfl (vs := [Value.int .u32 (0)]) rfl (clock_New.calls 0 _ w0 _  t7  A8 (Sep.St.tailJoin (m := []) (r := [R]) HS))) rfl rfl rfl ?_
          rintro _ w ⟨bt7_0, rfl, HS⟩
          replace HS := Sep.St.tailOpen (m := [clock_Set.at bt7_0 (t7)]) (r := [R]) HS
          have HS : Sep.St [clock_Set.at bt7_0 (t7), R] w0 w := HS
          refine W.rd (X.assign rfl) rfl rfl rfl ?_
          refine W.nil ?_
          refine At.next ?_
          refine V.keep [(0, Value.slice sa0 (a0).length sc0), (1, Value.int .i64 (a1)), (6, Value.pointer (some ⟨bt7_0, 0, none⟩))] ⟨rfl, rfl, rfl, trivial⟩ ?_
          refine V.seq ?_
          refine V.region ?_
          obtain ⟨t9, A10, H⟩ := bind_s H
          refine W.ev (Y.call Try.func8 (by kernel_rfl) rfl (vs := [Value.int .u32 (0)]) rfl (clock_New.calls 0 _ w0 _  t9  A10 (Sep.St.tailJoin (m := []) (r := [clock_Set.at bt7_0 (t7), R]) HS))) rfl rfl rfl ?_
          rintro _ w ⟨bt9_0, rfl, HS⟩
          replace HS := Sep.St.tailOpen (m := [clock_Set.at bt9_0 (t9)]) (r := [clock_Set.at bt7_0 (t7), R]) HS
          have HS : Sep.St [clock_Set.at bt9_0 (t9), clock_Set.at bt7_0 (t7), R] w0 w := HS
          refine W.rd (X.assign rfl) rfl rfl rfl ?_
          refine W.nil ?_
          refine At.next ?_
          refine V.keep [(0, Value.slice sa0 (a0).length sc0), (1, Value.int .i64 (a1)), (6, Value.pointer (some ⟨bt7_0, 0, none⟩)), (7, Value.pointer (some ⟨bt9_0, 0, none⟩))] ⟨rfl, rfl, rfl, rfl, trivial⟩ ?_
          refine V.seq ?_
          refine V.seq ?_
          refine V.region ?_
          refine W.rd (X.assign rfl) rfl rfl rfl ?_
          refine W.nil ?_
          refine At.next ?_
          refine V.keep [(0, Value.slice sa0 (a0).length sc0), (1, Value.int .i64 (a1)), (6, Value.pointer (some ⟨bt7_0, 0, none⟩)), (7, Value.pointer (some ⟨bt9_0, 0, none⟩)), (8, Value.int .i64 (0))] ⟨rfl, rfl, rfl, rfl, rfl, trivial⟩ ?_
          refine V.block ?_
          refine V.loop (σ := Int × clock_Set × clock_Set) (fun kq (st : Int × clock_Set × clock_Set) w => match st with | (x13, x14, x15) => Sep.St [clock_Set.at bt9_0 (x14), clock_Set.at bt7_0 (x15), R] w0 w ∧ signalmanlaw7_ClockOrders.l0 kq a0 a1 x13 x14 x15 = some r ∧ kq ≤ k) (fun st => match st with | (x13, x14, x15) => [(0, Value.slice sa0 (a0).length sc0), (1, Value.int .i64 (a1)), (6, Value.pointer (some ⟨bt7_0, 0, none⟩)), (7, Value.pointer (some ⟨bt9_0, 0, none⟩)), (8, Value.int .i64 (x13))]) k (0, t9, t7) ⟨rfl, rfl, rfl, rfl, rfl, trivial⟩ ⟨HS, H, Nat.le_refl _⟩ ?_
          rintro kq16 ⟨x13, x14, x15⟩ w ⟨HS, H, hk17⟩
          cases kq16 with
          | zero => exact absurd H (by simp [signalmanlaw7_ClockOrders.l0])
          | succ kq16 =>
            simp only [signalmanlaw7_ClockOrders.l0] at H
            have HS : Sep.St [clock_Set.at bt9_0 (x14), clock_Set.at bt7_0 (x15), R] w0 w := HS
            refine V.seq ?_
            refine V.seq ?_
            refine V.region ?_
            refine W.rd (X.move rfl) rfl rfl rfl ?_
            refine W.rd (X.move rfl) rfl rfl rfl ?_
            refine W.rd (X.lenSl Try.underlying22 rfl) rfl rfl rfl ?_
            refine W.rd (X.cmp (decide (x13 < ((a0).length : Int))) rfl rfl rfl rfl) rfl rfl rfl ?_
            refine W.nil ?_
            refine At.next ?_
            refine V.keep [(0, Value.slice sa0 (a0).length sc0), (1, Value.int .i64 (a1)), (6, Value.pointer (some ⟨bt7_0, 0, none⟩)), (7, Value.pointer (some ⟨bt9_0, 0, none⟩)), (8, Value.int .i64 (x13)), (36, Value.bool (decide (x13 < ((a0).length : Int))))] ⟨rfl, rfl, rfl, rfl, rfl, rfl, trivial⟩ ?_
            by_cases c18 : x13 < ((a0).length : Int)
            · replace H := ite_t c18 H
              refine V.condT (sb (decide_eq_true c18)) ?_
              refine V.skip ?_
              refine At.next ?_
              refine V.keep [(0, Value.slice sa0 (a0).length sc0), (1, Value.int .i64 (a1)), (6, Value.pointer (some ⟨bt7_0, 0, none⟩)), (7, Value.pointer (some ⟨bt9_0, 0, none⟩)), (8, Value.int .i64 (x13))] ⟨rfl, rfl, rfl, rfl, rfl, trivial⟩ ?_
              refine V.seq ?_
              refine V.block ?_
              refine V.seq ?_
              refine V.region ?_
              refine W.rd (X.move rfl) rfl rfl rfl ?_
              refine W.rd (X.move rfl) rfl rfl rfl ?_
              obtain ⟨c19, H⟩ := ite_n H
              obtain ⟨eb20, eo21, hh⟩ := ((rdC.at 2 hr0 HS rfl)).some (by decide) c19.1 c19.2; subst hh
              refine W.rd (X.indexSl Try.underlying22 inf3 rfl rfl c19.1 c19.2) rfl rfl rfl ?_
              refine W.rd (X.load Try.underlying3 rfl rfl (((rdC.at 2 hr0 HS rfl)).cellI c19.1 c19.2)) rfl rfl rfl ?_
              refine W.rd (X.and rfl rfl) rfl rfl rfl ?_
              refine W.rd (X.add rfl rfl) rfl rfl rfl ?_
              refine W.rd (X.assign rfl) rfl rfl rfl ?_
              refine W.nil ?_
              refine At.next ?_
              refine V.keep [(0, Value.slice (some ⟨eb20, eo21, none⟩) (a0).length sc0), (1, Value.int .i64 (a1)), (6, Value.pointer (some ⟨bt7_0, 0, none⟩)), (7, Value.pointer (some ⟨bt9_0, 0, none⟩)), (8, Value.int .i64 (x13)), (9, Value.int .i64 (w64 (1 + (iand .i64 ((a0).getD (x13).toNat 0) (255)))))] ⟨rfl, rfl, rfl, rfl, rfl, rfl, trivial⟩ ?_
              refine V.seq ?_
              refine V.region ?_
              refine W.rd (X.move rfl) rfl rfl rfl ?_
              refine W.rd (X.move rfl) rfl rfl rfl ?_
              refine W.rd (X.move rfl) rfl rfl rfl ?_
              obtain ⟨t22, A23, H⟩ := bind_s H
              replace HS := HS.re [1, 0, 2] rfl
              have HS : Sep.St [clock_Set.at bt7_0 (x15), clock_Set.at bt9_0 (x14), R] w0 w := HS
              refine W.ev (Y.call Try.func9 (by kernel_rfl) rfl (vs := [Value.pointer (some ⟨bt7_0, 0, none⟩), Value.int .i64 (x13), Value.int .i64 (w64 (1 + (iand .i64 ((a0).getD (x13).toNat 0) (255))))]) rfl (clock_Set_Start.calls x15 x13 (w64 (1 + (iand .i64 ((a0).getD (x13).toNat 0) (255)))) _ w0 _ bt7_0 t22  A23 (Sep.St.tailJoin (m := [clock_Set.at bt7_0 (x15)]) (r := [clock_Set.at bt9_0 (x14), R]) HS))) rfl rfl rfl ?_
              rintro _ w ⟨rfl, HS⟩
              replace HS := Sep.St.tailOpen (m := [clock_Set.at bt7_0 (t22.2)]) (r := [clock_Set.at bt9_0 (x14), R]) HS
              have HS : Sep.St [clock_Set.at bt7_0 (t22.2), clock_Set.at bt9_0 (x14), R] w0 w := HS
              refine W.nil ?_
              refine At.next ?_
              refine V.keep [(0, Value.slice (some ⟨eb20, eo21, none⟩) (a0).length sc0), (1, Value.int .i64 (a1)), (6, Value.pointer (some ⟨bt7_0, 0, none⟩)), (7, Value.pointer (some ⟨bt9_0, 0, none⟩)), (8, Value.int .i64 (x13)), (9, Value.int .i64 (w64 (1 + (iand .i64 ((a0).getD (x13).toNat 0) (255)))))] ⟨rfl, rfl, rfl, rfl, rfl, rfl, trivial⟩ ?_
              refine V.region ?_
              refine W.rd (X.move rfl) rfl rfl rfl ?_
              refine W.rd (X.move rfl) rfl rfl rfl ?_
              refine W.rd (X.move rfl) rfl rfl rfl ?_
              obtain ⟨t24, A25, H⟩ := bind_s H
              replace HS := HS.re [1, 0, 2] rfl
              have HS : Sep.St [clock_Set.at bt9_0 (x14), clock_Set.at bt7_0 (t22.2), R] w0 w := HS
              refine W.ev (Y.call Try.func9 (by kernel_rfl) rfl (vs := [Value.pointer (some ⟨bt9_0, 0, none⟩), Value.int .i64 (x13), Value.int .i64 (w64 (1 + (iand .i64 ((a0).getD (x13).toNat 0) (255))))]) rfl (clock_Set_Start.calls x14 x13 (w64 (1 + (iand .i64 ((a0).getD (x13).toNat 0) (255)))) _ w0 _ bt9_0 t24  A25 (Sep.St.tailJoin (m := [clock_Set.at bt9_0 (x14)]) (r := [clock_Set.at bt7_0 (t22.2), R]) HS))) rfl rfl rfl ?_
              rintro _ w ⟨rfl, HS⟩
              replace HS := Sep.St.tailOpen (m := [clock_Set.at bt9_0 (t24.2)]) (r := [clock_Set.at bt7_0 (t22.2), R]) HS
              have HS : Sep.St [clock_Set.at bt9_0 (t24.2), clock_Set.at bt7_0 (t22.2), R] w0 w := HS
              refine W.nil ?_
              refine At.blockEnd ?_
              refine At.next ?_
              refine V.keep [(0, Value.slice (some ⟨eb20, eo21, none⟩) (a0).length sc0), (1, Value.int .i64 (a1)), (6, Value.pointer (some ⟨bt7_0, 0, none⟩)), (7, Value.pointer (some ⟨bt9_0, 0, none⟩)), (8, Value.int .i64 (x13))] ⟨rfl, rfl, rfl, rfl, rfl, trivial⟩ ?_
              refine V.region ?_
              refine W.rd (X.move rfl) rfl rfl rfl ?_
              refine W.rd (X.add rfl rfl) rfl rfl rfl ?_
              refine W.rd (X.assign rfl) rfl rfl rfl ?_
              refine W.nil ?_
              exact At.round kq16 (by omega) (w64 (x13 + 1), t24.2, t22.2) ⟨rfl, rfl, rfl, rfl, rfl, trivial⟩ ⟨HS, H, by omega⟩
            · replace H := ite_f c18 H
              refine V.condF (sb (decide_eq_false c18)) ?_
              refine V.exit ?_
              refine At.thenExit ?_
              refine At.thenExit ?_
              refine At.blockExit ?_
              refine At.next ?_
              refine V.keep [(0, Value.slice sa0 (a0).length sc0), (1, Value.int .i64 (a1)), (6, Value.pointer (some ⟨bt7_0, 0, none⟩)), (7, Value.pointer (some ⟨bt9_0, 0, none⟩))] ⟨rfl, rfl, rfl, rfl, trivial⟩ ?_
              refine V.seq ?_
              refine V.region ?_
              refine W.rd (X.move rfl) rfl rfl rfl ?_
              refine W.rd (X.move rfl) rfl rfl rfl ?_
              obtain ⟨t26, A27, H⟩ := bind_s H
              replace HS := HS.re [1, 0, 2] rfl
              have HS : Sep.St [clock_Set.at bt7_0 (x15), clock_Set.at bt9_0 (x14), R] w0 w := HS
              refine W.ev (Y.call Try.func10 (by kernel_rfl) rfl (vs := [Value.pointer (some ⟨bt7_0, 0, none⟩), Value.int .i64 (a1)]) rfl (clock_Set_Pass.calls kq16 x15 a1 _ w0 _ bt7_0 t26  A27 (Sep.St.tailJoin (m := [clock_Set.at bt7_0 (x15)]) (r := [clock_Set.at bt9_0 (x14), R]) HS))) rfl rfl rfl ?_
              rintro _ w ⟨at26_0, ct26_0, rfl, HS⟩
              replace HS := Sep.St.tailOpen (m := [row 3 1 (.slice at26_0 (t26.1).length ct26_0) (t26.1).length ((t26.1).map (Value.int .i64)), clock_Set.at bt7_0 (t26.2)]) (r := [clock_Set.at bt9_0 (x14), R]) HS
              have HS : Sep.St [row 3 1 (.slice at26_0 (t26.1).length ct26_0) (t26.1).length ((t26.1).map (Value.int .i64)), clock_Set.at bt7_0 (t26.2), clock_Set.at bt9_0 (x14), R] w0 w := HS
              refine W.rd (X.assign rfl) rfl rfl rfl ?_
              refine W.nil ?_
              refine At.next ?_
              refine V.keep [(0, Value.slice sa0 (a0).length sc0), (1, Value.int .i64 (a1)), (7, Value.pointer (some ⟨bt9_0, 0, none⟩)), (10, Value.slice at26_0 (t26.1).length ct26_0)] ⟨rfl, rfl, rfl, rfl, trivial⟩ ?_
              refine V.seq ?_
              refine V.region ?_
              refine W.rd (X.assign rfl) rfl rfl rfl ?_
              refine W.nil ?_
              refine At.next ?_
              refine V.keep [(0, Value.slice sa0 (a0).length sc0), (1, Value.int .i64 (a1)), (7, Value.pointer (some ⟨bt9_0, 0, none⟩)), (10, Value.slice at26_0 (t26.1).length ct26_0), (11, Value.slice none 0 0)] ⟨rfl, rfl, rfl, rfl, rfl, trivial⟩ ?_
              refine V.seq ?_
              refine V.seq ?_
              refine V.region ?_
              refine W.rd (X.assign rfl) rfl rfl rfl ?_
              refine W.nil ?_
              refine At.next ?_
              refine V.keep [(0, Value.slice sa0 (a0).length sc0), (1, Value.int .i64 (a1)), (7, Value.pointer (some ⟨bt9_0, 0, none⟩)), (10, Value.slice at26_0 (t26.1).length ct26_0), (11, Value.slice none 0 0), (12, Value.int .i64 (0))] ⟨rfl, rfl, rfl, rfl, rfl, rfl, trivial⟩ ?_
              refine V.block ?_
              replace HS := row_nil' (e := 3) 1 none HS
              have HS : Sep.St [row 3 1 (.slice none (([] : List Int)).length 0) (([] : List Int)).length ((([] : List Int)).map (Value.int .i64)), row 3 1 (.slice at26_0 (t26.1).length ct26_0) (t26.1).length ((t26.1).map (Value.int .i64)), clock_Set.at bt7_0 (t26.2), clock_Set.at bt9_0 (x14), R] w0 w := HS
              refine V.loop (σ := Int × Option Addr × Nat × List Int × clock_Set) (fun kq (st : Int × Option Addr × Nat × List Int × clock_Set) w => match st with | (x30, ra31, rc32, x33, x34) => Sep.St [row 3 1 (.slice ra31 (x33).length rc32) (x33).length ((x33).map (Value.int .i64)), row 3 1 (.slice at26_0 (t26.1).length ct26_0) (t26.1).length ((t26.1).map (Value.int .i64)), clock_Set.at bt7_0 (t26.2), clock_Set.at bt9_0 (x34), R] w0 w ∧ signalmanlaw7_ClockOrders.l1 kq a0 a1 t26 x30 x33 x34 = some r ∧ kq ≤ kq16) (fun st => match st with | (x30, ra31, rc32, x33, x34) => [(0, Value.slice sa0 (a0).length sc0), (1, Value.int .i64 (a1)), (7, Value.pointer (some ⟨bt9_0, 0, none⟩)), (10, Value.slice at26_0 (t26.1).length ct26_0), (11, Value.slice ra31 (x33).length rc32), (12, Value.int .i64 (x30))]) kq16 (0, none, 0, ([] : List Int), x14) ⟨rfl, rfl, rfl, rfl, rfl, rfl, trivial⟩ ⟨HS, H, Nat.le_refl _⟩ ?_
              rintro kq35 ⟨x30, ra31, rc32, x33, x34⟩ w ⟨HS, H, hk36⟩
              cases kq35 with
              | zero => exact absurd H (by simp [signalmanlaw7_ClockOrders.l1])
              | succ kq35 =>
                simp only [signalmanlaw7_ClockOrders.l1] at H
                have HS : Sep.St [row 3 1 (.slice ra31 (x33).length rc32) (x33).length ((x33).map (Value.int .i64)), row 3 1 (.slice at26_0 (t26.1).length ct26_0) (t26.1).length ((t26.1).map (Value.int .i64)), clock_Set.at bt7_0 (t26.2), clock_Set.at bt9_0 (x34), R] w0 w := HS
                refine V.seq ?_
                refine V.seq ?_
                refine V.region ?_
                refine W.rd (X.move rfl) rfl rfl rfl ?_
                refine W.rd (X.move rfl) rfl rfl rfl ?_
                refine W.rd (X.cmp (decide (x30 < a1)) rfl rfl rfl rfl) rfl rfl rfl ?_
                refine W.nil ?_
                refine At.next ?_
                refine V.keep [(0, Value.slice sa0 (a0).length sc0), (1, Value.int .i64 (a1)), (7, Value.pointer (some ⟨bt9_0, 0, none⟩)), (10, Value.slice at26_0 (t26.1).length ct26_0), (11, Value.slice ra31 (x33).length rc32), (12, Value.int .i64 (x30)), (58, Value.bool (decide (x30 < a1)))] ⟨rfl, rfl, rfl, rfl, rfl, rfl, rfl, trivial⟩ ?_
                by_cases c37 : x30 < a1
                · replace H := ite_t c37 H
                  refine V.condT (sb (decide_eq_true c37)) ?_
                  refine V.skip ?_
                  refine At.next ?_
                  refine V.keep [(0, Value.slice sa0 (a0).length sc0), (1, Value.int .i64 (a1)), (7, Value.pointer (some ⟨bt9_0, 0, none⟩)), (10, Value.slice at26_0 (t26.1).length ct26_0), (11, Value.slice ra31 (x33).length rc32), (12, Value.int .i64 (x30))] ⟨rfl, rfl, rfl, rfl, rfl, rfl, trivial⟩ ?_
                  refine V.seq ?_
                  refine V.block ?_
                  refine V.region ?_
                  refine W.rd (X.move rfl) rfl rfl rfl ?_
                  refine W.rd (X.move rfl) rfl rfl rfl ?_
                  obtain ⟨t38, A39, H⟩ := bind_s H
                  replace HS := HS.re [3, 0, 1, 2, 4] rfl
                  have HS : Sep.St [clock_Set.at bt9_0 (x34), row 3 1 (.slice ra31 (x33).length rc32) (x33).length ((x33).map (Value.int .i64)), row 3 1 (.slice at26_0 (t26.1).length ct26_0) (t26.1).length ((t26.1).map (Value.int .i64)), clock_Set.at bt7_0 (t26.2), R] w0 w := HS
                  refine W.ev (Y.call Try.func10 (by kernel_rfl) rfl (vs := [Value.pointer (some ⟨bt9_0, 0, none⟩), Value.int .i64 (1)]) rfl (clock_Set_Pass.calls kq35 x34 1 _ w0 _ bt9_0 t38  A39 (Sep.St.tailJoin (m := [clock_Set.at bt9_0 (x34)]) (r := [row 3 1 (.slice ra31 (x33).length rc32) (x33).length ((x33).map (Value.int .i64)), row 3 1 (.slice at26_0 (t26.1).length ct26_0) (t26.1).length ((t26.1).map (Value.int .i64)), clock_Set.at bt7_0 (t26.2), R]) HS))) rfl rfl rfl ?_
                  rintro _ w ⟨at38_0, ct38_0, rfl, HS⟩
                  replace HS := Sep.St.tailOpen (m := [row 3 1 (.slice at38_0 (t38.1).length ct38_0) (t38.1).length ((t38.1).map (Value.int .i64)), clock_Set.at bt9_0 (t38.2)]) (r := [row 3 1 (.slice ra31 (x33).length rc32) (x33).length ((x33).map (Value.int .i64)), row 3 1 (.slice at26_0 (t26.1).length ct26_0) (t26.1).length ((t26.1).map (Value.int .i64)), clock_Set.at bt7_0 (t26.2), R]) HS
                  have HS : Sep.St [row 3 1 (.slice at38_0 (t38.1).length ct38_0) (t38.1).length ((t38.1).map (Value.int .i64)), clock_Set.at bt9_0 (t38.2), row 3 1 (.slice ra31 (x33).length rc32) (x33).length ((x33).map (Value.int .i64)), row 3 1 (.slice at26_0 (t26.1).length ct26_0) (t26.1).length ((t26.1).map (Value.int .i64)), clock_Set.at bt7_0 (t26.2), R] w0 w := HS
                  obtain ⟨c40, H⟩ := ite_n H
                  refine W.ev (Y.appF (Value.int .i64) (fun _ => rfl) 2 Try.underlying22 ap3 rfl HS rfl rfl rfl (rdC.at 0 row_rd HS rfl) (by omega) (by omega)) rfl rfl rfl ?_
                  rintro _ w ⟨ra41, rc42, rfl, HS⟩
                  have HS : Sep.St [row 3 1 (.slice at38_0 (t38.1).length ct38_0) (t38.1).length ((t38.1).map (Value.int .i64)), clock_Set.at bt9_0 (t38.2), row 3 1 (.slice ra41 (x33 ++ t38.1).length rc42) (x33 ++ t38.1).length ((x33 ++ t38.1).map (Value.int .i64)), row 3 1 (.slice at26_0 (t26.1).length ct26_0) (t26.1).length ((t26.1).map (Value.int .i64)), clock_Set.at bt7_0 (t26.2), R] w0 w := HS
                  refine W.rd (X.assign rfl) rfl rfl rfl ?_
                  refine W.nil ?_
                  refine At.blockEnd ?_
                  refine At.next ?_
                  refine V.keep [(0, Value.slice sa0 (a0).length sc0), (1, Value.int .i64 (a1)), (7, Value.pointer (some ⟨bt9_0, 0, none⟩)), (10, Value.slice at26_0 (t26.1).length ct26_0), (11, Value.slice ra41 (x33 ++ t38.1).length rc42), (12, Value.int .i64 (x30))] ⟨rfl, rfl, rfl, rfl, rfl, rfl, trivial⟩ ?_
                  refine V.region ?_
                  refine W.rd (X.move rfl) rfl rfl rfl ?_
                  refine W.rd (X.add rfl rfl) rfl rfl rfl ?_
                  refine W.rd (X.assign rfl) rfl rfl rfl ?_
                  refine W.nil ?_
                  replace HS := HS.sel [2, 3, 4, 1, 5] [0] rfl
                  exact At.round kq35 (by omega) (w64 (x30 + 1), ra41, rc42, x33 ++ t38.1, t38.2) ⟨rfl, rfl, rfl, rfl, rfl, rfl, trivial⟩ ⟨HS, H, by omega⟩
                · replace H := ite_f c37 H
                  refine V.condF (sb (decide_eq_false c37)) ?_
                  refine V.exit ?_
                  refine At.thenExit ?_
                  refine At.thenExit ?_
                  refine At.blockExit ?_
                  refine At.next ?_
                  refine V.keep [(0, Value.slice sa0 (a0).length sc0), (1, Value.int .i64 (a1)), (10, Value.slice at26_0 (t26.1).length ct26_0), (11, Value.slice ra31 (x33).length rc32)] ⟨rfl, rfl, rfl, rfl, trivial⟩ ?_
                  refine V.seq ?_
                  refine V.seq ?_
                  refine V.region ?_
                  refine W.rd (X.move rfl) rfl rfl rfl ?_
                  refine W.rd (X.move rfl) rfl rfl rfl ?_
                  obtain ⟨t43, A44, H⟩ := bind_s H
                  refine W.ev (Y.call Try.func11 (by kernel_rfl) rfl (vs := [Value.slice at26_0 (t26.1).length ct26_0, Value.slice ra31 (x33).length rc32]) rfl (signalmanref6_SameInts.calls kq35 t26.1 x33 _ w0 _ at26_0 ct26_0 ra31 rc32 t43 (rdC.part 1 row_rd rfl) (rdC.part 0 row_rd rfl) A44 (Sep.St.tailJoin (m := []) (r := [row 3 1 (.slice ra31 (x33).length rc32) (x33).length ((x33).map (Value.int .i64)), row 3 1 (.slice at26_0 (t26.1).length ct26_0) (t26.1).length ((t26.1).map (Value.int .i64)), clock_Set.at bt7_0 (t26.2), clock_Set.at bt9_0 (x34), R]) HS))) rfl rfl rfl ?_
                  rintro _ w ⟨rfl, HS⟩
                  replace HS := Sep.St.tailOpen (m := []) (r := [row 3 1 (.slice ra31 (x33).length rc32) (x33).length ((x33).map (Value.int .i64)), row 3 1 (.slice at26_0 (t26.1).length ct26_0) (t26.1).length ((t26.1).map (Value.int .i64)), clock_Set.at bt7_0 (t26.2), clock_Set.at bt9_0 (x34), R]) HS
                  have HS : Sep.St [row 3 1 (.slice ra31 (x33).length rc32) (x33).length ((x33).map (Value.int .i64)), row 3 1 (.slice at26_0 (t26.1).length ct26_0) (t26.1).length ((t26.1).map (Value.int .i64)), clock_Set.at bt7_0 (t26.2), clock_Set.at bt9_0 (x34), R] w0 w := HS
                  refine W.rd (X.not rfl) rfl rfl rfl ?_
                  refine W.nil ?_
                  refine At.next ?_
                  refine V.keep [(0, Value.slice sa0 (a0).length sc0), (1, Value.int .i64 (a1)), (10, Value.slice at26_0 (t26.1).length ct26_0), (68, Value.bool (!(t43)))] ⟨rfl, rfl, rfl, rfl, trivial⟩ ?_
                  by_cases c45 : t43 = true
                  · replace H := ite_t c45 H
                    refine V.condF (sb (n_t c45)) ?_
                    refine V.skip ?_
                    refine At.next ?_
                    refine V.keep [(0, Value.slice sa0 (a0).length sc0), (1, Value.int .i64 (a1)), (10, Value.slice at26_0 (t26.1).length ct26_0)] ⟨rfl, rfl, rfl, trivial⟩ ?_
                    refine V.seq ?_
                    refine V.seq ?_
                    refine V.region ?_
                    refine W.rd (X.assign rfl) rfl rfl rfl ?_
                    refine W.nil ?_
                    refine At.next ?_
                    refine V.keep [(0, Value.slice sa0 (a0).length sc0), (1, Value.int .i64 (a1)), (10, Value.slice at26_0 (t26.1).length ct26_0), (13, Value.int .i64 (0))] ⟨rfl, rfl, rfl, rfl, trivial⟩ ?_
                    refine V.block ?_
                    refine V.loop (σ := Int × Option Addr × Nat × List Int) (fun kq (st : Int × Option Addr × Nat × List Int) w => match st with | (x46, ra47, rc48, x49) => Sep.St [row 3 1 (.slice ra31 (x33).length rc32) (x33).length ((x33).map (Value.int .i64)), row 3 1 (.slice ra47 (x49).length rc48) (x49).length ((x49).map (Value.int .i64)), clock_Set.at bt7_0 (t26.2), clock_Set.at bt9_0 (x34), R] w0 w ∧ signalmanlaw7_ClockOrders.l2 kq a0 a1 x46 x49 = some r ∧ kq ≤ kq35) (fun st => match st with | (x46, ra47, rc48, x49) => [(0, Value.slice sa0 (a0).length sc0), (1, Value.int .i64 (a1)), (10, Value.slice ra47 (x49).length rc48), (13, Value.int .i64 (x46))]) kq35 (0, at26_0, ct26_0, t26.1) ⟨rfl, rfl, rfl, rfl, trivial⟩ ⟨HS, H, Nat.le_refl _⟩ ?_
                    rintro kq50 ⟨x46, ra47, rc48, x49⟩ w ⟨HS, H, hk51⟩
                    cases kq50 with
                    | zero => exact absurd H (by simp [signalmanlaw7_ClockOrders.l2])
                    | succ kq50 =>
                      simp only [signalmanlaw7_ClockOrders.l2] at H
                      have HS : Sep.St [row 3 1 (.slice ra31 (x33).length rc32) (x33).length ((x33).map (Value.int .i64)), row 3 1 (.slice ra47 (x49).length rc48) (x49).length ((x49).map (Value.int .i64)), clock_Set.at bt7_0 (t26.2), clock_Set.at bt9_0 (x34), R] w0 w := HS
                      refine V.seq ?_
                      refine V.seq ?_
                      refine V.region ?_
                      refine W.rd (X.move rfl) rfl rfl rfl ?_
                      refine W.rd (X.move rfl) rfl rfl rfl ?_
                      refine W.rd (X.lenSl Try.underlying22 rfl) rfl rfl rfl ?_
                      refine W.rd (X.cmp (decide (x46 < ((x49).length : Int))) rfl rfl rfl rfl) rfl rfl rfl ?_
                      refine W.nil ?_
                      refine At.next ?_
                      refine V.keep [(0, Value.slice sa0 (a0).length sc0), (1, Value.int .i64 (a1)), (10, Value.slice ra47 (x49).length rc48), (13, Value.int .i64 (x46)), (72, Value.bool (decide (x46 < ((x49).length : Int))))] ⟨rfl, rfl, rfl, rfl, rfl, trivial⟩ ?_
                      by_cases c52 : x46 < ((x49).length : Int)
                      · replace H := ite_t c52 H
                        refine V.condT (sb (decide_eq_true c52)) ?_
                        refine V.skip ?_
                        refine At.next ?_
                        refine V.keep [(0, Value.slice sa0 (a0).length sc0), (1, Value.int .i64 (a1)), (10, Value.slice ra47 (x49).length rc48), (13, Value.int .i64 (x46))] ⟨rfl, rfl, rfl, rfl, trivial⟩ ?_
                        refine V.seq ?_
                        refine V.block ?_
                        refine V.seq ?_
                        refine V.seq ?_
                        refine V.region ?_
                        refine W.rd (X.move rfl) rfl rfl rfl ?_
                        refine W.rd (X.move rfl) rfl rfl rfl ?_
                        obtain ⟨c53, H⟩ := ite_n H
                        obtain ⟨eb54, eo55, hh⟩ := ((rdC.at 1 row_rd HS rfl)).some (by decide) c53.1 c53.2; subst hh
                        refine W.rd (X.indexSl Try.underlying22 inf3 rfl rfl c53.1 c53.2) rfl rfl rfl ?_
                        refine W.rd (X.load Try.underlying3 rfl rfl (((rdC.at 1 row_rd HS rfl)).cellI c53.1 c53.2)) rfl rfl rfl ?_
                        refine W.rd (X.cmp (decide (((x49).getD (x46).toNat 0) < 0)) rfl rfl rfl rfl) rfl rfl rfl ?_
                        refine W.rd (X.move rfl) rfl rfl rfl ?_
                        by_cases c56 : ((x49).getD (x46).toNat 0) < 0
                        · replace H := ite_t c56 H
                          refine W.pass 80 rfl (sb (decide_eq_true c56)) rfl rfl ?_
                          refine W.pass 80 rfl (sb (decide_eq_true c56)) rfl rfl ?_
                          refine W.pass 80 rfl (sb (decide_eq_true c56)) rfl rfl ?_
                          refine W.pass 80 rfl (sb (decide_eq_true c56)) rfl rfl ?_
                          refine W.pass 80 rfl (sb (decide_eq_true c56)) rfl rfl ?_
                          refine W.pass 80 rfl (sb (decide_eq_true c56)) rfl rfl ?_
                          refine W.pass 80 rfl (sb (decide_eq_true c56)) rfl rfl ?_
                          refine W.rd (X.pickT (sb (decide_eq_true c56)) rfl) rfl rfl rfl ?_
                          refine W.rd (X.move rfl) rfl rfl rfl ?_
                          refine W.pass 89 rfl rfl rfl rfl ?_
                          refine W.pass 89 rfl rfl rfl rfl ?_
                          refine W.pass 89 rfl rfl rfl rfl ?_
                          refine W.pass 89 rfl rfl rfl rfl ?_
                          refine W.pass 89 rfl rfl rfl rfl ?_
                          refine W.pass 89 rfl rfl rfl rfl ?_
                          refine W.pass 89 rfl rfl rfl rfl ?_
                          refine W.pass 89 rfl rfl rfl rfl ?_
                          refine W.pass 89 rfl rfl rfl rfl ?_
                          refine W.pass 89 rfl rfl rfl rfl ?_
                          refine W.rd (X.pickT rfl rfl) rfl rfl rfl ?_
                          refine W.nil ?_
                          refine At.next ?_
                          refine V.keep [(0, Value.slice sa0 (a0).length sc0), (1, Value.int .i64 (a1)), (10, Value.slice (some ⟨eb54, eo55, none⟩) (x49).length rc48), (13, Value.int .i64 (x46)), (81, undef), (82, undef), (83, undef), (84, undef), (85, undef), (86, undef), (87, undef), (90, undef), (91, undef), (92, undef), (93, undef), (94, undef), (95, undef), (96, undef), (97, undef), (98, undef), (99, undef), (100, Value.bool (true))] ⟨rfl, rfl, rfl, rfl, rfl, rfl, rfl, rfl, rfl, rfl, rfl, rfl, rfl, rfl, rfl, rfl, rfl, rfl, rfl, rfl, rfl, rfl, trivial⟩ ?_
                          refine V.condT rfl ?_
                          refine V.seq ?_
                          refine V.region ?_
                          refine W.rd (X.assign rfl) rfl rfl rfl ?_
                          refine W.nil ?_
                          refine At.next ?_
                          refine V.keep [(4, Value.bool (false))] ⟨rfl, trivial⟩ ?_
                          refine V.ret ?_
                          refine At.thenRet ?_
                          refine At.blockRet ?_
                          refine At.thenRet ?_
                          refine At.thenRet ?_
                          refine At.blockRet ?_
                          refine At.thenRet ?_
                          replace HS := HS.sel [4] [0, 1, 2, 3] rfl
                          cases H
                          exact At.ret1 rfl rfl ⟨_, rfl, rfl, HS⟩
                        · replace H := ite_f c56 H
                          refine W.want 80 rfl (sb (decide_eq_false c56)) ?_
                          refine W.rd (X.move rfl) rfl rfl rfl ?_
                          refine W.want 80 rfl (sb (decide_eq_false c56)) ?_
                          refine W.rd (X.move rfl) rfl rfl rfl ?_
                          refine W.want 80 rfl (sb (decide_eq_false c56)) ?_
                          refine W.rd (X.indexSl Try.underlying22 inf3 rfl rfl c53.1 c53.2) rfl rfl rfl ?_
                          refine W.want 80 rfl (sb (decide_eq_false c56)) ?_
                          refine W.rd (X.load Try.underlying3 rfl rfl (((rdC.at 1 row_rd HS rfl)).cellI c53.1 c53.2)) rfl rfl rfl ?_
                          refine W.want 80 rfl (sb (decide_eq_false c56)) ?_
                          refine W.rd (X.move rfl) rfl rfl rfl ?_
                          refine W.want 80 rfl (sb (decide_eq_false c56)) ?_
                          refine W.rd (X.lenSl Try.underlying22 rfl) rfl rfl rfl ?_
                          refine W.want 80 rfl (sb (decide_eq_false c56)) ?_
                          refine W.rd (X.cmp (decide (((x49).getD (x46).toNat 0) ≥ ((a0).length : Int))) rfl rfl rfl rfl) rfl rfl rfl ?_
                          refine W.rd (X.pickF (sb (decide_eq_false c56)) rfl) rfl rfl rfl ?_
                          refine W.rd (X.move rfl) rfl rfl rfl ?_
                          by_cases c57 : ((x49).getD (x46).toNat 0) ≥ ((a0).length : Int)
                          · replace H := ite_t c57 H
                            refine W.pass 89 rfl (sb (decide_eq_true c57)) rfl rfl ?_
                            refine W.pass 89 rfl (sb (decide_eq_true c57)) rfl rfl ?_
                            refine W.pass 89 rfl (sb (decide_eq_true c57)) rfl rfl ?_
                            refine W.pass 89 rfl (sb (decide_eq_true c57)) rfl rfl ?_
                            refine W.pass 89 rfl (sb (decide_eq_true c57)) rfl rfl ?_
                            refine W.pass 89 rfl (sb (decide_eq_true c57)) rfl rfl ?_
                            refine W.pass 89 rfl (sb (decide_eq_true c57)) rfl rfl ?_
                            refine W.pass 89 rfl (sb (decide_eq_true c57)) rfl rfl ?_
                            refine W.pass 89 rfl (sb (decide_eq_true c57)) rfl rfl ?_
                            refine W.pass 89 rfl (sb (decide_eq_true c57)) rfl rfl ?_
                            refine W.rd (X.pickT (sb (decide_eq_true c57)) rfl) rfl rfl rfl ?_
                            refine W.nil ?_
                            refine At.next ?_
                            refine V.keep [(0, Value.slice sa0 (a0).length sc0), (1, Value.int .i64 (a1)), (10, Value.slice (some ⟨eb54, eo55, none⟩) (x49).length rc48), (13, Value.int .i64 (x46)), (81, Value.slice (some ⟨eb54, eo55, none⟩) (x49).length rc48), (82, Value.int .i64 (x46)), (83, Value.pointer (some ⟨eb54, eo55 + (x46).toNat * 1, none⟩)), (84, Value.int .i64 ((x49).getD (x46).toNat 0)), (85, Value.slice sa0 (a0).length sc0), (86, Value.int .i64 (((a0).length : Int))), (87, Value.bool (decide (((x49).getD (x46).toNat 0) ≥ ((a0).length : Int)))), (90, undef), (91, undef), (92, undef), (93, undef), (94, undef), (95, undef), (96, undef), (97, undef), (98, undef), (99, undef), (100, Value.bool (true))] ⟨rfl, rfl, rfl, rfl, rfl, rfl, rfl, rfl, rfl, rfl, rfl, rfl, rfl, rfl, rfl, rfl, rfl, rfl, rfl, rfl, rfl, rfl, trivial⟩ ?_
                            refine V.condT rfl ?_
                            refine V.seq ?_
                            refine V.region ?_
                            refine W.rd (X.assign rfl) rfl rfl rfl ?_
                            refine W.nil ?_
                            refine At.next ?_
                            refine V.keep [(4, Value.bool (false))] ⟨rfl, trivial⟩ ?_
                            refine V.ret ?_
                            refine At.thenRet ?_
                            refine At.blockRet ?_
                            refine At.thenRet ?_
                            refine At.thenRet ?_
                            refine At.blockRet ?_
                            refine At.thenRet ?_
                            replace HS := HS.sel [4] [0, 1, 2, 3] rfl
                            cases H
                            exact At.ret1 rfl rfl ⟨_, rfl, rfl, HS⟩
                          · replace H := ite_f c57 H
                            refine W.want 89 rfl (sb (decide_eq_false c57)) ?_
                            refine W.rd (X.move rfl) rfl rfl rfl ?_
                            refine W.want 89 rfl (sb (decide_eq_false c57)) ?_
                            refine W.rd (X.move rfl) rfl rfl rfl ?_
                            refine W.want 89 rfl (sb (decide_eq_false c57)) ?_
                            refine W.rd (X.move rfl) rfl rfl rfl ?_
                            refine W.want 89 rfl (sb (decide_eq_false c57)) ?_
                            refine W.rd (X.indexSl Try.underlying22 inf3 rfl rfl c53.1 c53.2) rfl rfl rfl ?_
                            refine W.want 89 rfl (sb (decide_eq_false c57)) ?_
                            refine W.rd (X.load Try.underlying3 rfl rfl (((rdC.at 1 row_rd HS rfl)).cellI c53.1 c53.2)) rfl rfl rfl ?_
                            refine W.want 89 rfl (sb (decide_eq_false c57)) ?_
                            obtain ⟨c58, H⟩ := ite_n H
                            obtain ⟨eb59, eo60, hh⟩ := ((rdC.at 4 hr0 HS rfl)).some (by decide) c58.1 c58.2; subst hh
                            refine W.rd (X.indexSl Try.underlying22 inf3 rfl rfl c58.1 c58.2) rfl rfl rfl ?_
                            refine W.want 89 rfl (sb (decide_eq_false c57)) ?_
                            refine W.rd (X.load Try.underlying3 rfl rfl (((rdC.at 4 hr0 HS rfl)).cellI c58.1 c58.2)) rfl rfl rfl ?_
                            refine W.want 89 rfl (sb (decide_eq_false c57)) ?_
                            refine W.rd (X.and rfl rfl) rfl rfl rfl ?_
                            refine W.want 89 rfl (sb (decide_eq_false c57)) ?_
                            refine W.rd (X.move rfl) rfl rfl rfl ?_
                            refine W.want 89 rfl (sb (decide_eq_false c57)) ?_
                            refine W.rd (X.cmp (decide ((iand .i64 ((a0).getD ((x49).getD (x46).toNat 0).toNat 0) (255)) ≥ a1)) rfl rfl rfl rfl) rfl rfl rfl ?_
                            refine W.rd (X.pickF (sb (decide_eq_false c57)) rfl) rfl rfl rfl ?_
                            refine W.nil ?_
                            refine At.next ?_
                            refine V.keep [(0, Value.slice (some ⟨eb59, eo60, none⟩) (a0).length sc0), (1, Value.int .i64 (a1)), (10, Value.slice (some ⟨eb54, eo55, none⟩) (x49).length rc48), (13, Value.int .i64 (x46)), (81, Value.slice (some ⟨eb54, eo55, none⟩) (x49).length rc48), (82, Value.int .i64 (x46)), (83, Value.pointer (some ⟨eb54, eo55 + (x46).toNat * 1, none⟩)), (84, Value.int .i64 ((x49).getD (x46).toNat 0)), (85, Value.slice (some ⟨eb59, eo60, none⟩) (a0).length sc0), (86, Value.int .i64 (((a0).length : Int))), (87, Value.bool (decide (((x49).getD (x46).toNat 0) ≥ ((a0).length : Int)))), (90, Value.slice (some ⟨eb59, eo60, none⟩) (a0).length sc0), (91, Value.slice (some ⟨eb54, eo55, none⟩) (x49).length rc48), (92, Value.int .i64 (x46)), (93, Value.pointer (some ⟨eb54, eo55 + (x46).toNat * 1, none⟩)), (94, Value.int .i64 ((x49).getD (x46).toNat 0)), (95, Value.pointer (some ⟨eb59, eo60 + ((x49).getD (x46).toNat 0).toNat * 1, none⟩)), (96, Value.int .i64 ((a0).getD ((x49).getD (x46).toNat 0).toNat 0)), (97, Value.int .i64 (iand .i64 ((a0).getD ((x49).getD (x46).toNat 0).toNat 0) (255))), (98, Value.int .i64 (a1)), (99, Value.bool (decide ((iand .i64 ((a0).getD ((x49).getD (x46).toNat 0).toNat 0) (255)) ≥ a1))), (100, Value.bool (decide ((iand .i64 ((a0).getD ((x49).getD (x46).toNat 0).toNat 0) (255)) ≥ a1)))] ⟨rfl, rfl, rfl, rfl, rfl, rfl, rfl, rfl, rfl, rfl, rfl, rfl, rfl, rfl, rfl, rfl, rfl, rfl, rfl, rfl, rfl, rfl, trivial⟩ ?_
                            by_cases c61 : (iand .i64 ((a0).getD ((x49).getD (x46).toNat 0).toNat 0) (255)) ≥ a1
                            · replace H := ite_t c61 H
                              refine V.condT (sb (decide_eq_true c61)) ?_
                              refine V.seq ?_
                              refine V.region ?_
                              refine W.rd (X.assign rfl) rfl rfl rfl ?_
                              refine W.nil ?_
                              refine At.next ?_
                              refine V.keep [(4, Value.bool (false))] ⟨rfl, trivial⟩ ?_
                              refine V.ret ?_
                              refine At.thenRet ?_
                              refine At.blockRet ?_
                              refine At.thenRet ?_
                              refine At.thenRet ?_
                              refine At.blockRet ?_
                              refine At.thenRet ?_
                              replace HS := HS.sel [4] [0, 1, 2, 3] rfl
                              cases H
                              exact At.ret1 rfl rfl ⟨_, rfl, rfl, HS⟩
                            · replace H := ite_f c61 H
                              refine V.condF (sb (decide_eq_false c61)) ?_
                              refine V.skip ?_
                              refine At.next ?_
                              refine V.keep [(0, Value.slice (some ⟨eb59, eo60, none⟩) (a0).length sc0), (1, Value.int .i64 (a1)), (10, Value.slice (some ⟨eb54, eo55, none⟩) (x49).length rc48), (13, Value.int .i64 (x46)), (81, Value.slice (some ⟨eb54, eo55, none⟩) (x49).length rc48), (82, Value.int .i64 (x46)), (83, Value.pointer (some ⟨eb54, eo55 + (x46).toNat * 1, none⟩)), (84, Value.int .i64 ((x49).getD (x46).toNat 0)), (85, Value.slice (some ⟨eb59, eo60, none⟩) (a0).length sc0), (86, Value.int .i64 (((a0).length : Int))), (87, Value.bool (decide (((x49).getD (x46).toNat 0) ≥ ((a0).length : Int)))), (90, Value.slice (some ⟨eb59, eo60, none⟩) (a0).length sc0), (91, Value.slice (some ⟨eb54, eo55, none⟩) (x49).length rc48), (92, Value.int .i64 (x46)), (93, Value.pointer (some ⟨eb54, eo55 + (x46).toNat * 1, none⟩)), (94, Value.int .i64 ((x49).getD (x46).toNat 0)), (95, Value.pointer (some ⟨eb59, eo60 + ((x49).getD (x46).toNat 0).toNat * 1, none⟩)), (96, Value.int .i64 ((a0).getD ((x49).getD (x46).toNat 0).toNat 0)), (97, Value.int .i64 (iand .i64 ((a0).getD ((x49).getD (x46).toNat 0).toNat 0) (255))), (98, Value.int .i64 (a1)), (99, Value.bool (decide ((iand .i64 ((a0).getD ((x49).getD (x46).toNat 0).toNat 0) (255)) ≥ a1)))] ⟨rfl, rfl, rfl, rfl, rfl, rfl, rfl, rfl, rfl, rfl, rfl, rfl, rfl, rfl, rfl, rfl, rfl, rfl, rfl, rfl, rfl, trivial⟩ ?_
                              refine V.seq ?_
                              by_cases c62 : x46 > 0
                              · replace H := ite_t c62 H
                                obtain ⟨c63, H⟩ := ite_n H
                                obtain ⟨c64, H⟩ := ite_n H
                                by_cases c65 : (iand .i64 ((a0).getD ((x49).getD (w64 (x46 - 1)).toNat 0).toNat 0) (255)) > (iand .i64 ((a0).getD ((x49).getD (x46).toNat 0).toNat 0) (255))
                                · replace H := ite_t c65 H
                                  refine V.draw (es := []) (bl := []) (f := [(101, Value.int .i64 (x46)), (102, Value.bool (decide (x46 > 0))), (103, Value.bool (decide (x46 > 0))), (104, Value.slice (some ⟨eb59, eo60, none⟩) (a0).length sc0), (105, Value.slice (some ⟨eb54, eo55, none⟩) (x49).length rc48), (106, Value.int .i64 (x46)), (107, Value.int .i64 (w64 (x46 - 1))), (108, Value.pointer (some ⟨eb54, eo55 + (w64 (x46 - 1)).toNat * 1, none⟩)), (109, Value.int .i64 ((x49).getD (w64 (x46 - 1)).toNat 0)), (110, Value.pointer (some ⟨eb59, eo60 + ((x49).getD (w64 (x46 - 1)).toNat 0).toNat * 1, none⟩)), (111, Value.int .i64 ((a0).getD ((x49).getD (w64 (x46 - 1)).toNat 0).toNat 0)), (112, Value.int .i64 (iand .i64 ((a0).getD ((x49).getD (w64 (x46 - 1)).toNat 0).toNat 0) (255))), (113, Value.slice (some ⟨eb59, eo60, none⟩) (a0).length sc0), (114, Value.slice (some ⟨eb54, eo55, none⟩) (x49).length rc48), (115, Value.int .i64 (x46)), (116, Value.pointer (some ⟨eb54, eo55 + (x46).toNat * 1, none⟩)), (117, Value.int .i64 ((x49).getD (x46).toNat 0)), (118, Value.pointer (some ⟨eb59, eo60 + ((x49).getD (x46).toNat 0).toNat * 1, none⟩)), (119, Value.int .i64 ((a0).getD ((x49).getD (x46).toNat 0).toNat 0)), (120, Value.int .i64 (iand .i64 ((a0).getD ((x49).getD (x46).toNat 0).toNat 0) (255))), (121, Value.bool (decide ((iand .i64 ((a0).getD ((x49).getD (w64 (x46 - 1)).toNat 0).toNat 0) (255)) > (iand .i64 ((a0).getD ((x49).getD (x46).toNat 0).toNat 0) (255))))), (122, Value.bool (decide ((iand .i64 ((a0).getD ((x49).getD (w64 (x46 - 1)).toNat 0).toNat 0) (255)) > (iand .i64 ((a0).getD ((x49).getD (x46).toNat 0).toNat 0) (255))))), (123, undef), (124, undef), (125, undef), (126, undef), (127, undef), (128, undef), (129, undef), (130, undef), (131, undef), (132, undef), (133, undef), (134, undef), (135, undef), (136, undef), (137, undef), (138, undef), (139, undef), (140, undef), (141, undef), (142, undef), (143, undef), (144, undef), (145, undef), (146, undef), (147, undef), (148, undef), (149, undef), (150, undef), (151, undef), (152, undef), (153, Value.bool (true)), (154, Value.bool (true))]) (fun w => Sep.St [row 3 1 (.slice ra31 (x33).length rc32) (x33).length ((x33).map (Value.int .i64)), row 3 1 (.slice (some ⟨eb54, eo55, none⟩) (x49).length rc48) (x49).length ((x49).map (Value.int .i64)), clock_Set.at bt7_0 (t26.2), clock_Set.at bt9_0 (x34), R] w0 w) mo HS.drew rfl ?_
                                  refine T.fin [(0, Value.slice (some ⟨eb59, eo60, none⟩) (a0).length sc0), (1, Value.int .i64 (a1)), (10, Value.slice (some ⟨eb54, eo55, none⟩) (x49).length rc48), (13, Value.int .i64 (x46)), (81, Value.slice (some ⟨eb54, eo55, none⟩) (x49).length rc48), (82, Value.int .i64 (x46)), (83, Value.pointer (some ⟨eb54, eo55 + (x46).toNat * 1, none⟩)), (84, Value.int .i64 ((x49).getD (x46).toNat 0)), (85, Value.slice (some ⟨eb59, eo60, none⟩) (a0).length sc0), (86, Value.int .i64 (((a0).length : Int))), (87, Value.bool (decide (((x49).getD (x46).toNat 0) ≥ ((a0).length : Int)))), (90, Value.slice (some ⟨eb59, eo60, none⟩) (a0).length sc0), (91, Value.slice (some ⟨eb54, eo55, none⟩) (x49).length rc48), (92, Value.int .i64 (x46)), (93, Value.pointer (some ⟨eb54, eo55 + (x46).toNat * 1, none⟩)), (94, Value.int .i64 ((x49).getD (x46).toNat 0)), (95, Value.pointer (some ⟨eb59, eo60 + ((x49).getD (x46).toNat 0).toNat * 1, none⟩)), (96, Value.int .i64 ((a0).getD ((x49).getD (x46).toNat 0).toNat 0)), (97, Value.int .i64 (iand .i64 ((a0).getD ((x49).getD (x46).toNat 0).toNat 0) (255))), (98, Value.int .i64 (a1)), (99, Value.bool (decide ((iand .i64 ((a0).getD ((x49).getD (x46).toNat 0).toNat 0) (255)) ≥ a1))), (104, Value.slice (some ⟨eb59, eo60, none⟩) (a0).length sc0), (105, Value.slice (some ⟨eb54, eo55, none⟩) (x49).length rc48), (106, Value.int .i64 (x46)), (107, Value.int .i64 (w64 (x46 - 1))), (108, Value.pointer (some ⟨eb54, eo55 + (w64 (x46 - 1)).toNat * 1, none⟩)), (109, Value.int .i64 ((x49).getD (w64 (x46 - 1)).toNat 0)), (110, Value.pointer (some ⟨eb59, eo60 + ((x49).getD (w64 (x46 - 1)).toNat 0).toNat * 1, none⟩)), (111, Value.int .i64 ((a0).getD ((x49).getD (w64 (x46 - 1)).toNat 0).toNat 0)), (112, Value.int .i64 (iand .i64 ((a0).getD ((x49).getD (w64 (x46 - 1)).toNat 0).toNat 0) (255))), (113, Value.slice (some ⟨eb59, eo60, none⟩) (a0).length sc0), (114, Value.slice (some ⟨eb54, eo55, none⟩) (x49).length rc48), (115, Value.int .i64 (x46)), (116, Value.pointer (some ⟨eb54, eo55 + (x46).toNat * 1, none⟩)), (117, Value.int .i64 ((x49).getD (x46).toNat 0)), (118, Value.pointer (some ⟨eb59, eo60 + ((x49).getD (x46).toNat 0).toNat * 1, none⟩)), (119, Value.int .i64 ((a0).getD ((x49).getD (x46).toNat 0).toNat 0)), (120, Value.int .i64 (iand .i64 ((a0).getD ((x49).getD (x46).toNat 0).toNat 0) (255))), (121, Value.bool (decide ((iand .i64 ((a0).getD ((x49).getD (w64 (x46 - 1)).toNat 0).toNat 0) (255)) > (iand .i64 ((a0).getD ((x49).getD (x46).toNat 0).toNat 0) (255))))), (122, Value.bool (decide ((iand .i64 ((a0).getD ((x49).getD (w64 (x46 - 1)).toNat 0).toNat 0) (255)) > (iand .i64 ((a0).getD ((x49).getD (x46).toNat 0).toNat 0) (255))))), (123, undef), (124, undef), (125, undef), (126, undef), (127, undef), (128, undef), (129, undef), (130, undef), (131, undef), (132, undef), (133, undef), (134, undef), (135, undef), (136, undef), (137, undef), (138, undef), (139, undef), (140, undef), (141, undef), (142, undef), (143, undef), (144, undef), (145, undef), (146, undef), (147, undef), (148, undef), (149, undef), (150, undef), (151, undef), (152, undef), (153, Value.bool (true)), (154, Value.bool (true))] rfl ⟨⟨_, Value.int .i64 (x46), [(13, Value.int .i64 (x46))], 101, rfl, rfl, ⟨.inl ⟨rfl, rfl⟩, trivial⟩, .run rfl (fun w HS => X.move rfl), rfl, rfl, rfl⟩, ⟨_, Value.bool (decide (x46 > 0)), [(101, Value.int .i64 (x46))], 102, rfl, rfl, ⟨.inr ⟨rfl, rfl⟩, trivial⟩, .run rfl (fun w HS => X.cmp (decide (x46 > 0)) rfl rfl rfl rfl), rfl, rfl, rfl⟩, ⟨_, Value.bool (decide (x46 > 0)), [(102, Value.bool (decide (x46 > 0)))], 103, rfl, rfl, ⟨.inr ⟨rfl, rfl⟩, trivial⟩, .run rfl (fun w HS => X.move rfl), rfl, rfl, rfl⟩, ⟨_, Value.slice (some ⟨eb59, eo60, none⟩) (a0).length sc0, [(0, Value.slice (some ⟨eb59, eo60, none⟩) (a0).length sc0), (103, Value.bool (decide (x46 > 0)))], 104, rfl, rfl, ⟨.inl ⟨rfl, rfl⟩, ⟨.inr ⟨rfl, rfl⟩, trivial⟩⟩, .want 2 true 103 rfl rfl (sb (decide_eq_true c62)) (fun w HS => X.move rfl), rfl, rfl, rfl⟩, ⟨_, Value.slice (some ⟨eb54, eo55, none⟩) (x49).length rc48, [(10, Value.slice (some ⟨eb54, eo55, none⟩) (x49).length rc48), (103, Value.bool (decide (x46 > 0)))], 105, rfl, rfl, ⟨.inl ⟨rfl, rfl⟩, ⟨.inr ⟨rfl, rfl⟩, trivial⟩⟩, .want 2 true 103 rfl rfl (sb (decide_eq_true c62)) (fun w HS => X.move rfl), rfl, rfl, rfl⟩, ⟨_, Value.int .i64 (x46), [(13, Value.int .i64 (x46)), (103, Value.bool (decide (x46 > 0)))], 106, rfl, rfl, ⟨.inl ⟨rfl, rfl⟩, ⟨.inr ⟨rfl, rfl⟩, trivial⟩⟩, .want 2 true 103 rfl rfl (sb (decide_eq_true c62)) (fun w HS => X.move rfl), rfl, rfl, rfl⟩, ⟨_, Value.int .i64 (w64 (x46 - 1)), [(106, Value.int .i64 (x46)), (103, Value.bool (decide (x46 > 0)))], 107, rfl, rfl, ⟨.inr ⟨rfl, rfl⟩, ⟨.inr ⟨rfl, rfl⟩, trivial⟩⟩, .want 2 true 103 rfl rfl (sb (decide_eq_true c62)) (fun w HS => X.sub rfl rfl), rfl, rfl, rfl⟩, ⟨_, Value.pointer (some ⟨eb54, eo55 + (w64 (x46 - 1)).toNat * 1, none⟩), [(105, Value.slice (some ⟨eb54, eo55, none⟩) (x49).length rc48), (107, Value.int .i64 (w64 (x46 - 1))), (103, Value.bool (decide (x46 > 0)))], 108, rfl, rfl, ⟨.inr ⟨rfl, rfl⟩, ⟨.inr ⟨rfl, rfl⟩, ⟨.inr ⟨rfl, rfl⟩, trivial⟩⟩⟩, .want 2 true 103 rfl rfl (sb (decide_eq_true c62)) (fun w HS => X.indexSl Try.underlying22 inf3 rfl rfl c63.1 c63.2), rfl, rfl, rfl⟩, ⟨_, Value.int .i64 ((x49).getD (w64 (x46 - 1)).toNat 0), [(108, Value.pointer (some ⟨eb54, eo55 + (w64 (x46 - 1)).toNat * 1, none⟩)), (103, Value.bool (decide (x46 > 0)))], 109, rfl, rfl, ⟨.inr ⟨rfl, rfl⟩, ⟨.inr ⟨rfl, rfl⟩, trivial⟩⟩, .want 2 true 103 rfl rfl (sb (decide_eq_true c62)) (fun w HS => X.load Try.underlying3 rfl rfl (((rdC.at 1 row_rd HS rfl)).cellI c63.1 c63.2)), rfl, rfl, rfl⟩, ⟨_, Value.pointer (some ⟨eb59, eo60 + ((x49).getD (w64 (x46 - 1)).toNat 0).toNat * 1, none⟩), [(104, Value.slice (some ⟨eb59, eo60, none⟩) (a0).length sc0), (109, Value.int .i64 ((x49).getD (w64 (x46 - 1)).toNat 0)), (103, Value.bool (decide (x46 > 0)))], 110, rfl, rfl, ⟨.inr ⟨rfl, rfl⟩, ⟨.inr ⟨rfl, rfl⟩, ⟨.inr ⟨rfl, rfl⟩, trivial⟩⟩⟩, .want 2 true 103 rfl rfl (sb (decide_eq_true c62)) (fun w HS => X.indexSl Try.underlying22 inf3 rfl rfl c64.1 c64.2), rfl, rfl, rfl⟩, ⟨_, Value.int .i64 ((a0).getD ((x49).getD (w64 (x46 - 1)).toNat 0).toNat 0), [(110, Value.pointer (some ⟨eb59, eo60 + ((x49).getD (w64 (x46 - 1)).toNat 0).toNat * 1, none⟩)), (103, Value.bool (decide (x46 > 0)))], 111, rfl, rfl, ⟨.inr ⟨rfl, rfl⟩, ⟨.inr ⟨rfl, rfl⟩, trivial⟩⟩, .want 2 true 103 rfl rfl (sb (decide_eq_true c62)) (fun w HS => X.load Try.underlying3 rfl rfl (((rdC.at 4 hr0 HS rfl)).cellI c64.1 c64.2)), rfl, rfl, rfl⟩, ⟨_, Value.int .i64 (iand .i64 ((a0).getD ((x49).getD (w64 (x46 - 1)).toNat 0).toNat 0) (255)), [(111, Value.int .i64 ((a0).getD ((x49).getD (w64 (x46 - 1)).toNat 0).toNat 0)), (103, Value.bool (decide (x46 > 0)))], 112, rfl, rfl, ⟨.inr ⟨rfl, rfl⟩, ⟨.inr ⟨rfl, rfl⟩, trivial⟩⟩, .want 2 true 103 rfl rfl (sb (decide_eq_true c62)) (fun w HS => X.and rfl rfl), rfl, rfl, rfl⟩, ⟨_, Value.slice (some ⟨eb59, eo60, none⟩) (a0).length sc0, [(0, Value.slice (some ⟨eb59, eo60, none⟩) (a0).length sc0), (103, Value.bool (decide (x46 > 0)))], 113, rfl, rfl, ⟨.inl ⟨rfl, rfl⟩, ⟨.inr ⟨rfl, rfl⟩, trivial⟩⟩, .want 2 true 103 rfl rfl (sb (decide_eq_true c62)) (fun w HS => X.move rfl), rfl, rfl, rfl⟩, ⟨_, Value.slice (some ⟨eb54, eo55, none⟩) (x49).length rc48, [(10, Value.slice (some ⟨eb54, eo55, none⟩) (x49).length rc48), (103, Value.bool (decide (x46 > 0)))], 114, rfl, rfl, ⟨.inl ⟨rfl, rfl⟩, ⟨.inr ⟨rfl, rfl⟩, trivial⟩⟩, .want 2 true 103 rfl rfl (sb (decide_eq_true c62)) (fun w HS => X.move rfl), rfl, rfl, rfl⟩, ⟨_, Value.int .i64 (x46), [(13, Value.int .i64 (x46)), (103, Value.bool (decide (x46 > 0)))], 115, rfl, rfl, ⟨.inl ⟨rfl, rfl⟩, ⟨.inr ⟨rfl, rfl⟩, trivial⟩⟩, .want 2 true 103 rfl rfl (sb (decide_eq_true c62)) (fun w HS => X.move rfl), rfl, rfl, rfl⟩, ⟨_, Value.pointer (some ⟨eb54, eo55 + (x46).toNat * 1, none⟩), [(114, Value.slice (some ⟨eb54, eo55, none⟩) (x49).length rc48), (115, Value.int .i64 (x46)), (103, Value.bool (decide (x46 > 0)))], 116, rfl, rfl, ⟨.inr ⟨rfl, rfl⟩, ⟨.inr ⟨rfl, rfl⟩, ⟨.inr ⟨rfl, rfl⟩, trivial⟩⟩⟩, .want 2 true 103 rfl rfl (sb (decide_eq_true c62)) (fun w HS => X.indexSl Try.underlying22 inf3 rfl rfl c53.1 c53.2), rfl, rfl, rfl⟩, ⟨_, Value.int .i64 ((x49).getD (x46).toNat 0), [(116, Value.pointer (some ⟨eb54, eo55 + (x46).toNat * 1, none⟩)), (103, Value.bool (decide (x46 > 0)))], 117, rfl, rfl, ⟨.inr ⟨rfl, rfl⟩, ⟨.inr ⟨rfl, rfl⟩, trivial⟩⟩, .want 2 true 103 rfl rfl (sb (decide_eq_true c62)) (fun w HS => X.load Try.underlying3 rfl rfl (((rdC.at 1 row_rd HS rfl)).cellI c53.1 c53.2)), rfl, rfl, rfl⟩, ⟨_, Value.pointer (some ⟨eb59, eo60 + ((x49).getD (x46).toNat 0).toNat * 1, none⟩), [(113, Value.slice (some ⟨eb59, eo60, none⟩) (a0).length sc0), (117, Value.int .i64 ((x49).getD (x46).toNat 0)), (103, Value.bool (decide (x46 > 0)))], 118, rfl, rfl, ⟨.inr ⟨rfl, rfl⟩, ⟨.inr ⟨rfl, rfl⟩, ⟨.inr ⟨rfl, rfl⟩, trivial⟩⟩⟩, .want 2 true 103 rfl rfl (sb (decide_eq_true c62)) (fun w HS => X.indexSl Try.underlying22 inf3 rfl rfl c58.1 c58.2), rfl, rfl, rfl⟩, ⟨_, Value.int .i64 ((a0).getD ((x49).getD (x46).toNat 0).toNat 0), [(118, Value.pointer (some ⟨eb59, eo60 + ((x49).getD (x46).toNat 0).toNat * 1, none⟩)), (103, Value.bool (decide (x46 > 0)))], 119, rfl, rfl, ⟨.inr ⟨rfl, rfl⟩, ⟨.inr ⟨rfl, rfl⟩, trivial⟩⟩, .want 2 true 103 rfl rfl (sb (decide_eq_true c62)) (fun w HS => X.load Try.underlying3 rfl rfl (((rdC.at 4 hr0 HS rfl)).cellI c58.1 c58.2)), rfl, rfl, rfl⟩, ⟨_, Value.int .i64 (iand .i64 ((a0).getD ((x49).getD (x46).toNat 0).toNat 0) (255)), [(119, Value.int .i64 ((a0).getD ((x49).getD (x46).toNat 0).toNat 0)), (103, Value.bool (decide (x46 > 0)))], 120, rfl, rfl, ⟨.inr ⟨rfl, rfl⟩, ⟨.inr ⟨rfl, rfl⟩, trivial⟩⟩, .want 2 true 103 rfl rfl (sb (decide_eq_true c62)) (fun w HS => X.and rfl rfl), rfl, rfl, rfl⟩, ⟨_, Value.bool (decide ((iand .i64 ((a0).getD ((x49).getD (w64 (x46 - 1)).toNat 0).toNat 0) (255)) > (iand .i64 ((a0).getD ((x49).getD (x46).toNat 0).toNat 0) (255)))), [(112, Value.int .i64 (iand .i64 ((a0).getD ((x49).getD (w64 (x46 - 1)).toNat 0).toNat 0) (255))), (120, Value.int .i64 (iand .i64 ((a0).getD ((x49).getD (x46).toNat 0).toNat 0) (255))), (103, Value.bool (decide (x46 > 0)))], 121, rfl, rfl, ⟨.inr ⟨rfl, rfl⟩, ⟨.inr ⟨rfl, rfl⟩, ⟨.inr ⟨rfl, rfl⟩, trivial⟩⟩⟩, .want 2 true 103 rfl rfl (sb (decide_eq_true c62)) (fun w HS => X.cmp (decide ((iand .i64 ((a0).getD ((x49).getD (w64 (x46 - 1)).toNat 0).toNat 0) (255)) > (iand .i64 ((a0).getD ((x49).getD (x46).toNat 0).toNat 0) (255)))) rfl rfl rfl rfl), rfl, rfl, rfl⟩, ⟨_, Value.bool (decide ((iand .i64 ((a0).getD ((x49).getD (w64 (x46 - 1)).toNat 0).toNat 0) (255)) > (iand .i64 ((a0).getD ((x49).getD (x46).toNat 0).toNat 0) (255)))), [(121, Value.bool (decide ((iand .i64 ((a0).getD ((x49).getD (w64 (x46 - 1)).toNat 0).toNat 0) (255)) > (iand .i64 ((a0).getD ((x49).getD (x46).toNat 0).toNat 0) (255))))), (103, Value.bool (decide (x46 > 0)))], 122, rfl, rfl, ⟨.inr ⟨rfl, rfl⟩, ⟨.inr ⟨rfl, rfl⟩, trivial⟩⟩, .want 2 true 103 rfl rfl (sb (decide_eq_true c62)) (fun w HS => X.move rfl), rfl, rfl, rfl⟩, ⟨_, undef, [(122, Value.bool (decide ((iand .i64 ((a0).getD ((x49).getD (w64 (x46 - 1)).toNat 0).toNat 0) (255)) > (iand .i64 ((a0).getD ((x49).getD (x46).toNat 0).toNat 0) (255)))))], 123, rfl, rfl, ⟨.inr ⟨rfl, rfl⟩, trivial⟩, .pass 21 false true 122 rfl rfl (sb (decide_eq_true c65)) rfl rfl, rfl, rfl, rfl⟩, ⟨_, undef, [(122, Value.bool (decide ((iand .i64 ((a0).getD ((x49).getD (w64 (x46 - 1)).toNat 0).toNat 0) (255)) > (iand .i64 ((a0).getD ((x49).getD (x46).toNat 0).toNat 0) (255)))))], 124, rfl, rfl, ⟨.inr ⟨rfl, rfl⟩, trivial⟩, .pass 21 false true 122 rfl rfl (sb (decide_eq_true c65)) rfl rfl, rfl, rfl, rfl⟩, ⟨_, undef, [(122, Value.bool (decide ((iand .i64 ((a0).getD ((x49).getD (w64 (x46 - 1)).toNat 0).toNat 0) (255)) > (iand .i64 ((a0).getD ((x49).getD (x46).toNat 0).toNat 0) (255)))))], 125, rfl, rfl, ⟨.inr ⟨rfl, rfl⟩, trivial⟩, .pass 21 false true 122 rfl rfl (sb (decide_eq_true c65)) rfl rfl, rfl, rfl, rfl⟩, ⟨_, undef, [(122, Value.bool (decide ((iand .i64 ((a0).getD ((x49).getD (w64 (x46 - 1)).toNat 0).toNat 0) (255)) > (iand .i64 ((a0).getD ((x49).getD (x46).toNat 0).toNat 0) (255)))))], 126, rfl, rfl, ⟨.inr ⟨rfl, rfl⟩, trivial⟩, .pass 21 false true 122 rfl rfl (sb (decide_eq_true c65)) rfl rfl, rfl, rfl, rfl⟩, ⟨_, undef, [(122, Value.bool (decide ((iand .i64 ((a0).getD ((x49).getD (w64 (x46 - 1)).toNat 0).toNat 0) (255)) > (iand .i64 ((a0).getD ((x49).getD (x46).toNat 0).toNat 0) (255)))))], 127, rfl, rfl, ⟨.inr ⟨rfl, rfl⟩, trivial⟩, .pass 21 false true 122 rfl rfl (sb (decide_eq_true c65)) rfl rfl, rfl, rfl, rfl⟩, ⟨_, undef, [(122, Value.bool (decide ((iand .i64 ((a0).getD ((x49).getD (w64 (x46 - 1)).toNat 0).toNat 0) (255)) > (iand .i64 ((a0).getD ((x49).getD (x46).toNat 0).toNat 0) (255)))))], 128, rfl, rfl, ⟨.inr ⟨rfl, rfl⟩, trivial⟩, .pass 21 false true 122 rfl rfl (sb (decide_eq_true c65)) rfl rfl, rfl, rfl, rfl⟩, ⟨_, undef, [(122, Value.bool (decide ((iand .i64 ((a0).getD ((x49).getD (w64 (x46 - 1)).toNat 0).toNat 0) (255)) > (iand .i64 ((a0).getD ((x49).getD (x46).toNat 0).toNat 0) (255)))))], 129, rfl, rfl, ⟨.inr ⟨rfl, rfl⟩, trivial⟩, .pass 21 false true 122 rfl rfl (sb (decide_eq_true c65)) rfl rfl, rfl, rfl, rfl⟩, ⟨_, undef, [(122, Value.bool (decide ((iand .i64 ((a0).getD ((x49).getD (w64 (x46 - 1)).toNat 0).toNat 0) (255)) > (iand .i64 ((a0).getD ((x49).getD (x46).toNat 0).toNat 0) (255)))))], 130, rfl, rfl, ⟨.inr ⟨rfl, rfl⟩, trivial⟩, .pass 21 false true 122 rfl rfl (sb (decide_eq_true c65)) rfl rfl, rfl, rfl, rfl⟩, ⟨_, undef, [(122, Value.bool (decide ((iand .i64 ((a0).getD ((x49).getD (w64 (x46 - 1)).toNat 0).toNat 0) (255)) > (iand .i64 ((a0).getD ((x49).getD (x46).toNat 0).toNat 0) (255)))))], 131, rfl, rfl, ⟨.inr ⟨rfl, rfl⟩, trivial⟩, .pass 21 false true 122 rfl rfl (sb (decide_eq_true c65)) rfl rfl, rfl, rfl, rfl⟩, ⟨_, undef, [(122, Value.bool (decide ((iand .i64 ((a0).getD ((x49).getD (w64 (x46 - 1)).toNat 0).toNat 0) (255)) > (iand .i64 ((a0).getD ((x49).getD (x46).toNat 0).toNat 0) (255)))))], 132, rfl, rfl, ⟨.inr ⟨rfl, rfl⟩, trivial⟩, .pass 21 false true 122 rfl rfl (sb (decide_eq_true c65)) rfl rfl, rfl, rfl, rfl⟩, ⟨_, undef, [(122, Value.bool (decide ((iand .i64 ((a0).getD ((x49).getD (w64 (x46 - 1)).toNat 0).toNat 0) (255)) > (iand .i64 ((a0).getD ((x49).getD (x46).toNat 0).toNat 0) (255)))))], 133, rfl, rfl, ⟨.inr ⟨rfl, rfl⟩, trivial⟩, .pass 21 false true 122 rfl rfl (sb (decide_eq_true c65)) rfl rfl, rfl, rfl, rfl⟩, ⟨_, undef, [(122, Value.bool (decide ((iand .i64 ((a0).getD ((x49).getD (w64 (x46 - 1)).toNat 0).toNat 0) (255)) > (iand .i64 ((a0).getD ((x49).getD (x46).toNat 0).toNat 0) (255)))))], 134, rfl, rfl, ⟨.inr ⟨rfl, rfl⟩, trivial⟩, .pass 21 false true 122 rfl rfl (sb (decide_eq_true c65)) rfl rfl, rfl, rfl, rfl⟩, ⟨_, undef, [(122, Value.bool (decide ((iand .i64 ((a0).getD ((x49).getD (w64 (x46 - 1)).toNat 0).toNat 0) (255)) > (iand .i64 ((a0).getD ((x49).getD (x46).toNat 0).toNat 0) (255)))))], 135, rfl, rfl, ⟨.inr ⟨rfl, rfl⟩, trivial⟩, .pass 21 false true 122 rfl rfl (sb (decide_eq_true c65)) rfl rfl, rfl, rfl, rfl⟩, ⟨_, undef, [(122, Value.bool (decide ((iand .i64 ((a0).getD ((x49).getD (w64 (x46 - 1)).toNat 0).toNat 0) (255)) > (iand .i64 ((a0).getD ((x49).getD (x46).toNat 0).toNat 0) (255)))))], 136, rfl, rfl, ⟨.inr ⟨rfl, rfl⟩, trivial⟩, .pass 21 false true 122 rfl rfl (sb (decide_eq_true c65)) rfl rfl, rfl, rfl, rfl⟩, ⟨_, undef, [(122, Value.bool (decide ((iand .i64 ((a0).getD ((x49).getD (w64 (x46 - 1)).toNat 0).toNat 0) (255)) > (iand .i64 ((a0).getD ((x49).getD (x46).toNat 0).toNat 0) (255)))))], 137, rfl, rfl, ⟨.inr ⟨rfl, rfl⟩, trivial⟩, .pass 21 false true 122 rfl rfl (sb (decide_eq_true c65)) rfl rfl, rfl, rfl, rfl⟩, ⟨_, undef, [(122, Value.bool (decide ((iand .i64 ((a0).getD ((x49).getD (w64 (x46 - 1)).toNat 0).toNat 0) (255)) > (iand .i64 ((a0).getD ((x49).getD (x46).toNat 0).toNat 0) (255)))))], 138, rfl, rfl, ⟨.inr ⟨rfl, rfl⟩, trivial⟩, .pass 21 false true 122 rfl rfl (sb (decide_eq_true c65)) rfl rfl, rfl, rfl, rfl⟩, ⟨_, undef, [(122, Value.bool (decide ((iand .i64 ((a0).getD ((x49).getD (w64 (x46 - 1)).toNat 0).toNat 0) (255)) > (iand .i64 ((a0).getD ((x49).getD (x46).toNat 0).toNat 0) (255)))))], 139, rfl, rfl, ⟨.inr ⟨rfl, rfl⟩, trivial⟩, .pass 21 false true 122 rfl rfl (sb (decide_eq_true c65)) rfl rfl, rfl, rfl, rfl⟩, ⟨_, undef, [(122, Value.bool (decide ((iand .i64 ((a0).getD ((x49).getD (w64 (x46 - 1)).toNat 0).toNat 0) (255)) > (iand .i64 ((a0).getD ((x49).getD (x46).toNat 0).toNat 0) (255)))))], 140, rfl, rfl, ⟨.inr ⟨rfl, rfl⟩, trivial⟩, .pass 21 false true 122 rfl rfl (sb (decide_eq_true c65)) rfl rfl, rfl, rfl, rfl⟩, ⟨_, undef, [(122, Value.bool (decide ((iand .i64 ((a0).getD ((x49).getD (w64 (x46 - 1)).toNat 0).toNat 0) (255)) > (iand .i64 ((a0).getD ((x49).getD (x46).toNat 0).toNat 0) (255)))))], 141, rfl, rfl, ⟨.inr ⟨rfl, rfl⟩, trivial⟩, .pass 21 false true 122 rfl rfl (sb (decide_eq_true c65)) rfl rfl, rfl, rfl, rfl⟩, ⟨_, undef, [(141, undef)], 142, rfl, rfl, ⟨.inr ⟨rfl, rfl⟩, trivial⟩, .passU 40 true 141 rfl rfl rfl rfl, rfl, rfl, rfl⟩, ⟨_, undef, [(141, undef)], 143, rfl, rfl, ⟨.inr ⟨rfl, rfl⟩, trivial⟩, .passU 40 true 141 rfl rfl rfl rfl, rfl, rfl, rfl⟩, ⟨_, undef, [(141, undef)], 144, rfl, rfl, ⟨.inr ⟨rfl, rfl⟩, trivial⟩, .passU 40 true 141 rfl rfl rfl rfl, rfl, rfl, rfl⟩, ⟨_, undef, [(141, undef)], 145, rfl, rfl, ⟨.inr ⟨rfl, rfl⟩, trivial⟩, .passU 40 true 141 rfl rfl rfl rfl, rfl, rfl, rfl⟩, ⟨_, undef, [(141, undef)], 146, rfl, rfl, ⟨.inr ⟨rfl, rfl⟩, trivial⟩, .passU 40 true 141 rfl rfl rfl rfl, rfl, rfl, rfl⟩, ⟨_, undef, [(141, undef)], 147, rfl, rfl, ⟨.inr ⟨rfl, rfl⟩, trivial⟩, .passU 40 true 141 rfl rfl rfl rfl, rfl, rfl, rfl⟩, ⟨_, undef, [(141, undef)], 148, rfl, rfl, ⟨.inr ⟨rfl, rfl⟩, trivial⟩, .passU 40 true 141 rfl rfl rfl rfl, rfl, rfl, rfl⟩, ⟨_, undef, [(141, undef)], 149, rfl, rfl, ⟨.inr ⟨rfl, rfl⟩, trivial⟩, .passU 40 true 141 rfl rfl rfl rfl, rfl, rfl, rfl⟩, ⟨_, undef, [(141, undef)], 150, rfl, rfl, ⟨.inr ⟨rfl, rfl⟩, trivial⟩, .passU 40 true 141 rfl rfl rfl rfl, rfl, rfl, rfl⟩, ⟨_, undef, [(141, undef)], 151, rfl, rfl, ⟨.inr ⟨rfl, rfl⟩, trivial⟩, .passU 40 true 141 rfl rfl rfl rfl, rfl, rfl, rfl⟩, ⟨_, undef, [(122, Value.bool (decide ((iand .i64 ((a0).getD ((x49).getD (w64 (x46 - 1)).toNat 0).toNat 0) (255)) > (iand .i64 ((a0).getD ((x49).getD (x46).toNat 0).toNat 0) (255)))))], 152, rfl, rfl, ⟨.inr ⟨rfl, rfl⟩, trivial⟩, .pass 21 false true 122 rfl rfl (sb (decide_eq_true c65)) rfl rfl, rfl, rfl, rfl⟩, ⟨_, Value.bool (true), [(122, Value.bool (decide ((iand .i64 ((a0).getD ((x49).getD (w64 (x46 - 1)).toNat 0).toNat 0) (255)) > (iand .i64 ((a0).getD ((x49).getD (x46).toNat 0).toNat 0) (255))))), (152, undef), (103, Value.bool (decide (x46 > 0)))], 153, rfl, rfl, ⟨.inr ⟨rfl, rfl⟩, ⟨.inr ⟨rfl, rfl⟩, ⟨.inr ⟨rfl, rfl⟩, trivial⟩⟩⟩, .want 2 true 103 rfl rfl (sb (decide_eq_true c62)) (fun w HS => X.pickT (sb (decide_eq_true c65)) rfl), rfl, rfl, rfl⟩, ⟨_, Value.bool (true), [(103, Value.bool (decide (x46 > 0))), (153, Value.bool (true))], 154, rfl, rfl, ⟨.inr ⟨rfl, rfl⟩, ⟨.inr ⟨rfl, rfl⟩, trivial⟩⟩, .run rfl (fun w HS => X.pickT (sb (decide_eq_true c62)) rfl), rfl, rfl, rfl⟩, trivial⟩ ⟨.inl ⟨rfl, rfl⟩, ⟨.inl ⟨rfl, rfl⟩, ⟨.inl ⟨rfl, rfl⟩, ⟨.inl ⟨rfl, rfl⟩, ⟨.inl ⟨rfl, rfl⟩, ⟨.inl ⟨rfl, rfl⟩, ⟨.inl ⟨rfl, rfl⟩, ⟨.inl ⟨rfl, rfl⟩, ⟨.inl ⟨rfl, rfl⟩, ⟨.inl ⟨rfl, rfl⟩, ⟨.inl ⟨rfl, rfl⟩, ⟨.inl ⟨rfl, rfl⟩, ⟨.inl ⟨rfl, rfl⟩, ⟨.inl ⟨rfl, rfl⟩, ⟨.inl ⟨rfl, rfl⟩, ⟨.inl ⟨rfl, rfl⟩, ⟨.inl ⟨rfl, rfl⟩, ⟨.inl ⟨rfl, rfl⟩, ⟨.inl ⟨rfl, rfl⟩, ⟨.inl ⟨rfl, rfl⟩, ⟨.inl ⟨rfl, rfl⟩, ⟨.inr ⟨rfl, rfl⟩, ⟨.inr ⟨rfl, rfl⟩, ⟨.inr ⟨rfl, rfl⟩, ⟨.inr ⟨rfl, rfl⟩, ⟨.inr ⟨rfl, rfl⟩, ⟨.inr ⟨rfl, rfl⟩, ⟨.inr ⟨rfl, rfl⟩, ⟨.inr ⟨rfl, rfl⟩, ⟨.inr ⟨rfl, rfl⟩, ⟨.inr ⟨rfl, rfl⟩, ⟨.inr ⟨rfl, rfl⟩, ⟨.inr ⟨rfl, rfl⟩, ⟨.inr ⟨rfl, rfl⟩, ⟨.inr ⟨rfl, rfl⟩, ⟨.inr ⟨rfl, rfl⟩, ⟨.inr ⟨rfl, rfl⟩, ⟨.inr ⟨rfl, rfl⟩, ⟨.inr ⟨rfl, rfl⟩, ⟨.inr ⟨rfl, rfl⟩, ⟨.inr ⟨rfl, rfl⟩, ⟨.inr ⟨rfl, rfl⟩, ⟨.inr ⟨rfl, rfl⟩, ⟨.inr ⟨rfl, rfl⟩, ⟨.inr ⟨rfl, rfl⟩, ⟨.inr ⟨rfl, rfl⟩, ⟨.inr ⟨rfl, rfl⟩, ⟨.inr ⟨rfl, rfl⟩, ⟨.inr ⟨rfl, rfl⟩, ⟨.inr ⟨rfl, rfl⟩, ⟨.inr ⟨rfl, rfl⟩, ⟨.inr ⟨rfl, rfl⟩, ⟨.inr ⟨rfl, rfl⟩, ⟨.inr ⟨rfl, rfl⟩, ⟨.inr ⟨rfl, rfl⟩, ⟨.inr ⟨rfl, rfl⟩, ⟨.inr ⟨rfl, rfl⟩, ⟨.inr ⟨rfl, rfl⟩, ⟨.inr ⟨rfl, rfl⟩, ⟨.inr ⟨rfl, rfl⟩, ⟨.inr ⟨rfl, rfl⟩, ⟨.inr ⟨rfl, rfl⟩, ⟨.inr ⟨rfl, rfl⟩, ⟨.inr ⟨rfl, rfl⟩, ⟨.inr ⟨rfl, rfl⟩, ⟨.inr ⟨rfl, rfl⟩, ⟨.inr ⟨rfl, rfl⟩, ⟨.inr ⟨rfl, rfl⟩, ⟨.inr ⟨rfl, rfl⟩, ⟨.inr ⟨rfl, rfl⟩, ⟨.inr ⟨rfl, rfl⟩, ⟨.inr ⟨rfl, rfl⟩, trivial⟩⟩⟩⟩⟩⟩⟩⟩⟩⟩⟩⟩⟩⟩⟩⟩⟩⟩⟩⟩⟩⟩⟩⟩⟩⟩⟩⟩⟩⟩⟩⟩⟩⟩⟩⟩⟩⟩⟩⟩⟩⟩⟩⟩⟩⟩⟩⟩⟩⟩⟩⟩⟩⟩⟩⟩⟩⟩⟩⟩⟩⟩⟩⟩⟩⟩⟩⟩⟩⟩⟩⟩ (fun w HS => ?_)
                                  have HS : Sep.St [row 3 1 (.slice ra31 (x33).length rc32) (x33).length ((x33).map (Value.int .i64)), row 3 1 (.slice (some ⟨eb54, eo55, none⟩) (x49).length rc48) (x49).length ((x49).map (Value.int .i64)), clock_Set.at bt7_0 (t26.2), clock_Set.at bt9_0 (x34), R] w0 w := HS
                                  refine At.next ?_
                                  refine V.keep [(0, Value.slice (some ⟨eb59, eo60, none⟩) (a0).length sc0), (1, Value.int .i64 (a1)), (10, Value.slice (some ⟨eb54, eo55, none⟩) (x49).length rc48), (13, Value.int .i64 (x46)), (81, Value.slice (some ⟨eb54, eo55, none⟩) (x49).length rc48), (82, Value.int .i64 (x46)), (83, Value.pointer (some ⟨eb54, eo55 + (x46).toNat * 1, none⟩)), (84, Value.int .i64 ((x49).getD (x46).toNat 0)), (85, Value.slice (some ⟨eb59, eo60, none⟩) (a0).length sc0), (86, Value.int .i64 (((a0).length : Int))), (87, Value.bool (decide (((x49).getD (x46).toNat 0) ≥ ((a0).length : Int)))), (90, Value.slice (some ⟨eb59, eo60, none⟩) (a0).length sc0), (91, Value.slice (some ⟨eb54, eo55, none⟩) (x49).length rc48), (92, Value.int .i64 (x46)), (93, Value.pointer (some ⟨eb54, eo55 + (x46).toNat * 1, none⟩)), (94, Value.int .i64 ((x49).getD (x46).toNat 0)), (95, Value.pointer (some ⟨eb59, eo60 + ((x49).getD (x46).toNat 0).toNat * 1, none⟩)), (96, Value.int .i64 ((a0).getD ((x49).getD (x46).toNat 0).toNat 0)), (97, Value.int .i64 (iand .i64 ((a0).getD ((x49).getD (x46).toNat 0).toNat 0) (255))), (98, Value.int .i64 (a1)), (99, Value.bool (decide ((iand .i64 ((a0).getD ((x49).getD (x46).toNat 0).toNat 0) (255)) ≥ a1))), (104, Value.slice (some ⟨eb59, eo60, none⟩) (a0).length sc0), (105, Value.slice (some ⟨eb54, eo55, none⟩) (x49).length rc48), (106, Value.int .i64 (x46)), (107, Value.int .i64 (w64 (x46 - 1))), (108, Value.pointer (some ⟨eb54, eo55 + (w64 (x46 - 1)).toNat * 1, none⟩)), (109, Value.int .i64 ((x49).getD (w64 (x46 - 1)).toNat 0)), (110, Value.pointer (some ⟨eb59, eo60 + ((x49).getD (w64 (x46 - 1)).toNat 0).toNat * 1, none⟩)), (111, Value.int .i64 ((a0).getD ((x49).getD (w64 (x46 - 1)).toNat 0).toNat 0)), (112, Value.int .i64 (iand .i64 ((a0).getD ((x49).getD (w64 (x46 - 1)).toNat 0).toNat 0) (255))), (113, Value.slice (some ⟨eb59, eo60, none⟩) (a0).length sc0), (114, Value.slice (some ⟨eb54, eo55, none⟩) (x49).length rc48), (115, Value.int .i64 (x46)), (116, Value.pointer (some ⟨eb54, eo55 + (x46).toNat * 1, none⟩)), (117, Value.int .i64 ((x49).getD (x46).toNat 0)), (118, Value.pointer (some ⟨eb59, eo60 + ((x49).getD (x46).toNat 0).toNat * 1, none⟩)), (119, Value.int .i64 ((a0).getD ((x49).getD (x46).toNat 0).toNat 0)), (120, Value.int .i64 (iand .i64 ((a0).getD ((x49).getD (x46).toNat 0).toNat 0) (255))), (121, Value.bool (decide ((iand .i64 ((a0).getD ((x49).getD (w64 (x46 - 1)).toNat 0).toNat 0) (255)) > (iand .i64 ((a0).getD ((x49).getD (x46).toNat 0).toNat 0) (255))))), (122, Value.bool (decide ((iand .i64 ((a0).getD ((x49).getD (w64 (x46 - 1)).toNat 0).toNat 0) (255)) > (iand .i64 ((a0).getD ((x49).getD (x46).toNat 0).toNat 0) (255))))), (123, undef), (124, undef), (125, undef), (126, undef), (127, undef), (128, undef), (129, undef), (130, undef), (131, undef), (132, undef), (133, undef), (134, undef), (135, undef), (136, undef), (137, undef), (138, undef), (139, undef), (140, undef), (141, undef), (142, undef), (143, undef), (144, undef), (145, undef), (146, undef), (147, undef), (148, undef), (149, undef), (150, undef), (151, undef), (152, undef), (153, Value.bool (true)), (154, Value.bool (true))] ⟨rfl, rfl, rfl, rfl, rfl, rfl, rfl, rfl, rfl, rfl, rfl, rfl, rfl, rfl, rfl, rfl, rfl, rfl, rfl, rfl, rfl, rfl, rfl, rfl, rfl, rfl, rfl, rfl, rfl, rfl, rfl, rfl, rfl, rfl, rfl, rfl, rfl, rfl, rfl, rfl, rfl, rfl, rfl, rfl, rfl, rfl, rfl, rfl, rfl, rfl, rfl, rfl, rfl, rfl, rfl, rfl, rfl, rfl, rfl, rfl, rfl, rfl, rfl, rfl, rfl, rfl, rfl, rfl, rfl, rfl, rfl, rfl, trivial⟩ ?_
                                  refine V.condT rfl ?_
                                  refine V.seq ?_
                                  refine V.region ?_
                                  refine W.rd (X.assign rfl) rfl rfl rfl ?_
                                  refine W.nil ?_
                                  refine At.next ?_
                                  refine V.keep [(4, Value.bool (false))] ⟨rfl, trivial⟩ ?_
                                  refine V.ret ?_
                                  refine At.blockRet ?_
                                  refine At.thenRet ?_
                                  refine At.thenRet ?_
                                  refine At.blockRet ?_
                                  refine At.thenRet ?_
                                  replace HS := HS.sel [4] [0, 1, 2, 3] rfl
                                  cases H
                                  exact At.ret1 rfl rfl ⟨_, rfl, rfl, HS⟩
                                · replace H := ite_f c65 H
                                  by_cases c66 : (iand .i64 ((a0).getD ((x49).getD (w64 (x46 - 1)).toNat 0).toNat 0) (255)) = (iand .i64 ((a0).getD ((x49).getD (x46).toNat 0).toNat 0) (255))
                                  · replace H := ite_t c66 H
                                    refine V.draw (es := []) (bl := []) (f := [(101, Value.int .i64 (x46)), (102, Value.bool (decide (x46 > 0))), (103, Value.bool (decide (x46 > 0))), (104, Value.slice (some ⟨eb59, eo60, none⟩) (a0).length sc0), (105, Value.slice (some ⟨eb54, eo55, none⟩) (x49).length rc48), (106, Value.int .i64 (x46)), (107, Value.int .i64 (w64 (x46 - 1))), (108, Value.pointer (some ⟨eb54, eo55 + (w64 (x46 - 1)).toNat * 1, none⟩)), (109, Value.int .i64 ((x49).getD (w64 (x46 - 1)).toNat 0)), (110, Value.pointer (some ⟨eb59, eo60 + ((x49).getD (w64 (x46 - 1)).toNat 0).toNat * 1, none⟩)), (111, Value.int .i64 ((a0).getD ((x49).getD (w64 (x46 - 1)).toNat 0).toNat 0)), (112, Value.int .i64 (iand .i64 ((a0).getD ((x49).getD (w64 (x46 - 1)).toNat 0).toNat 0) (255))), (113, Value.slice (some ⟨eb59, eo60, none⟩) (a0).length sc0), (114, Value.slice (some ⟨eb54, eo55, none⟩) (x49).length rc48), (115, Value.int .i64 (x46)), (116, Value.pointer (some ⟨eb54, eo55 + (x46).toNat * 1, none⟩)), (117, Value.int .i64 ((x49).getD (x46).toNat 0)), (118, Value.pointer (some ⟨eb59, eo60 + ((x49).getD (x46).toNat 0).toNat * 1, none⟩)), (119, Value.int .i64 ((a0).getD ((x49).getD (x46).toNat 0).toNat 0)), (120, Value.int .i64 (iand .i64 ((a0).getD ((x49).getD (x46).toNat 0).toNat 0) (255))), (121, Value.bool (decide ((iand .i64 ((a0).getD ((x49).getD (w64 (x46 - 1)).toNat 0).toNat 0) (255)) > (iand .i64 ((a0).getD ((x49).getD (x46).toNat 0).toNat 0) (255))))), (122, Value.bool (decide ((iand .i64 ((a0).getD ((x49).getD (w64 (x46 - 1)).toNat 0).toNat 0) (255)) > (iand .i64 ((a0).getD ((x49).getD (x46).toNat 0).toNat 0) (255))))), (123, Value.slice (some ⟨eb59, eo60, none⟩) (a0).length sc0), (124, Value.slice (some ⟨eb54, eo55, none⟩) (x49).length rc48), (125, Value.int .i64 (x46)), (126, Value.int .i64 (w64 (x46 - 1))), (127, Value.pointer (some ⟨eb54, eo55 + (w64 (x46 - 1)).toNat * 1, none⟩)), (128, Value.int .i64 ((x49).getD (w64 (x46 - 1)).toNat 0)), (129, Value.pointer (some ⟨eb59, eo60 + ((x49).getD (w64 (x46 - 1)).toNat 0).toNat * 1, none⟩)), (130, Value.int .i64 ((a0).getD ((x49).getD (w64 (x46 - 1)).toNat 0).toNat 0)), (131, Value.int .i64 (iand .i64 ((a0).getD ((x49).getD (w64 (x46 - 1)).toNat 0).toNat 0) (255))), (132, Value.slice (some ⟨eb59, eo60, none⟩) (a0).length sc0), (133, Value.slice (some ⟨eb54, eo55, none⟩) (x49).length rc48), (134, Value.int .i64 (x46)), (135, Value.pointer (some ⟨eb54, eo55 + (x46).toNat * 1, none⟩)), (136, Value.int .i64 ((x49).getD (x46).toNat 0)), (137, Value.pointer (some ⟨eb59, eo60 + ((x49).getD (x46).toNat 0).toNat * 1, none⟩)), (138, Value.int .i64 ((a0).getD ((x49).getD (x46).toNat 0).toNat 0)), (139, Value.int .i64 (iand .i64 ((a0).getD ((x49).getD (x46).toNat 0).toNat 0) (255))), (140, Value.bool (decide ((iand .i64 ((a0).getD ((x49).getD (w64 (x46 - 1)).toNat 0).toNat 0) (255)) = (iand .i64 ((a0).getD ((x49).getD (x46).toNat 0).toNat 0) (255))))), (141, Value.bool (decide ((iand .i64 ((a0).getD ((x49).getD (w64 (x46 - 1)).toNat 0).toNat 0) (255)) = (iand .i64 ((a0).getD ((x49).getD (x46).toNat 0).toNat 0) (255))))), (142, Value.slice (some ⟨eb54, eo55, none⟩) (x49).length rc48), (143, Value.int .i64 (x46)), (144, Value.int .i64 (w64 (x46 - 1))), (145, Value.pointer (some ⟨eb54, eo55 + (w64 (x46 - 1)).toNat * 1, none⟩)), (146, Value.int .i64 ((x49).getD (w64 (x46 - 1)).toNat 0)), (147, Value.slice (some ⟨eb54, eo55, none⟩) (x49).length rc48), (148, Value.int .i64 (x46)), (149, Value.pointer (some ⟨eb54, eo55 + (x46).toNat * 1, none⟩)), (150, Value.int .i64 ((x49).getD (x46).toNat 0)), (151, Value.bool (decide (((x49).getD (w64 (x46 - 1)).toNat 0) ≥ ((x49).getD (x46).toNat 0)))), (152, Value.bool (decide (((x49).getD (w64 (x46 - 1)).toNat 0) ≥ ((x49).getD (x46).toNat 0)))), (153, Value.bool (decide (((x49).getD (w64 (x46 - 1)).toNat 0) ≥ ((x49).getD (x46).toNat 0)))), (154, Value.bool (decide (((x49).getD (w64 (x46 - 1)).toNat 0) ≥ ((x49).getD (x46).toNat 0))))]) (fun w => Sep.St [row 3 1 (.slice ra31 (x33).length rc32) (x33).length ((x33).map (Value.int .i64)), row 3 1 (.slice (some ⟨eb54, eo55, none⟩) (x49).length rc48) (x49).length ((x49).map (Value.int .i64)), clock_Set.at bt7_0 (t26.2), clock_Set.at bt9_0 (x34), R] w0 w) mo HS.drew rfl ?_
                                    refine T.fin [(0, Value.slice (some ⟨eb59, eo60, none⟩) (a0).length sc0), (1, Value.int .i64 (a1)), (10, Value.slice (some ⟨eb54, eo55, none⟩) (x49).length rc48), (13, Value.int .i64 (x46)), (81, Value.slice (some ⟨eb54, eo55, none⟩) (x49).length rc48), (82, Value.int .i64 (x46)), (83, Value.pointer (some ⟨eb54, eo55 + (x46).toNat * 1, none⟩)), (84, Value.int .i64 ((x49).getD (x46).toNat 0)), (85, Value.slice (some ⟨eb59, eo60, none⟩) (a0).length sc0), (86, Value.int .i64 (((a0).length : Int))), (87, Value.bool (decide (((x49).getD (x46).toNat 0) ≥ ((a0).length : Int)))), (90, Value.slice (some ⟨eb59, eo60, none⟩) (a0).length sc0), (91, Value.slice (some ⟨eb54, eo55, none⟩) (x49).length rc48), (92, Value.int .i64 (x46)), (93, Value.pointer (some ⟨eb54, eo55 + (x46).toNat * 1, none⟩)), (94, Value.int .i64 ((x49).getD (x46).toNat 0)), (95, Value.pointer (some ⟨eb59, eo60 + ((x49).getD (x46).toNat 0).toNat * 1, none⟩)), (96, Value.int .i64 ((a0).getD ((x49).getD (x46).toNat 0).toNat 0)), (97, Value.int .i64 (iand .i64 ((a0).getD ((x49).getD (x46).toNat 0).toNat 0) (255))), (98, Value.int .i64 (a1)), (99, Value.bool (decide ((iand .i64 ((a0).getD ((x49).getD (x46).toNat 0).toNat 0) (255)) ≥ a1))), (104, Value.slice (some ⟨eb59, eo60, none⟩) (a0).length sc0), (105, Value.slice (some ⟨eb54, eo55, none⟩) (x49).length rc48), (106, Value.int .i64 (x46)), (107, Value.int .i64 (w64 (x46 - 1))), (108, Value.pointer (some ⟨eb54, eo55 + (w64 (x46 - 1)).toNat * 1, none⟩)), (109, Value.int .i64 ((x49).getD (w64 (x46 - 1)).toNat 0)), (110, Value.pointer (some ⟨eb59, eo60 + ((x49).getD (w64 (x46 - 1)).toNat 0).toNat * 1, none⟩)), (111, Value.int .i64 ((a0).getD ((x49).getD (w64 (x46 - 1)).toNat 0).toNat 0)), (112, Value.int .i64 (iand .i64 ((a0).getD ((x49).getD (w64 (x46 - 1)).toNat 0).toNat 0) (255))), (113, Value.slice (some ⟨eb59, eo60, none⟩) (a0).length sc0), (114, Value.slice (some ⟨eb54, eo55, none⟩) (x49).length rc48), (115, Value.int .i64 (x46)), (116, Value.pointer (some ⟨eb54, eo55 + (x46).toNat * 1, none⟩)), (117, Value.int .i64 ((x49).getD (x46).toNat 0)), (118, Value.pointer (some ⟨eb59, eo60 + ((x49).getD (x46).toNat 0).toNat * 1, none⟩)), (119, Value.int .i64 ((a0).getD ((x49).getD (x46).toNat 0).toNat 0)), (120, Value.int .i64 (iand .i64 ((a0).getD ((x49).getD (x46).toNat 0).toNat 0) (255))), (121, Value.bool (decide ((iand .i64 ((a0).getD ((x49).getD (w64 (x46 - 1)).toNat 0).toNat 0) (255)) > (iand .i64 ((a0).getD ((x49).getD (x46).toNat 0).toNat 0) (255))))), (122, Value.bool (decide ((iand .i64 ((a0).getD ((x49).getD (w64 (x46 - 1)).toNat 0).toNat 0) (255)) > (iand .i64 ((a0).getD ((x49).getD (x46).toNat 0).toNat 0) (255))))), (123, Value.slice (some ⟨eb59, eo60, none⟩) (a0).length sc0), (124, Value.slice (some ⟨eb54, eo55, none⟩) (x49).length rc48), (125, Value.int .i64 (x46)), (126, Value.int .i64 (w64 (x46 - 1))), (127, Value.pointer (some ⟨eb54, eo55 + (w64 (x46 - 1)).toNat * 1, none⟩)), (128, Value.int .i64 ((x49).getD (w64 (x46 - 1)).toNat 0)), (129, Value.pointer (some ⟨eb59, eo60 + ((x49).getD (w64 (x46 - 1)).toNat 0).toNat * 1, none⟩)), (130, Value.int .i64 ((a0).getD ((x49).getD (w64 (x46 - 1)).toNat 0).toNat 0)), (131, Value.int .i64 (iand .i64 ((a0).getD ((x49).getD (w64 (x46 - 1)).toNat 0).toNat 0) (255))), (132, Value.slice (some ⟨eb59, eo60, none⟩) (a0).length sc0), (133, Value.slice (some ⟨eb54, eo55, none⟩) (x49).length rc48), (134, Value.int .i64 (x46)), (135, Value.pointer (some ⟨eb54, eo55 + (x46).toNat * 1, none⟩)), (136, Value.int .i64 ((x49).getD (x46).toNat 0)), (137, Value.pointer (some ⟨eb59, eo60 + ((x49).getD (x46).toNat 0).toNat * 1, none⟩)), (138, Value.int .i64 ((a0).getD ((x49).getD (x46).toNat 0).toNat 0)), (139, Value.int .i64 (iand .i64 ((a0).getD ((x49).getD (x46).toNat 0).toNat 0) (255))), (140, Value.bool (decide ((iand .i64 ((a0).getD ((x49).getD (w64 (x46 - 1)).toNat 0).toNat 0) (255)) = (iand .i64 ((a0).getD ((x49).getD (x46).toNat 0).toNat 0) (255))))), (141, Value.bool (decide ((iand .i64 ((a0).getD ((x49).getD (w64 (x46 - 1)).toNat 0).toNat 0) (255)) = (iand .i64 ((a0).getD ((x49).getD (x46).toNat 0).toNat 0) (255))))), (142, Value.slice (some ⟨eb54, eo55, none⟩) (x49).length rc48), (143, Value.int .i64 (x46)), (144, Value.int .i64 (w64 (x46 - 1))), (145, Value.pointer (some ⟨eb54, eo55 + (w64 (x46 - 1)).toNat * 1, none⟩)), (146, Value.int .i64 ((x49).getD (w64 (x46 - 1)).toNat 0)), (147, Value.slice (some ⟨eb54, eo55, none⟩) (x49).length rc48), (148, Value.int .i64 (x46)), (149, Value.pointer (some ⟨eb54, eo55 + (x46).toNat * 1, none⟩)), (150, Value.int .i64 ((x49).getD (x46).toNat 0)), (151, Value.bool (decide (((x49).getD (w64 (x46 - 1)).toNat 0) ≥ ((x49).getD (x46).toNat 0)))), (152, Value.bool (decide (((x49).getD (w64 (x46 - 1)).toNat 0) ≥ ((x49).getD (x46).toNat 0)))), (153, Value.bool (decide (((x49).getD (w64 (x46 - 1)).toNat 0) ≥ ((x49).getD (x46).toNat 0)))), (154, Value.bool (decide (((x49).getD (w64 (x46 - 1)).toNat 0) ≥ ((x49).getD (x46).toNat 0))))] rfl ⟨⟨_, Value.int .i64 (x46), [(13, Value.int .i64 (x46))], 101, rfl, rfl, ⟨.inl ⟨rfl, rfl⟩, trivial⟩, .run rfl (fun w HS => X.move rfl), rfl, rfl, rfl⟩, ⟨_, Value.bool (decide (x46 > 0)), [(101, Value.int .i64 (x46))], 102, rfl, rfl, ⟨.inr ⟨rfl, rfl⟩, trivial⟩, .run rfl (fun w HS => X.cmp (decide (x46 > 0)) rfl rfl rfl rfl), rfl, rfl, rfl⟩, ⟨_, Value.bool (decide (x46 > 0)), [(102, Value.bool (decide (x46 > 0)))], 103, rfl, rfl, ⟨.inr ⟨rfl, rfl⟩, trivial⟩, .run rfl (fun w HS => X.move rfl), rfl, rfl, rfl⟩, ⟨_, Value.slice (some ⟨eb59, eo60, none⟩) (a0).length sc0, [(0, Value.slice (some ⟨eb59, eo60, none⟩) (a0).length sc0), (103, Value.bool (decide (x46 > 0)))], 104, rfl, rfl, ⟨.inl ⟨rfl, rfl⟩, ⟨.inr ⟨rfl, rfl⟩, trivial⟩⟩, .want 2 true 103 rfl rfl (sb (decide_eq_true c62)) (fun w HS => X.move rfl), rfl, rfl, rfl⟩, ⟨_, Value.slice (some ⟨eb54, eo55, none⟩) (x49).length rc48, [(10, Value.slice (some ⟨eb54, eo55, none⟩) (x49).length rc48), (103, Value.bool (decide (x46 > 0)))], 105, rfl, rfl, ⟨.inl ⟨rfl, rfl⟩, ⟨.inr ⟨rfl, rfl⟩, trivial⟩⟩, .want 2 true 103 rfl rfl (sb (decide_eq_true c62)) (fun w HS => X.move rfl), rfl, rfl, rfl⟩, ⟨_, Value.int .i64 (x46), [(13, Value.int .i64 (x46)), (103, Value.bool (decide (x46 > 0)))], 106, rfl, rfl, ⟨.inl ⟨rfl, rfl⟩, ⟨.inr ⟨rfl, rfl⟩, trivial⟩⟩, .want 2 true 103 rfl rfl (sb (decide_eq_true c62)) (fun w HS => X.move rfl), rfl, rfl, rfl⟩, ⟨_, Value.int .i64 (w64 (x46 - 1)), [(106, Value.int .i64 (x46)), (103, Value.bool (decide (x46 > 0)))], 107, rfl, rfl, ⟨.inr ⟨rfl, rfl⟩, ⟨.inr ⟨rfl, rfl⟩, trivial⟩⟩, .want 2 true 103 rfl rfl (sb (decide_eq_true c62)) (fun w HS => X.sub rfl rfl), rfl, rfl, rfl⟩, ⟨_, Value.pointer (some ⟨eb54, eo55 + (w64 (x46 - 1)).toNat * 1, none⟩), [(105, Value.slice (some ⟨eb54, eo55, none⟩) (x49).length rc48), (107, Value.int .i64 (w64 (x46 - 1))), (103, Value.bool (decide (x46 > 0)))], 108, rfl, rfl, ⟨.inr ⟨rfl, rfl⟩, ⟨.inr ⟨rfl, rfl⟩, ⟨.inr ⟨rfl, rfl⟩, trivial⟩⟩⟩, .want 2 true 103 rfl rfl (sb (decide_eq_true c62)) (fun w HS => X.indexSl Try.underlying22 inf3 rfl rfl c63.1 c63.2), rfl, rfl, rfl⟩, ⟨_, Value.int .i64 ((x49).getD (w64 (x46 - 1)).toNat 0), [(108, Value.pointer (some ⟨eb54, eo55 + (w64 (x46 - 1)).toNat * 1, none⟩)), (103, Value.bool (decide (x46 > 0)))], 109, rfl, rfl, ⟨.inr ⟨rfl, rfl⟩, ⟨.inr ⟨rfl, rfl⟩, trivial⟩⟩, .want 2 true 103 rfl rfl (sb (decide_eq_true c62)) (fun w HS => X.load Try.underlying3 rfl rfl (((rdC.at 1 row_rd HS rfl)).cellI c63.1 c63.2)), rfl, rfl, rfl⟩, ⟨_, Value.pointer (some ⟨eb59, eo60 + ((x49).getD (w64 (x46 - 1)).toNat 0).toNat * 1, none⟩), [(104, Value.slice (some ⟨eb59, eo60, none⟩) (a0).length sc0), (109, Value.int .i64 ((x49).getD (w64 (x46 - 1)).toNat 0)), (103, Value.bool (decide (x46 > 0)))], 110, rfl, rfl, ⟨.inr ⟨rfl, rfl⟩, ⟨.inr ⟨rfl, rfl⟩, ⟨.inr ⟨rfl, rfl⟩, trivial⟩⟩⟩, .want 2 true 103 rfl rfl (sb (decide_eq_true c62)) (fun w HS => X.indexSl Try.underlying22 inf3 rfl rfl c64.1 c64.2), rfl, rfl, rfl⟩, ⟨_, Value.int .i64 ((a0).getD ((x49).getD (w64 (x46 - 1)).toNat 0).toNat 0), [(110, Value.pointer (some ⟨eb59, eo60 + ((x49).getD (w64 (x46 - 1)).toNat 0).toNat * 1, none⟩)), (103, Value.bool (decide (x46 > 0)))], 111, rfl, rfl, ⟨.inr ⟨rfl, rfl⟩, ⟨.inr ⟨rfl, rfl⟩, trivial⟩⟩, .want 2 true 103 rfl rfl (sb (decide_eq_true c62)) (fun w HS => X.load Try.underlying3 rfl rfl (((rdC.at 4 hr0 HS rfl)).cellI c64.1 c64.2)), rfl, rfl, rfl⟩, ⟨_, Value.int .i64 (iand .i64 ((a0).getD ((x49).getD (w64 (x46 - 1)).toNat 0).toNat 0) (255)), [(111, Value.int .i64 ((a0).getD ((x49).getD (w64 (x46 - 1)).toNat 0).toNat 0)), (103, Value.bool (decide (x46 > 0)))], 112, rfl, rfl, ⟨.inr ⟨rfl, rfl⟩, ⟨.inr ⟨rfl, rfl⟩, trivial⟩⟩, .want 2 true 103 rfl rfl (sb (decide_eq_true c62)) (fun w HS => X.and rfl rfl), rfl, rfl, rfl⟩, ⟨_, Value.slice (some ⟨eb59, eo60, none⟩) (a0).length sc0, [(0, Value.slice (some ⟨eb59, eo60, none⟩) (a0).length sc0), (103, Value.bool (decide (x46 > 0)))], 113, rfl, rfl, ⟨.inl ⟨rfl, rfl⟩, ⟨.inr ⟨rfl, rfl⟩, trivial⟩⟩, .want 2 true 103 rfl rfl (sb (decide_eq_true c62)) (fun w HS => X.move rfl), rfl, rfl, rfl⟩, ⟨_, Value.slice (some ⟨eb54, eo55, none⟩) (x49).length rc48, [(10, Value.slice (some ⟨eb54, eo55, none⟩) (x49).length rc48), (103, Value.bool (decide (x46 > 0)))], 114, rfl, rfl, ⟨.inl ⟨rfl, rfl⟩, ⟨.inr ⟨rfl, rfl⟩, trivial⟩⟩, .want 2 true 103 rfl rfl (sb (decide_eq_true c62)) (fun w HS => X.move rfl), rfl, rfl, rfl⟩, ⟨_, Value.int .i64 (x46), [(13, Value.int .i64 (x46)), (103, Value.bool (decide (x46 > 0)))], 115, rfl, rfl, ⟨.inl ⟨rfl, rfl⟩, ⟨.inr ⟨rfl, rfl⟩, trivial⟩⟩, .want 2 true 103 rfl rfl (sb (decide_eq_true c62)) (fun w HS => X.move rfl), rfl, rfl, rfl⟩, ⟨_, Value.pointer (some ⟨eb54, eo55 + (x46).toNat * 1, none⟩), [(114, Value.slice (some ⟨eb54, eo55, none⟩) (x49).length rc48), (115, Value.int .i64 (x46)), (103, Value.bool (decide (x46 > 0)))], 116, rfl, rfl, ⟨.inr ⟨rfl, rfl⟩, ⟨.inr ⟨rfl, rfl⟩, ⟨.inr ⟨rfl, rfl⟩, trivial⟩⟩⟩, .want 2 true 103 rfl rfl (sb (decide_eq_true c62)) (fun w HS => X.indexSl Try.underlying22 inf3 rfl rfl c53.1 c53.2), rfl, rfl, rfl⟩, ⟨_, Value.int .i64 ((x49).getD (x46).toNat 0), [(116, Value.pointer (some ⟨eb54, eo55 + (x46).toNat * 1, none⟩)), (103, Value.bool (decide (x46 > 0)))], 117, rfl, rfl, ⟨.inr ⟨rfl, rfl⟩, ⟨.inr ⟨rfl, rfl⟩, trivial⟩⟩, .want 2 true 103 rfl rfl (sb (decide_eq_true c62)) (fun w HS => X.load Try.underlying3 rfl rfl (((rdC.at 1 row_rd HS rfl)).cellI c53.1 c53.2)), rfl, rfl, rfl⟩, ⟨_, Value.pointer (some ⟨eb59, eo60 + ((x49).getD (x46).toNat 0).toNat * 1, none⟩), [(113, Value.slice (some ⟨eb59, eo60, none⟩) (a0).length sc0), (117, Value.int .i64 ((x49).getD (x46).toNat 0)), (103, Value.bool (decide (x46 > 0)))], 118, rfl, rfl, ⟨.inr ⟨rfl, rfl⟩, ⟨.inr ⟨rfl, rfl⟩, ⟨.inr ⟨rfl, rfl⟩, trivial⟩⟩⟩, .want 2 true 103 rfl rfl (sb (decide_eq_true c62)) (fun w HS => X.indexSl Try.underlying22 inf3 rfl rfl c58.1 c58.2), rfl, rfl, rfl⟩, ⟨_, Value.int .i64 ((a0).getD ((x49).getD (x46).toNat 0).toNat 0), [(118, Value.pointer (some ⟨eb59, eo60 + ((x49).getD (x46).toNat 0).toNat * 1, none⟩)), (103, Value.bool (decide (x46 > 0)))], 119, rfl, rfl, ⟨.inr ⟨rfl, rfl⟩, ⟨.inr ⟨rfl, rfl⟩, trivial⟩⟩, .want 2 true 103 rfl rfl (sb (decide_eq_true c62)) (fun w HS => X.load Try.underlying3 rfl rfl (((rdC.at 4 hr0 HS rfl)).cellI c58.1 c58.2)), rfl, rfl, rfl⟩, ⟨_, Value.int .i64 (iand .i64 ((a0).getD ((x49).getD (x46).toNat 0).toNat 0) (255)), [(119, Value.int .i64 ((a0).getD ((x49).getD (x46).toNat 0).toNat 0)), (103, Value.bool (decide (x46 > 0)))], 120, rfl, rfl, ⟨.inr ⟨rfl, rfl⟩, ⟨.inr ⟨rfl, rfl⟩, trivial⟩⟩, .want 2 true 103 rfl rfl (sb (decide_eq_true c62)) (fun w HS => X.and rfl rfl), rfl, rfl, rfl⟩, ⟨_, Value.bool (decide ((iand .i64 ((a0).getD ((x49).getD (w64 (x46 - 1)).toNat 0).toNat 0) (255)) > (iand .i64 ((a0).getD ((x49).getD (x46).toNat 0).toNat 0) (255)))), [(112, Value.int .i64 (iand .i64 ((a0).getD ((x49).getD (w64 (x46 - 1)).toNat 0).toNat 0) (255))), (120, Value.int .i64 (iand .i64 ((a0).getD ((x49).getD (x46).toNat 0).toNat 0) (255))), (103, Value.bool (decide (x46 > 0)))], 121, rfl, rfl, ⟨.inr ⟨rfl, rfl⟩, ⟨.inr ⟨rfl, rfl⟩, ⟨.inr ⟨rfl, rfl⟩, trivial⟩⟩⟩, .want 2 true 103 rfl rfl (sb (decide_eq_true c62)) (fun w HS => X.cmp (decide ((iand .i64 ((a0).getD ((x49).getD (w64 (x46 - 1)).toNat 0).toNat 0) (255)) > (iand .i64 ((a0).getD ((x49).getD (x46).toNat 0).toNat 0) (255)))) rfl rfl rfl rfl), rfl, rfl, rfl⟩, ⟨_, Value.bool (decide ((iand .i64 ((a0).getD ((x49).getD (w64 (x46 - 1)).toNat 0).toNat 0) (255)) > (iand .i64 ((a0).getD ((x49).getD (x46).toNat 0).toNat 0) (255)))), [(121, Value.bool (decide ((iand .i64 ((a0).getD ((x49).getD (w64 (x46 - 1)).toNat 0).toNat 0) (255)) > (iand .i64 ((a0).getD ((x49).getD (x46).toNat 0).toNat 0) (255))))), (103, Value.bool (decide (x46 > 0)))], 122, rfl, rfl, ⟨.inr ⟨rfl, rfl⟩, ⟨.inr ⟨rfl, rfl⟩, trivial⟩⟩, .want 2 true 103 rfl rfl (sb (decide_eq_true c62)) (fun w HS => X.move rfl), rfl, rfl, rfl⟩, ⟨_, Value.slice (some ⟨eb59, eo60, none⟩) (a0).length sc0, [(0, Value.slice (some ⟨eb59, eo60, none⟩) (a0).length sc0), (122, Value.bool (decide ((iand .i64 ((a0).getD ((x49).getD (w64 (x46 - 1)).toNat 0).toNat 0) (255)) > (iand .i64 ((a0).getD ((x49).getD (x46).toNat 0).toNat 0) (255)))))], 123, rfl, rfl, ⟨.inl ⟨rfl, rfl⟩, ⟨.inr ⟨rfl, rfl⟩, trivial⟩⟩, .want 21 false 122 rfl rfl (sb (decide_eq_false c65)) (fun w HS => X.move rfl), rfl, rfl, rfl⟩, ⟨_, Value.slice (some ⟨eb54, eo55, none⟩) (x49).length rc48, [(10, Value.slice (some ⟨eb54, eo55, none⟩) (x49).length rc48), (122, Value.bool (decide ((iand .i64 ((a0).getD ((x49).getD (w64 (x46 - 1)).toNat 0).toNat 0) (255)) > (iand .i64 ((a0).getD ((x49).getD (x46).toNat 0).toNat 0) (255)))))], 124, rfl, rfl, ⟨.inl ⟨rfl, rfl⟩, ⟨.inr ⟨rfl, rfl⟩, trivial⟩⟩, .want 21 false 122 rfl rfl (sb (decide_eq_false c65)) (fun w HS => X.move rfl), rfl, rfl, rfl⟩, ⟨_, Value.int .i64 (x46), [(13, Value.int .i64 (x46)), (122, Value.bool (decide ((iand .i64 ((a0).getD ((x49).getD (w64 (x46 - 1)).toNat 0).toNat 0) (255)) > (iand .i64 ((a0).getD ((x49).getD (x46).toNat 0).toNat 0) (255)))))], 125, rfl, rfl, ⟨.inl ⟨rfl, rfl⟩, ⟨.inr ⟨rfl, rfl⟩, trivial⟩⟩, .want 21 false 122 rfl rfl (sb (decide_eq_false c65)) (fun w HS => X.move rfl), rfl, rfl, rfl⟩, ⟨_, Value.int .i64 (w64 (x46 - 1)), [(125, Value.int .i64 (x46)), (122, Value.bool (decide ((iand .i64 ((a0).getD ((x49).getD (w64 (x46 - 1)).toNat 0).toNat 0) (255)) > (iand .i64 ((a0).getD ((x49).getD (x46).toNat 0).toNat 0) (255)))))], 126, rfl, rfl, ⟨.inr ⟨rfl, rfl⟩, ⟨.inr ⟨rfl, rfl⟩, trivial⟩⟩, .want 21 false 122 rfl rfl (sb (decide_eq_false c65)) (fun w HS => X.sub rfl rfl), rfl, rfl, rfl⟩, ⟨_, Value.pointer (some ⟨eb54, eo55 + (w64 (x46 - 1)).toNat * 1, none⟩), [(124, Value.slice (some ⟨eb54, eo55, none⟩) (x49).length rc48), (126, Value.int .i64 (w64 (x46 - 1))), (122, Value.bool (decide ((iand .i64 ((a0).getD ((x49).getD (w64 (x46 - 1)).toNat 0).toNat 0) (255)) > (iand .i64 ((a0).getD ((x49).getD (x46).toNat 0).toNat 0) (255)))))], 127, rfl, rfl, ⟨.inr ⟨rfl, rfl⟩, ⟨.inr ⟨rfl, rfl⟩, ⟨.inr ⟨rfl, rfl⟩, trivial⟩⟩⟩, .want 21 false 122 rfl rfl (sb (decide_eq_false c65)) (fun w HS => X.indexSl Try.underlying22 inf3 rfl rfl c63.1 c63.2), rfl, rfl, rfl⟩, ⟨_, Value.int .i64 ((x49).getD (w64 (x46 - 1)).toNat 0), [(127, Value.pointer (some ⟨eb54, eo55 + (w64 (x46 - 1)).toNat * 1, none⟩)), (122, Value.bool (decide ((iand .i64 ((a0).getD ((x49).getD (w64 (x46 - 1)).toNat 0).toNat 0) (255)) > (iand .i64 ((a0).getD ((x49).getD (x46).toNat 0).toNat 0) (255)))))], 128, rfl, rfl, ⟨.inr ⟨rfl, rfl⟩, ⟨.inr ⟨rfl, rfl⟩, trivial⟩⟩, .want 21 false 122 rfl rfl (sb (decide_eq_false c65)) (fun w HS => X.load Try.underlying3 rfl rfl (((rdC.at 1 row_rd HS rfl)).cellI c63.1 c63.2)), rfl, rfl, rfl⟩, ⟨_, Value.pointer (some ⟨eb59, eo60 + ((x49).getD (w64 (x46 - 1)).toNat 0).toNat * 1, none⟩), [(123, Value.slice (some ⟨eb59, eo60, none⟩) (a0).length sc0), (128, Value.int .i64 ((x49).getD (w64 (x46 - 1)).toNat 0)), (122, Value.bool (decide ((iand .i64 ((a0).getD ((x49).getD (w64 (x46 - 1)).toNat 0).toNat 0) (255)) > (iand .i64 ((a0).getD ((x49).getD (x46).toNat 0).toNat 0) (255)))))], 129, rfl, rfl, ⟨.inr ⟨rfl, rfl⟩, ⟨.inr ⟨rfl, rfl⟩, ⟨.inr ⟨rfl, rfl⟩, trivial⟩⟩⟩, .want 21 false 122 rfl rfl (sb (decide_eq_false c65)) (fun w HS => X.indexSl Try.underlying22 inf3 rfl rfl c64.1 c64.2), rfl, rfl, rfl⟩, ⟨_, Value.int .i64 ((a0).getD ((x49).getD (w64 (x46 - 1)).toNat 0).toNat 0), [(129, Value.pointer (some ⟨eb59, eo60 + ((x49).getD (w64 (x46 - 1)).toNat 0).toNat * 1, none⟩)), (122, Value.bool (decide ((iand .i64 ((a0).getD ((x49).getD (w64 (x46 - 1)).toNat 0).toNat 0) (255)) > (iand .i64 ((a0).getD ((x49).getD (x46).toNat 0).toNat 0) (255)))))], 130, rfl, rfl, ⟨.inr ⟨rfl, rfl⟩, ⟨.inr ⟨rfl, rfl⟩, trivial⟩⟩, .want 21 false 122 rfl rfl (sb (decide_eq_false c65)) (fun w HS => X.load Try.underlying3 rfl rfl (((rdC.at 4 hr0 HS rfl)).cellI c64.1 c64.2)), rfl, rfl, rfl⟩, ⟨_, Value.int .i64 (iand .i64 ((a0).getD ((x49).getD (w64 (x46 - 1)).toNat 0).toNat 0) (255)), [(130, Value.int .i64 ((a0).getD ((x49).getD (w64 (x46 - 1)).toNat 0).toNat 0)), (122, Value.bool (decide ((iand .i64 ((a0).getD ((x49).getD (w64 (x46 - 1)).toNat 0).toNat 0) (255)) > (iand .i64 ((a0).getD ((x49).getD (x46).toNat 0).toNat 0) (255)))))], 131, rfl, rfl, ⟨.inr ⟨rfl, rfl⟩, ⟨.inr ⟨rfl, rfl⟩, trivial⟩⟩, .want 21 false 122 rfl rfl (sb (decide_eq_false c65)) (fun w HS => X.and rfl rfl), rfl, rfl, rfl⟩, ⟨_, Value.slice (some ⟨eb59, eo60, none⟩) (a0).length sc0, [(0, Value.slice (some ⟨eb59, eo60, none⟩) (a0).length sc0), (122, Value.bool (decide ((iand .i64 ((a0).getD ((x49).getD (w64 (x46 - 1)).toNat 0).toNat 0) (255)) > (iand .i64 ((a0).getD ((x49).getD (x46).toNat 0).toNat 0) (255)))))], 132, rfl, rfl, ⟨.inl ⟨rfl, rfl⟩, ⟨.inr ⟨rfl, rfl⟩, trivial⟩⟩, .want 21 false 122 rfl rfl (sb (decide_eq_false c65)) (fun w HS => X.move rfl), rfl, rfl, rfl⟩, ⟨_, Value.slice (some ⟨eb54, eo55, none⟩) (x49).length rc48, [(10, Value.slice (some ⟨eb54, eo55, none⟩) (x49).length rc48), (122, Value.bool (decide ((iand .i64 ((a0).getD ((x49).getD (w64 (x46 - 1)).toNat 0).toNat 0) (255)) > (iand .i64 ((a0).getD ((x49).getD (x46).toNat 0).toNat 0) (255)))))], 133, rfl, rfl, ⟨.inl ⟨rfl, rfl⟩, ⟨.inr ⟨rfl, rfl⟩, trivial⟩⟩, .want 21 false 122 rfl rfl (sb (decide_eq_false c65)) (fun w HS => X.move rfl), rfl, rfl, rfl⟩, ⟨_, Value.int .i64 (x46), [(13, Value.int .i64 (x46)), (122, Value.bool (decide ((iand .i64 ((a0).getD ((x49).getD (w64 (x46 - 1)).toNat 0).toNat 0) (255)) > (iand .i64 ((a0).getD ((x49).getD (x46).toNat 0).toNat 0) (255)))))], 134, rfl, rfl, ⟨.inl ⟨rfl, rfl⟩, ⟨.inr ⟨rfl, rfl⟩, trivial⟩⟩, .want 21 false 122 rfl rfl (sb (decide_eq_false c65)) (fun w HS => X.move rfl), rfl, rfl, rfl⟩, ⟨_, Value.pointer (some ⟨eb54, eo55 + (x46).toNat * 1, none⟩), [(133, Value.slice (some ⟨eb54, eo55, none⟩) (x49).length rc48), (134, Value.int .i64 (x46)), (122, Value.bool (decide ((iand .i64 ((a0).getD ((x49).getD (w64 (x46 - 1)).toNat 0).toNat 0) (255)) > (iand .i64 ((a0).getD ((x49).getD (x46).toNat 0).toNat 0) (255)))))], 135, rfl, rfl, ⟨.inr ⟨rfl, rfl⟩, ⟨.inr ⟨rfl, rfl⟩, ⟨.inr ⟨rfl, rfl⟩, trivial⟩⟩⟩, .want 21 false 122 rfl rfl (sb (decide_eq_false c65)) (fun w HS => X.indexSl Try.underlying22 inf3 rfl rfl c53.1 c53.2), rfl, rfl, rfl⟩, ⟨_, Value.int .i64 ((x49).getD (x46).toNat 0), [(135, Value.pointer (some ⟨eb54, eo55 + (x46).toNat * 1, none⟩)), (122, Value.bool (decide ((iand .i64 ((a0).getD ((x49).getD (w64 (x46 - 1)).toNat 0).toNat 0) (255)) > (iand .i64 ((a0).getD ((x49).getD (x46).toNat 0).toNat 0) (255)))))], 136, rfl, rfl, ⟨.inr ⟨rfl, rfl⟩, ⟨.inr ⟨rfl, rfl⟩, trivial⟩⟩, .want 21 false 122 rfl rfl (sb (decide_eq_false c65)) (fun w HS => X.load Try.underlying3 rfl rfl (((rdC.at 1 row_rd HS rfl)).cellI c53.1 c53.2)), rfl, rfl, rfl⟩, ⟨_, Value.pointer (some ⟨eb59, eo60 + ((x49).getD (x46).toNat 0).toNat * 1, none⟩), [(132, Value.slice (some ⟨eb59, eo60, none⟩) (a0).length sc0), (136, Value.int .i64 ((x49).getD (x46).toNat 0)), (122, Value.bool (decide ((iand .i64 ((a0).getD ((x49).getD (w64 (x46 - 1)).toNat 0).toNat 0) (255)) > (iand .i64 ((a0).getD ((x49).getD (x46).toNat 0).toNat 0) (255)))))], 137, rfl, rfl, ⟨.inr ⟨rfl, rfl⟩, ⟨.inr ⟨rfl, rfl⟩, ⟨.inr ⟨rfl, rfl⟩, trivial⟩⟩⟩, .want 21 false 122 rfl rfl (sb (decide_eq_false c65)) (fun w HS => X.indexSl Try.underlying22 inf3 rfl rfl c58.1 c58.2), rfl, rfl, rfl⟩, ⟨_, Value.int .i64 ((a0).getD ((x49).getD (x46).toNat 0).toNat 0), [(137, Value.pointer (some ⟨eb59, eo60 + ((x49).getD (x46).toNat 0).toNat * 1, none⟩)), (122, Value.bool (decide ((iand .i64 ((a0).getD ((x49).getD (w64 (x46 - 1)).toNat 0).toNat 0) (255)) > (iand .i64 ((a0).getD ((x49).getD (x46).toNat 0).toNat 0) (255)))))], 138, rfl, rfl, ⟨.inr ⟨rfl, rfl⟩, ⟨.inr ⟨rfl, rfl⟩, trivial⟩⟩, .want 21 false 122 rfl rfl (sb (decide_eq_false c65)) (fun w HS => X.load Try.underlying3 rfl rfl (((rdC.at 4 hr0 HS rfl)).cellI c58.1 c58.2)), rfl, rfl, rfl⟩, ⟨_, Value.int .i64 (iand .i64 ((a0).getD ((x49).getD (x46).toNat 0).toNat 0) (255)), [(138, Value.int .i64 ((a0).getD ((x49).getD (x46).toNat 0).toNat 0)), (122, Value.bool (decide ((iand .i64 ((a0).getD ((x49).getD (w64 (x46 - 1)).toNat 0).toNat 0) (255)) > (iand .i64 ((a0).getD ((x49).getD (x46).toNat 0).toNat 0) (255)))))], 139, rfl, rfl, ⟨.inr ⟨rfl, rfl⟩, ⟨.inr ⟨rfl, rfl⟩, trivial⟩⟩, .want 21 false 122 rfl rfl (sb (decide_eq_false c65)) (fun w HS => X.and rfl rfl), rfl, rfl, rfl⟩, ⟨_, Value.bool (decide ((iand .i64 ((a0).getD ((x49).getD (w64 (x46 - 1)).toNat 0).toNat 0) (255)) = (iand .i64 ((a0).getD ((x49).getD (x46).toNat 0).toNat 0) (255)))), [(131, Value.int .i64 (iand .i64 ((a0).getD ((x49).getD (w64 (x46 - 1)).toNat 0).toNat 0) (255))), (139, Value.int .i64 (iand .i64 ((a0).getD ((x49).getD (x46).toNat 0).toNat 0) (255))), (122, Value.bool (decide ((iand .i64 ((a0).getD ((x49).getD (w64 (x46 - 1)).toNat 0).toNat 0) (255)) > (iand .i64 ((a0).getD ((x49).getD (x46).toNat 0).toNat 0) (255)))))], 140, rfl, rfl, ⟨.inr ⟨rfl, rfl⟩, ⟨.inr ⟨rfl, rfl⟩, ⟨.inr ⟨rfl, rfl⟩, trivial⟩⟩⟩, .want 21 false 122 rfl rfl (sb (decide_eq_false c65)) (fun w HS => X.cmp (decide ((iand .i64 ((a0).getD ((x49).getD (w64 (x46 - 1)).toNat 0).toNat 0) (255)) = (iand .i64 ((a0).getD ((x49).getD (x46).toNat 0).toNat 0) (255)))) rfl rfl rfl rfl), rfl, rfl, rfl⟩, ⟨_, Value.bool (decide ((iand .i64 ((a0).getD ((x49).getD (w64 (x46 - 1)).toNat 0).toNat 0) (255)) = (iand .i64 ((a0).getD ((x49).getD (x46).toNat 0).toNat 0) (255)))), [(140, Value.bool (decide ((iand .i64 ((a0).getD ((x49).getD (w64 (x46 - 1)).toNat 0).toNat 0) (255)) = (iand .i64 ((a0).getD ((x49).getD (x46).toNat 0).toNat 0) (255))))), (122, Value.bool (decide ((iand .i64 ((a0).getD ((x49).getD (w64 (x46 - 1)).toNat 0).toNat 0) (255)) > (iand .i64 ((a0).getD ((x49).getD (x46).toNat 0).toNat 0) (255)))))], 141, rfl, rfl, ⟨.inr ⟨rfl, rfl⟩, ⟨.inr ⟨rfl, rfl⟩, trivial⟩⟩, .want 21 false 122 rfl rfl (sb (decide_eq_false c65)) (fun w HS => X.move rfl), rfl, rfl, rfl⟩, ⟨_, Value.slice (some ⟨eb54, eo55, none⟩) (x49).length rc48, [(10, Value.slice (some ⟨eb54, eo55, none⟩) (x49).length rc48), (141, Value.bool (decide ((iand .i64 ((a0).getD ((x49).getD (w64 (x46 - 1)).toNat 0).toNat 0) (255)) = (iand .i64 ((a0).getD ((x49).getD (x46).toNat 0).toNat 0) (255)))))], 142, rfl, rfl, ⟨.inl ⟨rfl, rfl⟩, ⟨.inr ⟨rfl, rfl⟩, trivial⟩⟩, .want 40 true 141 rfl rfl (sb (decide_eq_true c66)) (fun w HS => X.move rfl), rfl, rfl, rfl⟩, ⟨_, Value.int .i64 (x46), [(13, Value.int .i64 (x46)), (141, Value.bool (decide ((iand .i64 ((a0).getD ((x49).getD (w64 (x46 - 1)).toNat 0).toNat 0) (255)) = (iand .i64 ((a0).getD ((x49).getD (x46).toNat 0).toNat 0) (255)))))], 143, rfl, rfl, ⟨.inl ⟨rfl, rfl⟩, ⟨.inr ⟨rfl, rfl⟩, trivial⟩⟩, .want 40 true 141 rfl rfl (sb (decide_eq_true c66)) (fun w HS => X.move rfl), rfl, rfl, rfl⟩, ⟨_, Value.int .i64 (w64 (x46 - 1)), [(143, Value.int .i64 (x46)), (141, Value.bool (decide ((iand .i64 ((a0).getD ((x49).getD (w64 (x46 - 1)).toNat 0).toNat 0) (255)) = (iand .i64 ((a0).getD ((x49).getD (x46).toNat 0).toNat 0) (255)))))], 144, rfl, rfl, ⟨.inr ⟨rfl, rfl⟩, ⟨.inr ⟨rfl, rfl⟩, trivial⟩⟩, .want 40 true 141 rfl rfl (sb (decide_eq_true c66)) (fun w HS => X.sub rfl rfl), rfl, rfl, rfl⟩, ⟨_, Value.pointer (some ⟨eb54, eo55 + (w64 (x46 - 1)).toNat * 1, none⟩), [(142, Value.slice (some ⟨eb54, eo55, none⟩) (x49).length rc48), (144, Value.int .i64 (w64 (x46 - 1))), (141, Value.bool (decide ((iand .i64 ((a0).getD ((x49).getD (w64 (x46 - 1)).toNat 0).toNat 0) (255)) = (iand .i64 ((a0).getD ((x49).getD (x46).toNat 0).toNat 0) (255)))))], 145, rfl, rfl, ⟨.inr ⟨rfl, rfl⟩, ⟨.inr ⟨rfl, rfl⟩, ⟨.inr ⟨rfl, rfl⟩, trivial⟩⟩⟩, .want 40 true 141 rfl rfl (sb (decide_eq_true c66)) (fun w HS => X.indexSl Try.underlying22 inf3 rfl rfl c63.1 c63.2), rfl, rfl, rfl⟩, ⟨_, Value.int .i64 ((x49).getD (w64 (x46 - 1)).toNat 0), [(145, Value.pointer (some ⟨eb54, eo55 + (w64 (x46 - 1)).toNat * 1, none⟩)), (141, Value.bool (decide ((iand .i64 ((a0).getD ((x49).getD (w64 (x46 - 1)).toNat 0).toNat 0) (255)) = (iand .i64 ((a0).getD ((x49).getD (x46).toNat 0).toNat 0) (255)))))], 146, rfl, rfl, ⟨.inr ⟨rfl, rfl⟩, ⟨.inr ⟨rfl, rfl⟩, trivial⟩⟩, .want 40 true 141 rfl rfl (sb (decide_eq_true c66)) (fun w HS => X.load Try.underlying3 rfl rfl (((rdC.at 1 row_rd HS rfl)).cellI c63.1 c63.2)), rfl, rfl, rfl⟩, ⟨_, Value.slice (some ⟨eb54, eo55, none⟩) (x49).length rc48, [(10, Value.slice (some ⟨eb54, eo55, none⟩) (x49).length rc48), (141, Value.bool (decide ((iand .i64 ((a0).getD ((x49).getD (w64 (x46 - 1)).toNat 0).toNat 0) (255)) = (iand .i64 ((a0).getD ((x49).getD (x46).toNat 0).toNat 0) (255)))))], 147, rfl, rfl, ⟨.inl ⟨rfl, rfl⟩, ⟨.inr ⟨rfl, rfl⟩, trivial⟩⟩, .want 40 true 141 rfl rfl (sb (decide_eq_true c66)) (fun w HS => X.move rfl), rfl, rfl, rfl⟩, ⟨_, Value.int .i64 (x46), [(13, Value.int .i64 (x46)), (141, Value.bool (decide ((iand .i64 ((a0).getD ((x49).getD (w64 (x46 - 1)).toNat 0).toNat 0) (255)) = (iand .i64 ((a0).getD ((x49).getD (x46).toNat 0).toNat 0) (255)))))], 148, rfl, rfl, ⟨.inl ⟨rfl, rfl⟩, ⟨.inr ⟨rfl, rfl⟩, trivial⟩⟩, .want 40 true 141 rfl rfl (sb (decide_eq_true c66)) (fun w HS => X.move rfl), rfl, rfl, rfl⟩, ⟨_, Value.pointer (some ⟨eb54, eo55 + (x46).toNat * 1, none⟩), [(147, Value.slice (some ⟨eb54, eo55, none⟩) (x49).length rc48), (148, Value.int .i64 (x46)), (141, Value.bool (decide ((iand .i64 ((a0).getD ((x49).getD (w64 (x46 - 1)).toNat 0).toNat 0) (255)) = (iand .i64 ((a0).getD ((x49).getD (x46).toNat 0).toNat 0) (255)))))], 149, rfl, rfl, ⟨.inr ⟨rfl, rfl⟩, ⟨.inr ⟨rfl, rfl⟩, ⟨.inr ⟨rfl, rfl⟩, trivial⟩⟩⟩, .want 40 true 141 rfl rfl (sb (decide_eq_true c66)) (fun w HS => X.indexSl Try.underlying22 inf3 rfl rfl c53.1 c53.2), rfl, rfl, rfl⟩, ⟨_, Value.int .i64 ((x49).getD (x46).toNat 0), [(149, Value.pointer (some ⟨eb54, eo55 + (x46).toNat * 1, none⟩)), (141, Value.bool (decide ((iand .i64 ((a0).getD ((x49).getD (w64 (x46 - 1)).toNat 0).toNat 0) (255)) = (iand .i64 ((a0).getD ((x49).getD (x46).toNat 0).toNat 0) (255)))))], 150, rfl, rfl, ⟨.inr ⟨rfl, rfl⟩, ⟨.inr ⟨rfl, rfl⟩, trivial⟩⟩, .want 40 true 141 rfl rfl (sb (decide_eq_true c66)) (fun w HS => X.load Try.underlying3 rfl rfl (((rdC.at 1 row_rd HS rfl)).cellI c53.1 c53.2)), rfl, rfl, rfl⟩, ⟨_, Value.bool (decide (((x49).getD (w64 (x46 - 1)).toNat 0) ≥ ((x49).getD (x46).toNat 0))), [(146, Value.int .i64 ((x49).getD (w64 (x46 - 1)).toNat 0)), (150, Value.int .i64 ((x49).getD (x46).toNat 0)), (141, Value.bool (decide ((iand .i64 ((a0).getD ((x49).getD (w64 (x46 - 1)).toNat 0).toNat 0) (255)) = (iand .i64 ((a0).getD ((x49).getD (x46).toNat 0).toNat 0) (255)))))], 151, rfl, rfl, ⟨.inr ⟨rfl, rfl⟩, ⟨.inr ⟨rfl, rfl⟩, ⟨.inr ⟨rfl, rfl⟩, trivial⟩⟩⟩, .want 40 true 141 rfl rfl (sb (decide_eq_true c66)) (fun w HS => X.cmp (decide (((x49).getD (w64 (x46 - 1)).toNat 0) ≥ ((x49).getD (x46).toNat 0))) rfl rfl rfl rfl), rfl, rfl, rfl⟩, ⟨_, Value.bool (decide (((x49).getD (w64 (x46 - 1)).toNat 0) ≥ ((x49).getD (x46).toNat 0))), [(141, Value.bool (decide ((iand .i64 ((a0).getD ((x49).getD (w64 (x46 - 1)).toNat 0).toNat 0) (255)) = (iand .i64 ((a0).getD ((x49).getD (x46).toNat 0).toNat 0) (255))))), (151, Value.bool (decide (((x49).getD (w64 (x46 - 1)).toNat 0) ≥ ((x49).getD (x46).toNat 0)))), (122, Value.bool (decide ((iand .i64 ((a0).getD ((x49).getD (w64 (x46 - 1)).toNat 0).toNat 0) (255)) > (iand .i64 ((a0).getD ((x49).getD (x46).toNat 0).toNat 0) (255)))))], 152, rfl, rfl, ⟨.inr ⟨rfl, rfl⟩, ⟨.inr ⟨rfl, rfl⟩, ⟨.inr ⟨rfl, rfl⟩, trivial⟩⟩⟩, .want 21 false 122 rfl rfl (sb (decide_eq_false c65)) (fun w HS => X.pickT (sb (decide_eq_true c66)) rfl), rfl, rfl, rfl⟩, ⟨_, Value.bool (decide (((x49).getD (w64 (x46 - 1)).toNat 0) ≥ ((x49).getD (x46).toNat 0))), [(122, Value.bool (decide ((iand .i64 ((a0).getD ((x49).getD (w64 (x46 - 1)).toNat 0).toNat 0) (255)) > (iand .i64 ((a0).getD ((x49).getD (x46).toNat 0).toNat 0) (255))))), (152, Value.bool (decide (((x49).getD (w64 (x46 - 1)).toNat 0) ≥ ((x49).getD (x46).toNat 0)))), (103, Value.bool (decide (x46 > 0)))], 153, rfl, rfl, ⟨.inr ⟨rfl, rfl⟩, ⟨.inr ⟨rfl, rfl⟩, ⟨.inr ⟨rfl, rfl⟩, trivial⟩⟩⟩, .want 2 true 103 rfl rfl (sb (decide_eq_true c62)) (fun w HS => X.pickF (sb (decide_eq_false c65)) rfl), rfl, rfl, rfl⟩, ⟨_, Value.bool (decide (((x49).getD (w64 (x46 - 1)).toNat 0) ≥ ((x49).getD (x46).toNat 0))), [(103, Value.bool (decide (x46 > 0))), (153, Value.bool (decide (((x49).getD (w64 (x46 - 1)).toNat 0) ≥ ((x49).getD (x46).toNat 0))))], 154, rfl, rfl, ⟨.inr ⟨rfl, rfl⟩, ⟨.inr ⟨rfl, rfl⟩, trivial⟩⟩, .run rfl (fun w HS => X.pickT (sb (decide_eq_true c62)) rfl), rfl, rfl, rfl⟩, trivial⟩ ⟨.inl ⟨rfl, rfl⟩, ⟨.inl ⟨rfl, rfl⟩, ⟨.inl ⟨rfl, rfl⟩, ⟨.inl ⟨rfl, rfl⟩, ⟨.inl ⟨rfl, rfl⟩, ⟨.inl ⟨rfl, rfl⟩, ⟨.inl ⟨rfl, rfl⟩, ⟨.inl ⟨rfl, rfl⟩, ⟨.inl ⟨rfl, rfl⟩, ⟨.inl ⟨rfl, rfl⟩, ⟨.inl ⟨rfl, rfl⟩, ⟨.inl ⟨rfl, rfl⟩, ⟨.inl ⟨rfl, rfl⟩, ⟨.inl ⟨rfl, rfl⟩, ⟨.inl ⟨rfl, rfl⟩, ⟨.inl ⟨rfl, rfl⟩, ⟨.inl ⟨rfl, rfl⟩, ⟨.inl ⟨rfl, rfl⟩, ⟨.inl ⟨rfl, rfl⟩, ⟨.inl ⟨rfl, rfl⟩, ⟨.inl ⟨rfl, rfl⟩, ⟨.inr ⟨rfl, rfl⟩, ⟨.inr ⟨rfl, rfl⟩, ⟨.inr ⟨rfl, rfl⟩, ⟨.inr ⟨rfl, rfl⟩, ⟨.inr ⟨rfl, rfl⟩, ⟨.inr ⟨rfl, rfl⟩, ⟨.inr ⟨rfl, rfl⟩, ⟨.inr ⟨rfl, rfl⟩, ⟨.inr ⟨rfl, rfl⟩, ⟨.inr ⟨rfl, rfl⟩, ⟨.inr ⟨rfl, rfl⟩, ⟨.inr ⟨rfl, rfl⟩, ⟨.inr ⟨rfl, rfl⟩, ⟨.inr ⟨rfl, rfl⟩, ⟨.inr ⟨rfl, rfl⟩, ⟨.inr ⟨rfl, rfl⟩, ⟨.inr ⟨rfl, rfl⟩, ⟨.inr ⟨rfl, rfl⟩, ⟨.inr ⟨rfl, rfl⟩, ⟨.inr ⟨rfl, rfl⟩, ⟨.inr ⟨rfl, rfl⟩, ⟨.inr ⟨rfl, rfl⟩, ⟨.inr ⟨rfl, rfl⟩, ⟨.inr ⟨rfl, rfl⟩, ⟨.inr ⟨rfl, rfl⟩, ⟨.inr ⟨rfl, rfl⟩, ⟨.inr ⟨rfl, rfl⟩, ⟨.inr ⟨rfl, rfl⟩, ⟨.inr ⟨rfl, rfl⟩, ⟨.inr ⟨rfl, rfl⟩, ⟨.inr ⟨rfl, rfl⟩, ⟨.inr ⟨rfl, rfl⟩, ⟨.inr ⟨rfl, rfl⟩, ⟨.inr ⟨rfl, rfl⟩, ⟨.inr ⟨rfl, rfl⟩, ⟨.inr ⟨rfl, rfl⟩, ⟨.inr ⟨rfl, rfl⟩, ⟨.inr ⟨rfl, rfl⟩, ⟨.inr ⟨rfl, rfl⟩, ⟨.inr ⟨rfl, rfl⟩, ⟨.inr ⟨rfl, rfl⟩, ⟨.inr ⟨rfl, rfl⟩, ⟨.inr ⟨rfl, rfl⟩, ⟨.inr ⟨rfl, rfl⟩, ⟨.inr ⟨rfl, rfl⟩, ⟨.inr ⟨rfl, rfl⟩, ⟨.inr ⟨rfl, rfl⟩, ⟨.inr ⟨rfl, rfl⟩, ⟨.inr ⟨rfl, rfl⟩, ⟨.inr ⟨rfl, rfl⟩, ⟨.inr ⟨rfl, rfl⟩, trivial⟩⟩⟩⟩⟩⟩⟩⟩⟩⟩⟩⟩⟩⟩⟩⟩⟩⟩⟩⟩⟩⟩⟩⟩⟩⟩⟩⟩⟩⟩⟩⟩⟩⟩⟩⟩⟩⟩⟩⟩⟩⟩⟩⟩⟩⟩⟩⟩⟩⟩⟩⟩⟩⟩⟩⟩⟩⟩⟩⟩⟩⟩⟩⟩⟩⟩⟩⟩⟩⟩⟩⟩ (fun w HS => ?_)
                                    have HS : Sep.St [row 3 1 (.slice ra31 (x33).length rc32) (x33).length ((x33).map (Value.int .i64)), row 3 1 (.slice (some ⟨eb54, eo55, none⟩) (x49).length rc48) (x49).length ((x49).map (Value.int .i64)), clock_Set.at bt7_0 (t26.2), clock_Set.at bt9_0 (x34), R] w0 w := HS
                                    refine At.next ?_
                                    refine V.keep [(0, Value.slice (some ⟨eb59, eo60, none⟩) (a0).length sc0), (1, Value.int .i64 (a1)), (10, Value.slice (some ⟨eb54, eo55, none⟩) (x49).length rc48), (13, Value.int .i64 (x46)), (81, Value.slice (some ⟨eb54, eo55, none⟩) (x49).length rc48), (82, Value.int .i64 (x46)), (83, Value.pointer (some ⟨eb54, eo55 + (x46).toNat * 1, none⟩)), (84, Value.int .i64 ((x49).getD (x46).toNat 0)), (85, Value.slice (some ⟨eb59, eo60, none⟩) (a0).length sc0), (86, Value.int .i64 (((a0).length : Int))), (87, Value.bool (decide (((x49).getD (x46).toNat 0) ≥ ((a0).length : Int)))), (90, Value.slice (some ⟨eb59, eo60, none⟩) (a0).length sc0), (91, Value.slice (some ⟨eb54, eo55, none⟩) (x49).length rc48), (92, Value.int .i64 (x46)), (93, Value.pointer (some ⟨eb54, eo55 + (x46).toNat * 1, none⟩)), (94, Value.int .i64 ((x49).getD (x46).toNat 0)), (95, Value.pointer (some ⟨eb59, eo60 + ((x49).getD (x46).toNat 0).toNat * 1, none⟩)), (96, Value.int .i64 ((a0).getD ((x49).getD (x46).toNat 0).toNat 0)), (97, Value.int .i64 (iand .i64 ((a0).getD ((x49).getD (x46).toNat 0).toNat 0) (255))), (98, Value.int .i64 (a1)), (99, Value.bool (decide ((iand .i64 ((a0).getD ((x49).getD (x46).toNat 0).toNat 0) (255)) ≥ a1))), (104, Value.slice (some ⟨eb59, eo60, none⟩) (a0).length sc0), (105, Value.slice (some ⟨eb54, eo55, none⟩) (x49).length rc48), (106, Value.int .i64 (x46)), (107, Value.int .i64 (w64 (x46 - 1))), (108, Value.pointer (some ⟨eb54, eo55 + (w64 (x46 - 1)).toNat * 1, none⟩)), (109, Value.int .i64 ((x49).getD (w64 (x46 - 1)).toNat 0)), (110, Value.pointer (some ⟨eb59, eo60 + ((x49).getD (w64 (x46 - 1)).toNat 0).toNat * 1, none⟩)), (111, Value.int .i64 ((a0).getD ((x49).getD (w64 (x46 - 1)).toNat 0).toNat 0)), (112, Value.int .i64 (iand .i64 ((a0).getD ((x49).getD (w64 (x46 - 1)).toNat 0).toNat 0) (255))), (113, Value.slice (some ⟨eb59, eo60, none⟩) (a0).length sc0), (114, Value.slice (some ⟨eb54, eo55, none⟩) (x49).length rc48), (115, Value.int .i64 (x46)), (116, Value.pointer (some ⟨eb54, eo55 + (x46).toNat * 1, none⟩)), (117, Value.int .i64 ((x49).getD (x46).toNat 0)), (118, Value.pointer (some ⟨eb59, eo60 + ((x49).getD (x46).toNat 0).toNat * 1, none⟩)), (119, Value.int .i64 ((a0).getD ((x49).getD (x46).toNat 0).toNat 0)), (120, Value.int .i64 (iand .i64 ((a0).getD ((x49).getD (x46).toNat 0).toNat 0) (255))), (121, Value.bool (decide ((iand .i64 ((a0).getD ((x49).getD (w64 (x46 - 1)).toNat 0).toNat 0) (255)) > (iand .i64 ((a0).getD ((x49).getD (x46).toNat 0).toNat 0) (255))))), (122, Value.bool (decide ((iand .i64 ((a0).getD ((x49).getD (w64 (x46 - 1)).toNat 0).toNat 0) (255)) > (iand .i64 ((a0).getD ((x49).getD (x46).toNat 0).toNat 0) (255))))), (123, Value.slice (some ⟨eb59, eo60, none⟩) (a0).length sc0), (124, Value.slice (some ⟨eb54, eo55, none⟩) (x49).length rc48), (125, Value.int .i64 (x46)), (126, Value.int .i64 (w64 (x46 - 1))), (127, Value.pointer (some ⟨eb54, eo55 + (w64 (x46 - 1)).toNat * 1, none⟩)), (128, Value.int .i64 ((x49).getD (w64 (x46 - 1)).toNat 0)), (129, Value.pointer (some ⟨eb59, eo60 + ((x49).getD (w64 (x46 - 1)).toNat 0).toNat * 1, none⟩)), (130, Value.int .i64 ((a0).getD ((x49).getD (w64 (x46 - 1)).toNat 0).toNat 0)), (131, Value.int .i64 (iand .i64 ((a0).getD ((x49).getD (w64 (x46 - 1)).toNat 0).toNat 0) (255))), (132, Value.slice (some ⟨eb59, eo60, none⟩) (a0).length sc0), (133, Value.slice (some ⟨eb54, eo55, none⟩) (x49).length rc48), (134, Value.int .i64 (x46)), (135, Value.pointer (some ⟨eb54, eo55 + (x46).toNat * 1, none⟩)), (136, Value.int .i64 ((x49).getD (x46).toNat 0)), (137, Value.pointer (some ⟨eb59, eo60 + ((x49).getD (x46).toNat 0).toNat * 1, none⟩)), (138, Value.int .i64 ((a0).getD ((x49).getD (x46).toNat 0).toNat 0)), (139, Value.int .i64 (iand .i64 ((a0).getD ((x49).getD (x46).toNat 0).toNat 0) (255))), (140, Value.bool (decide ((iand .i64 ((a0).getD ((x49).getD (w64 (x46 - 1)).toNat 0).toNat 0) (255)) = (iand .i64 ((a0).getD ((x49).getD (x46).toNat 0).toNat 0) (255))))), (141, Value.bool (decide ((iand .i64 ((a0).getD ((x49).getD (w64 (x46 - 1)).toNat 0).toNat 0) (255)) = (iand .i64 ((a0).getD ((x49).getD (x46).toNat 0).toNat 0) (255))))), (142, Value.slice (some ⟨eb54, eo55, none⟩) (x49).length rc48), (143, Value.int .i64 (x46)), (144, Value.int .i64 (w64 (x46 - 1))), (145, Value.pointer (some ⟨eb54, eo55 + (w64 (x46 - 1)).toNat * 1, none⟩)), (146, Value.int .i64 ((x49).getD (w64 (x46 - 1)).toNat 0)), (147, Value.slice (some ⟨eb54, eo55, none⟩) (x49).length rc48), (148, Value.int .i64 (x46)), (149, Value.pointer (some ⟨eb54, eo55 + (x46).toNat * 1, none⟩)), (150, Value.int .i64 ((x49).getD (x46).toNat 0)), (151, Value.bool (decide (((x49).getD (w64 (x46 - 1)).toNat 0) ≥ ((x49).getD (x46).toNat 0)))), (152, Value.bool (decide (((x49).getD (w64 (x46 - 1)).toNat 0) ≥ ((x49).getD (x46).toNat 0)))), (153, Value.bool (decide (((x49).getD (w64 (x46 - 1)).toNat 0) ≥ ((x49).getD (x46).toNat 0)))), (154, Value.bool (decide (((x49).getD (w64 (x46 - 1)).toNat 0) ≥ ((x49).getD (x46).toNat 0))))] ⟨rfl, rfl, rfl, rfl, rfl, rfl, rfl, rfl, rfl, rfl, rfl, rfl, rfl, rfl, rfl, rfl, rfl, rfl, rfl, rfl, rfl, rfl, rfl, rfl, rfl, rfl, rfl, rfl, rfl, rfl, rfl, rfl, rfl, rfl, rfl, rfl, rfl, rfl, rfl, rfl, rfl, rfl, rfl, rfl, rfl, rfl, rfl, rfl, rfl, rfl, rfl, rfl, rfl, rfl, rfl, rfl, rfl, rfl, rfl, rfl, rfl, rfl, rfl, rfl, rfl, rfl, rfl, rfl, rfl, rfl, rfl, rfl, trivial⟩ ?_
                                    by_cases c67 : ((x49).getD (w64 (x46 - 1)).toNat 0) ≥ ((x49).getD (x46).toNat 0)
                                    · replace H := ite_t c67 H
                                      refine V.condT (sb (decide_eq_true c67)) ?_
                                      refine V.seq ?_
                                      refine V.region ?_
                                      refine W.rd (X.assign rfl) rfl rfl rfl ?_
                                      refine W.nil ?_
                                      refine At.next ?_
                                      refine V.keep [(4, Value.bool (false))] ⟨rfl, trivial⟩ ?_
                                      refine V.ret ?_
                                      refine At.blockRet ?_
                                      refine At.thenRet ?_
                                      refine At.thenRet ?_
                                      refine At.blockRet ?_
                                      refine At.thenRet ?_
                                      replace HS := HS.sel [4] [0, 1, 2, 3] rfl
                                      cases H
                                      exact At.ret1 rfl rfl ⟨_, rfl, rfl, HS⟩
                                    · replace H := ite_f c67 H
                                      refine V.condF (sb (decide_eq_false c67)) ?_
                                      refine V.skip ?_
                                      refine At.blockEnd ?_
                                      refine At.next ?_
                                      refine V.keep [(0, Value.slice (some ⟨eb59, eo60, none⟩) (a0).length sc0), (1, Value.int .i64 (a1)), (10, Value.slice (some ⟨eb54, eo55, none⟩) (x49).length rc48), (13, Value.int .i64 (x46)), (81, Value.slice (some ⟨eb54, eo55, none⟩) (x49).length rc48), (82, Value.int .i64 (x46)), (83, Value.pointer (some ⟨eb54, eo55 + (x46).toNat * 1, none⟩)), (84, Value.int .i64 ((x49).getD (x46).toNat 0)), (85, Value.slice (some ⟨eb59, eo60, none⟩) (a0).length sc0), (86, Value.int .i64 (((a0).length : Int))), (87, Value.bool (decide (((x49).getD (x46).toNat 0) ≥ ((a0).length : Int)))), (90, Value.slice (some ⟨eb59, eo60, none⟩) (a0).length sc0), (91, Value.slice (some ⟨eb54, eo55, none⟩) (x49).length rc48), (92, Value.int .i64 (x46)), (93, Value.pointer (some ⟨eb54, eo55 + (x46).toNat * 1, none⟩)), (94, Value.int .i64 ((x49).getD (x46).toNat 0)), (95, Value.pointer (some ⟨eb59, eo60 + ((x49).getD (x46).toNat 0).toNat * 1, none⟩)), (96, Value.int .i64 ((a0).getD ((x49).getD (x46).toNat 0).toNat 0)), (97, Value.int .i64 (iand .i64 ((a0).getD ((x49).getD (x46).toNat 0).toNat 0) (255))), (98, Value.int .i64 (a1)), (99, Value.bool (decide ((iand .i64 ((a0).getD ((x49).getD (x46).toNat 0).toNat 0) (255)) ≥ a1))), (104, Value.slice (some ⟨eb59, eo60, none⟩) (a0).length sc0), (105, Value.slice (some ⟨eb54, eo55, none⟩) (x49).length rc48), (106, Value.int .i64 (x46)), (107, Value.int .i64 (w64 (x46 - 1))), (108, Value.pointer (some ⟨eb54, eo55 + (w64 (x46 - 1)).toNat * 1, none⟩)), (109, Value.int .i64 ((x49).getD (w64 (x46 - 1)).toNat 0)), (110, Value.pointer (some ⟨eb59, eo60 + ((x49).getD (w64 (x46 - 1)).toNat 0).toNat * 1, none⟩)), (111, Value.int .i64 ((a0).getD ((x49).getD (w64 (x46 - 1)).toNat 0).toNat 0)), (112, Value.int .i64 (iand .i64 ((a0).getD ((x49).getD (w64 (x46 - 1)).toNat 0).toNat 0) (255))), (113, Value.slice (some ⟨eb59, eo60, none⟩) (a0).length sc0), (114, Value.slice (some ⟨eb54, eo55, none⟩) (x49).length rc48), (115, Value.int .i64 (x46)), (116, Value.pointer (some ⟨eb54, eo55 + (x46).toNat * 1, none⟩)), (117, Value.int .i64 ((x49).getD (x46).toNat 0)), (118, Value.pointer (some ⟨eb59, eo60 + ((x49).getD (x46).toNat 0).toNat * 1, none⟩)), (119, Value.int .i64 ((a0).getD ((x49).getD (x46).toNat 0).toNat 0)), (120, Value.int .i64 (iand .i64 ((a0).getD ((x49).getD (x46).toNat 0).toNat 0) (255))), (121, Value.bool (decide ((iand .i64 ((a0).getD ((x49).getD (w64 (x46 - 1)).toNat 0).toNat 0) (255)) > (iand .i64 ((a0).getD ((x49).getD (x46).toNat 0).toNat 0) (255))))), (122, Value.bool (decide ((iand .i64 ((a0).getD ((x49).getD (w64 (x46 - 1)).toNat 0).toNat 0) (255)) > (iand .i64 ((a0).getD ((x49).getD (x46).toNat 0).toNat 0) (255))))), (123, Value.slice (some ⟨eb59, eo60, none⟩) (a0).length sc0), (124, Value.slice (some ⟨eb54, eo55, none⟩) (x49).length rc48), (125, Value.int .i64 (x46)), (126, Value.int .i64 (w64 (x46 - 1))), (127, Value.pointer (some ⟨eb54, eo55 + (w64 (x46 - 1)).toNat * 1, none⟩)), (128, Value.int .i64 ((x49).getD (w64 (x46 - 1)).toNat 0)), (129, Value.pointer (some ⟨eb59, eo60 + ((x49).getD (w64 (x46 - 1)).toNat 0).toNat * 1, none⟩)), (130, Value.int .i64 ((a0).getD ((x49).getD (w64 (x46 - 1)).toNat 0).toNat 0)), (131, Value.int .i64 (iand .i64 ((a0).getD ((x49).getD (w64 (x46 - 1)).toNat 0).toNat 0) (255))), (132, Value.slice (some ⟨eb59, eo60, none⟩) (a0).length sc0), (133, Value.slice (some ⟨eb54, eo55, none⟩) (x49).length rc48), (134, Value.int .i64 (x46)), (135, Value.pointer (some ⟨eb54, eo55 + (x46).toNat * 1, none⟩)), (136, Value.int .i64 ((x49).getD (x46).toNat 0)), (137, Value.pointer (some ⟨eb59, eo60 + ((x49).getD (x46).toNat 0).toNat * 1, none⟩)), (138, Value.int .i64 ((a0).getD ((x49).getD (x46).toNat 0).toNat 0)), (139, Value.int .i64 (iand .i64 ((a0).getD ((x49).getD (x46).toNat 0).toNat 0) (255))), (140, Value.bool (decide ((iand .i64 ((a0).getD ((x49).getD (w64 (x46 - 1)).toNat 0).toNat 0) (255)) = (iand .i64 ((a0).getD ((x49).getD (x46).toNat 0).toNat 0) (255))))), (141, Value.bool (decide ((iand .i64 ((a0).getD ((x49).getD (w64 (x46 - 1)).toNat 0).toNat 0) (255)) = (iand .i64 ((a0).getD ((x49).getD (x46).toNat 0).toNat 0) (255))))), (142, Value.slice (some ⟨eb54, eo55, none⟩) (x49).length rc48), (143, Value.int .i64 (x46)), (144, Value.int .i64 (w64 (x46 - 1))), (145, Value.pointer (some ⟨eb54, eo55 + (w64 (x46 - 1)).toNat * 1, none⟩)), (146, Value.int .i64 ((x49).getD (w64 (x46 - 1)).toNat 0)), (147, Value.slice (some ⟨eb54, eo55, none⟩) (x49).length rc48), (148, Value.int .i64 (x46)), (149, Value.pointer (some ⟨eb54, eo55 + (x46).toNat * 1, none⟩)), (150, Value.int .i64 ((x49).getD (x46).toNat 0)), (151, Value.bool (decide (((x49).getD (w64 (x46 - 1)).toNat 0) ≥ ((x49).getD (x46).toNat 0)))), (152, Value.bool (decide (((x49).getD (w64 (x46 - 1)).toNat 0) ≥ ((x49).getD (x46).toNat 0)))), (153, Value.bool (decide (((x49).getD (w64 (x46 - 1)).toNat 0) ≥ ((x49).getD (x46).toNat 0))))] ⟨rfl, rfl, rfl, rfl, rfl, rfl, rfl, rfl, rfl, rfl, rfl, rfl, rfl, rfl, rfl, rfl, rfl, rfl, rfl, rfl, rfl, rfl, rfl, rfl, rfl, rfl, rfl, rfl, rfl, rfl, rfl, rfl, rfl, rfl, rfl, rfl, rfl, rfl, rfl, rfl, rfl, rfl, rfl, rfl, rfl, rfl, rfl, rfl, rfl, rfl, rfl, rfl, rfl, rfl, rfl, rfl, rfl, rfl, rfl, rfl, rfl, rfl, rfl, rfl, rfl, rfl, rfl, rfl, rfl, rfl, rfl, trivial⟩ ?_
                                      refine V.region ?_
                                      refine W.rd (X.move rfl) rfl rfl rfl ?_
                                      refine W.rd (X.add rfl rfl) rfl rfl rfl ?_
                                      refine W.rd (X.assign rfl) rfl rfl rfl ?_
                                      refine W.nil ?_
                                      exact At.round kq50 (by omega) (w64 (x46 + 1), (some ⟨eb54, eo55, none⟩), rc48, x49) ⟨rfl, rfl, rfl, rfl, trivial⟩ ⟨HS, H, by omega⟩
                                  · replace H := ite_f c66 H
                                    refine V.draw (es := []) (bl := []) (f := [(101, Value.int .i64 (x46)), (102, Value.bool (decide (x46 > 0))), (103, Value.bool (decide (x46 > 0))), (104, Value.slice (some ⟨eb59, eo60, none⟩) (a0).length sc0), (105, Value.slice (some ⟨eb54, eo55, none⟩) (x49).length rc48), (106, Value.int .i64 (x46)), (107, Value.int .i64 (w64 (x46 - 1))), (108, Value.pointer (some ⟨eb54, eo55 + (w64 (x46 - 1)).toNat * 1, none⟩)), (109, Value.int .i64 ((x49).getD (w64 (x46 - 1)).toNat 0)), (110, Value.pointer (some ⟨eb59, eo60 + ((x49).getD (w64 (x46 - 1)).toNat 0).toNat * 1, none⟩)), (111, Value.int .i64 ((a0).getD ((x49).getD (w64 (x46 - 1)).toNat 0).toNat 0)), (112, Value.int .i64 (iand .i64 ((a0).getD ((x49).getD (w64 (x46 - 1)).toNat 0).toNat 0) (255))), (113, Value.slice (some ⟨eb59, eo60, none⟩) (a0).length sc0), (114, Value.slice (some ⟨eb54, eo55, none⟩) (x49).length rc48), (115, Value.int .i64 (x46)), (116, Value.pointer (some ⟨eb54, eo55 + (x46).toNat * 1, none⟩)), (117, Value.int .i64 ((x49).getD (x46).toNat 0)), (118, Value.pointer (some ⟨eb59, eo60 + ((x49).getD (x46).toNat 0).toNat * 1, none⟩)), (119, Value.int .i64 ((a0).getD ((x49).getD (x46).toNat 0).toNat 0)), (120, Value.int .i64 (iand .i64 ((a0).getD ((x49).getD (x46).toNat 0).toNat 0) (255))), (121, Value.bool (decide ((iand .i64 ((a0).getD ((x49).getD (w64 (x46 - 1)).toNat 0).toNat 0) (255)) > (iand .i64 ((a0).getD ((x49).getD (x46).toNat 0).toNat 0) (255))))), (122, Value.bool (decide ((iand .i64 ((a0).getD ((x49).getD (w64 (x46 - 1)).toNat 0).toNat 0) (255)) > (iand .i64 ((a0).getD ((x49).getD (x46).toNat 0).toNat 0) (255))))), (123, Value.slice (some ⟨eb59, eo60, none⟩) (a0).length sc0), (124, Value.slice (some ⟨eb54, eo55, none⟩) (x49).length rc48), (125, Value.int .i64 (x46)), (126, Value.int .i64 (w64 (x46 - 1))), (127, Value.pointer (some ⟨eb54, eo55 + (w64 (x46 - 1)).toNat * 1, none⟩)), (128, Value.int .i64 ((x49).getD (w64 (x46 - 1)).toNat 0)), (129, Value.pointer (some ⟨eb59, eo60 + ((x49).getD (w64 (x46 - 1)).toNat 0).toNat * 1, none⟩)), (130, Value.int .i64 ((a0).getD ((x49).getD (w64 (x46 - 1)).toNat 0).toNat 0)), (131, Value.int .i64 (iand .i64 ((a0).getD ((x49).getD (w64 (x46 - 1)).toNat 0).toNat 0) (255))), (132, Value.slice (some ⟨eb59, eo60, none⟩) (a0).length sc0), (133, Value.slice (some ⟨eb54, eo55, none⟩) (x49).length rc48), (134, Value.int .i64 (x46)), (135, Value.pointer (some ⟨eb54, eo55 + (x46).toNat * 1, none⟩)), (136, Value.int .i64 ((x49).getD (x46).toNat 0)), (137, Value.pointer (some ⟨eb59, eo60 + ((x49).getD (x46).toNat 0).toNat * 1, none⟩)), (138, Value.int .i64 ((a0).getD ((x49).getD (x46).toNat 0).toNat 0)), (139, Value.int .i64 (iand .i64 ((a0).getD ((x49).getD (x46).toNat 0).toNat 0) (255))), (140, Value.bool (decide ((iand .i64 ((a0).getD ((x49).getD (w64 (x46 - 1)).toNat 0).toNat 0) (255)) = (iand .i64 ((a0).getD ((x49).getD (x46).toNat 0).toNat 0) (255))))), (141, Value.bool (decide ((iand .i64 ((a0).getD ((x49).getD (w64 (x46 - 1)).toNat 0).toNat 0) (255)) = (iand .i64 ((a0).getD ((x49).getD (x46).toNat 0).toNat 0) (255))))), (142, undef), (143, undef), (144, undef), (145, undef), (146, undef), (147, undef), (148, undef), (149, undef), (150, undef), (151, undef), (152, Value.bool (false)), (153, Value.bool (false)), (154, Value.bool (false))]) (fun w => Sep.St [row 3 1 (.slice ra31 (x33).length rc32) (x33).length ((x33).map (Value.int .i64)), row 3 1 (.slice (some ⟨eb54, eo55, none⟩) (x49).length rc48) (x49).length ((x49).map (Value.int .i64)), clock_Set.at bt7_0 (t26.2), clock_Set.at bt9_0 (x34), R] w0 w) mo HS.drew rfl ?_
                                    refine T.fin [(0, Value.slice (some ⟨eb59, eo60, none⟩) (a0).length sc0), (1, Value.int .i64 (a1)), (10, Value.slice (some ⟨eb54, eo55, none⟩) (x49).length rc48), (13, Value.int .i64 (x46)), (81, Value.slice (some ⟨eb54, eo55, none⟩) (x49).length rc48), (82, Value.int .i64 (x46)), (83, Value.pointer (some ⟨eb54, eo55 + (x46).toNat * 1, none⟩)), (84, Value.int .i64 ((x49).getD (x46).toNat 0)), (85, Value.slice (some ⟨eb59, eo60, none⟩) (a0).length sc0), (86, Value.int .i64 (((a0).length : Int))), (87, Value.bool (decide (((x49).getD (x46).toNat 0) ≥ ((a0).length : Int)))), (90, Value.slice (some ⟨eb59, eo60, none⟩) (a0).length sc0), (91, Value.slice (some ⟨eb54, eo55, none⟩) (x49).length rc48), (92, Value.int .i64 (x46)), (93, Value.pointer (some ⟨eb54, eo55 + (x46).toNat * 1, none⟩)), (94, Value.int .i64 ((x49).getD (x46).toNat 0)), (95, Value.pointer (some ⟨eb59, eo60 + ((x49).getD (x46).toNat 0).toNat * 1, none⟩)), (96, Value.int .i64 ((a0).getD ((x49).getD (x46).toNat 0).toNat 0)), (97, Value.int .i64 (iand .i64 ((a0).getD ((x49).getD (x46).toNat 0).toNat 0) (255))), (98, Value.int .i64 (a1)), (99, Value.bool (decide ((iand .i64 ((a0).getD ((x49).getD (x46).toNat 0).toNat 0) (255)) ≥ a1))), (104, Value.slice (some ⟨eb59, eo60, none⟩) (a0).length sc0), (105, Value.slice (some ⟨eb54, eo55, none⟩) (x49).length rc48), (106, Value.int .i64 (x46)), (107, Value.int .i64 (w64 (x46 - 1))), (108, Value.pointer (some ⟨eb54, eo55 + (w64 (x46 - 1)).toNat * 1, none⟩)), (109, Value.int .i64 ((x49).getD (w64 (x46 - 1)).toNat 0)), (110, Value.pointer (some ⟨eb59, eo60 + ((x49).getD (w64 (x46 - 1)).toNat 0).toNat * 1, none⟩)), (111, Value.int .i64 ((a0).getD ((x49).getD (w64 (x46 - 1)).toNat 0).toNat 0)), (112, Value.int .i64 (iand .i64 ((a0).getD ((x49).getD (w64 (x46 - 1)).toNat 0).toNat 0) (255))), (113, Value.slice (some ⟨eb59, eo60, none⟩) (a0).length sc0), (114, Value.slice (some ⟨eb54, eo55, none⟩) (x49).length rc48), (115, Value.int .i64 (x46)), (116, Value.pointer (some ⟨eb54, eo55 + (x46).toNat * 1, none⟩)), (117, Value.int .i64 ((x49).getD (x46).toNat 0)), (118, Value.pointer (some ⟨eb59, eo60 + ((x49).getD (x46).toNat 0).toNat * 1, none⟩)), (119, Value.int .i64 ((a0).getD ((x49).getD (x46).toNat 0).toNat 0)), (120, Value.int .i64 (iand .i64 ((a0).getD ((x49).getD (x46).toNat 0).toNat 0) (255))), (121, Value.bool (decide ((iand .i64 ((a0).getD ((x49).getD (w64 (x46 - 1)).toNat 0).toNat 0) (255)) > (iand .i64 ((a0).getD ((x49).getD (x46).toNat 0).toNat 0) (255))))), (122, Value.bool (decide ((iand .i64 ((a0).getD ((x49).getD (w64 (x46 - 1)).toNat 0).toNat 0) (255)) > (iand .i64 ((a0).getD ((x49).getD (x46).toNat 0).toNat 0) (255))))), (123, Value.slice (some ⟨eb59, eo60, none⟩) (a0).length sc0), (124, Value.slice (some ⟨eb54, eo55, none⟩) (x49).length rc48), (125, Value.int .i64 (x46)), (126, Value.int .i64 (w64 (x46 - 1))), (127, Value.pointer (some ⟨eb54, eo55 + (w64 (x46 - 1)).toNat * 1, none⟩)), (128, Value.int .i64 ((x49).getD (w64 (x46 - 1)).toNat 0)), (129, Value.pointer (some ⟨eb59, eo60 + ((x49).getD (w64 (x46 - 1)).toNat 0).toNat * 1, none⟩)), (130, Value.int .i64 ((a0).getD ((x49).getD (w64 (x46 - 1)).toNat 0).toNat 0)), (131, Value.int .i64 (iand .i64 ((a0).getD ((x49).getD (w64 (x46 - 1)).toNat 0).toNat 0) (255))), (132, Value.slice (some ⟨eb59, eo60, none⟩) (a0).length sc0), (133, Value.slice (some ⟨eb54, eo55, none⟩) (x49).length rc48), (134, Value.int .i64 (x46)), (135, Value.pointer (some ⟨eb54, eo55 + (x46).toNat * 1, none⟩)), (136, Value.int .i64 ((x49).getD (x46).toNat 0)), (137, Value.pointer (some ⟨eb59, eo60 + ((x49).getD (x46).toNat 0).toNat * 1, none⟩)), (138, Value.int .i64 ((a0).getD ((x49).getD (x46).toNat 0).toNat 0)), (139, Value.int .i64 (iand .i64 ((a0).getD ((x49).getD (x46).toNat 0).toNat 0) (255))), (140, Value.bool (decide ((iand .i64 ((a0).getD ((x49).getD (w64 (x46 - 1)).toNat 0).toNat 0) (255)) = (iand .i64 ((a0).getD ((x49).getD (x46).toNat 0).toNat 0) (255))))), (141, Value.bool (decide ((iand .i64 ((a0).getD ((x49).getD (w64 (x46 - 1)).toNat 0).toNat 0) (255)) = (iand .i64 ((a0).getD ((x49).getD (x46).toNat 0).toNat 0) (255))))), (142, undef), (143, undef), (144, undef), (145, undef), (146, undef), (147, undef), (148, undef), (149, undef), (150, undef), (151, undef), (152, Value.bool (false)), (153, Value.bool (false)), (154, Value.bool (false))] rfl ⟨⟨_, Value.int .i64 (x46), [(13, Value.int .i64 (x46))], 101, rfl, rfl, ⟨.inl ⟨rfl, rfl⟩, trivial⟩, .run rfl (fun w HS => X.move rfl), rfl, rfl, rfl⟩, ⟨_, Value.bool (decide (x46 > 0)), [(101, Value.int .i64 (x46))], 102, rfl, rfl, ⟨.inr ⟨rfl, rfl⟩, trivial⟩, .run rfl (fun w HS => X.cmp (decide (x46 > 0)) rfl rfl rfl rfl), rfl, rfl, rfl⟩, ⟨_, Value.bool (decide (x46 > 0)), [(102, Value.bool (decide (x46 > 0)))], 103, rfl, rfl, ⟨.inr ⟨rfl, rfl⟩, trivial⟩, .run rfl (fun w HS => X.move rfl), rfl, rfl, rfl⟩, ⟨_, Value.slice (some ⟨eb59, eo60, none⟩) (a0).length sc0, [(0, Value.slice (some ⟨eb59, eo60, none⟩) (a0).length sc0), (103, Value.bool (decide (x46 > 0)))], 104, rfl, rfl, ⟨.inl ⟨rfl, rfl⟩, ⟨.inr ⟨rfl, rfl⟩, trivial⟩⟩, .want 2 true 103 rfl rfl (sb (decide_eq_true c62)) (fun w HS => X.move rfl), rfl, rfl, rfl⟩, ⟨_, Value.slice (some ⟨eb54, eo55, none⟩) (x49).length rc48, [(10, Value.slice (some ⟨eb54, eo55, none⟩) (x49).length rc48), (103, Value.bool (decide (x46 > 0)))], 105, rfl, rfl, ⟨.inl ⟨rfl, rfl⟩, ⟨.inr ⟨rfl, rfl⟩, trivial⟩⟩, .want 2 true 103 rfl rfl (sb (decide_eq_true c62)) (fun w HS => X.move rfl), rfl, rfl, rfl⟩, ⟨_, Value.int .i64 (x46), [(13, Value.int .i64 (x46)), (103, Value.bool (decide (x46 > 0)))], 106, rfl, rfl, ⟨.inl ⟨rfl, rfl⟩, ⟨.inr ⟨rfl, rfl⟩, trivial⟩⟩, .want 2 true 103 rfl rfl (sb (decide_eq_true c62)) (fun w HS => X.move rfl), rfl, rfl, rfl⟩, ⟨_, Value.int .i64 (w64 (x46 - 1)), [(106, Value.int .i64 (x46)), (103, Value.bool (decide (x46 > 0)))], 107, rfl, rfl, ⟨.inr ⟨rfl, rfl⟩, ⟨.inr ⟨rfl, rfl⟩, trivial⟩⟩, .want 2 true 103 rfl rfl (sb (decide_eq_true c62)) (fun w HS => X.sub rfl rfl), rfl, rfl, rfl⟩, ⟨_, Value.pointer (some ⟨eb54, eo55 + (w64 (x46 - 1)).toNat * 1, none⟩), [(105, Value.slice (some ⟨eb54, eo55, none⟩) (x49).length rc48), (107, Value.int .i64 (w64 (x46 - 1))), (103, Value.bool (decide (x46 > 0)))], 108, rfl, rfl, ⟨.inr ⟨rfl, rfl⟩, ⟨.inr ⟨rfl, rfl⟩, ⟨.inr ⟨rfl, rfl⟩, trivial⟩⟩⟩, .want 2 true 103 rfl rfl (sb (decide_eq_true c62)) (fun w HS => X.indexSl Try.underlying22 inf3 rfl rfl c63.1 c63.2), rfl, rfl, rfl⟩, ⟨_, Value.int .i64 ((x49).getD (w64 (x46 - 1)).toNat 0), [(108, Value.pointer (some ⟨eb54, eo55 + (w64 (x46 - 1)).toNat * 1, none⟩)), (103, Value.bool (decide (x46 > 0)))], 109, rfl, rfl, ⟨.inr ⟨rfl, rfl⟩, ⟨.inr ⟨rfl, rfl⟩, trivial⟩⟩, .want 2 true 103 rfl rfl (sb (decide_eq_true c62)) (fun w HS => X.load Try.underlying3 rfl rfl (((rdC.at 1 row_rd HS rfl)).cellI c63.1 c63.2)), rfl, rfl, rfl⟩, ⟨_, Value.pointer (some ⟨eb59, eo60 + ((x49).getD (w64 (x46 - 1)).toNat 0).toNat * 1, none⟩), [(104, Value.slice (some ⟨eb59, eo60, none⟩) (a0).length sc0), (109, Value.int .i64 ((x49).getD (w64 (x46 - 1)).toNat 0)), (103, Value.bool (decide (x46 > 0)))], 110, rfl, rfl, ⟨.inr ⟨rfl, rfl⟩, ⟨.inr ⟨rfl, rfl⟩, ⟨.inr ⟨rfl, rfl⟩, trivial⟩⟩⟩, .want 2 true 103 rfl rfl (sb (decide_eq_true c62)) (fun w HS => X.indexSl Try.underlying22 inf3 rfl rfl c64.1 c64.2), rfl, rfl, rfl⟩, ⟨_, Value.int .i64 ((a0).getD ((x49).getD (w64 (x46 - 1)).toNat 0).toNat 0), [(110, Value.pointer (some ⟨eb59, eo60 + ((x49).getD (w64 (x46 - 1)).toNat 0).toNat * 1, none⟩)), (103, Value.bool (decide (x46 > 0)))], 111, rfl, rfl, ⟨.inr ⟨rfl, rfl⟩, ⟨.inr ⟨rfl, rfl⟩, trivial⟩⟩, .want 2 true 103 rfl rfl (sb (decide_eq_true c62)) (fun w HS => X.load Try.underlying3 rfl rfl (((rdC.at 4 hr0 HS rfl)).cellI c64.1 c64.2)), rfl, rfl, rfl⟩, ⟨_, Value.int .i64 (iand .i64 ((a0).getD ((x49).getD (w64 (x46 - 1)).toNat 0).toNat 0) (255)), [(111, Value.int .i64 ((a0).getD ((x49).getD (w64 (x46 - 1)).toNat 0).toNat 0)), (103, Value.bool (decide (x46 > 0)))], 112, rfl, rfl, ⟨.inr ⟨rfl, rfl⟩, ⟨.inr ⟨rfl, rfl⟩, trivial⟩⟩, .want 2 true 103 rfl rfl (sb (decide_eq_true c62)) (fun w HS => X.and rfl rfl), rfl, rfl, rfl⟩, ⟨_, Value.slice (some ⟨eb59, eo60, none⟩) (a0).length sc0, [(0, Value.slice (some ⟨eb59, eo60, none⟩) (a0).length sc0), (103, Value.bool (decide (x46 > 0)))], 113, rfl, rfl, ⟨.inl ⟨rfl, rfl⟩, ⟨.inr ⟨rfl, rfl⟩, trivial⟩⟩, .want 2 true 103 rfl rfl (sb (decide_eq_true c62)) (fun w HS => X.move rfl), rfl, rfl, rfl⟩, ⟨_, Value.slice (some ⟨eb54, eo55, none⟩) (x49).length rc48, [(10, Value.slice (some ⟨eb54, eo55, none⟩) (x49).length rc48), (103, Value.bool (decide (x46 > 0)))], 114, rfl, rfl, ⟨.inl ⟨rfl, rfl⟩, ⟨.inr ⟨rfl, rfl⟩, trivial⟩⟩, .want 2 true 103 rfl rfl (sb (decide_eq_true c62)) (fun w HS => X.move rfl), rfl, rfl, rfl⟩, ⟨_, Value.int .i64 (x46), [(13, Value.int .i64 (x46)), (103, Value.bool (decide (x46 > 0)))], 115, rfl, rfl, ⟨.inl ⟨rfl, rfl⟩, ⟨.inr ⟨rfl, rfl⟩, trivial⟩⟩, .want 2 true 103 rfl rfl (sb (decide_eq_true c62)) (fun w HS => X.move rfl), rfl, rfl, rfl⟩, ⟨_, Value.pointer (some ⟨eb54, eo55 + (x46).toNat * 1, none⟩), [(114, Value.slice (some ⟨eb54, eo55, none⟩) (x49).length rc48), (115, Value.int .i64 (x46)), (103, Value.bool (decide (x46 > 0)))], 116, rfl, rfl, ⟨.inr ⟨rfl, rfl⟩, ⟨.inr ⟨rfl, rfl⟩, ⟨.inr ⟨rfl, rfl⟩, trivial⟩⟩⟩, .want 2 true 103 rfl rfl (sb (decide_eq_true c62)) (fun w HS => X.indexSl Try.underlying22 inf3 rfl rfl c53.1 c53.2), rfl, rfl, rfl⟩, ⟨_, Value.int .i64 ((x49).getD (x46).toNat 0), [(116, Value.pointer (some ⟨eb54, eo55 + (x46).toNat * 1, none⟩)), (103, Value.bool (decide (x46 > 0)))], 117, rfl, rfl, ⟨.inr ⟨rfl, rfl⟩, ⟨.inr ⟨rfl, rfl⟩, trivial⟩⟩, .want 2 true 103 rfl rfl (sb (decide_eq_true c62)) (fun w HS => X.load Try.underlying3 rfl rfl (((rdC.at 1 row_rd HS rfl)).cellI c53.1 c53.2)), rfl, rfl, rfl⟩, ⟨_, Value.pointer (some ⟨eb59, eo60 + ((x49).getD (x46).toNat 0).toNat * 1, none⟩), [(113, Value.slice (some ⟨eb59, eo60, none⟩) (a0).length sc0), (117, Value.int .i64 ((x49).getD (x46).toNat 0)), (103, Value.bool (decide (x46 > 0)))], 118, rfl, rfl, ⟨.inr ⟨rfl, rfl⟩, ⟨.inr ⟨rfl, rfl⟩, ⟨.inr ⟨rfl, rfl⟩, trivial⟩⟩⟩, .want 2 true 103 rfl rfl (sb (decide_eq_true c62)) (fun w HS => X.indexSl Try.underlying22 inf3 rfl rfl c58.1 c58.2), rfl, rfl, rfl⟩, ⟨_, Value.int .i64 ((a0).getD ((x49).getD (x46).toNat 0).toNat 0), [(118, Value.pointer (some ⟨eb59, eo60 + ((x49).getD (x46).toNat 0).toNat * 1, none⟩)), (103, Value.bool (decide (x46 > 0)))], 119, rfl, rfl, ⟨.inr ⟨rfl, rfl⟩, ⟨.inr ⟨rfl, rfl⟩, trivial⟩⟩, .want 2 true 103 rfl rfl (sb (decide_eq_true c62)) (fun w HS => X.load Try.underlying3 rfl rfl (((rdC.at 4 hr0 HS rfl)).cellI c58.1 c58.2)), rfl, rfl, rfl⟩, ⟨_, Value.int .i64 (iand .i64 ((a0).getD ((x49).getD (x46).toNat 0).toNat 0) (255)), [(119, Value.int .i64 ((a0).getD ((x49).getD (x46).toNat 0).toNat 0)), (103, Value.bool (decide (x46 > 0)))], 120, rfl, rfl, ⟨.inr ⟨rfl, rfl⟩, ⟨.inr ⟨rfl, rfl⟩, trivial⟩⟩, .want 2 true 103 rfl rfl (sb (decide_eq_true c62)) (fun w HS => X.and rfl rfl), rfl, rfl, rfl⟩, ⟨_, Value.bool (decide ((iand .i64 ((a0).getD ((x49).getD (w64 (x46 - 1)).toNat 0).toNat 0) (255)) > (iand .i64 ((a0).getD ((x49).getD (x46).toNat 0).toNat 0) (255)))), [(112, Value.int .i64 (iand .i64 ((a0).getD ((x49).getD (w64 (x46 - 1)).toNat 0).toNat 0) (255))), (120, Value.int .i64 (iand .i64 ((a0).getD ((x49).getD (x46).toNat 0).toNat 0) (255))), (103, Value.bool (decide (x46 > 0)))], 121, rfl, rfl, ⟨.inr ⟨rfl, rfl⟩, ⟨.inr ⟨rfl, rfl⟩, ⟨.inr ⟨rfl, rfl⟩, trivial⟩⟩⟩, .want 2 true 103 rfl rfl (sb (decide_eq_true c62)) (fun w HS => X.cmp (decide ((iand .i64 ((a0).getD ((x49).getD (w64 (x46 - 1)).toNat 0).toNat 0) (255)) > (iand .i64 ((a0).getD ((x49).getD (x46).toNat 0).toNat 0) (255)))) rfl rfl rfl rfl), rfl, rfl, rfl⟩, ⟨_, Value.bool (decide ((iand .i64 ((a0).getD ((x49).getD (w64 (x46 - 1)).toNat 0).toNat 0) (255)) > (iand .i64 ((a0).getD ((x49).getD (x46).toNat 0).toNat 0) (255)))), [(121, Value.bool (decide ((iand .i64 ((a0).getD ((x49).getD (w64 (x46 - 1)).toNat 0).toNat 0) (255)) > (iand .i64 ((a0).getD ((x49).getD (x46).toNat 0).toNat 0) (255))))), (103, Value.bool (decide (x46 > 0)))], 122, rfl, rfl, ⟨.inr ⟨rfl, rfl⟩, ⟨.inr ⟨rfl, rfl⟩, trivial⟩⟩, .want 2 true 103 rfl rfl (sb (decide_eq_true c62)) (fun w HS => X.move rfl), rfl, rfl, rfl⟩, ⟨_, Value.slice (some ⟨eb59, eo60, none⟩) (a0).length sc0, [(0, Value.slice (some ⟨eb59, eo60, none⟩) (a0).length sc0), (122, Value.bool (decide ((iand .i64 ((a0).getD ((x49).getD (w64 (x46 - 1)).toNat 0).toNat 0) (255)) > (iand .i64 ((a0).getD ((x49).getD (x46).toNat 0).toNat 0) (255)))))], 123, rfl, rfl, ⟨.inl ⟨rfl, rfl⟩, ⟨.inr ⟨rfl, rfl⟩, trivial⟩⟩, .want 21 false 122 rfl rfl (sb (decide_eq_false c65)) (fun w HS => X.move rfl), rfl, rfl, rfl⟩, ⟨_, Value.slice (some ⟨eb54, eo55, none⟩) (x49).length rc48, [(10, Value.slice (some ⟨eb54, eo55, none⟩) (x49).length rc48), (122, Value.bool (decide ((iand .i64 ((a0).getD ((x49).getD (w64 (x46 - 1)).toNat 0).toNat 0) (255)) > (iand .i64 ((a0).getD ((x49).getD (x46).toNat 0).toNat 0) (255)))))], 124, rfl, rfl, ⟨.inl ⟨rfl, rfl⟩, ⟨.inr ⟨rfl, rfl⟩, trivial⟩⟩, .want 21 false 122 rfl rfl (sb (decide_eq_false c65)) (fun w HS => X.move rfl), rfl, rfl, rfl⟩, ⟨_, Value.int .i64 (x46), [(13, Value.int .i64 (x46)), (122, Value.bool (decide ((iand .i64 ((a0).getD ((x49).getD (w64 (x46 - 1)).toNat 0).toNat 0) (255)) > (iand .i64 ((a0).getD ((x49).getD (x46).toNat 0).toNat 0) (255)))))], 125, rfl, rfl, ⟨.inl ⟨rfl, rfl⟩, ⟨.inr ⟨rfl, rfl⟩, trivial⟩⟩, .want 21 false 122 rfl rfl (sb (decide_eq_false c65)) (fun w HS => X.move rfl), rfl, rfl, rfl⟩, ⟨_, Value.int .i64 (w64 (x46 - 1)), [(125, Value.int .i64 (x46)), (122, Value.bool (decide ((iand .i64 ((a0).getD ((x49).getD (w64 (x46 - 1)).toNat 0).toNat 0) (255)) > (iand .i64 ((a0).getD ((x49).getD (x46).toNat 0).toNat 0) (255)))))], 126, rfl, rfl, ⟨.inr ⟨rfl, rfl⟩, ⟨.inr ⟨rfl, rfl⟩, trivial⟩⟩, .want 21 false 122 rfl rfl (sb (decide_eq_false c65)) (fun w HS => X.sub rfl rfl), rfl, rfl, rfl⟩, ⟨_, Value.pointer (some ⟨eb54, eo55 + (w64 (x46 - 1)).toNat * 1, none⟩), [(124, Value.slice (some ⟨eb54, eo55, none⟩) (x49).length rc48), (126, Value.int .i64 (w64 (x46 - 1))), (122, Value.bool (decide ((iand .i64 ((a0).getD ((x49).getD (w64 (x46 - 1)).toNat 0).toNat 0) (255)) > (iand .i64 ((a0).getD ((x49).getD (x46).toNat 0).toNat 0) (255)))))], 127, rfl, rfl, ⟨.inr ⟨rfl, rfl⟩, ⟨.inr ⟨rfl, rfl⟩, ⟨.inr ⟨rfl, rfl⟩, trivial⟩⟩⟩, .want 21 false 122 rfl rfl (sb (decide_eq_false c65)) (fun w HS => X.indexSl Try.underlying22 inf3 rfl rfl c63.1 c63.2), rfl, rfl, rfl⟩, ⟨_, Value.int .i64 ((x49).getD (w64 (x46 - 1)).toNat 0), [(127, Value.pointer (some ⟨eb54, eo55 + (w64 (x46 - 1)).toNat * 1, none⟩)), (122, Value.bool (decide ((iand .i64 ((a0).getD ((x49).getD (w64 (x46 - 1)).toNat 0).toNat 0) (255)) > (iand .i64 ((a0).getD ((x49).getD (x46).toNat 0).toNat 0) (255)))))], 128, rfl, rfl, ⟨.inr ⟨rfl, rfl⟩, ⟨.inr ⟨rfl, rfl⟩, trivial⟩⟩, .want 21 false 122 rfl rfl (sb (decide_eq_false c65)) (fun w HS => X.load Try.underlying3 rfl rfl (((rdC.at 1 row_rd HS rfl)).cellI c63.1 c63.2)), rfl, rfl, rfl⟩, ⟨_, Value.pointer (some ⟨eb59, eo60 + ((x49).getD (w64 (x46 - 1)).toNat 0).toNat * 1, none⟩), [(123, Value.slice (some ⟨eb59, eo60, none⟩) (a0).length sc0), (128, Value.int .i64 ((x49).getD (w64 (x46 - 1)).toNat 0)), (122, Value.bool (decide ((iand .i64 ((a0).getD ((x49).getD (w64 (x46 - 1)).toNat 0).toNat 0) (255)) > (iand .i64 ((a0).getD ((x49).getD (x46).toNat 0).toNat 0) (255)))))], 129, rfl, rfl, ⟨.inr ⟨rfl, rfl⟩, ⟨.inr ⟨rfl, rfl⟩, ⟨.inr ⟨rfl, rfl⟩, trivial⟩⟩⟩, .want 21 false 122 rfl rfl (sb (decide_eq_false c65)) (fun w HS => X.indexSl Try.underlying22 inf3 rfl rfl c64.1 c64.2), rfl, rfl, rfl⟩, ⟨_, Value.int .i64 ((a0).getD ((x49).getD (w64 (x46 - 1)).toNat 0).toNat 0), [(129, Value.pointer (some ⟨eb59, eo60 + ((x49).getD (w64 (x46 - 1)).toNat 0).toNat * 1, none⟩)), (122, Value.bool (decide ((iand .i64 ((a0).getD ((x49).getD (w64 (x46 - 1)).toNat 0).toNat 0) (255)) > (iand .i64 ((a0).getD ((x49).getD (x46).toNat 0).toNat 0) (255)))))], 130, rfl, rfl, ⟨.inr ⟨rfl, rfl⟩, ⟨.inr ⟨rfl, rfl⟩, trivial⟩⟩, .want 21 false 122 rfl rfl (sb (decide_eq_false c65)) (fun w HS => X.load Try.underlying3 rfl rfl (((rdC.at 4 hr0 HS rfl)).cellI c64.1 c64.2)), rfl, rfl, rfl⟩, ⟨_, Value.int .i64 (iand .i64 ((a0).getD ((x49).getD (w64 (x46 - 1)).toNat 0).toNat 0) (255)), [(130, Value.int .i64 ((a0).getD ((x49).getD (w64 (x46 - 1)).toNat 0).toNat 0)), (122, Value.bool (decide ((iand .i64 ((a0).getD ((x49).getD (w64 (x46 - 1)).toNat 0).toNat 0) (255)) > (iand .i64 ((a0).getD ((x49).getD (x46).toNat 0).toNat 0) (255)))))], 131, rfl, rfl, ⟨.inr ⟨rfl, rfl⟩, ⟨.inr ⟨rfl, rfl⟩, trivial⟩⟩, .want 21 false 122 rfl rfl (sb (decide_eq_false c65)) (fun w HS => X.and rfl rfl), rfl, rfl, rfl⟩, ⟨_, Value.slice (some ⟨eb59, eo60, none⟩) (a0).length sc0, [(0, Value.slice (some ⟨eb59, eo60, none⟩) (a0).length sc0), (122, Value.bool (decide ((iand .i64 ((a0).getD ((x49).getD (w64 (x46 - 1)).toNat 0).toNat 0) (255)) > (iand .i64 ((a0).getD ((x49).getD (x46).toNat 0).toNat 0) (255)))))], 132, rfl, rfl, ⟨.inl ⟨rfl, rfl⟩, ⟨.inr ⟨rfl, rfl⟩, trivial⟩⟩, .want 21 false 122 rfl rfl (sb (decide_eq_false c65)) (fun w HS => X.move rfl), rfl, rfl, rfl⟩, ⟨_, Value.slice (some ⟨eb54, eo55, none⟩) (x49).length rc48, [(10, Value.slice (some ⟨eb54, eo55, none⟩) (x49).length rc48), (122, Value.bool (decide ((iand .i64 ((a0).getD ((x49).getD (w64 (x46 - 1)).toNat 0).toNat 0) (255)) > (iand .i64 ((a0).getD ((x49).getD (x46).toNat 0).toNat 0) (255)))))], 133, rfl, rfl, ⟨.inl ⟨rfl, rfl⟩, ⟨.inr ⟨rfl, rfl⟩, trivial⟩⟩, .want 21 false 122 rfl rfl (sb (decide_eq_false c65)) (fun w HS => X.move rfl), rfl, rfl, rfl⟩, ⟨_, Value.int .i64 (x46), [(13, Value.int .i64 (x46)), (122, Value.bool (decide ((iand .i64 ((a0).getD ((x49).getD (w64 (x46 - 1)).toNat 0).toNat 0) (255)) > (iand .i64 ((a0).getD ((x49).getD (x46).toNat 0).toNat 0) (255)))))], 134, rfl, rfl, ⟨.inl ⟨rfl, rfl⟩, ⟨.inr ⟨rfl, rfl⟩, trivial⟩⟩, .want 21 false 122 rfl rfl (sb (decide_eq_false c65)) (fun w HS => X.move rfl), rfl, rfl, rfl⟩, ⟨_, Value.pointer (some ⟨eb54, eo55 + (x46).toNat * 1, none⟩), [(133, Value.slice (some ⟨eb54, eo55, none⟩) (x49).length rc48), (134, Value.int .i64 (x46)), (122, Value.bool (decide ((iand .i64 ((a0).getD ((x49).getD (w64 (x46 - 1)).toNat 0).toNat 0) (255)) > (iand .i64 ((a0).getD ((x49).getD (x46).toNat 0).toNat 0) (255)))))], 135, rfl, rfl, ⟨.inr ⟨rfl, rfl⟩, ⟨.inr ⟨rfl, rfl⟩, ⟨.inr ⟨rfl, rfl⟩, trivial⟩⟩⟩, .want 21 false 122 rfl rfl (sb (decide_eq_false c65)) (fun w HS => X.indexSl Try.underlying22 inf3 rfl rfl c53.1 c53.2), rfl, rfl, rfl⟩, ⟨_, Value.int .i64 ((x49).getD (x46).toNat 0), [(135, Value.pointer (some ⟨eb54, eo55 + (x46).toNat * 1, none⟩)), (122, Value.bool (decide ((iand .i64 ((a0).getD ((x49).getD (w64 (x46 - 1)).toNat 0).toNat 0) (255)) > (iand .i64 ((a0).getD ((x49).getD (x46).toNat 0).toNat 0) (255)))))], 136, rfl, rfl, ⟨.inr ⟨rfl, rfl⟩, ⟨.inr ⟨rfl, rfl⟩, trivial⟩⟩, .want 21 false 122 rfl rfl (sb (decide_eq_false c65)) (fun w HS => X.load Try.underlying3 rfl rfl (((rdC.at 1 row_rd HS rfl)).cellI c53.1 c53.2)), rfl, rfl, rfl⟩, ⟨_, Value.pointer (some ⟨eb59, eo60 + ((x49).getD (x46).toNat 0).toNat * 1, none⟩), [(132, Value.slice (some ⟨eb59, eo60, none⟩) (a0).length sc0), (136, Value.int .i64 ((x49).getD (x46).toNat 0)), (122, Value.bool (decide ((iand .i64 ((a0).getD ((x49).getD (w64 (x46 - 1)).toNat 0).toNat 0) (255)) > (iand .i64 ((a0).getD ((x49).getD (x46).toNat 0).toNat 0) (255)))))], 137, rfl, rfl, ⟨.inr ⟨rfl, rfl⟩, ⟨.inr ⟨rfl, rfl⟩, ⟨.inr ⟨rfl, rfl⟩, trivial⟩⟩⟩, .want 21 false 122 rfl rfl (sb (decide_eq_false c65)) (fun w HS => X.indexSl Try.underlying22 inf3 rfl rfl c58.1 c58.2), rfl, rfl, rfl⟩, ⟨_, Value.int .i64 ((a0).getD ((x49).getD (x46).toNat 0).toNat 0), [(137, Value.pointer (some ⟨eb59, eo60 + ((x49).getD (x46).toNat 0).toNat * 1, none⟩)), (122, Value.bool (decide ((iand .i64 ((a0).getD ((x49).getD (w64 (x46 - 1)).toNat 0).toNat 0) (255)) > (iand .i64 ((a0).getD ((x49).getD (x46).toNat 0).toNat 0) (255)))))], 138, rfl, rfl, ⟨.inr ⟨rfl, rfl⟩, ⟨.inr ⟨rfl, rfl⟩, trivial⟩⟩, .want 21 false 122 rfl rfl (sb (decide_eq_false c65)) (fun w HS => X.load Try.underlying3 rfl rfl (((rdC.at 4 hr0 HS rfl)).cellI c58.1 c58.2)), rfl, rfl, rfl⟩, ⟨_, Value.int .i64 (iand .i64 ((a0).getD ((x49).getD (x46).toNat 0).toNat 0) (255)), [(138, Value.int .i64 ((a0).getD ((x49).getD (x46).toNat 0).toNat 0)), (122, Value.bool (decide ((iand .i64 ((a0).getD ((x49).getD (w64 (x46 - 1)).toNat 0).toNat 0) (255)) > (iand .i64 ((a0).getD ((x49).getD (x46).toNat 0).toNat 0) (255)))))], 139, rfl, rfl, ⟨.inr ⟨rfl, rfl⟩, ⟨.inr ⟨rfl, rfl⟩, trivial⟩⟩, .want 21 false 122 rfl rfl (sb (decide_eq_false c65)) (fun w HS => X.and rfl rfl), rfl, rfl, rfl⟩, ⟨_, Value.bool (decide ((iand .i64 ((a0).getD ((x49).getD (w64 (x46 - 1)).toNat 0).toNat 0) (255)) = (iand .i64 ((a0).getD ((x49).getD (x46).toNat 0).toNat 0) (255)))), [(131, Value.int .i64 (iand .i64 ((a0).getD ((x49).getD (w64 (x46 - 1)).toNat 0).toNat 0) (255))), (139, Value.int .i64 (iand .i64 ((a0).getD ((x49).getD (x46).toNat 0).toNat 0) (255))), (122, Value.bool (decide ((iand .i64 ((a0).getD ((x49).getD (w64 (x46 - 1)).toNat 0).toNat 0) (255)) > (iand .i64 ((a0).getD ((x49).getD (x46).toNat 0).toNat 0) (255)))))], 140, rfl, rfl, ⟨.inr ⟨rfl, rfl⟩, ⟨.inr ⟨rfl, rfl⟩, ⟨.inr ⟨rfl, rfl⟩, trivial⟩⟩⟩, .want 21 false 122 rfl rfl (sb (decide_eq_false c65)) (fun w HS => X.cmp (decide ((iand .i64 ((a0).getD ((x49).getD (w64 (x46 - 1)).toNat 0).toNat 0) (255)) = (iand .i64 ((a0).getD ((x49).getD (x46).toNat 0).toNat 0) (255)))) rfl rfl rfl rfl), rfl, rfl, rfl⟩, ⟨_, Value.bool (decide ((iand .i64 ((a0).getD ((x49).getD (w64 (x46 - 1)).toNat 0).toNat 0) (255)) = (iand .i64 ((a0).getD ((x49).getD (x46).toNat 0).toNat 0) (255)))), [(140, Value.bool (decide ((iand .i64 ((a0).getD ((x49).getD (w64 (x46 - 1)).toNat 0).toNat 0) (255)) = (iand .i64 ((a0).getD ((x49).getD (x46).toNat 0).toNat 0) (255))))), (122, Value.bool (decide ((iand .i64 ((a0).getD ((x49).getD (w64 (x46 - 1)).toNat 0).toNat 0) (255)) > (iand .i64 ((a0).getD ((x49).getD (x46).toNat 0).toNat 0) (255)))))], 141, rfl, rfl, ⟨.inr ⟨rfl, rfl⟩, ⟨.inr ⟨rfl, rfl⟩, trivial⟩⟩, .want 21 false 122 rfl rfl (sb (decide_eq_false c65)) (fun w HS => X.move rfl), rfl, rfl, rfl⟩, ⟨_, undef, [(141, Value.bool (decide ((iand .i64 ((a0).getD ((x49).getD (w64 (x46 - 1)).toNat 0).toNat 0) (255)) = (iand .i64 ((a0).getD ((x49).getD (x46).toNat 0).toNat 0) (255)))))], 142, rfl, rfl, ⟨.inr ⟨rfl, rfl⟩, trivial⟩, .pass 40 true false 141 rfl rfl (sb (decide_eq_false c66)) rfl rfl, rfl, rfl, rfl⟩, ⟨_, undef, [(141, Value.bool (decide ((iand .i64 ((a0).getD ((x49).getD (w64 (x46 - 1)).toNat 0).toNat 0) (255)) = (iand .i64 ((a0).getD ((x49).getD (x46).toNat 0).toNat 0) (255)))))], 143, rfl, rfl, ⟨.inr ⟨rfl, rfl⟩, trivial⟩, .pass 40 true false 141 rfl rfl (sb (decide_eq_false c66)) rfl rfl, rfl, rfl, rfl⟩, ⟨_, undef, [(141, Value.bool (decide ((iand .i64 ((a0).getD ((x49).getD (w64 (x46 - 1)).toNat 0).toNat 0) (255)) = (iand .i64 ((a0).getD ((x49).getD (x46).toNat 0).toNat 0) (255)))))], 144, rfl, rfl, ⟨.inr ⟨rfl, rfl⟩, trivial⟩, .pass 40 true false 141 rfl rfl (sb (decide_eq_false c66)) rfl rfl, rfl, rfl, rfl⟩, ⟨_, undef, [(141, Value.bool (decide ((iand .i64 ((a0).getD ((x49).getD (w64 (x46 - 1)).toNat 0).toNat 0) (255)) = (iand .i64 ((a0).getD ((x49).getD (x46).toNat 0).toNat 0) (255)))))], 145, rfl, rfl, ⟨.inr ⟨rfl, rfl⟩, trivial⟩, .pass 40 true false 141 rfl rfl (sb (decide_eq_false c66)) rfl rfl, rfl, rfl, rfl⟩, ⟨_, undef, [(141, Value.bool (decide ((iand .i64 ((a0).getD ((x49).getD (w64 (x46 - 1)).toNat 0).toNat 0) (255)) = (iand .i64 ((a0).getD ((x49).getD (x46).toNat 0).toNat 0) (255)))))], 146, rfl, rfl, ⟨.inr ⟨rfl, rfl⟩, trivial⟩, .pass 40 true false 141 rfl rfl (sb (decide_eq_false c66)) rfl rfl, rfl, rfl, rfl⟩, ⟨_, undef, [(141, Value.bool (decide ((iand .i64 ((a0).getD ((x49).getD (w64 (x46 - 1)).toNat 0).toNat 0) (255)) = (iand .i64 ((a0).getD ((x49).getD (x46).toNat 0).toNat 0) (255)))))], 147, rfl, rfl, ⟨.inr ⟨rfl, rfl⟩, trivial⟩, .pass 40 true false 141 rfl rfl (sb (decide_eq_false c66)) rfl rfl, rfl, rfl, rfl⟩, ⟨_, undef, [(141, Value.bool (decide ((iand .i64 ((a0).getD ((x49).getD (w64 (x46 - 1)).toNat 0).toNat 0) (255)) = (iand .i64 ((a0).getD ((x49).getD (x46).toNat 0).toNat 0) (255)))))], 148, rfl, rfl, ⟨.inr ⟨rfl, rfl⟩, trivial⟩, .pass 40 true false 141 rfl rfl (sb (decide_eq_false c66)) rfl rfl, rfl, rfl, rfl⟩, ⟨_, undef, [(141, Value.bool (decide ((iand .i64 ((a0).getD ((x49).getD (w64 (x46 - 1)).toNat 0).toNat 0) (255)) = (iand .i64 ((a0).getD ((x49).getD (x46).toNat 0).toNat 0) (255)))))], 149, rfl, rfl, ⟨.inr ⟨rfl, rfl⟩, trivial⟩, .pass 40 true false 141 rfl rfl (sb (decide_eq_false c66)) rfl rfl, rfl, rfl, rfl⟩, ⟨_, undef, [(141, Value.bool (decide ((iand .i64 ((a0).getD ((x49).getD (w64 (x46 - 1)).toNat 0).toNat 0) (255)) = (iand .i64 ((a0).getD ((x49).getD (x46).toNat 0).toNat 0) (255)))))], 150, rfl, rfl, ⟨.inr ⟨rfl, rfl⟩, trivial⟩, .pass 40 true false 141 rfl rfl (sb (decide_eq_false c66)) rfl rfl, rfl, rfl, rfl⟩, ⟨_, undef, [(141, Value.bool (decide ((iand .i64 ((a0).getD ((x49).getD (w64 (x46 - 1)).toNat 0).toNat 0) (255)) = (iand .i64 ((a0).getD ((x49).getD (x46).toNat 0).toNat 0) (255)))))], 151, rfl, rfl, ⟨.inr ⟨rfl, rfl⟩, trivial⟩, .pass 40 true false 141 rfl rfl (sb (decide_eq_false c66)) rfl rfl, rfl, rfl, rfl⟩, ⟨_, Value.bool (false), [(141, Value.bool (decide ((iand .i64 ((a0).getD ((x49).getD (w64 (x46 - 1)).toNat 0).toNat 0) (255)) = (iand .i64 ((a0).getD ((x49).getD (x46).toNat 0).toNat 0) (255))))), (151, undef), (122, Value.bool (decide ((iand .i64 ((a0).getD ((x49).getD (w64 (x46 - 1)).toNat 0).toNat 0) (255)) > (iand .i64 ((a0).getD ((x49).getD (x46).toNat 0).toNat 0) (255)))))], 152, rfl, rfl, ⟨.inr ⟨rfl, rfl⟩, ⟨.inr ⟨rfl, rfl⟩, ⟨.inr ⟨rfl, rfl⟩, trivial⟩⟩⟩, .want 21 false 122 rfl rfl (sb (decide_eq_false c65)) (fun w HS => X.pickF (sb (decide_eq_false c66)) rfl), rfl, rfl, rfl⟩, ⟨_, Value.bool (false), [(122, Value.bool (decide ((iand .i64 ((a0).getD ((x49).getD (w64 (x46 - 1)).toNat 0).toNat 0) (255)) > (iand .i64 ((a0).getD ((x49).getD (x46).toNat 0).toNat 0) (255))))), (152, Value.bool (false)), (103, Value.bool (decide (x46 > 0)))], 153, rfl, rfl, ⟨.inr ⟨rfl, rfl⟩, ⟨.inr ⟨rfl, rfl⟩, ⟨.inr ⟨rfl, rfl⟩, trivial⟩⟩⟩, .want 2 true 103 rfl rfl (sb (decide_eq_true c62)) (fun w HS => X.pickF (sb (decide_eq_false c65)) rfl), rfl, rfl, rfl⟩, ⟨_, Value.bool (false), [(103, Value.bool (decide (x46 > 0))), (153, Value.bool (false))], 154, rfl, rfl, ⟨.inr ⟨rfl, rfl⟩, ⟨.inr ⟨rfl, rfl⟩, trivial⟩⟩, .run rfl (fun w HS => X.pickT (sb (decide_eq_true c62)) rfl), rfl, rfl, rfl⟩, trivial⟩ ⟨.inl ⟨rfl, rfl⟩, ⟨.inl ⟨rfl, rfl⟩, ⟨.inl ⟨rfl, rfl⟩, ⟨.inl ⟨rfl, rfl⟩, ⟨.inl ⟨rfl, rfl⟩, ⟨.inl ⟨rfl, rfl⟩, ⟨.inl ⟨rfl, rfl⟩, ⟨.inl ⟨rfl, rfl⟩, ⟨.inl ⟨rfl, rfl⟩, ⟨.inl ⟨rfl, rfl⟩, ⟨.inl ⟨rfl, rfl⟩, ⟨.inl ⟨rfl, rfl⟩, ⟨.inl ⟨rfl, rfl⟩, ⟨.inl ⟨rfl, rfl⟩, ⟨.inl ⟨rfl, rfl⟩, ⟨.inl ⟨rfl, rfl⟩, ⟨.inl ⟨rfl, rfl⟩, ⟨.inl ⟨rfl, rfl⟩, ⟨.inl ⟨rfl, rfl⟩, ⟨.inl ⟨rfl, rfl⟩, ⟨.inl ⟨rfl, rfl⟩, ⟨.inr ⟨rfl, rfl⟩, ⟨.inr ⟨rfl, rfl⟩, ⟨.inr ⟨rfl, rfl⟩, ⟨.inr ⟨rfl, rfl⟩, ⟨.inr ⟨rfl, rfl⟩, ⟨.inr ⟨rfl, rfl⟩, ⟨.inr ⟨rfl, rfl⟩, ⟨.inr ⟨rfl, rfl⟩, ⟨.inr ⟨rfl, rfl⟩, ⟨.inr ⟨rfl, rfl⟩, ⟨.inr ⟨rfl, rfl⟩, ⟨.inr ⟨rfl, rfl⟩, ⟨.inr ⟨rfl, rfl⟩, ⟨.inr ⟨rfl, rfl⟩, ⟨.inr ⟨rfl, rfl⟩, ⟨.inr ⟨rfl, rfl⟩, ⟨.inr ⟨rfl, rfl⟩, ⟨.inr ⟨rfl, rfl⟩, ⟨.inr ⟨rfl, rfl⟩, ⟨.inr ⟨rfl, rfl⟩, ⟨.inr ⟨rfl, rfl⟩, ⟨.inr ⟨rfl, rfl⟩, ⟨.inr ⟨rfl, rfl⟩, ⟨.inr ⟨rfl, rfl⟩, ⟨.inr ⟨rfl, rfl⟩, ⟨.inr ⟨rfl, rfl⟩, ⟨.inr ⟨rfl, rfl⟩, ⟨.inr ⟨rfl, rfl⟩, ⟨.inr ⟨rfl, rfl⟩, ⟨.inr ⟨rfl, rfl⟩, ⟨.inr ⟨rfl, rfl⟩, ⟨.inr ⟨rfl, rfl⟩, ⟨.inr ⟨rfl, rfl⟩, ⟨.inr ⟨rfl, rfl⟩, ⟨.inr ⟨rfl, rfl⟩, ⟨.inr ⟨rfl, rfl⟩, ⟨.inr ⟨rfl, rfl⟩, ⟨.inr ⟨rfl, rfl⟩, ⟨.inr ⟨rfl, rfl⟩, ⟨.inr ⟨rfl, rfl⟩, ⟨.inr ⟨rfl, rfl⟩, ⟨.inr ⟨rfl, rfl⟩, ⟨.inr ⟨rfl, rfl⟩, ⟨.inr ⟨rfl, rfl⟩, ⟨.inr ⟨rfl, rfl⟩, ⟨.inr ⟨rfl, rfl⟩, ⟨.inr ⟨rfl, rfl⟩, ⟨.inr ⟨rfl, rfl⟩, ⟨.inr ⟨rfl, rfl⟩, ⟨.inr ⟨rfl, rfl⟩, ⟨.inr ⟨rfl, rfl⟩, trivial⟩⟩⟩⟩⟩⟩⟩⟩⟩⟩⟩⟩⟩⟩⟩⟩⟩⟩⟩⟩⟩⟩⟩⟩⟩⟩⟩⟩⟩⟩⟩⟩⟩⟩⟩⟩⟩⟩⟩⟩⟩⟩⟩⟩⟩⟩⟩⟩⟩⟩⟩⟩⟩⟩⟩⟩⟩⟩⟩⟩⟩⟩⟩⟩⟩⟩⟩⟩⟩⟩⟩⟩ (fun w HS => ?_)
                                    have HS : Sep.St [row 3 1 (.slice ra31 (x33).length rc32) (x33).length ((x33).map (Value.int .i64)), row 3 1 (.slice (some ⟨eb54, eo55, none⟩) (x49).length rc48) (x49).length ((x49).map (Value.int .i64)), clock_Set.at bt7_0 (t26.2), clock_Set.at bt9_0 (x34), R] w0 w := HS
                                    refine At.next ?_
                                    refine V.keep [(0, Value.slice (some ⟨eb59, eo60, none⟩) (a0).length sc0), (1, Value.int .i64 (a1)), (10, Value.slice (some ⟨eb54, eo55, none⟩) (x49).length rc48), (13, Value.int .i64 (x46)), (81, Value.slice (some ⟨eb54, eo55, none⟩) (x49).length rc48), (82, Value.int .i64 (x46)), (83, Value.pointer (some ⟨eb54, eo55 + (x46).toNat * 1, none⟩)), (84, Value.int .i64 ((x49).getD (x46).toNat 0)), (85, Value.slice (some ⟨eb59, eo60, none⟩) (a0).length sc0), (86, Value.int .i64 (((a0).length : Int))), (87, Value.bool (decide (((x49).getD (x46).toNat 0) ≥ ((a0).length : Int)))), (90, Value.slice (some ⟨eb59, eo60, none⟩) (a0).length sc0), (91, Value.slice (some ⟨eb54, eo55, none⟩) (x49).length rc48), (92, Value.int .i64 (x46)), (93, Value.pointer (some ⟨eb54, eo55 + (x46).toNat * 1, none⟩)), (94, Value.int .i64 ((x49).getD (x46).toNat 0)), (95, Value.pointer (some ⟨eb59, eo60 + ((x49).getD (x46).toNat 0).toNat * 1, none⟩)), (96, Value.int .i64 ((a0).getD ((x49).getD (x46).toNat 0).toNat 0)), (97, Value.int .i64 (iand .i64 ((a0).getD ((x49).getD (x46).toNat 0).toNat 0) (255))), (98, Value.int .i64 (a1)), (99, Value.bool (decide ((iand .i64 ((a0).getD ((x49).getD (x46).toNat 0).toNat 0) (255)) ≥ a1))), (104, Value.slice (some ⟨eb59, eo60, none⟩) (a0).length sc0), (105, Value.slice (some ⟨eb54, eo55, none⟩) (x49).length rc48), (106, Value.int .i64 (x46)), (107, Value.int .i64 (w64 (x46 - 1))), (108, Value.pointer (some ⟨eb54, eo55 + (w64 (x46 - 1)).toNat * 1, none⟩)), (109, Value.int .i64 ((x49).getD (w64 (x46 - 1)).toNat 0)), (110, Value.pointer (some ⟨eb59, eo60 + ((x49).getD (w64 (x46 - 1)).toNat 0).toNat * 1, none⟩)), (111, Value.int .i64 ((a0).getD ((x49).getD (w64 (x46 - 1)).toNat 0).toNat 0)), (112, Value.int .i64 (iand .i64 ((a0).getD ((x49).getD (w64 (x46 - 1)).toNat 0).toNat 0) (255))), (113, Value.slice (some ⟨eb59, eo60, none⟩) (a0).length sc0), (114, Value.slice (some ⟨eb54, eo55, none⟩) (x49).length rc48), (115, Value.int .i64 (x46)), (116, Value.pointer (some ⟨eb54, eo55 + (x46).toNat * 1, none⟩)), (117, Value.int .i64 ((x49).getD (x46).toNat 0)), (118, Value.pointer (some ⟨eb59, eo60 + ((x49).getD (x46).toNat 0).toNat * 1, none⟩)), (119, Value.int .i64 ((a0).getD ((x49).getD (x46).toNat 0).toNat 0)), (120, Value.int .i64 (iand .i64 ((a0).getD ((x49).getD (x46).toNat 0).toNat 0) (255))), (121, Value.bool (decide ((iand .i64 ((a0).getD ((x49).getD (w64 (x46 - 1)).toNat 0).toNat 0) (255)) > (iand .i64 ((a0).getD ((x49).getD (x46).toNat 0).toNat 0) (255))))), (122, Value.bool (decide ((iand .i64 ((a0).getD ((x49).getD (w64 (x46 - 1)).toNat 0).toNat 0) (255)) > (iand .i64 ((a0).getD ((x49).getD (x46).toNat 0).toNat 0) (255))))), (123, Value.slice (some ⟨eb59, eo60, none⟩) (a0).length sc0), (124, Value.slice (some ⟨eb54, eo55, none⟩) (x49).length rc48), (125, Value.int .i64 (x46)), (126, Value.int .i64 (w64 (x46 - 1))), (127, Value.pointer (some ⟨eb54, eo55 + (w64 (x46 - 1)).toNat * 1, none⟩)), (128, Value.int .i64 ((x49).getD (w64 (x46 - 1)).toNat 0)), (129, Value.pointer (some ⟨eb59, eo60 + ((x49).getD (w64 (x46 - 1)).toNat 0).toNat * 1, none⟩)), (130, Value.int .i64 ((a0).getD ((x49).getD (w64 (x46 - 1)).toNat 0).toNat 0)), (131, Value.int .i64 (iand .i64 ((a0).getD ((x49).getD (w64 (x46 - 1)).toNat 0).toNat 0) (255))), (132, Value.slice (some ⟨eb59, eo60, none⟩) (a0).length sc0), (133, Value.slice (some ⟨eb54, eo55, none⟩) (x49).length rc48), (134, Value.int .i64 (x46)), (135, Value.pointer (some ⟨eb54, eo55 + (x46).toNat * 1, none⟩)), (136, Value.int .i64 ((x49).getD (x46).toNat 0)), (137, Value.pointer (some ⟨eb59, eo60 + ((x49).getD (x46).toNat 0).toNat * 1, none⟩)), (138, Value.int .i64 ((a0).getD ((x49).getD (x46).toNat 0).toNat 0)), (139, Value.int .i64 (iand .i64 ((a0).getD ((x49).getD (x46).toNat 0).toNat 0) (255))), (140, Value.bool (decide ((iand .i64 ((a0).getD ((x49).getD (w64 (x46 - 1)).toNat 0).toNat 0) (255)) = (iand .i64 ((a0).getD ((x49).getD (x46).toNat 0).toNat 0) (255))))), (141, Value.bool (decide ((iand .i64 ((a0).getD ((x49).getD (w64 (x46 - 1)).toNat 0).toNat 0) (255)) = (iand .i64 ((a0).getD ((x49).getD (x46).toNat 0).toNat 0) (255))))), (142, undef), (143, undef), (144, undef), (145, undef), (146, undef), (147, undef), (148, undef), (149, undef), (150, undef), (151, undef), (152, Value.bool (false)), (153, Value.bool (false)), (154, Value.bool (false))] ⟨rfl, rfl, rfl, rfl, rfl, rfl, rfl, rfl, rfl, rfl, rfl, rfl, rfl, rfl, rfl, rfl, rfl, rfl, rfl, rfl, rfl, rfl, rfl, rfl, rfl, rfl, rfl, rfl, rfl, rfl, rfl, rfl, rfl, rfl, rfl, rfl, rfl, rfl, rfl, rfl, rfl, rfl, rfl, rfl, rfl, rfl, rfl, rfl, rfl, rfl, rfl, rfl, rfl, rfl, rfl, rfl, rfl, rfl, rfl, rfl, rfl, rfl, rfl, rfl, rfl, rfl, rfl, rfl, rfl, rfl, rfl, rfl, trivial⟩ ?_
                                    refine V.condF rfl ?_
                                    refine V.skip ?_
                                    refine At.blockEnd ?_
                                    refine At.next ?_
                                    refine V.keep [(0, Value.slice (some ⟨eb59, eo60, none⟩) (a0).length sc0), (1, Value.int .i64 (a1)), (10, Value.slice (some ⟨eb54, eo55, none⟩) (x49).length rc48), (13, Value.int .i64 (x46)), (81, Value.slice (some ⟨eb54, eo55, none⟩) (x49).length rc48), (82, Value.int .i64 (x46)), (83, Value.pointer (some ⟨eb54, eo55 + (x46).toNat * 1, none⟩)), (84, Value.int .i64 ((x49).getD (x46).toNat 0)), (85, Value.slice (some ⟨eb59, eo60, none⟩) (a0).length sc0), (86, Value.int .i64 (((a0).length : Int))), (87, Value.bool (decide (((x49).getD (x46).toNat 0) ≥ ((a0).length : Int)))), (90, Value.slice (some ⟨eb59, eo60, none⟩) (a0).length sc0), (91, Value.slice (some ⟨eb54, eo55, none⟩) (x49).length rc48), (92, Value.int .i64 (x46)), (93, Value.pointer (some ⟨eb54, eo55 + (x46).toNat * 1, none⟩)), (94, Value.int .i64 ((x49).getD (x46).toNat 0)), (95, Value.pointer (some ⟨eb59, eo60 + ((x49).getD (x46).toNat 0).toNat * 1, none⟩)), (96, Value.int .i64 ((a0).getD ((x49).getD (x46).toNat 0).toNat 0)), (97, Value.int .i64 (iand .i64 ((a0).getD ((x49).getD (x46).toNat 0).toNat 0) (255))), (98, Value.int .i64 (a1)), (99, Value.bool (decide ((iand .i64 ((a0).getD ((x49).getD (x46).toNat 0).toNat 0) (255)) ≥ a1))), (104, Value.slice (some ⟨eb59, eo60, none⟩) (a0).length sc0), (105, Value.slice (some ⟨eb54, eo55, none⟩) (x49).length rc48), (106, Value.int .i64 (x46)), (107, Value.int .i64 (w64 (x46 - 1))), (108, Value.pointer (some ⟨eb54, eo55 + (w64 (x46 - 1)).toNat * 1, none⟩)), (109, Value.int .i64 ((x49).getD (w64 (x46 - 1)).toNat 0)), (110, Value.pointer (some ⟨eb59, eo60 + ((x49).getD (w64 (x46 - 1)).toNat 0).toNat * 1, none⟩)), (111, Value.int .i64 ((a0).getD ((x49).getD (w64 (x46 - 1)).toNat 0).toNat 0)), (112, Value.int .i64 (iand .i64 ((a0).getD ((x49).getD (w64 (x46 - 1)).toNat 0).toNat 0) (255))), (113, Value.slice (some ⟨eb59, eo60, none⟩) (a0).length sc0), (114, Value.slice (some ⟨eb54, eo55, none⟩) (x49).length rc48), (115, Value.int .i64 (x46)), (116, Value.pointer (some ⟨eb54, eo55 + (x46).toNat * 1, none⟩)), (117, Value.int .i64 ((x49).getD (x46).toNat 0)), (118, Value.pointer (some ⟨eb59, eo60 + ((x49).getD (x46).toNat 0).toNat * 1, none⟩)), (119, Value.int .i64 ((a0).getD ((x49).getD (x46).toNat 0).toNat 0)), (120, Value.int .i64 (iand .i64 ((a0).getD ((x49).getD (x46).toNat 0).toNat 0) (255))), (121, Value.bool (decide ((iand .i64 ((a0).getD ((x49).getD (w64 (x46 - 1)).toNat 0).toNat 0) (255)) > (iand .i64 ((a0).getD ((x49).getD (x46).toNat 0).toNat 0) (255))))), (122, Value.bool (decide ((iand .i64 ((a0).getD ((x49).getD (w64 (x46 - 1)).toNat 0).toNat 0) (255)) > (iand .i64 ((a0).getD ((x49).getD (x46).toNat 0).toNat 0) (255))))), (123, Value.slice (some ⟨eb59, eo60, none⟩) (a0).length sc0), (124, Value.slice (some ⟨eb54, eo55, none⟩) (x49).length rc48), (125, Value.int .i64 (x46)), (126, Value.int .i64 (w64 (x46 - 1))), (127, Value.pointer (some ⟨eb54, eo55 + (w64 (x46 - 1)).toNat * 1, none⟩)), (128, Value.int .i64 ((x49).getD (w64 (x46 - 1)).toNat 0)), (129, Value.pointer (some ⟨eb59, eo60 + ((x49).getD (w64 (x46 - 1)).toNat 0).toNat * 1, none⟩)), (130, Value.int .i64 ((a0).getD ((x49).getD (w64 (x46 - 1)).toNat 0).toNat 0)), (131, Value.int .i64 (iand .i64 ((a0).getD ((x49).getD (w64 (x46 - 1)).toNat 0).toNat 0) (255))), (132, Value.slice (some ⟨eb59, eo60, none⟩) (a0).length sc0), (133, Value.slice (some ⟨eb54, eo55, none⟩) (x49).length rc48), (134, Value.int .i64 (x46)), (135, Value.pointer (some ⟨eb54, eo55 + (x46).toNat * 1, none⟩)), (136, Value.int .i64 ((x49).getD (x46).toNat 0)), (137, Value.pointer (some ⟨eb59, eo60 + ((x49).getD (x46).toNat 0).toNat * 1, none⟩)), (138, Value.int .i64 ((a0).getD ((x49).getD (x46).toNat 0).toNat 0)), (139, Value.int .i64 (iand .i64 ((a0).getD ((x49).getD (x46).toNat 0).toNat 0) (255))), (140, Value.bool (decide ((iand .i64 ((a0).getD ((x49).getD (w64 (x46 - 1)).toNat 0).toNat 0) (255)) = (iand .i64 ((a0).getD ((x49).getD (x46).toNat 0).toNat 0) (255))))), (141, Value.bool (decide ((iand .i64 ((a0).getD ((x49).getD (w64 (x46 - 1)).toNat 0).toNat 0) (255)) = (iand .i64 ((a0).getD ((x49).getD (x46).toNat 0).toNat 0) (255))))), (142, undef), (143, undef), (144, undef), (145, undef), (146, undef), (147, undef), (148, undef), (149, undef), (150, undef), (151, undef), (152, Value.bool (false)), (153, Value.bool (false))] ⟨rfl, rfl, rfl, rfl, rfl, rfl, rfl, rfl, rfl, rfl, rfl, rfl, rfl, rfl, rfl, rfl, rfl, rfl, rfl, rfl, rfl, rfl, rfl, rfl, rfl, rfl, rfl, rfl, rfl, rfl, rfl, rfl, rfl, rfl, rfl, rfl, rfl, rfl, rfl, rfl, rfl, rfl, rfl, rfl, rfl, rfl, rfl, rfl, rfl, rfl, rfl, rfl, rfl, rfl, rfl, rfl, rfl, rfl, rfl, rfl, rfl, rfl, rfl, rfl, rfl, rfl, rfl, rfl, rfl, rfl, rfl, trivial⟩ ?_
                                    refine V.region ?_
                                    refine W.rd (X.move rfl) rfl rfl rfl ?_
                                    refine W.rd (X.add rfl rfl) rfl rfl rfl ?_
                                    refine W.rd (X.assign rfl) rfl rfl rfl ?_
                                    refine W.nil ?_
                                    exact At.round kq50 (by omega) (w64 (x46 + 1), (some ⟨eb54, eo55, none⟩), rc48, x49) ⟨rfl, rfl, rfl, rfl, trivial⟩ ⟨HS, H, by omega⟩
                              · replace H := ite_f c62 H
                                refine V.draw (es := []) (bl := []) (f := [(101, Value.int .i64 (x46)), (102, Value.bool (decide (x46 > 0))), (103, Value.bool (decide (x46 > 0))), (104, undef), (105, undef), (106, undef), (107, undef), (108, undef), (109, undef), (110, undef), (111, undef), (112, undef), (113, undef), (114, undef), (115, undef), (116, undef), (117, undef), (118, undef), (119, undef), (120, undef), (121, undef), (122, undef), (123, undef), (124, undef), (125, undef), (126, undef), (127, undef), (128, undef), (129, undef), (130, undef), (131, undef), (132, undef), (133, undef), (134, undef), (135, undef), (136, undef), (137, undef), (138, undef), (139, undef), (140, undef), (141, undef), (142, undef), (143, undef), (144, undef), (145, undef), (146, undef), (147, undef), (148, undef), (149, undef), (150, undef), (151, undef), (152, undef), (153, undef), (154, Value.bool (false))]) (fun w => Sep.St [row 3 1 (.slice ra31 (x33).length rc32) (x33).length ((x33).map (Value.int .i64)), row 3 1 (.slice (some ⟨eb54, eo55, none⟩) (x49).length rc48) (x49).length ((x49).map (Value.int .i64)), clock_Set.at bt7_0 (t26.2), clock_Set.at bt9_0 (x34), R] w0 w) mo HS.drew rfl ?_
                                refine T.fin [(0, Value.slice (some ⟨eb59, eo60, none⟩) (a0).length sc0), (1, Value.int .i64 (a1)), (10, Value.slice (some ⟨eb54, eo55, none⟩) (x49).length rc48), (13, Value.int .i64 (x46)), (81, Value.slice (some ⟨eb54, eo55, none⟩) (x49).length rc48), (82, Value.int .i64 (x46)), (83, Value.pointer (some ⟨eb54, eo55 + (x46).toNat * 1, none⟩)), (84, Value.int .i64 ((x49).getD (x46).toNat 0)), (85, Value.slice (some ⟨eb59, eo60, none⟩) (a0).length sc0), (86, Value.int .i64 (((a0).length : Int))), (87, Value.bool (decide (((x49).getD (x46).toNat 0) ≥ ((a0).length : Int)))), (90, Value.slice (some ⟨eb59, eo60, none⟩) (a0).length sc0), (91, Value.slice (some ⟨eb54, eo55, none⟩) (x49).length rc48), (92, Value.int .i64 (x46)), (93, Value.pointer (some ⟨eb54, eo55 + (x46).toNat * 1, none⟩)), (94, Value.int .i64 ((x49).getD (x46).toNat 0)), (95, Value.pointer (some ⟨eb59, eo60 + ((x49).getD (x46).toNat 0).toNat * 1, none⟩)), (96, Value.int .i64 ((a0).getD ((x49).getD (x46).toNat 0).toNat 0)), (97, Value.int .i64 (iand .i64 ((a0).getD ((x49).getD (x46).toNat 0).toNat 0) (255))), (98, Value.int .i64 (a1)), (99, Value.bool (decide ((iand .i64 ((a0).getD ((x49).getD (x46).toNat 0).toNat 0) (255)) ≥ a1))), (104, undef), (105, undef), (106, undef), (107, undef), (108, undef), (109, undef), (110, undef), (111, undef), (112, undef), (113, undef), (114, undef), (115, undef), (116, undef), (117, undef), (118, undef), (119, undef), (120, undef), (121, undef), (122, undef), (123, undef), (124, undef), (125, undef), (126, undef), (127, undef), (128, undef), (129, undef), (130, undef), (131, undef), (132, undef), (133, undef), (134, undef), (135, undef), (136, undef), (137, undef), (138, undef), (139, undef), (140, undef), (141, undef), (142, undef), (143, undef), (144, undef), (145, undef), (146, undef), (147, undef), (148, undef), (149, undef), (150, undef), (151, undef), (152, undef), (153, undef), (154, Value.bool (false))] rfl ⟨⟨_, Value.int .i64 (x46), [(13, Value.int .i64 (x46))], 101, rfl, rfl, ⟨.inl ⟨rfl, rfl⟩, trivial⟩, .run rfl (fun w HS => X.move rfl), rfl, rfl, rfl⟩, ⟨_, Value.bool (decide (x46 > 0)), [(101, Value.int .i64 (x46))], 102, rfl, rfl, ⟨.inr ⟨rfl, rfl⟩, trivial⟩, .run rfl (fun w HS => X.cmp (decide (x46 > 0)) rfl rfl rfl rfl), rfl, rfl, rfl⟩, ⟨_, Value.bool (decide (x46 > 0)), [(102, Value.bool (decide (x46 > 0)))], 103, rfl, rfl, ⟨.inr ⟨rfl, rfl⟩, trivial⟩, .run rfl (fun w HS => X.move rfl), rfl, rfl, rfl⟩, ⟨_, undef, [(103, Value.bool (decide (x46 > 0)))], 104, rfl, rfl, ⟨.inr ⟨rfl, rfl⟩, trivial⟩, .pass 2 true false 103 rfl rfl (sb (decide_eq_false c62)) rfl rfl, rfl, rfl, rfl⟩, ⟨_, undef, [(103, Value.bool (decide (x46 > 0)))], 105, rfl, rfl, ⟨.inr ⟨rfl, rfl⟩, trivial⟩, .pass 2 true false 103 rfl rfl (sb (decide_eq_false c62)) rfl rfl, rfl, rfl, rfl⟩, ⟨_, undef, [(103, Value.bool (decide (x46 > 0)))], 106, rfl, rfl, ⟨.inr ⟨rfl, rfl⟩, trivial⟩, .pass 2 true false 103 rfl rfl (sb (decide_eq_false c62)) rfl rfl, rfl, rfl, rfl⟩, ⟨_, undef, [(103, Value.bool (decide (x46 > 0)))], 107, rfl, rfl, ⟨.inr ⟨rfl, rfl⟩, trivial⟩, .pass 2 true false 103 rfl rfl (sb (decide_eq_false c62)) rfl rfl, rfl, rfl, rfl⟩, ⟨_, undef, [(103, Value.bool (decide (x46 > 0)))], 108, rfl, rfl, ⟨.inr ⟨rfl, rfl⟩, trivial⟩, .pass 2 true false 103 rfl rfl (sb (decide_eq_false c62)) rfl rfl, rfl, rfl, rfl⟩, ⟨_, undef, [(103, Value.bool (decide (x46 > 0)))], 109, rfl, rfl, ⟨.inr ⟨rfl, rfl⟩, trivial⟩, .pass 2 true false 103 rfl rfl (sb (decide_eq_false c62)) rfl rfl, rfl, rfl, rfl⟩, ⟨_, undef, [(103, Value.bool (decide (x46 > 0)))], 110, rfl, rfl, ⟨.inr ⟨rfl, rfl⟩, trivial⟩, .pass 2 true false 103 rfl rfl (sb (decide_eq_false c62)) rfl rfl, rfl, rfl, rfl⟩, ⟨_, undef, [(103, Value.bool (decide (x46 > 0)))], 111, rfl, rfl, ⟨.inr ⟨rfl, rfl⟩, trivial⟩, .pass 2 true false 103 rfl rfl (sb (decide_eq_false c62)) rfl rfl, rfl, rfl, rfl⟩, ⟨_, undef, [(103, Value.bool (decide (x46 > 0)))], 112, rfl, rfl, ⟨.inr ⟨rfl, rfl⟩, trivial⟩, .pass 2 true false 103 rfl rfl (sb (decide_eq_false c62)) rfl rfl, rfl, rfl, rfl⟩, ⟨_, undef, [(103, Value.bool (decide (x46 > 0)))], 113, rfl, rfl, ⟨.inr ⟨rfl, rfl⟩, trivial⟩, .pass 2 true false 103 rfl rfl (sb (decide_eq_false c62)) rfl rfl, rfl, rfl, rfl⟩, ⟨_, undef, [(103, Value.bool (decide (x46 > 0)))], 114, rfl, rfl, ⟨.inr ⟨rfl, rfl⟩, trivial⟩, .pass 2 true false 103 rfl rfl (sb (decide_eq_false c62)) rfl rfl, rfl, rfl, rfl⟩, ⟨_, undef, [(103, Value.bool (decide (x46 > 0)))], 115, rfl, rfl, ⟨.inr ⟨rfl, rfl⟩, trivial⟩, .pass 2 true false 103 rfl rfl (sb (decide_eq_false c62)) rfl rfl, rfl, rfl, rfl⟩, ⟨_, undef, [(103, Value.bool (decide (x46 > 0)))], 116, rfl, rfl, ⟨.inr ⟨rfl, rfl⟩, trivial⟩, .pass 2 true false 103 rfl rfl (sb (decide_eq_false c62)) rfl rfl, rfl, rfl, rfl⟩, ⟨_, undef, [(103, Value.bool (decide (x46 > 0)))], 117, rfl, rfl, ⟨.inr ⟨rfl, rfl⟩, trivial⟩, .pass 2 true false 103 rfl rfl (sb (decide_eq_false c62)) rfl rfl, rfl, rfl, rfl⟩, ⟨_, undef, [(103, Value.bool (decide (x46 > 0)))], 118, rfl, rfl, ⟨.inr ⟨rfl, rfl⟩, trivial⟩, .pass 2 true false 103 rfl rfl (sb (decide_eq_false c62)) rfl rfl, rfl, rfl, rfl⟩, ⟨_, undef, [(103, Value.bool (decide (x46 > 0)))], 119, rfl, rfl, ⟨.inr ⟨rfl, rfl⟩, trivial⟩, .pass 2 true false 103 rfl rfl (sb (decide_eq_false c62)) rfl rfl, rfl, rfl, rfl⟩, ⟨_, undef, [(103, Value.bool (decide (x46 > 0)))], 120, rfl, rfl, ⟨.inr ⟨rfl, rfl⟩, trivial⟩, .pass 2 true false 103 rfl rfl (sb (decide_eq_false c62)) rfl rfl, rfl, rfl, rfl⟩, ⟨_, undef, [(103, Value.bool (decide (x46 > 0)))], 121, rfl, rfl, ⟨.inr ⟨rfl, rfl⟩, trivial⟩, .pass 2 true false 103 rfl rfl (sb (decide_eq_false c62)) rfl rfl, rfl, rfl, rfl⟩, ⟨_, undef, [(103, Value.bool (decide (x46 > 0)))], 122, rfl, rfl, ⟨.inr ⟨rfl, rfl⟩, trivial⟩, .pass 2 true false 103 rfl rfl (sb (decide_eq_false c62)) rfl rfl, rfl, rfl, rfl⟩, ⟨_, undef, [(122, undef)], 123, rfl, rfl, ⟨.inr ⟨rfl, rfl⟩, trivial⟩, .passU 21 false 122 rfl rfl rfl rfl, rfl, rfl, rfl⟩, ⟨_, undef, [(122, undef)], 124, rfl, rfl, ⟨.inr ⟨rfl, rfl⟩, trivial⟩, .passU 21 false 122 rfl rfl rfl rfl, rfl, rfl, rfl⟩, ⟨_, undef, [(122, undef)], 125, rfl, rfl, ⟨.inr ⟨rfl, rfl⟩, trivial⟩, .passU 21 false 122 rfl rfl rfl rfl, rfl, rfl, rfl⟩, ⟨_, undef, [(122, undef)], 126, rfl, rfl, ⟨.inr ⟨rfl, rfl⟩, trivial⟩, .passU 21 false 122 rfl rfl rfl rfl, rfl, rfl, rfl⟩, ⟨_, undef, [(122, undef)], 127, rfl, rfl, ⟨.inr ⟨rfl, rfl⟩, trivial⟩, .passU 21 false 122 rfl rfl rfl rfl, rfl, rfl, rfl⟩, ⟨_, undef, [(122, undef)], 128, rfl, rfl, ⟨.inr ⟨rfl, rfl⟩, trivial⟩, .passU 21 false 122 rfl rfl rfl rfl, rfl, rfl, rfl⟩, ⟨_, undef, [(122, undef)], 129, rfl, rfl, ⟨.inr ⟨rfl, rfl⟩, trivial⟩, .passU 21 false 122 rfl rfl rfl rfl, rfl, rfl, rfl⟩, ⟨_, undef, [(122, undef)], 130, rfl, rfl, ⟨.inr ⟨rfl, rfl⟩, trivial⟩, .passU 21 false 122 rfl rfl rfl rfl, rfl, rfl, rfl⟩, ⟨_, undef, [(122, undef)], 131, rfl, rfl, ⟨.inr ⟨rfl, rfl⟩, trivial⟩, .passU 21 false 122 rfl rfl rfl rfl, rfl, rfl, rfl⟩, ⟨_, undef, [(122, undef)], 132, rfl, rfl, ⟨.inr ⟨rfl, rfl⟩, trivial⟩, .passU 21 false 122 rfl rfl rfl rfl, rfl, rfl, rfl⟩, ⟨_, undef, [(122, undef)], 133, rfl, rfl, ⟨.inr ⟨rfl, rfl⟩, trivial⟩, .passU 21 false 122 rfl rfl rfl rfl, rfl, rfl, rfl⟩, ⟨_, undef, [(122, undef)], 134, rfl, rfl, ⟨.inr ⟨rfl, rfl⟩, trivial⟩, .passU 21 false 122 rfl rfl rfl rfl, rfl, rfl, rfl⟩, ⟨_, undef, [(122, undef)], 135, rfl, rfl, ⟨.inr ⟨rfl, rfl⟩, trivial⟩, .passU 21 false 122 rfl rfl rfl rfl, rfl, rfl, rfl⟩, ⟨_, undef, [(122, undef)], 136, rfl, rfl, ⟨.inr ⟨rfl, rfl⟩, trivial⟩, .passU 21 false 122 rfl rfl rfl rfl, rfl, rfl, rfl⟩, ⟨_, undef, [(122, undef)], 137, rfl, rfl, ⟨.inr ⟨rfl, rfl⟩, trivial⟩, .passU 21 false 122 rfl rfl rfl rfl, rfl, rfl, rfl⟩, ⟨_, undef, [(122, undef)], 138, rfl, rfl, ⟨.inr ⟨rfl, rfl⟩, trivial⟩, .passU 21 false 122 rfl rfl rfl rfl, rfl, rfl, rfl⟩, ⟨_, undef, [(122, undef)], 139, rfl, rfl, ⟨.inr ⟨rfl, rfl⟩, trivial⟩, .passU 21 false 122 rfl rfl rfl rfl, rfl, rfl, rfl⟩, ⟨_, undef, [(122, undef)], 140, rfl, rfl, ⟨.inr ⟨rfl, rfl⟩, trivial⟩, .passU 21 false 122 rfl rfl rfl rfl, rfl, rfl, rfl⟩, ⟨_, undef, [(122, undef)], 141, rfl, rfl, ⟨.inr ⟨rfl, rfl⟩, trivial⟩, .passU 21 false 122 rfl rfl rfl rfl, rfl, rfl, rfl⟩, ⟨_, undef, [(141, undef)], 142, rfl, rfl, ⟨.inr ⟨rfl, rfl⟩, trivial⟩, .passU 40 true 141 rfl rfl rfl rfl, rfl, rfl, rfl⟩, ⟨_, undef, [(141, undef)], 143, rfl, rfl, ⟨.inr ⟨rfl, rfl⟩, trivial⟩, .passU 40 true 141 rfl rfl rfl rfl, rfl, rfl, rfl⟩, ⟨_, undef, [(141, undef)], 144, rfl, rfl, ⟨.inr ⟨rfl, rfl⟩, trivial⟩, .passU 40 true 141 rfl rfl rfl rfl, rfl, rfl, rfl⟩, ⟨_, undef, [(141, undef)], 145, rfl, rfl, ⟨.inr ⟨rfl, rfl⟩, trivial⟩, .passU 40 true 141 rfl rfl rfl rfl, rfl, rfl, rfl⟩, ⟨_, undef, [(141, undef)], 146, rfl, rfl, ⟨.inr ⟨rfl, rfl⟩, trivial⟩, .passU 40 true 141 rfl rfl rfl rfl, rfl, rfl, rfl⟩, ⟨_, undef, [(141, undef)], 147, rfl, rfl, ⟨.inr ⟨rfl, rfl⟩, trivial⟩, .passU 40 true 141 rfl rfl rfl rfl, rfl, rfl, rfl⟩, ⟨_, undef, [(141, undef)], 148, rfl, rfl, ⟨.inr ⟨rfl, rfl⟩, trivial⟩, .passU 40 true 141 rfl rfl rfl rfl, rfl, rfl, rfl⟩, ⟨_, undef, [(141, undef)], 149, rfl, rfl, ⟨.inr ⟨rfl, rfl⟩, trivial⟩, .passU 40 true 141 rfl rfl rfl rfl, rfl, rfl, rfl⟩, ⟨_, undef, [(141, undef)], 150, rfl, rfl, ⟨.inr ⟨rfl, rfl⟩, trivial⟩, .passU 40 true 141 rfl rfl rfl rfl, rfl, rfl, rfl⟩, ⟨_, undef, [(141, undef)], 151, rfl, rfl, ⟨.inr ⟨rfl, rfl⟩, trivial⟩, .passU 40 true 141 rfl rfl rfl rfl, rfl, rfl, rfl⟩, ⟨_, undef, [(122, undef)], 152, rfl, rfl, ⟨.inr ⟨rfl, rfl⟩, trivial⟩, .passU 21 false 122 rfl rfl rfl rfl, rfl, rfl, rfl⟩, ⟨_, undef, [(103, Value.bool (decide (x46 > 0)))], 153, rfl, rfl, ⟨.inr ⟨rfl, rfl⟩, trivial⟩, .pass 2 true false 103 rfl rfl (sb (decide_eq_false c62)) rfl rfl, rfl, rfl, rfl⟩, ⟨_, Value.bool (false), [(103, Value.bool (decide (x46 > 0))), (153, undef)], 154, rfl, rfl, ⟨.inr ⟨rfl, rfl⟩, ⟨.inr ⟨rfl, rfl⟩, trivial⟩⟩, .run rfl (fun w HS => X.pickF (sb (decide_eq_false c62)) rfl), rfl, rfl, rfl⟩, trivial⟩ ⟨.inl ⟨rfl, rfl⟩, ⟨.inl ⟨rfl, rfl⟩, ⟨.inl ⟨rfl, rfl⟩, ⟨.inl ⟨rfl, rfl⟩, ⟨.inl ⟨rfl, rfl⟩, ⟨.inl ⟨rfl, rfl⟩, ⟨.inl ⟨rfl, rfl⟩, ⟨.inl ⟨rfl, rfl⟩, ⟨.inl ⟨rfl, rfl⟩, ⟨.inl ⟨rfl, rfl⟩, ⟨.inl ⟨rfl, rfl⟩, ⟨.inl ⟨rfl, rfl⟩, ⟨.inl ⟨rfl, rfl⟩, ⟨.inl ⟨rfl, rfl⟩, ⟨.inl ⟨rfl, rfl⟩, ⟨.inl ⟨rfl, rfl⟩, ⟨.inl ⟨rfl, rfl⟩, ⟨.inl ⟨rfl, rfl⟩, ⟨.inl ⟨rfl, rfl⟩, ⟨.inl ⟨rfl, rfl⟩, ⟨.inl ⟨rfl, rfl⟩, ⟨.inr ⟨rfl, rfl⟩, ⟨.inr ⟨rfl, rfl⟩, ⟨.inr ⟨rfl, rfl⟩, ⟨.inr ⟨rfl, rfl⟩, ⟨.inr ⟨rfl, rfl⟩, ⟨.inr ⟨rfl, rfl⟩, ⟨.inr ⟨rfl, rfl⟩, ⟨.inr ⟨rfl, rfl⟩, ⟨.inr ⟨rfl, rfl⟩, ⟨.inr ⟨rfl, rfl⟩, ⟨.inr ⟨rfl, rfl⟩, ⟨.inr ⟨rfl, rfl⟩, ⟨.inr ⟨rfl, rfl⟩, ⟨.inr ⟨rfl, rfl⟩, ⟨.inr ⟨rfl, rfl⟩, ⟨.inr ⟨rfl, rfl⟩, ⟨.inr ⟨rfl, rfl⟩, ⟨.inr ⟨rfl, rfl⟩, ⟨.inr ⟨rfl, rfl⟩, ⟨.inr ⟨rfl, rfl⟩, ⟨.inr ⟨rfl, rfl⟩, ⟨.inr ⟨rfl, rfl⟩, ⟨.inr ⟨rfl, rfl⟩, ⟨.inr ⟨rfl, rfl⟩, ⟨.inr ⟨rfl, rfl⟩, ⟨.inr ⟨rfl, rfl⟩, ⟨.inr ⟨rfl, rfl⟩, ⟨.inr ⟨rfl, rfl⟩, ⟨.inr ⟨rfl, rfl⟩, ⟨.inr ⟨rfl, rfl⟩, ⟨.inr ⟨rfl, rfl⟩, ⟨.inr ⟨rfl, rfl⟩, ⟨.inr ⟨rfl, rfl⟩, ⟨.inr ⟨rfl, rfl⟩, ⟨.inr ⟨rfl, rfl⟩, ⟨.inr ⟨rfl, rfl⟩, ⟨.inr ⟨rfl, rfl⟩, ⟨.inr ⟨rfl, rfl⟩, ⟨.inr ⟨rfl, rfl⟩, ⟨.inr ⟨rfl, rfl⟩, ⟨.inr ⟨rfl, rfl⟩, ⟨.inr ⟨rfl, rfl⟩, ⟨.inr ⟨rfl, rfl⟩, ⟨.inr ⟨rfl, rfl⟩, ⟨.inr ⟨rfl, rfl⟩, ⟨.inr ⟨rfl, rfl⟩, ⟨.inr ⟨rfl, rfl⟩, ⟨.inr ⟨rfl, rfl⟩, ⟨.inr ⟨rfl, rfl⟩, ⟨.inr ⟨rfl, rfl⟩, ⟨.inr ⟨rfl, rfl⟩, trivial⟩⟩⟩⟩⟩⟩⟩⟩⟩⟩⟩⟩⟩⟩⟩⟩⟩⟩⟩⟩⟩⟩⟩⟩⟩⟩⟩⟩⟩⟩⟩⟩⟩⟩⟩⟩⟩⟩⟩⟩⟩⟩⟩⟩⟩⟩⟩⟩⟩⟩⟩⟩⟩⟩⟩⟩⟩⟩⟩⟩⟩⟩⟩⟩⟩⟩⟩⟩⟩⟩⟩⟩ (fun w HS => ?_)
                                have HS : Sep.St [row 3 1 (.slice ra31 (x33).length rc32) (x33).length ((x33).map (Value.int .i64)), row 3 1 (.slice (some ⟨eb54, eo55, none⟩) (x49).length rc48) (x49).length ((x49).map (Value.int .i64)), clock_Set.at bt7_0 (t26.2), clock_Set.at bt9_0 (x34), R] w0 w := HS
                                refine At.next ?_
                                refine V.keep [(0, Value.slice (some ⟨eb59, eo60, none⟩) (a0).length sc0), (1, Value.int .i64 (a1)), (10, Value.slice (some ⟨eb54, eo55, none⟩) (x49).length rc48), (13, Value.int .i64 (x46)), (81, Value.slice (some ⟨eb54, eo55, none⟩) (x49).length rc48), (82, Value.int .i64 (x46)), (83, Value.pointer (some ⟨eb54, eo55 + (x46).toNat * 1, none⟩)), (84, Value.int .i64 ((x49).getD (x46).toNat 0)), (85, Value.slice (some ⟨eb59, eo60, none⟩) (a0).length sc0), (86, Value.int .i64 (((a0).length : Int))), (87, Value.bool (decide (((x49).getD (x46).toNat 0) ≥ ((a0).length : Int)))), (90, Value.slice (some ⟨eb59, eo60, none⟩) (a0).length sc0), (91, Value.slice (some ⟨eb54, eo55, none⟩) (x49).length rc48), (92, Value.int .i64 (x46)), (93, Value.pointer (some ⟨eb54, eo55 + (x46).toNat * 1, none⟩)), (94, Value.int .i64 ((x49).getD (x46).toNat 0)), (95, Value.pointer (some ⟨eb59, eo60 + ((x49).getD (x46).toNat 0).toNat * 1, none⟩)), (96, Value.int .i64 ((a0).getD ((x49).getD (x46).toNat 0).toNat 0)), (97, Value.int .i64 (iand .i64 ((a0).getD ((x49).getD (x46).toNat 0).toNat 0) (255))), (98, Value.int .i64 (a1)), (99, Value.bool (decide ((iand .i64 ((a0).getD ((x49).getD (x46).toNat 0).toNat 0) (255)) ≥ a1))), (104, undef), (105, undef), (106, undef), (107, undef), (108, undef), (109, undef), (110, undef), (111, undef), (112, undef), (113, undef), (114, undef), (115, undef), (116, undef), (117, undef), (118, undef), (119, undef), (120, undef), (121, undef), (122, undef), (123, undef), (124, undef), (125, undef), (126, undef), (127, undef), (128, undef), (129, undef), (130, undef), (131, undef), (132, undef), (133, undef), (134, undef), (135, undef), (136, undef), (137, undef), (138, undef), (139, undef), (140, undef), (141, undef), (142, undef), (143, undef), (144, undef), (145, undef), (146, undef), (147, undef), (148, undef), (149, undef), (150, undef), (151, undef), (152, undef), (153, undef), (154, Value.bool (false))] ⟨rfl, rfl, rfl, rfl, rfl, rfl, rfl, rfl, rfl, rfl, rfl, rfl, rfl, rfl, rfl, rfl, rfl, rfl, rfl, rfl, rfl, rfl, rfl, rfl, rfl, rfl, rfl, rfl, rfl, rfl, rfl, rfl, rfl, rfl, rfl, rfl, rfl, rfl, rfl, rfl, rfl, rfl, rfl, rfl, rfl, rfl, rfl, rfl, rfl, rfl, rfl, rfl, rfl, rfl, rfl, rfl, rfl, rfl, rfl, rfl, rfl, rfl, rfl, rfl, rfl, rfl, rfl, rfl, rfl, rfl, rfl, rfl, trivial⟩ ?_
                                refine V.condF rfl ?_
                                refine V.skip ?_
                                refine At.blockEnd ?_
                                refine At.next ?_
                                refine V.keep [(0, Value.slice (some ⟨eb59, eo60, none⟩) (a0).length sc0), (1, Value.int .i64 (a1)), (10, Value.slice (some ⟨eb54, eo55, none⟩) (x49).length rc48), (13, Value.int .i64 (x46)), (81, Value.slice (some ⟨eb54, eo55, none⟩) (x49).length rc48), (82, Value.int .i64 (x46)), (83, Value.pointer (some ⟨eb54, eo55 + (x46).toNat * 1, none⟩)), (84, Value.int .i64 ((x49).getD (x46).toNat 0)), (85, Value.slice (some ⟨eb59, eo60, none⟩) (a0).length sc0), (86, Value.int .i64 (((a0).length : Int))), (87, Value.bool (decide (((x49).getD (x46).toNat 0) ≥ ((a0).length : Int)))), (90, Value.slice (some ⟨eb59, eo60, none⟩) (a0).length sc0), (91, Value.slice (some ⟨eb54, eo55, none⟩) (x49).length rc48), (92, Value.int .i64 (x46)), (93, Value.pointer (some ⟨eb54, eo55 + (x46).toNat * 1, none⟩)), (94, Value.int .i64 ((x49).getD (x46).toNat 0)), (95, Value.pointer (some ⟨eb59, eo60 + ((x49).getD (x46).toNat 0).toNat * 1, none⟩)), (96, Value.int .i64 ((a0).getD ((x49).getD (x46).toNat 0).toNat 0)), (97, Value.int .i64 (iand .i64 ((a0).getD ((x49).getD (x46).toNat 0).toNat 0) (255))), (98, Value.int .i64 (a1)), (99, Value.bool (decide ((iand .i64 ((a0).getD ((x49).getD (x46).toNat 0).toNat 0) (255)) ≥ a1))), (104, undef), (105, undef), (106, undef), (107, undef), (108, undef), (109, undef), (110, undef), (111, undef), (112, undef), (113, undef), (114, undef), (115, undef), (116, undef), (117, undef), (118, undef), (119, undef), (120, undef), (121, undef), (122, undef), (123, undef), (124, undef), (125, undef), (126, undef), (127, undef), (128, undef), (129, undef), (130, undef), (131, undef), (132, undef), (133, undef), (134, undef), (135, undef), (136, undef), (137, undef), (138, undef), (139, undef), (140, undef), (141, undef), (142, undef), (143, undef), (144, undef), (145, undef), (146, undef), (147, undef), (148, undef), (149, undef), (150, undef), (151, undef), (152, undef), (153, undef)] ⟨rfl, rfl, rfl, rfl, rfl, rfl, rfl, rfl, rfl, rfl, rfl, rfl, rfl, rfl, rfl, rfl, rfl, rfl, rfl, rfl, rfl, rfl, rfl, rfl, rfl, rfl, rfl, rfl, rfl, rfl, rfl, rfl, rfl, rfl, rfl, rfl, rfl, rfl, rfl, rfl, rfl, rfl, rfl, rfl, rfl, rfl, rfl, rfl, rfl, rfl, rfl, rfl, rfl, rfl, rfl, rfl, rfl, rfl, rfl, rfl, rfl, rfl, rfl, rfl, rfl, rfl, rfl, rfl, rfl, rfl, rfl, trivial⟩ ?_
                                refine V.region ?_
                                refine W.rd (X.move rfl) rfl rfl rfl ?_
                                refine W.rd (X.add rfl rfl) rfl rfl rfl ?_
                                refine W.rd (X.assign rfl) rfl rfl rfl ?_
                                refine W.nil ?_
                                exact At.round kq50 (by omega) (w64 (x46 + 1), (some ⟨eb54, eo55, none⟩), rc48, x49) ⟨rfl, rfl, rfl, rfl, trivial⟩ ⟨HS, H, by omega⟩
                      · replace H := ite_f c52 H
                        refine V.condF (sb (decide_eq_false c52)) ?_
                        refine V.exit ?_
                        refine At.thenExit ?_
                        refine At.thenExit ?_
                        refine At.blockExit ?_
                        refine At.next ?_
                        refine V.keep [] trivial ?_
                        refine V.seq ?_
                        refine V.region ?_
                        refine W.rd (X.assign rfl) rfl rfl rfl ?_
                        refine W.nil ?_
                        refine At.next ?_
                        refine V.keep [(4, Value.bool (true))] ⟨rfl, trivial⟩ ?_
                        refine V.ret ?_
                        replace HS := HS.sel [4] [0, 1, 2, 3] rfl
                        cases H
                        exact At.ret1 rfl rfl ⟨_, rfl, rfl, HS⟩
                  · replace H := ite_f c45 H
                    refine V.condT (sb (n_f (b_f c45))) ?_
                    refine V.seq ?_
                    refine V.region ?_
                    refine W.rd (X.assign rfl) rfl rfl rfl ?_
                    refine W.nil ?_
                    refine At.next ?_
                    refine V.keep [(4, Value.bool (false))] ⟨rfl, trivial⟩ ?_
                    refine V.ret ?_
                    refine At.thenRet ?_
                    replace HS := HS.sel [4] [0, 1, 2, 3] rfl
                    cases H
                    exact At.ret1 rfl rfl ⟨_, rfl, rfl, HS⟩
  · replace H := ite_f c3 H
    refine W.pass 17 rfl (sb (n_f (b_f c3))) rfl rfl ?_
    refine W.pass 17 rfl (sb (n_f (b_f c3))) rfl rfl ?_
    refine W.pass 17 rfl (sb (n_f (b_f c3))) rfl rfl ?_
    refine W.rd (X.pickT (sb (n_f (b_f c3))) rfl) rfl rfl rfl ?_
    refine W.rd (X.move rfl) rfl rfl rfl ?_
    refine W.pass 22 rfl rfl rfl rfl ?_
    refine W.pass 22 rfl rfl rfl rfl ?_
    refine W.rd (X.pickT rfl rfl) rfl rfl rfl ?_
    refine W.rd (X.move rfl) rfl rfl rfl ?_
    refine W.pass 26 rfl rfl rfl rfl ?_
    refine W.pass 26 rfl rfl rfl rfl ?_
    refine W.rd (X.pickT rfl rfl) rfl rfl rfl ?_
    refine W.nil ?_
    refine At.next ?_
    refine V.keep [(0, Value.slice sa0 (a0).length sc0), (1, Value.int .i64 (a1)), (5, Value.bool (t1)), (29, Value.bool (true))] ⟨rfl, rfl, rfl, rfl, trivial⟩ ?_
    refine V.condT rfl ?_
    refine V.seq ?_
    refine V.region ?_
    refine W.rd (X.move rfl) rfl rfl rfl ?_
    refine W.rd (X.assign rfl) rfl rfl rfl ?_
    refine W.nil ?_
    refine At.next ?_
    refine V.keep [(4, Value.bool (t1))] ⟨rfl, trivial⟩ ?_
    refine V.ret ?_
    refine At.thenRet ?_
    cases H
    exact At.ret1 rfl rfl ⟨_, rfl, rfl, HS⟩
def signalmanlaw7_ClockOrders.Pure : Prop := ∀ (a0 : List Int) (a1 : Int), (∀ z ∈ a0, (Lit.int .i64 z).wf = true) → (a0.length : Int) ≤ 9223372036854775807 → (Lit.int .i64 a1).wf = true → ∃ k, signalmanlaw7_ClockOrders.f k a0 a1 = some true
end Go.Proofs.Ytmknlnpjimfliaa

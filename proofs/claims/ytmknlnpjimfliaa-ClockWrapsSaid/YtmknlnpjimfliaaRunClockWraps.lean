/- ClockWraps: the functions that its law reaches, as plain functions, and that the machine's calls come to what these say. Conditions: those that stand at each. -/
import Derived.Test.YtmknlnpjimfliaaProg
import Derived.Test.YtmknlnpjimfliaaOps
set_option linter.all false
namespace Go.Proofs.Ytmknlnpjimfliaa
open Go.RowKit Go.Proofs.Ytmknlnpjimfliaa.Sep Go.Proofs.Ytmknlnpjimfliaa.Walk
theorem inf3 : (Try.prog.info? 3).map (·.size) = some 1 := by kernel_rfl
theorem inf26 : (Try.prog.info? 26).map (·.size) = some 1 := by kernel_rfl
theorem inf39 : (Try.prog.info? 39).map (·.size) = some 3 := by kernel_rfl
theorem inf43 : (Try.prog.info? 43).map (·.size) = some 32 := by kernel_rfl
theorem fo39_0 : fieldOff Try.prog 39 0 = some 0 := by kernel_rfl
theorem fo39_1 : fieldOff Try.prog 39 1 = some 1 := by kernel_rfl
theorem fo39_2 : fieldOff Try.prog 39 2 = some 2 := by kernel_rfl
theorem fo45_0 : fieldOff Try.prog 45 0 = some 0 := by kernel_rfl
theorem fo45_1 : fieldOff Try.prog 45 1 = some 1 := by kernel_rfl
theorem ap3 : (Try.prog.info? 3).map (fun i => (i.zero, i.size, i.bytes)) = some (some (.int .i64 0), 1, 8) := by kernel_rfl
theorem mo : Try.prog.follows .mixedOrders = true := by kernel_rfl

structure clock_Set where
  now : Int
  left : List Int
deriving DecidableEq, Inhabited

def clock_Set.at (b : Nat) (x : clock_Set) : As := fun h => ((x.left).length = 32) ∧ Sp [blk b (([Value.int .u32 ((x.now))] ++ ((x.left)).map (Value.int .i64)).toArray) 45] h
theorem clock_Set.open {b : Nat} {x : clock_Set} {L : List As} {w0 w : World} (hs : Sep.St (clock_Set.at b x :: L) w0 w) : ((x.left).length = 32) ∧ Sep.St (blk b (([Value.int .u32 ((x.now))] ++ ((x.left)).map (Value.int .i64)).toArray) 45 :: L) w0 w := by
  have h1 := St.pure.1 (show St ((fun h => ((x.left).length = 32) ∧ (fun h => Sp [blk b (([Value.int .u32 ((x.now))] ++ ((x.left)).map (Value.int .i64)).toArray) 45] h) h) :: L) w0 w from hs)
  obtain ⟨hi, hs⟩ := h1
  exact ⟨hi, St.open (m := [blk b (([Value.int .u32 ((x.now))] ++ ((x.left)).map (Value.int .i64)).toArray) 45]) hs⟩
theorem clock_Set.close {b : Nat} (x : clock_Set)  {L : List As} {w0 w : World} (hi : (x.left).length = 32) (hs : Sep.St (blk b (([Value.int .u32 ((x.now))] ++ ((x.left)).map (Value.int .i64)).toArray) 45 :: L) w0 w) : Sep.St (clock_Set.at b x :: L) w0 w := by
  have h2 := St.join (m := [blk b (([Value.int .u32 ((x.now))] ++ ((x.left)).map (Value.int .i64)).toArray) 45]) hs
  exact h2.mono fun h hh => ⟨hi, hh⟩

/-! ### signalman/clock.New: function 8 -/
def clock_New.f (a0 : Int) : Option (clock_Set) := some (({ now := a0, left := List.replicate 32 0 } : clock_Set))
set_option maxRecDepth 100000 in
set_option maxHeartbeats 4000000 in
theorem clock_New.calls (a0 : Int) (R : As) (w0 w : World)  (r : clock_Set)  (H : clock_New.f a0 = some r) (HS : Sep.St [R] w0 w) : Calls Try.prog 8 #[Value.int .u32 (a0)] w (Ret fun u w => ∃ (bq0 : Nat), u = Value.pointer (some ⟨bq0, 0, none⟩) ∧ Sep.St [clock_Set.at bq0 (r), R] w0 w) := by
  unfold clock_New.f at H
  refine calls_enter Try.func8 rfl rfl ?_
  have H : _ = some r := H
  refine V.seq ?_
  refine V.region ?_
  refine W.rd (X.assign rfl) rfl rfl rfl ?_
  refine W.nil ?_
  refine At.next ?_
  refine V.keep [(0, Value.int .u32 (a0))] ⟨rfl, trivial⟩ ?_
  refine V.seq ?_
  refine V.region ?_
  refine W.rd (X.move rfl) rfl rfl rfl ?_
  refine W.rd (X.build (vs := #[(0, Value.int .u32 (a0))]) (v := Value.agg (([Value.int .u32 (a0)] ++ (List.replicate 32 0).map (Value.int .i64)).toArray)) (fun a ha => by simp only [List.map_toArray, List.map_cons, List.map_nil]; rw [ha.ev (x := .tmp 3) (v := Value.int .u32 (a0)) rfl]; try rfl) (fun _ => by kernel_rfl)) rfl rfl rfl ?_
  refine W.ev (Y.box HS rfl) rfl rfl rfl ?_
  rintro _ w ⟨nb1, rfl, HS⟩
  have HS : Sep.St [blk nb1 (([Value.int .u32 (a0)] ++ (List.replicate 32 0).map (Value.int .i64)).toArray) 45, R] w0 w := HS
  refine W.rd (X.assign rfl) rfl rfl rfl ?_
  refine W.nil ?_
  refine At.next ?_
  refine V.keep [(2, Value.pointer (some ⟨nb1, 0, none⟩))] ⟨rfl, trivial⟩ ?_
  refine V.ret ?_
  replace HS := clock_Set.close (({ now := a0, left := List.replicate 32 0 } : clock_Set)) (by first | exact (by simp) | (simp only [List.length_set]; exact (by simp))) HS
  have HS : Sep.St [clock_Set.at nb1 (({ now := a0, left := List.replicate 32 0 } : clock_Set)), R] w0 w := HS
  cases H
  exact At.ret1 rfl rfl ⟨_, rfl, nb1, rfl, HS⟩

/-! ### signalman/clock.has: function 21 -/
def clock_has.f (a0 : Int) : Option (Bool) := (if a0 ≥ 0 then some (decide (a0 < 32)) else some (false))
set_option maxRecDepth 100000 in
set_option maxHeartbeats 4000000 in
theorem clock_has.calls (a0 : Int) (R : As) (w0 w : World)  (r : Bool)  (H : clock_has.f a0 = some r) (HS : Sep.St [R] w0 w) : Calls Try.prog 21 #[Value.int .i64 (a0)] w (Ret fun u w => u = Value.bool (r) ∧ Sep.St [R] w0 w) := by
  unfold clock_has.f at H
  refine calls_enter Try.func21 rfl rfl ?_
  have H : _ = some r := H
  refine V.seq ?_
  refine V.region ?_
  refine W.rd (X.assign rfl) rfl rfl rfl ?_
  refine W.nil ?_
  refine At.next ?_
  refine V.keep [(0, Value.int .i64 (a0))] ⟨rfl, trivial⟩ ?_
  refine V.seq ?_
  refine V.region ?_
  refine W.rd (X.move rfl) rfl rfl rfl ?_
  refine W.rd (X.cmp (decide (a0 ≥ 0)) rfl rfl rfl rfl) rfl rfl rfl ?_
  refine W.rd (X.move rfl) rfl rfl rfl ?_
  by_cases c1 : a0 ≥ 0
  · replace H := ite_t c1 H
    refine W.want 5 rfl (sb (decide_eq_true c1)) ?_
    refine W.rd (X.move rfl) rfl rfl rfl ?_
    refine W.want 5 rfl (sb (decide_eq_true c1)) ?_
    refine W.rd (X.cmp (decide (a0 < 32)) rfl rfl rfl rfl) rfl rfl rfl ?_
    refine W.rd (X.pickT (sb (decide_eq_true c1)) rfl) rfl rfl rfl ?_
    refine W.rd (X.assign rfl) rfl rfl rfl ?_
    refine W.nil ?_
    refine At.next ?_
    refine V.keep [(2, Value.bool (decide (a0 < 32)))] ⟨rfl, trivial⟩ ?_
    refine V.ret ?_
    cases H
    exact At.ret1 rfl rfl ⟨_, rfl, rfl, HS⟩
  · replace H := ite_f c1 H
    refine W.pass 5 rfl (sb (decide_eq_false c1)) rfl rfl ?_
    refine W.pass 5 rfl (sb (decide_eq_false c1)) rfl rfl ?_
    refine W.rd (X.pickF (sb (decide_eq_false c1)) rfl) rfl rfl rfl ?_
    refine W.rd (X.assign rfl) rfl rfl rfl ?_
    refine W.nil ?_
    refine At.next ?_
    refine V.keep [(2, Value.bool (false))] ⟨rfl, trivial⟩ ?_
    refine V.ret ?_
    cases H
    exact At.ret1 rfl rfl ⟨_, rfl, rfl, HS⟩

/-! ### (*signalman/clock.Set).Start: function 9 -/
def clock_Set_Start.f (a0 : clock_Set) (a1 : Int) (a2 : Int) : Option (Bool × clock_Set) := ((clock_has.f a1).bind fun t1 => (if t1 = true then (if 0 ≤ a1 ∧ a1 < 32 then ((clock_has.f a1).bind fun t7 => some (t7, ({ now := (a0).now, left := ((a0).left).set (a1).toNat (imax (1) (imin (a2) (1073741824))) } : clock_Set))) else none) else ((clock_has.f a1).bind fun t9 => some (t9, a0))))
set_option maxRecDepth 100000 in
set_option maxHeartbeats 4000000 in
theorem clock_Set_Start.calls (a0 : clock_Set) (a1 : Int) (a2 : Int) (R : As) (w0 w : World) (b0 : Nat) (r : Bool × clock_Set)  (H : clock_Set_Start.f a0 a1 a2 = some r) (HS : Sep.St [clock_Set.at b0 (a0), R] w0 w) : Calls Try.prog 9 #[Value.pointer (some ⟨b0, 0, none⟩), Value.int .i64 (a1), Value.int .i64 (a2)] w (Ret fun u w => u = Value.bool (r.1) ∧ Sep.St [clock_Set.at b0 (r.2), R] w0 w) := by
  unfold clock_Set_Start.f at H
  refine calls_enter Try.func9 rfl rfl ?_
  have H : _ = some r := H
  refine V.seq ?_
  refine V.region ?_
  refine W.rd (X.assign rfl) rfl rfl rfl ?_
  refine W.nil ?_
  refine At.next ?_
  refine V.keep [(0, Value.pointer (some ⟨b0, 0, none⟩)), (1, Value.int .i64 (a1)), (2, Value.int .i64 (a2))] ⟨rfl, rfl, rfl, trivial⟩ ?_
  refine V.seq ?_
  refine V.seq ?_
  refine V.region ?_
  refine W.rd (X.move rfl) rfl rfl rfl ?_
  obtain ⟨t1, A2, H⟩ := bind_s H
  refine W.ev (Y.call Try.func21 (by kernel_rfl) rfl (vs := [Value.int .i64 (a1)]) rfl (clock_has.calls a1 _ w0 _  t1  A2 (Sep.St.tailJoin (m := []) (r := [clock_Set.at b0 (a0), R]) HS))) rfl rfl rfl ?_
  rintro _ w ⟨rfl, HS⟩
  replace HS := Sep.St.tailOpen (m := []) (r := [clock_Set.at b0 (a0), R]) HS
  have HS : Sep.St [clock_Set.at b0 (a0), R] w0 w := HS
  refine W.nil ?_
  refine At.next ?_
  refine V.keep [(0, Value.pointer (some ⟨b0, 0, none⟩)), (1, Value.int .i64 (a1)), (2, Value.int .i64 (a2)), (8, Value.bool (t1))] ⟨rfl, rfl, rfl, rfl, trivial⟩ ?_
  by_cases c3 : t1 = true
  · replace H := ite_t c3 H
    refine V.condT (sb c3) ?_
    refine V.region ?_
    refine W.rd (X.move rfl) rfl rfl rfl ?_
    refine W.rd (X.move rfl) rfl rfl rfl ?_
    refine W.rd (X.move rfl) rfl rfl rfl ?_
    refine W.rd (X.min2 rfl rfl) rfl rfl rfl ?_
    refine W.rd (X.max2 rfl rfl) rfl rfl rfl ?_
    refine W.rd (X.nilCheck rfl) rfl rfl rfl ?_
    obtain ⟨hi5, HS⟩ := clock_Set.open HS
    have HS : Sep.St [blk b0 (([Value.int .u32 ((a0).now)] ++ ((a0).left).map (Value.int .i64)).toArray) 45, R] w0 w := HS
    refine W.rd (X.fieldAddr 1 fo45_1 rfl) rfl rfl rfl ?_
    obtain ⟨c6, H⟩ := ite_n H
    refine W.rd (X.indexAr Try.underlying43 inf3 rfl rfl c6.1 c6.2) rfl rfl rfl ?_
    refine W.ev_none (Y.storeArr 0 HS rfl rfl inf3 rfl rfl c6.1 c6.2 (by first | exact hi5 | (simp only [List.length_set]; exact hi5))) rfl rfl ?_
    rintro _ w HS
    have HS : Sep.St [blk b0 (([Value.int .u32 ((a0).now)] ++ (((a0).left).set (a1).toNat (imax (1) (imin (a2) (1073741824)))).map (Value.int .i64)).toArray) 45, R] w0 w := HS
    refine W.nil ?_
    refine At.next ?_
    refine V.keep [(1, Value.int .i64 (a1))] ⟨rfl, trivial⟩ ?_
    refine V.seq ?_
    refine V.region ?_
    refine W.rd (X.move rfl) rfl rfl rfl ?_
    obtain ⟨t7, A8, H⟩ := bind_s H
    refine W.ev (Y.call Try.func21 (by kernel_rfl) rfl (vs := [Value.int .i64 (a1)]) rfl (clock_has.calls a1 _ w0 _  t7  A8 (Sep.St.tailJoin (m := []) (r := [blk b0 (([Value.int .u32 ((a0).now)] ++ (((a0).left).set (a1).toNat (imax (1) (imin (a2) (1073741824)))).map (Value.int .i64)).toArray) 45, R]) HS))) rfl rfl rfl ?_
    rintro _ w ⟨rfl, HS⟩
    replace HS := Sep.St.tailOpen (m := []) (r := [blk b0 (([Value.int .u32 ((a0).now)] ++ (((a0).left).set (a1).toNat (imax (1) (imin (a2) (1073741824)))).map (Value.int .i64)).toArray) 45, R]) HS
    have HS : Sep.St [blk b0 (([Value.int .u32 ((a0).now)] ++ (((a0).left).set (a1).toNat (imax (1) (imin (a2) (1073741824)))).map (Value.int .i64)).toArray) 45, R] w0 w := HS
    refine W.rd (X.assign rfl) rfl rfl rfl ?_
    refine W.nil ?_
    refine At.next ?_
    refine V.keep [(6, Value.bool (t7))] ⟨rfl, trivial⟩ ?_
    refine V.ret ?_
    replace HS := clock_Set.close (({ now := (a0).now, left := ((a0).left).set (a1).toNat (imax (1) (imin (a2) (1073741824))) } : clock_Set)) (by first | exact hi5 | (simp only [List.length_set]; exact hi5)) HS
    have HS : Sep.St [clock_Set.at b0 (({ now := (a0).now, left := ((a0).left).set (a1).toNat (imax (1) (imin (a2) (1073741824))) } : clock_Set)), R] w0 w := HS
    cases H
    exact At.ret1 rfl rfl ⟨_, rfl, rfl, HS⟩
  · replace H := ite_f c3 H
    refine V.condF (sb (b_f c3)) ?_
    refine V.skip ?_
    refine At.next ?_
    refine V.keep [(1, Value.int .i64 (a1))] ⟨rfl, trivial⟩ ?_
    refine V.seq ?_
    refine V.region ?_
    refine W.rd (X.move rfl) rfl rfl rfl ?_
    obtain ⟨t9, A10, H⟩ := bind_s H
    refine W.ev (Y.call Try.func21 (by kernel_rfl) rfl (vs := [Value.int .i64 (a1)]) rfl (clock_has.calls a1 _ w0 _  t9  A10 (Sep.St.tailJoin (m := []) (r := [clock_Set.at b0 (a0), R]) HS))) rfl rfl rfl ?_
    rintro _ w ⟨rfl, HS⟩
    replace HS := Sep.St.tailOpen (m := []) (r := [clock_Set.at b0 (a0), R]) HS
    have HS : Sep.St [clock_Set.at b0 (a0), R] w0 w := HS
    refine W.rd (X.assign rfl) rfl rfl rfl ?_
    refine W.nil ?_
    refine At.next ?_
    refine V.keep [(6, Value.bool (t9))] ⟨rfl, trivial⟩ ?_
    refine V.ret ?_
    cases H
    exact At.ret1 rfl rfl ⟨_, rfl, rfl, HS⟩

/-! ### (*signalman/clock.Set).soonest: function 22 -/
mutual
def clock_Set_soonest.l0 : Nat → clock_Set → Int → Bool → Int → Option (Int × Bool)
  | 0, _, _, _, _ => none
  | k + 1, a0, x4, x5, x6 => (if x6 < 32 then (if 0 ≤ x6 ∧ x6 < 32 then (if (((a0).left).getD (x6).toNat 0) > 0 then (if (((a0).left).getD (x6).toNat 0) ≤ x4 then (clock_Set_soonest.l0 k a0 (((a0).left).getD (x6).toNat 0) true (w64 (x6 + 1))) else (clock_Set_soonest.l0 k a0 x4 x5 (w64 (x6 + 1)))) else (clock_Set_soonest.l0 k a0 x4 x5 (w64 (x6 + 1)))) else none) else some (x4, x5))
end
def clock_Set_soonest.f (k : Nat) (a0 : clock_Set) (a1 : Int) : Option (Int × Bool) := (clock_Set_soonest.l0 k a0 a1 false 0)
set_option maxRecDepth 100000 in
set_option maxHeartbeats 4000000 in
theorem clock_Set_soonest.calls (k : Nat) (a0 : clock_Set) (a1 : Int) (R : As) (w0 w : World) (b0 : Nat) (r : Int × Bool)  (H : clock_Set_soonest.f k a0 a1 = some r) (HS : Sep.St [clock_Set.at b0 (a0), R] w0 w) : Calls Try.prog 22 #[Value.pointer (some ⟨b0, 0, none⟩), Value.int .i64 (a1)] w (Ret fun u w => u = Value.tuple #[Value.int .i64 (r.1), Value.bool (r.2)] ∧ Sep.St [clock_Set.at b0 a0, R] w0 w) := by
  unfold clock_Set_soonest.f at H
  refine calls_enter Try.func22 rfl rfl ?_
  have H : _ = some r := H
  refine V.seq ?_
  refine V.region ?_
  refine W.rd (X.assign rfl) rfl rfl rfl ?_
  refine W.rd (X.assign rfl) rfl rfl rfl ?_
  refine W.nil ?_
  refine At.next ?_
  refine V.keep [(0, Value.pointer (some ⟨b0, 0, none⟩)), (1, Value.int .i64 (a1))] ⟨rfl, rfl, trivial⟩ ?_
  refine V.seq ?_
  refine V.region ?_
  refine W.rd (X.assign rfl) rfl rfl rfl ?_
  refine W.nil ?_
  refine At.next ?_
  refine V.keep [(0, Value.pointer (some ⟨b0, 0, none⟩)), (1, Value.int .i64 (a1)), (6, Value.bool (false))] ⟨rfl, rfl, rfl, trivial⟩ ?_
  refine V.seq ?_
  refine V.seq ?_
  refine V.region ?_
  refine W.rd (X.move rfl) rfl rfl rfl ?_
  refine W.rd (X.nilCheck rfl) rfl rfl rfl ?_
  obtain ⟨hi2, HS⟩ := clock_Set.open HS
  have HS : Sep.St [blk b0 (([Value.int .u32 ((a0).now)] ++ ((a0).left).map (Value.int .i64)).toArray) 45, R] w0 w := HS
  refine W.rd (X.fieldAddr 1 fo45_1 rfl) rfl rfl rfl ?_
  refine W.rd (X.loadArr 0 HS rfl rfl Try.underlying43 rfl inf43 (by first | exact hi2 | (simp only [List.length_set]; exact hi2)) rfl) rfl rfl rfl ?_
  refine W.rd (X.move rfl) rfl rfl rfl ?_
  refine W.nil ?_
  refine At.next ?_
  refine V.keep [(1, Value.int .i64 (a1)), (6, Value.bool (false)), (12, Value.agg (((a0).left).map (Value.int .i64)).toArray), (13, Value.int .i64 (0))] ⟨rfl, rfl, rfl, rfl, trivial⟩ ?_
  refine V.block ?_
  replace HS := clock_Set.close (a0) (by first | exact hi2 | (simp only [List.length_set]; exact hi2)) HS
  have HS : Sep.St [clock_Set.at b0 (a0), R] w0 w := HS
  refine V.loop (σ := Int × Bool × Int) (fun kq (st : Int × Bool × Int) w => match st with | (x4, x5, x6) => Sep.St [clock_Set.at b0 (a0), R] w0 w ∧ clock_Set_soonest.l0 kq a0 x4 x5 x6 = some r ∧ kq ≤ k) (fun st => match st with | (x4, x5, x6) => [(1, Value.int .i64 (x4)), (6, Value.bool (x5)), (12, Value.agg (((a0).left).map (Value.int .i64)).toArray), (13, Value.int .i64 (x6))]) k (a1, false, 0) ⟨rfl, rfl, rfl, rfl, trivial⟩ ⟨HS, H, Nat.le_refl _⟩ ?_
  rintro kq7 ⟨x4, x5, x6⟩ w ⟨HS, H, hk8⟩
  cases kq7 with
  | zero => exact absurd H (by simp [clock_Set_soonest.l0])
  | succ kq7 =>
    simp only [clock_Set_soonest.l0] at H
    have HS : Sep.St [clock_Set.at b0 (a0), R] w0 w := HS
    refine V.seq ?_
    refine V.region ?_
    refine W.rd (X.cmp (decide (x6 < 32)) rfl rfl rfl rfl) rfl rfl rfl ?_
    refine W.nil ?_
    refine At.next ?_
    refine V.keep [(1, Value.int .i64 (x4)), (6, Value.bool (x5)), (12, Value.agg (((a0).left).map (Value.int .i64)).toArray), (13, Value.int .i64 (x6)), (14, Value.bool (decide (x6 < 32)))] ⟨rfl, rfl, rfl, rfl, rfl, trivial⟩ ?_
    refine V.seq ?_
    by_cases c9 : x6 < 32
    · replace H := ite_t c9 H
      refine V.condT (sb (decide_eq_true c9)) ?_
      refine V.skip ?_
      refine At.next ?_
      refine V.keep [(1, Value.int .i64 (x4)), (6, Value.bool (x5)), (12, Value.agg (((a0).left).map (Value.int .i64)).toArray), (13, Value.int .i64 (x6))] ⟨rfl, rfl, rfl, rfl, trivial⟩ ?_
      refine V.seq ?_
      refine V.block ?_
      refine V.seq ?_
      refine V.region ?_
      obtain ⟨c10, H⟩ := ite_n H
      refine W.rd (X.indexArr Try.underlying43 Try.underlying3 rfl inf3 rfl rfl c10.1 c10.2 (by first | exact hi2 | (simp only [List.length_set]; exact hi2))) rfl rfl rfl ?_
      refine W.rd (X.assign rfl) rfl rfl rfl ?_
      refine W.nil ?_
      refine At.next ?_
      refine V.keep [(1, Value.int .i64 (x4)), (6, Value.bool (x5)), (8, Value.int .i64 (((a0).left).getD (x6).toNat 0)), (12, Value.agg (((a0).left).map (Value.int .i64)).toArray), (13, Value.int .i64 (x6))] ⟨rfl, rfl, rfl, rfl, rfl, trivial⟩ ?_
      refine V.seq ?_
      refine V.region ?_
      refine W.rd (X.move rfl) rfl rfl rfl ?_
      refine W.rd (X.cmp (decide ((((a0).left).getD (x6).toNat 0) > 0)) rfl rfl rfl rfl) rfl rfl rfl ?_
      refine W.rd (X.move rfl) rfl rfl rfl ?_
      by_cases c11 : (((a0).left).getD (x6).toNat 0) > 0
      · replace H := ite_t c11 H
        refine W.want 18 rfl (sb (decide_eq_true c11)) ?_
        refine W.rd (X.move rfl) rfl rfl rfl ?_
        refine W.want 18 rfl (sb (decide_eq_true c11)) ?_
        refine W.rd (X.move rfl) rfl rfl rfl ?_
        refine W.want 18 rfl (sb (decide_eq_true c11)) ?_
        refine W.rd (X.cmp (decide ((((a0).left).getD (x6).toNat 0) ≤ x4)) rfl rfl rfl rfl) rfl rfl rfl ?_
        refine W.rd (X.pickT (sb (decide_eq_true c11)) rfl) rfl rfl rfl ?_
        refine W.nil ?_
        refine At.next ?_
        refine V.keep [(1, Value.int .i64 (x4)), (6, Value.bool (x5)), (8, Value.int .i64 (((a0).left).getD (x6).toNat 0)), (12, Value.agg (((a0).left).map (Value.int .i64)).toArray), (13, Value.int .i64 (x6)), (19, Value.int .i64 (((a0).left).getD (x6).toNat 0)), (20, Value.int .i64 (x4)), (21, Value.bool (decide ((((a0).left).getD (x6).toNat 0) ≤ x4))), (22, Value.bool (decide ((((a0).left).getD (x6).toNat 0) ≤ x4)))] ⟨rfl, rfl, rfl, rfl, rfl, rfl, rfl, rfl, rfl, trivial⟩ ?_
        by_cases c12 : (((a0).left).getD (x6).toNat 0) ≤ x4
        · replace H := ite_t c12 H
          refine V.condT (sb (decide_eq_true c12)) ?_
          refine V.region ?_
          refine W.rd (X.move rfl) rfl rfl rfl ?_
          refine W.rd (X.assign rfl) rfl rfl rfl ?_
          refine W.rd (X.assign rfl) rfl rfl rfl ?_
          refine W.nil ?_
          refine At.blockEnd ?_
          refine At.next ?_
          refine V.keep [(1, Value.int .i64 (((a0).left).getD (x6).toNat 0)), (6, Value.bool (true)), (12, Value.agg (((a0).left).map (Value.int .i64)).toArray), (13, Value.int .i64 (x6)), (19, Value.int .i64 (((a0).left).getD (x6).toNat 0)), (20, Value.int .i64 (x4)), (21, Value.bool (decide ((((a0).left).getD (x6).toNat 0) ≤ x4)))] ⟨rfl, rfl, rfl, rfl, rfl, rfl, rfl, trivial⟩ ?_
          refine V.region ?_
          refine W.rd (X.add rfl rfl) rfl rfl rfl ?_
          refine W.rd (X.move rfl) rfl rfl rfl ?_
          refine W.nil ?_
          exact At.round kq7 (by omega) (((a0).left).getD (x6).toNat 0, true, w64 (x6 + 1)) ⟨rfl, rfl, rfl, rfl, trivial⟩ ⟨HS, H, by omega⟩
        · replace H := ite_f c12 H
          refine V.condF (sb (decide_eq_false c12)) ?_
          refine V.skip ?_
          refine At.blockEnd ?_
          refine At.next ?_
          refine V.keep [(1, Value.int .i64 (x4)), (6, Value.bool (x5)), (12, Value.agg (((a0).left).map (Value.int .i64)).toArray), (13, Value.int .i64 (x6)), (19, Value.int .i64 (((a0).left).getD (x6).toNat 0)), (20, Value.int .i64 (x4)), (21, Value.bool (decide ((((a0).left).getD (x6).toNat 0) ≤ x4)))] ⟨rfl, rfl, rfl, rfl, rfl, rfl, rfl, trivial⟩ ?_
          refine V.region ?_
          refine W.rd (X.add rfl rfl) rfl rfl rfl ?_
          refine W.rd (X.move rfl) rfl rfl rfl ?_
          refine W.nil ?_
          exact At.round kq7 (by omega) (x4, x5, w64 (x6 + 1)) ⟨rfl, rfl, rfl, rfl, trivial⟩ ⟨HS, H, by omega⟩
      · replace H := ite_f c11 H
        refine W.pass 18 rfl (sb (decide_eq_false c11)) rfl rfl ?_
        refine W.pass 18 rfl (sb (decide_eq_false c11)) rfl rfl ?_
        refine W.pass 18 rfl (sb (decide_eq_false c11)) rfl rfl ?_
        refine W.rd (X.pickF (sb (decide_eq_false c11)) rfl) rfl rfl rfl ?_
        refine W.nil ?_
        refine At.next ?_
        refine V.keep [(1, Value.int .i64 (x4)), (6, Value.bool (x5)), (8, Value.int .i64 (((a0).left).getD (x6).toNat 0)), (12, Value.agg (((a0).left).map (Value.int .i64)).toArray), (13, Value.int .i64 (x6)), (19, undef), (20, undef), (21, undef), (22, Value.bool (false))] ⟨rfl, rfl, rfl, rfl, rfl, rfl, rfl, rfl, rfl, trivial⟩ ?_
        refine V.condF rfl ?_
        refine V.skip ?_
        refine At.blockEnd ?_
        refine At.next ?_
        refine V.keep [(1, Value.int .i64 (x4)), (6, Value.bool (x5)), (12, Value.agg (((a0).left).map (Value.int .i64)).toArray), (13, Value.int .i64 (x6)), (19, undef), (20, undef), (21, undef)] ⟨rfl, rfl, rfl, rfl, rfl, rfl, rfl, trivial⟩ ?_
        refine V.region ?_
        refine W.rd (X.add rfl rfl) rfl rfl rfl ?_
        refine W.rd (X.move rfl) rfl rfl rfl ?_
        refine W.nil ?_
        exact At.round kq7 (by omega) (x4, x5, w64 (x6 + 1)) ⟨rfl, rfl, rfl, rfl, trivial⟩ ⟨HS, H, by omega⟩
    · replace H := ite_f c9 H
      refine V.condF (sb (decide_eq_false c9)) ?_
      refine V.exit ?_
      refine At.thenExit ?_
      refine At.thenExit ?_
      refine At.blockExit ?_
      refine At.next ?_
      refine V.keep [(1, Value.int .i64 (x4)), (6, Value.bool (x5))] ⟨rfl, rfl, trivial⟩ ?_
      refine V.seq ?_
      refine V.region ?_
      refine W.rd (X.move rfl) rfl rfl rfl ?_
      refine W.rd (X.move rfl) rfl rfl rfl ?_
      refine W.rd (X.assign rfl) rfl rfl rfl ?_
      refine W.rd (X.assign rfl) rfl rfl rfl ?_
      refine W.nil ?_
      refine At.next ?_
      refine V.keep [(4, Value.int .i64 (x4)), (5, Value.bool (x5))] ⟨rfl, rfl, trivial⟩ ?_
      refine V.ret ?_
      cases H
      exact At.ret2 rfl rfl rfl ⟨_, rfl, rfl, HS⟩

/-! ### (*signalman/clock.Set).pass: function 23 -/
mutual
def clock_Set_pass.l0 : Nat → clock_Set → Int → Int → clock_Set → (List Int) → Option (List Int × clock_Set)
  | 0, _, _, _, _, _ => none
  | k + 1, a0, a1, x5, x6, x9 => (if x5 < 32 then (if 0 ≤ x5 ∧ x5 < 32 then (if (((a0).left).getD (x5).toNat 0) = 0 then (clock_Set_pass.l0 k a0 a1 (w64 (x5 + 1)) x6 x9) else (if (((a0).left).getD (x5).toNat 0) = a1 then (if ((x9).length : Int) + (([x5] : List Int)).length ≤ 1099511627776 then (clock_Set_pass.l0 k a0 a1 (w64 (x5 + 1)) ({ now := (x6).now, left := ((x6).left).set (x5).toNat (w64 ((((a0).left).getD (x5).toNat 0) - a1)) } : clock_Set) (x9 ++ ([x5] : List Int))) else none) else (clock_Set_pass.l0 k a0 a1 (w64 (x5 + 1)) ({ now := (x6).now, left := ((x6).left).set (x5).toNat (w64 ((((a0).left).getD (x5).toNat 0) - a1)) } : clock_Set) x9))) else none) else some (x9, x6))
end
def clock_Set_pass.f (k : Nat) (a0 : clock_Set) (a1 : Int) : Option (List Int × clock_Set) := (clock_Set_pass.l0 k a0 a1 0 a0 ([] : List Int))
set_option maxRecDepth 100000 in
set_option maxHeartbeats 4000000 in
theorem clock_Set_pass.calls (k : Nat) (a0 : clock_Set) (a1 : Int) (R : As) (w0 w : World) (b0 : Nat) (r : List Int × clock_Set)  (H : clock_Set_pass.f k a0 a1 = some r) (HS : Sep.St [clock_Set.at b0 (a0), R] w0 w) : Calls Try.prog 23 #[Value.pointer (some ⟨b0, 0, none⟩), Value.int .i64 (a1)] w (Ret fun u w => ∃ (aq0 : Option Addr) (cq0 : Nat), u = Value.slice aq0 (r.1).length cq0 ∧ Sep.St [row 3 1 (.slice aq0 (r.1).length cq0) (r.1).length ((r.1).map (Value.int .i64)), clock_Set.at b0 (r.2), R] w0 w) := by
  unfold clock_Set_pass.f at H
  refine calls_enter Try.func23 rfl rfl ?_
  have H : _ = some r := H
  refine V.seq ?_
  refine V.region ?_
  refine W.rd (X.assign rfl) rfl rfl rfl ?_
  refine W.nil ?_
  refine At.next ?_
  refine V.keep [(0, Value.pointer (some ⟨b0, 0, none⟩)), (1, Value.int .i64 (a1))] ⟨rfl, rfl, trivial⟩ ?_
  refine V.seq ?_
  refine V.region ?_
  refine W.rd (X.assign rfl) rfl rfl rfl ?_
  refine W.nil ?_
  refine At.next ?_
  refine V.keep [(0, Value.pointer (some ⟨b0, 0, none⟩)), (1, Value.int .i64 (a1)), (5, Value.slice none 0 0)] ⟨rfl, rfl, rfl, trivial⟩ ?_
  refine V.seq ?_
  refine V.seq ?_
  refine V.region ?_
  refine W.rd (X.move rfl) rfl rfl rfl ?_
  refine W.rd (X.nilCheck rfl) rfl rfl rfl ?_
  obtain ⟨hi2, HS⟩ := clock_Set.open HS
  have HS : Sep.St [blk b0 (([Value.int .u32 ((a0).now)] ++ ((a0).left).map (Value.int .i64)).toArray) 45, R] w0 w := HS
  refine W.rd (X.fieldAddr 1 fo45_1 rfl) rfl rfl rfl ?_
  refine W.rd (X.loadArr 0 HS rfl rfl Try.underlying43 rfl inf43 (by first | exact hi2 | (simp only [List.length_set]; exact hi2)) rfl) rfl rfl rfl ?_
  refine W.rd (X.move rfl) rfl rfl rfl ?_
  refine W.nil ?_
  refine At.next ?_
  refine V.keep [(0, Value.pointer (some ⟨b0, 0, none⟩)), (1, Value.int .i64 (a1)), (5, Value.slice none 0 0), (11, Value.agg (((a0).left).map (Value.int .i64)).toArray), (12, Value.int .i64 (0))] ⟨rfl, rfl, rfl, rfl, rfl, trivial⟩ ?_
  refine V.block ?_
  replace HS := row_nil' (e := 3) 1 none HS
  have HS : Sep.St [row 3 1 (.slice none (([] : List Int)).length 0) (([] : List Int)).length ((([] : List Int)).map (Value.int .i64)), blk b0 (([Value.int .u32 ((a0).now)] ++ ((a0).left).map (Value.int .i64)).toArray) 45, R] w0 w := HS
  replace HS := HS.re [1, 0, 2] rfl
  have HS : Sep.St [blk b0 (([Value.int .u32 ((a0).now)] ++ ((a0).left).map (Value.int .i64)).toArray) 45, row 3 1 (.slice none (([] : List Int)).length 0) (([] : List Int)).length ((([] : List Int)).map (Value.int .i64)), R] w0 w := HS
  replace HS := clock_Set.close (a0) (by first | exact hi2 | (simp only [List.length_set]; exact hi2)) HS
  have HS : Sep.St [clock_Set.at b0 (a0), row 3 1 (.slice none (([] : List Int)).length 0) (([] : List Int)).length ((([] : List Int)).map (Value.int .i64)), R] w0 w := HS
  refine V.loop (σ := Int × clock_Set × Option Addr × Nat × List Int) (fun kq (st : Int × clock_Set × Option Addr × Nat × List Int) w => match st with | (x5, x6, ra7, rc8, x9) => Sep.St [clock_Set.at b0 (x6), row 3 1 (.slice ra7 (x9).length rc8) (x9).length ((x9).map (Value.int .i64)), R] w0 w ∧ clock_Set_pass.l0 kq a0 a1 x5 x6 x9 = some r ∧ kq ≤ k) (fun st => match st with | (x5, x6, ra7, rc8, x9) => [(0, Value.pointer (some ⟨b0, 0, none⟩)), (1, Value.int .i64 (a1)), (5, Value.slice ra7 (x9).length rc8), (11, Value.agg (((a0).left).map (Value.int .i64)).toArray), (12, Value.int .i64 (x5))]) k (0, a0, none, 0, ([] : List Int)) ⟨rfl, rfl, rfl, rfl, rfl, trivial⟩ ⟨HS, H, Nat.le_refl _⟩ ?_
  rintro kq10 ⟨x5, x6, ra7, rc8, x9⟩ w ⟨HS, H, hk11⟩
  cases kq10 with
  | zero => exact absurd H (by simp [clock_Set_pass.l0])
  | succ kq10 =>
    simp only [clock_Set_pass.l0] at H
    have HS : Sep.St [clock_Set.at b0 (x6), row 3 1 (.slice ra7 (x9).length rc8) (x9).length ((x9).map (Value.int .i64)), R] w0 w := HS
    refine V.seq ?_
    refine V.region ?_
    refine W.rd (X.cmp (decide (x5 < 32)) rfl rfl rfl rfl) rfl rfl rfl ?_
    refine W.nil ?_
    refine At.next ?_
    refine V.keep [(0, Value.pointer (some ⟨b0, 0, none⟩)), (1, Value.int .i64 (a1)), (5, Value.slice ra7 (x9).length rc8), (11, Value.agg (((a0).left).map (Value.int .i64)).toArray), (12, Value.int .i64 (x5)), (13, Value.bool (decide (x5 < 32)))] ⟨rfl, rfl, rfl, rfl, rfl, rfl, trivial⟩ ?_
    refine V.seq ?_
    by_cases c12 : x5 < 32
    · replace H := ite_t c12 H
      refine V.condT (sb (decide_eq_true c12)) ?_
      refine V.skip ?_
      refine At.next ?_
      refine V.keep [(0, Value.pointer (some ⟨b0, 0, none⟩)), (1, Value.int .i64 (a1)), (5, Value.slice ra7 (x9).length rc8), (11, Value.agg (((a0).left).map (Value.int .i64)).toArray), (12, Value.int .i64 (x5))] ⟨rfl, rfl, rfl, rfl, rfl, trivial⟩ ?_
      refine V.seq ?_
      refine V.block ?_
      refine V.seq ?_
      refine V.region ?_
      refine W.rd (X.move rfl) rfl rfl rfl ?_
      obtain ⟨c13, H⟩ := ite_n H
      refine W.rd (X.indexArr Try.underlying43 Try.underlying3 rfl inf3 rfl rfl c13.1 c13.2 (by first | exact hi2 | (simp only [List.length_set]; exact hi2))) rfl rfl rfl ?_
      refine W.rd (X.assign rfl) rfl rfl rfl ?_
      refine W.rd (X.assign rfl) rfl rfl rfl ?_
      refine W.nil ?_
      refine At.next ?_
      refine V.keep [(0, Value.pointer (some ⟨b0, 0, none⟩)), (1, Value.int .i64 (a1)), (5, Value.slice ra7 (x9).length rc8), (6, Value.int .i64 (x5)), (7, Value.int .i64 (((a0).left).getD (x5).toNat 0)), (11, Value.agg (((a0).left).map (Value.int .i64)).toArray), (12, Value.int .i64 (x5))] ⟨rfl, rfl, rfl, rfl, rfl, rfl, rfl, trivial⟩ ?_
      refine V.seq ?_
      refine V.seq ?_
      refine V.region ?_
      refine W.rd (X.move rfl) rfl rfl rfl ?_
      refine W.rd (X.cmp (decide ((((a0).left).getD (x5).toNat 0) = 0)) rfl rfl rfl rfl) rfl rfl rfl ?_
      refine W.nil ?_
      refine At.next ?_
      refine V.keep [(0, Value.pointer (some ⟨b0, 0, none⟩)), (1, Value.int .i64 (a1)), (5, Value.slice ra7 (x9).length rc8), (6, Value.int .i64 (x5)), (7, Value.int .i64 (((a0).left).getD (x5).toNat 0)), (11, Value.agg (((a0).left).map (Value.int .i64)).toArray), (12, Value.int .i64 (x5)), (17, Value.bool (decide ((((a0).left).getD (x5).toNat 0) = 0)))] ⟨rfl, rfl, rfl, rfl, rfl, rfl, rfl, rfl, trivial⟩ ?_
      by_cases c14 : (((a0).left).getD (x5).toNat 0) = 0
      · replace H := ite_t c14 H
        refine V.condT (sb (decide_eq_true c14)) ?_
        refine V.exit ?_
        refine At.thenExit ?_
        refine At.blockExit ?_
        refine At.next ?_
        refine V.keep [(0, Value.pointer (some ⟨b0, 0, none⟩)), (1, Value.int .i64 (a1)), (5, Value.slice ra7 (x9).length rc8), (11, Value.agg (((a0).left).map (Value.int .i64)).toArray), (12, Value.int .i64 (x5))] ⟨rfl, rfl, rfl, rfl, rfl, trivial⟩ ?_
        refine V.region ?_
        refine W.rd (X.add rfl rfl) rfl rfl rfl ?_
        refine W.rd (X.move rfl) rfl rfl rfl ?_
        refine W.nil ?_
        exact At.round kq10 (by omega) (w64 (x5 + 1), x6, ra7, rc8, x9) ⟨rfl, rfl, rfl, rfl, rfl, trivial⟩ ⟨HS, H, by omega⟩
      · replace H := ite_f c14 H
        refine V.condF (sb (decide_eq_false c14)) ?_
        refine V.skip ?_
        refine At.next ?_
        refine V.keep [(0, Value.pointer (some ⟨b0, 0, none⟩)), (1, Value.int .i64 (a1)), (5, Value.slice ra7 (x9).length rc8), (6, Value.int .i64 (x5)), (7, Value.int .i64 (((a0).left).getD (x5).toNat 0)), (11, Value.agg (((a0).left).map (Value.int .i64)).toArray), (12, Value.int .i64 (x5))] ⟨rfl, rfl, rfl, rfl, rfl, rfl, rfl, trivial⟩ ?_
        refine V.seq ?_
        refine V.region ?_
        refine W.rd (X.move rfl) rfl rfl rfl ?_
        refine W.rd (X.move rfl) rfl rfl rfl ?_
        refine W.rd (X.move rfl) rfl rfl rfl ?_
        refine W.rd (X.move rfl) rfl rfl rfl ?_
        refine W.rd (X.sub rfl rfl) rfl rfl rfl ?_
        refine W.rd (X.nilCheck rfl) rfl rfl rfl ?_
        obtain ⟨hi16, HS⟩ := clock_Set.open HS
        have HS : Sep.St [blk b0 (([Value.int .u32 ((x6).now)] ++ ((x6).left).map (Value.int .i64)).toArray) 45, row 3 1 (.slice ra7 (x9).length rc8) (x9).length ((x9).map (Value.int .i64)), R] w0 w := HS
        refine W.rd (X.fieldAddr 1 fo45_1 rfl) rfl rfl rfl ?_
        refine W.rd (X.indexAr Try.underlying43 inf3 rfl rfl c13.1 c13.2) rfl rfl rfl ?_
        refine W.ev_none (Y.storeArr 0 HS rfl rfl inf3 rfl rfl c13.1 c13.2 (by first | exact hi16 | (simp only [List.length_set]; exact hi16))) rfl rfl ?_
        rintro _ w HS
        have HS : Sep.St [blk b0 (([Value.int .u32 ((x6).now)] ++ (((x6).left).set (x5).toNat (w64 ((((a0).left).getD (x5).toNat 0) - a1))).map (Value.int .i64)).toArray) 45, row 3 1 (.slice ra7 (x9).length rc8) (x9).length ((x9).map (Value.int .i64)), R] w0 w := HS
        refine W.nil ?_
        refine At.next ?_
        refine V.keep [(0, Value.pointer (some ⟨b0, 0, none⟩)), (1, Value.int .i64 (a1)), (5, Value.slice ra7 (x9).length rc8), (6, Value.int .i64 (x5)), (7, Value.int .i64 (((a0).left).getD (x5).toNat 0)), (11, Value.agg (((a0).left).map (Value.int .i64)).toArray), (12, Value.int .i64 (x5))] ⟨rfl, rfl, rfl, rfl, rfl, rfl, rfl, trivial⟩ ?_
        refine V.seq ?_
        refine V.region ?_
        refine W.rd (X.move rfl) rfl rfl rfl ?_
        refine W.rd (X.move rfl) rfl rfl rfl ?_
        refine W.rd (X.cmp (decide ((((a0).left).getD (x5).toNat 0) = a1)) rfl rfl rfl rfl) rfl rfl rfl ?_
        refine W.nil ?_
        refine At.next ?_
        refine V.keep [(0, Value.pointer (some ⟨b0, 0, none⟩)), (1, Value.int .i64 (a1)), (5, Value.slice ra7 (x9).length rc8), (6, Value.int .i64 (x5)), (11, Value.agg (((a0).left).map (Value.int .i64)).toArray), (12, Value.int .i64 (x5)), (28, Value.bool (decide ((((a0).left).getD (x5).toNat 0) = a1)))] ⟨rfl, rfl, rfl, rfl, rfl, rfl, rfl, trivial⟩ ?_
        by_cases c17 : (((a0).left).getD (x5).toNat 0) = a1
        · replace H := ite_t c17 H
          refine V.condT (sb (decide_eq_true c17)) ?_
          refine V.region ?_
          refine W.rd (X.move rfl) rfl rfl rfl ?_
          refine W.rd (X.move rfl) rfl rfl rfl ?_
          refine W.ev (Y.litB (e := 3) (sz := 1) (vs := #[(0, Value.int .i64 (x5))]) [Value.int .i64 (x5)] HS (fun a ha => by simp only [List.map_toArray, List.map_cons, List.map_nil]; rw [ha.ev (x := .tmp 30) (v := Value.int .i64 (x5)) rfl]; try rfl) rfl (by decide) (fun _ => by kernel_rfl)) rfl rfl rfl ?_
          rintro _ w ⟨lb20, rfl, HS⟩
          have HS : Sep.St [row 3 1 (.slice (some ⟨lb20, 0, none⟩) (([x5] : List Int)).length 1) (([x5] : List Int)).length ((([x5] : List Int)).map (Value.int .i64)), blk b0 (([Value.int .u32 ((x6).now)] ++ (((x6).left).set (x5).toNat (w64 ((((a0).left).getD (x5).toNat 0) - a1))).map (Value.int .i64)).toArray) 45, row 3 1 (.slice ra7 (x9).length rc8) (x9).length ((x9).map (Value.int .i64)), R] w0 w := HS
          obtain ⟨c21, H⟩ := ite_n H
          refine W.ev (Y.appF (Value.int .i64) (fun _ => rfl) 2 Try.underlying22 ap3 rfl HS rfl rfl rfl (rdC.at 0 row_rd HS rfl) (by omega) (by omega)) rfl rfl rfl ?_
          rintro _ w ⟨ra22, rc23, rfl, HS⟩
          have HS : Sep.St [row 3 1 (.slice (some ⟨lb20, 0, none⟩) (([x5] : List Int)).length 1) (([x5] : List Int)).length ((([x5] : List Int)).map (Value.int .i64)), blk b0 (([Value.int .u32 ((x6).now)] ++ (((x6).left).set (x5).toNat (w64 ((((a0).left).getD (x5).toNat 0) - a1))).map (Value.int .i64)).toArray) 45, row 3 1 (.slice ra22 (x9 ++ ([x5] : List Int)).length rc23) (x9 ++ ([x5] : List Int)).length ((x9 ++ ([x5] : List Int)).map (Value.int .i64)), R] w0 w := HS
          refine W.rd (X.assign rfl) rfl rfl rfl ?_
          refine W.nil ?_
          refine At.blockEnd ?_
          refine At.next ?_
          refine V.keep [(0, Value.pointer (some ⟨b0, 0, none⟩)), (1, Value.int .i64 (a1)), (5, Value.slice ra22 (x9 ++ ([x5] : List Int)).length rc23), (11, Value.agg (((a0).left).map (Value.int .i64)).toArray), (12, Value.int .i64 (x5))] ⟨rfl, rfl, rfl, rfl, rfl, trivial⟩ ?_
          refine V.region ?_
          refine W.rd (X.add rfl rfl) rfl rfl rfl ?_
          refine W.rd (X.move rfl) rfl rfl rfl ?_
          refine W.nil ?_
          replace HS := HS.re [1, 0, 2, 3] rfl
          have HS : Sep.St [blk b0 (([Value.int .u32 ((x6).now)] ++ (((x6).left).set (x5).toNat (w64 ((((a0).left).getD (x5).toNat 0) - a1))).map (Value.int .i64)).toArray) 45, row 3 1 (.slice (some ⟨lb20, 0, none⟩) (([x5] : List Int)).length 1) (([x5] : List Int)).length ((([x5] : List Int)).map (Value.int .i64)), row 3 1 (.slice ra22 (x9 ++ ([x5] : List Int)).length rc23) (x9 ++ ([x5] : List Int)).length ((x9 ++ ([x5] : List Int)).map (Value.int .i64)), R] w0 w := HS
          replace HS := clock_Set.close (({ now := (x6).now, left := ((x6).left).set (x5).toNat (w64 ((((a0).left).getD (x5).toNat 0) - a1)) } : clock_Set)) (by first | exact hi16 | (simp only [List.length_set]; exact hi16)) HS
          have HS : Sep.St [clock_Set.at b0 (({ now := (x6).now, left := ((x6).left).set (x5).toNat (w64 ((((a0).left).getD (x5).toNat 0) - a1)) } : clock_Set)), row 3 1 (.slice (some ⟨lb20, 0, none⟩) (([x5] : List Int)).length 1) (([x5] : List Int)).length ((([x5] : List Int)).map (Value.int .i64)), row 3 1 (.slice ra22 (x9 ++ ([x5] : List Int)).length rc23) (x9 ++ ([x5] : List Int)).length ((x9 ++ ([x5] : List Int)).map (Value.int .i64)), R] w0 w := HS
          replace HS := HS.sel [0, 2, 3] [1] rfl
          exact At.round kq10 (by omega) (w64 (x5 + 1), ({ now := (x6).now, left := ((x6).left).set (x5).toNat (w64 ((((a0).left).getD (x5).toNat 0) - a1)) } : clock_Set), ra22, rc23, x9 ++ ([x5] : List Int)) ⟨rfl, rfl, rfl, rfl, rfl, trivial⟩ ⟨HS, H, by omega⟩
        · replace H := ite_f c17 H
          refine V.condF (sb (decide_eq_false c17)) ?_
          refine V.skip ?_
          refine At.blockEnd ?_
          refine At.next ?_
          refine V.keep [(0, Value.pointer (some ⟨b0, 0, none⟩)), (1, Value.int .i64 (a1)), (5, Value.slice ra7 (x9).length rc8), (11, Value.agg (((a0).left).map (Value.int .i64)).toArray), (12, Value.int .i64 (x5))] ⟨rfl, rfl, rfl, rfl, rfl, trivial⟩ ?_
          refine V.region ?_
          refine W.rd (X.add rfl rfl) rfl rfl rfl ?_
          refine W.rd (X.move rfl) rfl rfl rfl ?_
          refine W.nil ?_
          replace HS := clock_Set.close (({ now := (x6).now, left := ((x6).left).set (x5).toNat (w64 ((((a0).left).getD (x5).toNat 0) - a1)) } : clock_Set)) (by first | exact hi16 | (simp only [List.length_set]; exact hi16)) HS
          have HS : Sep.St [clock_Set.at b0 (({ now := (x6).now, left := ((x6).left).set (x5).toNat (w64 ((((a0).left).getD (x5).toNat 0) - a1)) } : clock_Set)), row 3 1 (.slice ra7 (x9).length rc8) (x9).length ((x9).map (Value.int .i64)), R] w0 w := HS
          exact At.round kq10 (by omega) (w64 (x5 + 1), ({ now := (x6).now, left := ((x6).left).set (x5).toNat (w64 ((((a0).left).getD (x5).toNat 0) - a1)) } : clock_Set), ra7, rc8, x9) ⟨rfl, rfl, rfl, rfl, rfl, trivial⟩ ⟨HS, H, by omega⟩
    · replace H := ite_f c12 H
      refine V.condF (sb (decide_eq_false c12)) ?_
      refine V.exit ?_
      refine At.thenExit ?_
      refine At.thenExit ?_
      refine At.blockExit ?_
      refine At.next ?_
      refine V.keep [(5, Value.slice ra7 (x9).length rc8)] ⟨rfl, trivial⟩ ?_
      refine V.seq ?_
      refine V.region ?_
      refine W.rd (X.move rfl) rfl rfl rfl ?_
      refine W.rd (X.assign rfl) rfl rfl rfl ?_
      refine W.nil ?_
      refine At.next ?_
      refine V.keep [(4, Value.slice ra7 (x9).length rc8)] ⟨rfl, trivial⟩ ?_
      refine V.ret ?_
      replace HS := HS.sel [1, 0, 2] [] rfl
      cases H
      exact At.ret1 rfl rfl ⟨_, rfl, ra7, rc8, rfl, HS⟩

/-! ### (*signalman/clock.Set).Pass: function 10 -/
mutual
def clock_Set_Pass.l0 : Nat → Int → Int → Bool → (List Int) → clock_Set → Option (List Int × clock_Set)
  | 0, _, _, _, _, _ => none
  | k + 1, x7, x8, x9, x12, x13 => (if x9 = true then ((clock_Set_pass.f k x13 x8).bind fun t17 => (if ((x12).length : Int) + (t17.1).length ≤ 1099511627776 then ((clock_Set_soonest.f k t17.2 (w64 (x7 - x8))).bind fun t22 => (clock_Set_Pass.l0 k (w64 (x7 - x8)) t22.1 t22.2 (x12 ++ t17.1) t17.2)) else none)) else ((clock_Set_pass.f k x13 x7).bind fun t24 => some (x12, t24.2)))
end
def clock_Set_Pass.f (k : Nat) (a0 : clock_Set) (a1 : Int) : Option (List Int × clock_Set) := ((clock_Set_soonest.f k ({ now := IntKind.u32.wrap (((a0).now) + (IntKind.u32.wrap (imax (0) (imin (a1) (1073741824))))), left := (a0).left } : clock_Set) (imax (0) (imin (a1) (1073741824)))).bind fun t3 => (clock_Set_Pass.l0 k (imax (0) (imin (a1) (1073741824))) t3.1 t3.2 ([] : List Int) ({ now := IntKind.u32.wrap (((a0).now) + (IntKind.u32.wrap (imax (0) (imin (a1) (1073741824))))), left := (a0).left } : clock_Set)))
set_option maxRecDepth 100000 in
set_option maxHeartbeats 4000000 in
theorem clock_Set_Pass.calls (k : Nat) (a0 : clock_Set) (a1 : Int) (R : As) (w0 w : World) (b0 : Nat) (r : List Int × clock_Set)  (H : clock_Set_Pass.f k a0 a1 = some r) (HS : Sep.St [clock_Set.at b0 (a0), R] w0 w) : Calls Try.prog 10 #[Value.pointer (some ⟨b0, 0, none⟩), Value.int .i64 (a1)] w (Ret fun u w => ∃ (aq0 : Option Addr) (cq0 : Nat), u = Value.slice aq0 (r.1).length cq0 ∧ Sep.St [row 3 1 (.slice aq0 (r.1).length cq0) (r.1).length ((r.1).map (Value.int .i64)), clock_Set.at b0 (r.2), R] w0 w) := by
  unfold clock_Set_Pass.f at H
  refine calls_enter Try.func10 rfl rfl ?_
  have H : _ = some r := H
  refine V.seq ?_
  refine V.region ?_
  refine W.rd (X.assign rfl) rfl rfl rfl ?_
  refine W.nil ?_
  refine At.next ?_
  refine V.keep [(0, Value.pointer (some ⟨b0, 0, none⟩)), (1, Value.int .i64 (a1))] ⟨rfl, rfl, trivial⟩ ?_
  refine V.seq ?_
  refine V.region ?_
  refine W.rd (X.move rfl) rfl rfl rfl ?_
  refine W.rd (X.min2 rfl rfl) rfl rfl rfl ?_
  refine W.rd (X.max2 rfl rfl) rfl rfl rfl ?_
  refine W.rd (X.assign rfl) rfl rfl rfl ?_
  refine W.nil ?_
  refine At.next ?_
  refine V.keep [(0, Value.pointer (some ⟨b0, 0, none⟩)), (1, Value.int .i64 (imax (0) (imin (a1) (1073741824))))] ⟨rfl, rfl, trivial⟩ ?_
  refine V.seq ?_
  refine V.region ?_
  refine W.rd (X.move rfl) rfl rfl rfl ?_
  refine W.rd (X.nilCheck rfl) rfl rfl rfl ?_
  obtain ⟨hi2, HS⟩ := clock_Set.open HS
  have HS : Sep.St [blk b0 (([Value.int .u32 ((a0).now)] ++ ((a0).left).map (Value.int .i64)).toArray) 45, R] w0 w := HS
  refine W.rd (X.fieldAddr 0 fo45_0 rfl) rfl rfl rfl ?_
  refine W.rd (X.loadAt 0 HS rfl Try.underlying26 rfl rfl rfl) rfl rfl rfl ?_
  refine W.rd (X.move rfl) rfl rfl rfl ?_
  refine W.rd (X.conv Try.underlying3 Try.underlying26 rfl) rfl rfl rfl ?_
  refine W.rd (X.add rfl rfl) rfl rfl rfl ?_
  refine W.rd (X.nilCheck rfl) rfl rfl rfl ?_
  refine W.rd (X.fieldAddr 0 fo45_0 rfl) rfl rfl rfl ?_
  refine W.ev_none (Y.storeAt 0 HS rfl inf26 rfl rfl rfl rfl rfl rfl) rfl rfl ?_
  rintro _ w HS
  have HS : Sep.St [blk b0 (([Value.int .u32 (IntKind.u32.wrap (((a0).now) + (IntKind.u32.wrap (imax (0) (imin (a1) (1073741824))))))] ++ ((a0).left).map (Value.int .i64)).toArray) 45, R] w0 w := HS
  refine W.nil ?_
  refine At.next ?_
  refine V.keep [(0, Value.pointer (some ⟨b0, 0, none⟩)), (1, Value.int .i64 (imax (0) (imin (a1) (1073741824))))] ⟨rfl, rfl, trivial⟩ ?_
  refine V.seq ?_
  refine V.region ?_
  refine W.rd (X.assign rfl) rfl rfl rfl ?_
  refine W.nil ?_
  refine At.next ?_
  refine V.keep [(0, Value.pointer (some ⟨b0, 0, none⟩)), (1, Value.int .i64 (imax (0) (imin (a1) (1073741824)))), (5, Value.slice none 0 0)] ⟨rfl, rfl, rfl, trivial⟩ ?_
  refine V.seq ?_
  refine V.seq ?_
  refine V.region ?_
  refine W.rd (X.move rfl) rfl rfl rfl ?_
  refine W.rd (X.move rfl) rfl rfl rfl ?_
  replace HS := clock_Set.close (({ now := IntKind.u32.wrap (((a0).now) + (IntKind.u32.wrap (imax (0) (imin (a1) (1073741824))))), left := (a0).left } : clock_Set)) (by first | exact hi2 | (simp only [List.length_set]; exact hi2)) HS
  have HS : Sep.St [clock_Set.at b0 (({ now := IntKind.u32.wrap (((a0).now) + (IntKind.u32.wrap (imax (0) (imin (a1) (1073741824))))), left := (a0).left } : clock_Set)), R] w0 w := HS
  obtain ⟨t3, A4, H⟩ := bind_s H
  refine W.ev (Y.call Try.func22 (by kernel_rfl) rfl (vs := [Value.pointer (some ⟨b0, 0, none⟩), Value.int .i64 (imax (0) (imin (a1) (1073741824)))]) rfl (clock_Set_soonest.calls k ({ now := IntKind.u32.wrap (((a0).now) + (IntKind.u32.wrap (imax (0) (imin (a1) (1073741824))))), left := (a0).left } : clock_Set) (imax (0) (imin (a1) (1073741824))) _ w0 _ b0 t3  A4 (Sep.St.tailJoin (m := [clock_Set.at b0 (({ now := IntKind.u32.wrap (((a0).now) + (IntKind.u32.wrap (imax (0) (imin (a1) (1073741824))))), left := (a0).left } : clock_Set))]) (r := [R]) HS))) rfl rfl rfl ?_
  rintro _ w ⟨rfl, HS⟩
  replace HS := Sep.St.tailOpen (m := [clock_Set.at b0 (({ now := IntKind.u32.wrap (((a0).now) + (IntKind.u32.wrap (imax (0) (imin (a1) (1073741824))))), left := (a0).left } : clock_Set))]) (r := [R]) HS
  have HS : Sep.St [clock_Set.at b0 (({ now := IntKind.u32.wrap (((a0).now) + (IntKind.u32.wrap (imax (0) (imin (a1) (1073741824))))), left := (a0).left } : clock_Set)), R] w0 w := HS
  refine W.rd (X.move rfl) rfl rfl rfl ?_
  refine W.rd (X.extract rfl rfl) rfl rfl rfl ?_
  refine W.rd (X.extract rfl rfl) rfl rfl rfl ?_
  refine W.rd (X.assign rfl) rfl rfl rfl ?_
  refine W.rd (X.assign rfl) rfl rfl rfl ?_
  refine W.nil ?_
  refine At.next ?_
  refine V.keep [(0, Value.pointer (some ⟨b0, 0, none⟩)), (1, Value.int .i64 (imax (0) (imin (a1) (1073741824)))), (5, Value.slice none 0 0), (6, Value.int .i64 (t3.1)), (7, Value.bool (t3.2))] ⟨rfl, rfl, rfl, rfl, rfl, trivial⟩ ?_
  refine V.block ?_
  replace HS := row_nil' (e := 3) 1 none HS
  have HS : Sep.St [row 3 1 (.slice none (([] : List Int)).length 0) (([] : List Int)).length ((([] : List Int)).map (Value.int .i64)), clock_Set.at b0 (({ now := IntKind.u32.wrap (((a0).now) + (IntKind.u32.wrap (imax (0) (imin (a1) (1073741824))))), left := (a0).left } : clock_Set)), R] w0 w := HS
  refine V.loop (σ := Int × Int × Bool × Option Addr × Nat × List Int × clock_Set) (fun kq (st : Int × Int × Bool × Option Addr × Nat × List Int × clock_Set) w => match st with | (x7, x8, x9, ra10, rc11, x12, x13) => Sep.St [row 3 1 (.slice ra10 (x12).length rc11) (x12).length ((x12).map (Value.int .i64)), clock_Set.at b0 (x13), R] w0 w ∧ clock_Set_Pass.l0 kq x7 x8 x9 x12 x13 = some r ∧ kq ≤ k) (fun st => match st with | (x7, x8, x9, ra10, rc11, x12, x13) => [(0, Value.pointer (some ⟨b0, 0, none⟩)), (1, Value.int .i64 (x7)), (5, Value.slice ra10 (x12).length rc11), (6, Value.int .i64 (x8)), (7, Value.bool (x9))]) k (imax (0) (imin (a1) (1073741824)), t3.1, t3.2, none, 0, ([] : List Int), ({ now := IntKind.u32.wrap (((a0).now) + (IntKind.u32.wrap (imax (0) (imin (a1) (1073741824))))), left := (a0).left } : clock_Set)) ⟨rfl, rfl, rfl, rfl, rfl, trivial⟩ ⟨HS, H, Nat.le_refl _⟩ ?_
  rintro kq14 ⟨x7, x8, x9, ra10, rc11, x12, x13⟩ w ⟨HS, H, hk15⟩
  cases kq14 with
  | zero => exact absurd H (by simp [clock_Set_Pass.l0])
  | succ kq14 =>
    simp only [clock_Set_Pass.l0] at H
    have HS : Sep.St [row 3 1 (.slice ra10 (x12).length rc11) (x12).length ((x12).map (Value.int .i64)), clock_Set.at b0 (x13), R] w0 w := HS
    refine V.seq ?_
    refine V.seq ?_
    refine V.region ?_
    refine W.rd (X.move rfl) rfl rfl rfl ?_
    refine W.nil ?_
    refine At.next ?_
    refine V.keep [(0, Value.pointer (some ⟨b0, 0, none⟩)), (1, Value.int .i64 (x7)), (5, Value.slice ra10 (x12).length rc11), (6, Value.int .i64 (x8)), (26, Value.bool (x9))] ⟨rfl, rfl, rfl, rfl, rfl, trivial⟩ ?_
    by_cases c16 : x9 = true
    · replace H := ite_t c16 H
      refine V.condT (sb c16) ?_
      refine V.skip ?_
      refine At.next ?_
      refine V.keep [(0, Value.pointer (some ⟨b0, 0, none⟩)), (1, Value.int .i64 (x7)), (5, Value.slice ra10 (x12).length rc11), (6, Value.int .i64 (x8))] ⟨rfl, rfl, rfl, rfl, trivial⟩ ?_
      refine V.seq ?_
      refine V.block ?_
      refine V.seq ?_
      refine V.region ?_
      refine W.rd (X.move rfl) rfl rfl rfl ?_
      refine W.rd (X.move rfl) rfl rfl rfl ?_
      refine W.rd (X.move rfl) rfl rfl rfl ?_
      obtain ⟨t17, A18, H⟩ := bind_s H
      replace HS := HS.re [1, 0, 2] rfl
      have HS : Sep.St [clock_Set.at b0 (x13), row 3 1 (.slice ra10 (x12).length rc11) (x12).length ((x12).map (Value.int .i64)), R] w0 w := HS
      refine W.ev (Y.call Try.func23 (by kernel_rfl) rfl (vs := [Value.pointer (some ⟨b0, 0, none⟩), Value.int .i64 (x8)]) rfl (clock_Set_pass.calls kq14 x13 x8 _ w0 _ b0 t17  A18 (Sep.St.tailJoin (m := [clock_Set.at b0 (x13)]) (r := [row 3 1 (.slice ra10 (x12).length rc11) (x12).length ((x12).map (Value.int .i64)), R]) HS))) rfl rfl rfl ?_
      rintro _ w ⟨at17_0, ct17_0, rfl, HS⟩
      replace HS := Sep.St.tailOpen (m := [row 3 1 (.slice at17_0 (t17.1).length ct17_0) (t17.1).length ((t17.1).map (Value.int .i64)), clock_Set.at b0 (t17.2)]) (r := [row 3 1 (.slice ra10 (x12).length rc11) (x12).length ((x12).map (Value.int .i64)), R]) HS
      have HS : Sep.St [row 3 1 (.slice at17_0 (t17.1).length ct17_0) (t17.1).length ((t17.1).map (Value.int .i64)), clock_Set.at b0 (t17.2), row 3 1 (.slice ra10 (x12).length rc11) (x12).length ((x12).map (Value.int .i64)), R] w0 w := HS
      obtain ⟨c19, H⟩ := ite_n H
      refine W.ev (Y.appF (Value.int .i64) (fun _ => rfl) 2 Try.underlying22 ap3 rfl HS rfl rfl rfl (rdC.at 0 row_rd HS rfl) (by omega) (by omega)) rfl rfl rfl ?_
      rintro _ w ⟨ra20, rc21, rfl, HS⟩
      have HS : Sep.St [row 3 1 (.slice at17_0 (t17.1).length ct17_0) (t17.1).length ((t17.1).map (Value.int .i64)), clock_Set.at b0 (t17.2), row 3 1 (.slice ra20 (x12 ++ t17.1).length rc21) (x12 ++ t17.1).length ((x12 ++ t17.1).map (Value.int .i64)), R] w0 w := HS
      refine W.rd (X.assign rfl) rfl rfl rfl ?_
      refine W.nil ?_
      refine At.next ?_
      refine V.keep [(0, Value.pointer (some ⟨b0, 0, none⟩)), (1, Value.int .i64 (x7)), (5, Value.slice ra20 (x12 ++ t17.1).length rc21), (6, Value.int .i64 (x8))] ⟨rfl, rfl, rfl, rfl, trivial⟩ ?_
      refine V.region ?_
      refine W.rd (X.move rfl) rfl rfl rfl ?_
      refine W.rd (X.move rfl) rfl rfl rfl ?_
      refine W.rd (X.sub rfl rfl) rfl rfl rfl ?_
      refine W.rd (X.assign rfl) rfl rfl rfl ?_
      refine W.nil ?_
      refine At.blockEnd ?_
      refine At.next ?_
      refine V.keep [(0, Value.pointer (some ⟨b0, 0, none⟩)), (1, Value.int .i64 (w64 (x7 - x8))), (5, Value.slice ra20 (x12 ++ t17.1).length rc21)] ⟨rfl, rfl, rfl, trivial⟩ ?_
      refine V.region ?_
      refine W.rd (X.move rfl) rfl rfl rfl ?_
      refine W.rd (X.move rfl) rfl rfl rfl ?_
      obtain ⟨t22, A23, H⟩ := bind_s H
      replace HS := HS.re [1, 0, 2, 3] rfl
      have HS : Sep.St [clock_Set.at b0 (t17.2), row 3 1 (.slice at17_0 (t17.1).length ct17_0) (t17.1).length ((t17.1).map (Value.int .i64)), row 3 1 (.slice ra20 (x12 ++ t17.1).length rc21) (x12 ++ t17.1).length ((x12 ++ t17.1).map (Value.int .i64)), R] w0 w := HS
      refine W.ev (Y.call Try.func22 (by kernel_rfl) rfl (vs := [Value.pointer (some ⟨b0, 0, none⟩), Value.int .i64 (w64 (x7 - x8))]) rfl (clock_Set_soonest.calls kq14 t17.2 (w64 (x7 - x8)) _ w0 _ b0 t22  A23 (Sep.St.tailJoin (m := [clock_Set.at b0 (t17.2)]) (r := [row 3 1 (.slice at17_0 (t17.1).length ct17_0) (t17.1).length ((t17.1).map (Value.int .i64)), row 3 1 (.slice ra20 (x12 ++ t17.1).length rc21) (x12 ++ t17.1).length ((x12 ++ t17.1).map (Value.int .i64)), R]) HS))) rfl rfl rfl ?_
      rintro _ w ⟨rfl, HS⟩
      replace HS := Sep.St.tailOpen (m := [clock_Set.at b0 (t17.2)]) (r := [row 3 1 (.slice at17_0 (t17.1).length ct17_0) (t17.1).length ((t17.1).map (Value.int .i64)), row 3 1 (.slice ra20 (x12 ++ t17.1).length rc21) (x12 ++ t17.1).length ((x12 ++ t17.1).map (Value.int .i64)), R]) HS
      have HS : Sep.St [clock_Set.at b0 (t17.2), row 3 1 (.slice at17_0 (t17.1).length ct17_0) (t17.1).length ((t17.1).map (Value.int .i64)), row 3 1 (.slice ra20 (x12 ++ t17.1).length rc21) (x12 ++ t17.1).length ((x12 ++ t17.1).map (Value.int .i64)), R] w0 w := HS
      refine W.rd (X.move rfl) rfl rfl rfl ?_
      refine W.rd (X.extract rfl rfl) rfl rfl rfl ?_
      refine W.rd (X.extract rfl rfl) rfl rfl rfl ?_
      refine W.rd (X.assign rfl) rfl rfl rfl ?_
      refine W.rd (X.assign rfl) rfl rfl rfl ?_
      refine W.nil ?_
      replace HS := HS.sel [2, 0, 3] [1] rfl
      exact At.round kq14 (by omega) (w64 (x7 - x8), t22.1, t22.2, ra20, rc21, x12 ++ t17.1, t17.2) ⟨rfl, rfl, rfl, rfl, rfl, trivial⟩ ⟨HS, H, by omega⟩
    · replace H := ite_f c16 H
      refine V.condF (sb (b_f c16)) ?_
      refine V.exit ?_
      refine At.thenExit ?_
      refine At.thenExit ?_
      refine At.blockExit ?_
      refine At.next ?_
      refine V.keep [(0, Value.pointer (some ⟨b0, 0, none⟩)), (1, Value.int .i64 (x7)), (5, Value.slice ra10 (x12).length rc11)] ⟨rfl, rfl, rfl, trivial⟩ ?_
      refine V.seq ?_
      refine V.region ?_
      refine W.rd (X.move rfl) rfl rfl rfl ?_
      refine W.rd (X.move rfl) rfl rfl rfl ?_
      obtain ⟨t24, A25, H⟩ := bind_s H
      replace HS := HS.re [1, 0, 2] rfl
      have HS : Sep.St [clock_Set.at b0 (x13), row 3 1 (.slice ra10 (x12).length rc11) (x12).length ((x12).map (Value.int .i64)), R] w0 w := HS
      refine W.ev (Y.call Try.func23 (by kernel_rfl) rfl (vs := [Value.pointer (some ⟨b0, 0, none⟩), Value.int .i64 (x7)]) rfl (clock_Set_pass.calls kq14 x13 x7 _ w0 _ b0 t24  A25 (Sep.St.tailJoin (m := [clock_Set.at b0 (x13)]) (r := [row 3 1 (.slice ra10 (x12).length rc11) (x12).length ((x12).map (Value.int .i64)), R]) HS))) rfl rfl rfl ?_
      rintro _ w ⟨at24_0, ct24_0, rfl, HS⟩
      replace HS := Sep.St.tailOpen (m := [row 3 1 (.slice at24_0 (t24.1).length ct24_0) (t24.1).length ((t24.1).map (Value.int .i64)), clock_Set.at b0 (t24.2)]) (r := [row 3 1 (.slice ra10 (x12).length rc11) (x12).length ((x12).map (Value.int .i64)), R]) HS
      have HS : Sep.St [row 3 1 (.slice at24_0 (t24.1).length ct24_0) (t24.1).length ((t24.1).map (Value.int .i64)), clock_Set.at b0 (t24.2), row 3 1 (.slice ra10 (x12).length rc11) (x12).length ((x12).map (Value.int .i64)), R] w0 w := HS
      refine W.nil ?_
      refine At.next ?_
      refine V.keep [(5, Value.slice ra10 (x12).length rc11)] ⟨rfl, trivial⟩ ?_
      refine V.seq ?_
      refine V.region ?_
      refine W.rd (X.move rfl) rfl rfl rfl ?_
      refine W.rd (X.assign rfl) rfl rfl rfl ?_
      refine W.nil ?_
      refine At.next ?_
      refine V.keep [(4, Value.slice ra10 (x12).length rc11)] ⟨rfl, trivial⟩ ?_
      refine V.ret ?_
      replace HS := HS.sel [2, 1, 3] [0] rfl
      cases H
      exact At.ret1 rfl rfl ⟨_, rfl, ra10, rc11, rfl, HS⟩

/-! ### signalman/signalmanlaw7.alive: function 7 -/
def signalmanlaw7_alive.f (k : Nat)  : Option (Bool) := ((clock_New.f 0).bind fun t1 => ((clock_Set_Start.f t1 3 5).bind fun t3 => ((clock_Set_Pass.f k t3.2 5).bind fun t5 => (if t3.1 = true then (if ((t5.1).length : Int) = 1 then (if 0 ≤ (0 : Int) ∧ (0 : Int) < ((t5.1).length : Int) then some (decide (((t5.1).getD ((0 : Int)).toNat 0) = 3)) else none) else some (false)) else some (false)))))
set_option maxRecDepth 100000 in
set_option maxHeartbeats 4000000 in
theorem signalmanlaw7_alive.calls (k : Nat)  (R : As) (w0 w : World)  (r : Bool)  (H : signalmanlaw7_alive.f k  = some r) (HS : Sep.St [R] w0 w) : Calls Try.prog 7 #[] w (Ret fun u w => u = Value.bool (r) ∧ Sep.St [R] w0 w) := by
  unfold signalmanlaw7_alive.f at H
  refine calls_enter Try.func7 rfl rfl ?_
  have H : _ = some r := H
  refine V.seq ?_
  refine V.region ?_
  refine W.rd (X.assign rfl) rfl rfl rfl ?_
  refine W.nil ?_
  refine At.next ?_
  refine V.keep [] trivial ?_
  refine V.seq ?_
  refine V.region ?_
  obtain ⟨t1, A2, H⟩ := bind_s H
  refine W.ev (Y.call Try.func8 (by kernel_rfl) rfl (vs := [Value.int .u32 (0)]) rfl (clock_New.calls 0 _ w0 _  t1  A2 (Sep.St.tailJoin (m := []) (r := [R]) HS))) rfl rfl rfl ?_
  rintro _ w ⟨bt1_0, rfl, HS⟩
  replace HS := Sep.St.tailOpen (m := [clock_Set.at bt1_0 (t1)]) (r := [R]) HS
  have HS : Sep.St [clock_Set.at bt1_0 (t1), R] w0 w := HS
  refine W.rd (X.assign rfl) rfl rfl rfl ?_
  refine W.nil ?_
  refine At.next ?_
  refine V.keep [(1, Value.pointer (some ⟨bt1_0, 0, none⟩))] ⟨rfl, trivial⟩ ?_
  refine V.seq ?_
  refine V.seq ?_
  refine V.region ?_
  refine W.rd (X.move rfl) rfl rfl rfl ?_
  refine W.rd (X.eqP Try.underlying24 rfl rfl) rfl rfl rfl ?_
  refine W.nil ?_
  refine At.next ?_
  refine V.keep [(1, Value.pointer (some ⟨bt1_0, 0, none⟩)), (6, Value.bool (false))] ⟨rfl, rfl, trivial⟩ ?_
  refine V.condF rfl ?_
  refine V.skip ?_
  refine At.next ?_
  refine V.keep [(1, Value.pointer (some ⟨bt1_0, 0, none⟩))] ⟨rfl, trivial⟩ ?_
  refine V.seq ?_
  refine V.region ?_
  refine W.rd (X.move rfl) rfl rfl rfl ?_
  obtain ⟨t3, A4, H⟩ := bind_s H
  refine W.ev (Y.call Try.func9 (by kernel_rfl) rfl (vs := [Value.pointer (some ⟨bt1_0, 0, none⟩), Value.int .i64 (3), Value.int .i64 (5)]) rfl (clock_Set_Start.calls t1 3 5 _ w0 _ bt1_0 t3  A4 (Sep.St.tailJoin (m := [clock_Set.at bt1_0 (t1)]) (r := [R]) HS))) rfl rfl rfl ?_
  rintro _ w ⟨rfl, HS⟩
  replace HS := Sep.St.tailOpen (m := [clock_Set.at bt1_0 (t3.2)]) (r := [R]) HS
  have HS : Sep.St [clock_Set.at bt1_0 (t3.2), R] w0 w := HS
  refine W.rd (X.assign rfl) rfl rfl rfl ?_
  refine W.nil ?_
  refine At.next ?_
  refine V.keep [(1, Value.pointer (some ⟨bt1_0, 0, none⟩)), (2, Value.bool (t3.1))] ⟨rfl, rfl, trivial⟩ ?_
  refine V.seq ?_
  refine V.region ?_
  refine W.rd (X.move rfl) rfl rfl rfl ?_
  obtain ⟨t5, A6, H⟩ := bind_s H
  refine W.ev (Y.call Try.func10 (by kernel_rfl) rfl (vs := [Value.pointer (some ⟨bt1_0, 0, none⟩), Value.int .i64 (5)]) rfl (clock_Set_Pass.calls k t3.2 5 _ w0 _ bt1_0 t5  A6 (Sep.St.tailJoin (m := [clock_Set.at bt1_0 (t3.2)]) (r := [R]) HS))) rfl rfl rfl ?_
  rintro _ w ⟨at5_0, ct5_0, rfl, HS⟩
  replace HS := Sep.St.tailOpen (m := [row 3 1 (.slice at5_0 (t5.1).length ct5_0) (t5.1).length ((t5.1).map (Value.int .i64)), clock_Set.at bt1_0 (t5.2)]) (r := [R]) HS
  have HS : Sep.St [row 3 1 (.slice at5_0 (t5.1).length ct5_0) (t5.1).length ((t5.1).map (Value.int .i64)), clock_Set.at bt1_0 (t5.2), R] w0 w := HS
  refine W.rd (X.assign rfl) rfl rfl rfl ?_
  refine W.nil ?_
  refine At.next ?_
  refine V.keep [(2, Value.bool (t3.1)), (3, Value.slice at5_0 (t5.1).length ct5_0)] ⟨rfl, rfl, trivial⟩ ?_
  refine V.seq ?_
  refine V.region ?_
  refine W.rd (X.move rfl) rfl rfl rfl ?_
  refine W.rd (X.move rfl) rfl rfl rfl ?_
  by_cases c7 : t3.1 = true
  · replace H := ite_t c7 H
    refine W.want 12 rfl (sb c7) ?_
    refine W.rd (X.move rfl) rfl rfl rfl ?_
    refine W.want 12 rfl (sb c7) ?_
    refine W.rd (X.lenSl Try.underlying22 rfl) rfl rfl rfl ?_
    refine W.want 12 rfl (sb c7) ?_
    refine W.rd (X.cmp (decide (((t5.1).length : Int) = 1)) rfl rfl rfl rfl) rfl rfl rfl ?_
    refine W.rd (X.pickT (sb c7) rfl) rfl rfl rfl ?_
    refine W.rd (X.move rfl) rfl rfl rfl ?_
    by_cases c8 : ((t5.1).length : Int) = 1
    · replace H := ite_t c8 H
      refine W.want 17 rfl (sb (decide_eq_true c8)) ?_
      refine W.rd (X.move rfl) rfl rfl rfl ?_
      refine W.want 17 rfl (sb (decide_eq_true c8)) ?_
      obtain ⟨c9, H⟩ := ite_n H
      obtain ⟨eb10, eo11, hh⟩ := ((rdC.at 0 row_rd HS rfl)).some (by decide) c9.1 c9.2; subst hh
      refine W.rd (X.indexSl Try.underlying22 inf3 rfl rfl c9.1 c9.2) rfl rfl rfl ?_
      refine W.want 17 rfl (sb (decide_eq_true c8)) ?_
      refine W.rd (X.load Try.underlying3 rfl rfl (((rdC.at 0 row_rd HS rfl)).cellI c9.1 c9.2)) rfl rfl rfl ?_
      refine W.want 17 rfl (sb (decide_eq_true c8)) ?_
      refine W.rd (X.cmp (decide (((t5.1).getD ((0 : Int)).toNat 0) = 3)) rfl rfl rfl rfl) rfl rfl rfl ?_
      refine W.rd (X.pickT (sb (decide_eq_true c8)) rfl) rfl rfl rfl ?_
      refine W.rd (X.assign rfl) rfl rfl rfl ?_
      refine W.nil ?_
      refine At.next ?_
      refine V.keep [(0, Value.bool (decide (((t5.1).getD ((0 : Int)).toNat 0) = 3)))] ⟨rfl, trivial⟩ ?_
      refine V.ret ?_
      replace HS := HS.sel [2] [0, 1] rfl
      cases H
      exact At.ret1 rfl rfl ⟨_, rfl, rfl, HS⟩
    · replace H := ite_f c8 H
      refine W.pass 17 rfl (sb (decide_eq_false c8)) rfl rfl ?_
      refine W.pass 17 rfl (sb (decide_eq_false c8)) rfl rfl ?_
      refine W.pass 17 rfl (sb (decide_eq_false c8)) rfl rfl ?_
      refine W.pass 17 rfl (sb (decide_eq_false c8)) rfl rfl ?_
      refine W.rd (X.pickF (sb (decide_eq_false c8)) rfl) rfl rfl rfl ?_
      refine W.rd (X.assign rfl) rfl rfl rfl ?_
      refine W.nil ?_
      refine At.next ?_
      refine V.keep [(0, Value.bool (false))] ⟨rfl, trivial⟩ ?_
      refine V.ret ?_
      replace HS := HS.sel [2] [0, 1] rfl
      cases H
      exact At.ret1 rfl rfl ⟨_, rfl, rfl, HS⟩
  · replace H := ite_f c7 H
    refine W.pass 12 rfl (sb (b_f c7)) rfl rfl ?_
    refine W.pass 12 rfl (sb (b_f c7)) rfl rfl ?_
    refine W.pass 12 rfl (sb (b_f c7)) rfl rfl ?_
    refine W.rd (X.pickF (sb (b_f c7)) rfl) rfl rfl rfl ?_
    refine W.rd (X.move rfl) rfl rfl rfl ?_
    refine W.pass 17 rfl rfl rfl rfl ?_
    refine W.pass 17 rfl rfl rfl rfl ?_
    refine W.pass 17 rfl rfl rfl rfl ?_
    refine W.pass 17 rfl rfl rfl rfl ?_
    refine W.rd (X.pickF rfl rfl) rfl rfl rfl ?_
    refine W.rd (X.assign rfl) rfl rfl rfl ?_
    refine W.nil ?_
    refine At.next ?_
    refine V.keep [(0, Value.bool (false))] ⟨rfl, trivial⟩ ?_
    refine V.ret ?_
    replace HS := HS.sel [2] [0, 1] rfl
    cases H
    exact At.ret1 rfl rfl ⟨_, rfl, rfl, HS⟩

/-! ### (*signalman/clock.Set).Left: function 12 -/
def clock_Set_Left.f (a0 : clock_Set) (a1 : Int) : Option (Int × Bool) := ((clock_has.f a1).bind fun t1 => (if t1 = true then (if 0 ≤ a1 ∧ a1 < 32 then some (((a0).left).getD (a1).toNat 0, decide ((((a0).left).getD (a1).toNat 0) > 0)) else none) else some (0, false)))
set_option maxRecDepth 100000 in
set_option maxHeartbeats 4000000 in
theorem clock_Set_Left.calls (a0 : clock_Set) (a1 : Int) (R : As) (w0 w : World) (b0 : Nat) (r : Int × Bool)  (H : clock_Set_Left.f a0 a1 = some r) (HS : Sep.St [clock_Set.at b0 (a0), R] w0 w) : Calls Try.prog 12 #[Value.pointer (some ⟨b0, 0, none⟩), Value.int .i64 (a1)] w (Ret fun u w => u = Value.tuple #[Value.int .i64 (r.1), Value.bool (r.2)] ∧ Sep.St [clock_Set.at b0 a0, R] w0 w) := by
  unfold clock_Set_Left.f at H
  refine calls_enter Try.func12 rfl rfl ?_
  have H : _ = some r := H
  refine V.seq ?_
  refine V.region ?_
  refine W.rd (X.assign rfl) rfl rfl rfl ?_
  refine W.rd (X.assign rfl) rfl rfl rfl ?_
  refine W.nil ?_
  refine At.next ?_
  refine V.keep [(0, Value.pointer (some ⟨b0, 0, none⟩)), (1, Value.int .i64 (a1))] ⟨rfl, rfl, trivial⟩ ?_
  refine V.seq ?_
  refine V.seq ?_
  refine V.region ?_
  refine W.rd (X.move rfl) rfl rfl rfl ?_
  obtain ⟨t1, A2, H⟩ := bind_s H
  refine W.ev (Y.call Try.func21 (by kernel_rfl) rfl (vs := [Value.int .i64 (a1)]) rfl (clock_has.calls a1 _ w0 _  t1  A2 (Sep.St.tailJoin (m := []) (r := [clock_Set.at b0 (a0), R]) HS))) rfl rfl rfl ?_
  rintro _ w ⟨rfl, HS⟩
  replace HS := Sep.St.tailOpen (m := []) (r := [clock_Set.at b0 (a0), R]) HS
  have HS : Sep.St [clock_Set.at b0 (a0), R] w0 w := HS
  refine W.rd (X.not rfl) rfl rfl rfl ?_
  refine W.nil ?_
  refine At.next ?_
  refine V.keep [(0, Value.pointer (some ⟨b0, 0, none⟩)), (1, Value.int .i64 (a1)), (8, Value.bool (!(t1)))] ⟨rfl, rfl, rfl, trivial⟩ ?_
  by_cases c3 : t1 = true
  · replace H := ite_t c3 H
    refine V.condF (sb (n_t c3)) ?_
    refine V.skip ?_
    refine At.next ?_
    refine V.keep [(0, Value.pointer (some ⟨b0, 0, none⟩)), (1, Value.int .i64 (a1))] ⟨rfl, rfl, trivial⟩ ?_
    refine V.seq ?_
    obtain ⟨hi5, HS⟩ := clock_Set.open HS
    have HS : Sep.St [blk b0 (([Value.int .u32 ((a0).now)] ++ ((a0).left).map (Value.int .i64)).toArray) 45, R] w0 w := HS
    obtain ⟨c6, H⟩ := ite_n H
    refine V.draw (es := []) (bl := []) (f := [(9, Value.pointer (some ⟨b0, 0, none⟩)), (10, Value.int .i64 (a1)), (11, Value.pointer (some ⟨b0, 0, none⟩)), (12, Value.pointer (some ⟨b0, 0 + 1, none⟩)), (13, Value.pointer (some ⟨b0, 0 + 1 + (a1).toNat * 1, none⟩)), (14, Value.int .i64 (((a0).left).getD (a1).toNat 0)), (15, Value.pointer (some ⟨b0, 0, none⟩)), (16, Value.int .i64 (a1)), (17, Value.pointer (some ⟨b0, 0, none⟩)), (18, Value.pointer (some ⟨b0, 0 + 1, none⟩)), (19, Value.pointer (some ⟨b0, 0 + 1 + (a1).toNat * 1, none⟩)), (20, Value.int .i64 (((a0).left).getD (a1).toNat 0)), (21, Value.bool (decide ((((a0).left).getD (a1).toNat 0) > 0))), (4, Value.int .i64 (((a0).left).getD (a1).toNat 0)), (5, Value.bool (decide ((((a0).left).getD (a1).toNat 0) > 0)))]) (fun w => Sep.St [blk b0 (([Value.int .u32 ((a0).now)] ++ ((a0).left).map (Value.int .i64)).toArray) 45, R] w0 w) mo HS.drew rfl ?_
    refine T.fin [(4, Value.int .i64 (((a0).left).getD (a1).toNat 0)), (5, Value.bool (decide ((((a0).left).getD (a1).toNat 0) > 0)))] rfl ⟨⟨_, Value.pointer (some ⟨b0, 0, none⟩), [(0, Value.pointer (some ⟨b0, 0, none⟩))], 9, rfl, rfl, ⟨.inl ⟨rfl, rfl⟩, trivial⟩, .run rfl (fun w HS => X.move rfl), rfl, rfl, rfl⟩, ⟨_, Value.int .i64 (a1), [(1, Value.int .i64 (a1))], 10, rfl, rfl, ⟨.inl ⟨rfl, rfl⟩, trivial⟩, .run rfl (fun w HS => X.move rfl), rfl, rfl, rfl⟩, ⟨_, Value.pointer (some ⟨b0, 0, none⟩), [(9, Value.pointer (some ⟨b0, 0, none⟩))], 11, rfl, rfl, ⟨.inr ⟨rfl, rfl⟩, trivial⟩, .run rfl (fun w HS => X.nilCheck rfl), rfl, rfl, rfl⟩, ⟨_, Value.pointer (some ⟨b0, 0 + 1, none⟩), [(11, Value.pointer (some ⟨b0, 0, none⟩))], 12, rfl, rfl, ⟨.inr ⟨rfl, rfl⟩, trivial⟩, .run rfl (fun w HS => X.fieldAddr 1 fo45_1 rfl), rfl, rfl, rfl⟩, ⟨_, Value.pointer (some ⟨b0, 0 + 1 + (a1).toNat * 1, none⟩), [(10, Value.int .i64 (a1)), (12, Value.pointer (some ⟨b0, 0 + 1, none⟩))], 13, rfl, rfl, ⟨.inr ⟨rfl, rfl⟩, ⟨.inr ⟨rfl, rfl⟩, trivial⟩⟩, .run rfl (fun w HS => X.indexAr Try.underlying43 inf3 rfl rfl c6.1 c6.2), rfl, rfl, rfl⟩, ⟨_, Value.int .i64 (((a0).left).getD (a1).toNat 0), [(13, Value.pointer (some ⟨b0, 0 + 1 + (a1).toNat * 1, none⟩))], 14, rfl, rfl, ⟨.inr ⟨rfl, rfl⟩, trivial⟩, .run rfl (fun w HS => X.load Try.underlying3 rfl rfl (cellArr 0 HS rfl rfl c6.1 c6.2 (by first | exact hi5 | (simp only [List.length_set]; exact hi5)))), rfl, rfl, rfl⟩, ⟨_, Value.pointer (some ⟨b0, 0, none⟩), [(0, Value.pointer (some ⟨b0, 0, none⟩))], 15, rfl, rfl, ⟨.inl ⟨rfl, rfl⟩, trivial⟩, .run rfl (fun w HS => X.move rfl), rfl, rfl, rfl⟩, ⟨_, Value.int .i64 (a1), [(1, Value.int .i64 (a1))], 16, rfl, rfl, ⟨.inl ⟨rfl, rfl⟩, trivial⟩, .run rfl (fun w HS => X.move rfl), rfl, rfl, rfl⟩, ⟨_, Value.pointer (some ⟨b0, 0, none⟩), [(15, Value.pointer (some ⟨b0, 0, none⟩))], 17, rfl, rfl, ⟨.inr ⟨rfl, rfl⟩, trivial⟩, .run rfl (fun w HS => X.nilCheck rfl), rfl, rfl, rfl⟩, ⟨_, Value.pointer (some ⟨b0, 0 + 1, none⟩), [(17, Value.pointer (some ⟨b0, 0, none⟩))], 18, rfl, rfl, ⟨.inr ⟨rfl, rfl⟩, trivial⟩, .run rfl (fun w HS => X.fieldAddr 1 fo45_1 rfl), rfl, rfl, rfl⟩, ⟨_, Value.pointer (some ⟨b0, 0 + 1 + (a1).toNat * 1, none⟩), [(16, Value.int .i64 (a1)), (18, Value.pointer (some ⟨b0, 0 + 1, none⟩))], 19, rfl, rfl, ⟨.inr ⟨rfl, rfl⟩, ⟨.inr ⟨rfl, rfl⟩, trivial⟩⟩, .run rfl (fun w HS => X.indexAr Try.underlying43 inf3 rfl rfl c6.1 c6.2), rfl, rfl, rfl⟩, ⟨_, Value.int .i64 (((a0).left).getD (a1).toNat 0), [(19, Value.pointer (some ⟨b0, 0 + 1 + (a1).toNat * 1, none⟩))], 20, rfl, rfl, ⟨.inr ⟨rfl, rfl⟩, trivial⟩, .run rfl (fun w HS => X.load Try.underlying3 rfl rfl (cellArr 0 HS rfl rfl c6.1 c6.2 (by first | exact hi5 | (simp only [List.length_set]; exact hi5)))), rfl, rfl, rfl⟩, ⟨_, Value.bool (decide ((((a0).left).getD (a1).toNat 0) > 0)), [(20, Value.int .i64 (((a0).left).getD (a1).toNat 0))], 21, rfl, rfl, ⟨.inr ⟨rfl, rfl⟩, trivial⟩, .run rfl (fun w HS => X.cmp (decide ((((a0).left).getD (a1).toNat 0) > 0)) rfl rfl rfl rfl), rfl, rfl, rfl⟩, ⟨_, Value.int .i64 (((a0).left).getD (a1).toNat 0), [(14, Value.int .i64 (((a0).left).getD (a1).toNat 0))], 4, rfl, rfl, ⟨.inr ⟨rfl, rfl⟩, trivial⟩, .run rfl (fun w HS => X.assign rfl), rfl, rfl, rfl⟩, ⟨_, Value.bool (decide ((((a0).left).getD (a1).toNat 0) > 0)), [(21, Value.bool (decide ((((a0).left).getD (a1).toNat 0) > 0)))], 5, rfl, rfl, ⟨.inr ⟨rfl, rfl⟩, trivial⟩, .run rfl (fun w HS => X.assign rfl), rfl, rfl, rfl⟩, trivial⟩ ⟨.inr ⟨rfl, rfl⟩, ⟨.inr ⟨rfl, rfl⟩, trivial⟩⟩ (fun w HS => ?_)
    have HS : Sep.St [blk b0 (([Value.int .u32 ((a0).now)] ++ ((a0).left).map (Value.int .i64)).toArray) 45, R] w0 w := HS
    refine At.next ?_
    refine V.keep [(4, Value.int .i64 (((a0).left).getD (a1).toNat 0)), (5, Value.bool (decide ((((a0).left).getD (a1).toNat 0) > 0)))] ⟨rfl, rfl, trivial⟩ ?_
    refine V.ret ?_
    replace HS := clock_Set.close (a0) (by first | exact hi5 | (simp only [List.length_set]; exact hi5)) HS
    have HS : Sep.St [clock_Set.at b0 (a0), R] w0 w := HS
    cases H
    exact At.ret2 rfl rfl rfl ⟨_, rfl, rfl, HS⟩
  · replace H := ite_f c3 H
    refine V.condT (sb (n_f (b_f c3))) ?_
    refine V.seq ?_
    refine V.region ?_
    refine W.rd (X.assign rfl) rfl rfl rfl ?_
    refine W.rd (X.assign rfl) rfl rfl rfl ?_
    refine W.nil ?_
    refine At.next ?_
    refine V.keep [(4, Value.int .i64 (0)), (5, Value.bool (false))] ⟨rfl, rfl, trivial⟩ ?_
    refine V.ret ?_
    refine At.thenRet ?_
    cases H
    exact At.ret2 rfl rfl rfl ⟨_, rfl, rfl, HS⟩

/-! ### (*signalman/clock.Set).Stop: function 13 -/
def clock_Set_Stop.f (a0 : clock_Set) (a1 : Int) : Option (Bool × clock_Set) := ((clock_Set_Left.f a0 a1).bind fun t1 => (if t1.2 = true then (if 0 ≤ a1 ∧ a1 < 32 then some (t1.2, ({ now := (a0).now, left := ((a0).left).set (a1).toNat (0) } : clock_Set)) else none) else some (t1.2, a0)))
set_option maxRecDepth 100000 in
set_option maxHeartbeats 4000000 in
theorem clock_Set_Stop.calls (a0 : clock_Set) (a1 : Int) (R : As) (w0 w : World) (b0 : Nat) (r : Bool × clock_Set)  (H : clock_Set_Stop.f a0 a1 = some r) (HS : Sep.St [clock_Set.at b0 (a0), R] w0 w) : Calls Try.prog 13 #[Value.pointer (some ⟨b0, 0, none⟩), Value.int .i64 (a1)] w (Ret fun u w => u = Value.bool (r.1) ∧ Sep.St [clock_Set.at b0 (r.2), R] w0 w) := by
  unfold clock_Set_Stop.f at H
  refine calls_enter Try.func13 rfl rfl ?_
  have H : _ = some r := H
  refine V.seq ?_
  refine V.region ?_
  refine W.rd (X.assign rfl) rfl rfl rfl ?_
  refine W.nil ?_
  refine At.next ?_
  refine V.keep [(0, Value.pointer (some ⟨b0, 0, none⟩)), (1, Value.int .i64 (a1))] ⟨rfl, rfl, trivial⟩ ?_
  refine V.seq ?_
  refine V.region ?_
  refine W.rd (X.move rfl) rfl rfl rfl ?_
  refine W.rd (X.move rfl) rfl rfl rfl ?_
  obtain ⟨t1, A2, H⟩ := bind_s H
  refine W.ev (Y.call Try.func12 (by kernel_rfl) rfl (vs := [Value.pointer (some ⟨b0, 0, none⟩), Value.int .i64 (a1)]) rfl (clock_Set_Left.calls a0 a1 _ w0 _ b0 t1  A2 (Sep.St.tailJoin (m := [clock_Set.at b0 (a0)]) (r := [R]) HS))) rfl rfl rfl ?_
  rintro _ w ⟨rfl, HS⟩
  replace HS := Sep.St.tailOpen (m := [clock_Set.at b0 (a0)]) (r := [R]) HS
  have HS : Sep.St [clock_Set.at b0 (a0), R] w0 w := HS
  refine W.rd (X.move rfl) rfl rfl rfl ?_
  refine W.rd (X.extract rfl rfl) rfl rfl rfl ?_
  refine W.rd (X.extract rfl rfl) rfl rfl rfl ?_
  refine W.rd (X.assign rfl) rfl rfl rfl ?_
  refine W.rd (X.assign rfl) rfl rfl rfl ?_
  refine W.nil ?_
  refine At.next ?_
  refine V.keep [(0, Value.pointer (some ⟨b0, 0, none⟩)), (1, Value.int .i64 (a1)), (6, Value.bool (t1.2))] ⟨rfl, rfl, rfl, trivial⟩ ?_
  refine V.seq ?_
  refine V.seq ?_
  refine V.region ?_
  refine W.rd (X.move rfl) rfl rfl rfl ?_
  refine W.nil ?_
  refine At.next ?_
  refine V.keep [(0, Value.pointer (some ⟨b0, 0, none⟩)), (1, Value.int .i64 (a1)), (6, Value.bool (t1.2)), (13, Value.bool (t1.2))] ⟨rfl, rfl, rfl, rfl, trivial⟩ ?_
  by_cases c3 : t1.2 = true
  · replace H := ite_t c3 H
    refine V.condT (sb c3) ?_
    refine V.region ?_
    refine W.rd (X.move rfl) rfl rfl rfl ?_
    refine W.rd (X.move rfl) rfl rfl rfl ?_
    refine W.rd (X.nilCheck rfl) rfl rfl rfl ?_
    obtain ⟨hi5, HS⟩ := clock_Set.open HS
    have HS : Sep.St [blk b0 (([Value.int .u32 ((a0).now)] ++ ((a0).left).map (Value.int .i64)).toArray) 45, R] w0 w := HS
    refine W.rd (X.fieldAddr 1 fo45_1 rfl) rfl rfl rfl ?_
    obtain ⟨c6, H⟩ := ite_n H
    refine W.rd (X.indexAr Try.underlying43 inf3 rfl rfl c6.1 c6.2) rfl rfl rfl ?_
    refine W.ev_none (Y.storeArr 0 HS rfl rfl inf3 rfl rfl c6.1 c6.2 (by first | exact hi5 | (simp only [List.length_set]; exact hi5))) rfl rfl ?_
    rintro _ w HS
    have HS : Sep.St [blk b0 (([Value.int .u32 ((a0).now)] ++ (((a0).left).set (a1).toNat (0)).map (Value.int .i64)).toArray) 45, R] w0 w := HS
    refine W.nil ?_
    refine At.next ?_
    refine V.keep [(6, Value.bool (t1.2))] ⟨rfl, trivial⟩ ?_
    refine V.seq ?_
    refine V.region ?_
    refine W.rd (X.move rfl) rfl rfl rfl ?_
    refine W.rd (X.assign rfl) rfl rfl rfl ?_
    refine W.nil ?_
    refine At.next ?_
    refine V.keep [(4, Value.bool (t1.2))] ⟨rfl, trivial⟩ ?_
    refine V.ret ?_
    replace HS := clock_Set.close (({ now := (a0).now, left := ((a0).left).set (a1).toNat (0) } : clock_Set)) (by first | exact hi5 | (simp only [List.length_set]; exact hi5)) HS
    have HS : Sep.St [clock_Set.at b0 (({ now := (a0).now, left := ((a0).left).set (a1).toNat (0) } : clock_Set)), R] w0 w := HS
    cases H
    exact At.ret1 rfl rfl ⟨_, rfl, rfl, HS⟩
  · replace H := ite_f c3 H
    refine V.condF (sb (b_f c3)) ?_
    refine V.skip ?_
    refine At.next ?_
    refine V.keep [(6, Value.bool (t1.2))] ⟨rfl, trivial⟩ ?_
    refine V.seq ?_
    refine V.region ?_
    refine W.rd (X.move rfl) rfl rfl rfl ?_
    refine W.rd (X.assign rfl) rfl rfl rfl ?_
    refine W.nil ?_
    refine At.next ?_
    refine V.keep [(4, Value.bool (t1.2))] ⟨rfl, trivial⟩ ?_
    refine V.ret ?_
    cases H
    exact At.ret1 rfl rfl ⟨_, rfl, rfl, HS⟩

/-! ### signalman/signalmanref6.SameInts: function 11 -/
mutual
def signalmanref6_SameInts.l0 : Nat → (List Int) → (List Int) → Int → Option (Bool)
  | 0, _, _, _ => none
  | k + 1, a0, a1, x2 => (if x2 < ((a0).length : Int) then (if 0 ≤ x2 ∧ x2 < ((a0).length : Int) then (if 0 ≤ x2 ∧ x2 < ((a1).length : Int) then (if ((a0).getD (x2).toNat 0) = ((a1).getD (x2).toNat 0) then (signalmanref6_SameInts.l0 k a0 a1 (w64 (x2 + 1))) else some (false)) else none) else none) else some (true))
end
def signalmanref6_SameInts.f (k : Nat) (a0 : List Int) (a1 : List Int) : Option (Bool) := (if ((a0).length : Int) = ((a1).length : Int) then (signalmanref6_SameInts.l0 k a0 a1 0) else some (false))
set_option maxRecDepth 100000 in
set_option maxHeartbeats 4000000 in
theorem signalmanref6_SameInts.calls (k : Nat) (a0 : List Int) (a1 : List Int) (R : As) (w0 w : World) (sa0 : Option Addr) (sc0 : Nat) (sa1 : Option Addr) (sc1 : Nat) (r : Bool) (hr0 : rdC R 1 (.slice sa0 (a0).length sc0) (a0).length ((a0).map (Value.int .i64))) (hr1 : rdC R 1 (.slice sa1 (a1).length sc1) (a1).length ((a1).map (Value.int .i64))) (H : signalmanref6_SameInts.f k a0 a1 = some r) (HS : Sep.St [R] w0 w) : Calls Try.prog 11 #[Value.slice sa0 (a0).length sc0, Value.slice sa1 (a1).length sc1] w (Ret fun u w => u = Value.bool (r) ∧ Sep.St [R] w0 w) := by
  unfold signalmanref6_SameInts.f at H
  refine calls_enter Try.func11 rfl rfl ?_
  have H : _ = some r := H
  refine V.seq ?_
  refine V.region ?_
  refine W.rd (X.assign rfl) rfl rfl rfl ?_
  refine W.nil ?_
  refine At.next ?_
  refine V.keep [(0, Value.slice sa0 (a0).length sc0), (1, Value.slice sa1 (a1).length sc1)] ⟨rfl, rfl, trivial⟩ ?_
  refine V.seq ?_
  refine V.seq ?_
  refine V.region ?_
  refine W.rd (X.move rfl) rfl rfl rfl ?_
  refine W.rd (X.lenSl Try.underlying22 rfl) rfl rfl rfl ?_
  refine W.rd (X.move rfl) rfl rfl rfl ?_
  refine W.rd (X.lenSl Try.underlying22 rfl) rfl rfl rfl ?_
  refine W.rd (X.cmp (!(decide (((a0).length : Int) = ((a1).length : Int)))) rfl rfl rfl rfl) rfl rfl rfl ?_
  refine W.nil ?_
  refine At.next ?_
  refine V.keep [(0, Value.slice sa0 (a0).length sc0), (1, Value.slice sa1 (a1).length sc1), (10, Value.bool (!(decide (((a0).length : Int) = ((a1).length : Int)))))] ⟨rfl, rfl, rfl, trivial⟩ ?_
  by_cases c1 : ((a0).length : Int) = ((a1).length : Int)
  · replace H := ite_t c1 H
    refine V.condF (sb (n_t (decide_eq_true c1))) ?_
    refine V.skip ?_
    refine At.next ?_
    refine V.keep [(0, Value.slice sa0 (a0).length sc0), (1, Value.slice sa1 (a1).length sc1)] ⟨rfl, rfl, trivial⟩ ?_
    refine V.seq ?_
    refine V.seq ?_
    refine V.region ?_
    refine W.rd (X.assign rfl) rfl rfl rfl ?_
    refine W.nil ?_
    refine At.next ?_
    refine V.keep [(0, Value.slice sa0 (a0).length sc0), (1, Value.slice sa1 (a1).length sc1), (5, Value.int .i64 (0))] ⟨rfl, rfl, rfl, trivial⟩ ?_
    refine V.block ?_
    refine V.loop (σ := Int) (fun kq (st : Int) w => match st with | x2 => Sep.St [R] w0 w ∧ signalmanref6_SameInts.l0 kq a0 a1 x2 = some r ∧ kq ≤ k) (fun st => match st with | x2 => [(0, Value.slice sa0 (a0).length sc0), (1, Value.slice sa1 (a1).length sc1), (5, Value.int .i64 (x2))]) k (0) ⟨rfl, rfl, rfl, trivial⟩ ⟨HS, H, Nat.le_refl _⟩ ?_
    rintro kq3 x2 w ⟨HS, H, hk4⟩
    cases kq3 with
    | zero => exact absurd H (by simp [signalmanref6_SameInts.l0])
    | succ kq3 =>
      simp only [signalmanref6_SameInts.l0] at H
      have HS : Sep.St [R] w0 w := HS
      refine V.seq ?_
      refine V.seq ?_
      refine V.region ?_
      refine W.rd (X.move rfl) rfl rfl rfl ?_
      refine W.rd (X.move rfl) rfl rfl rfl ?_
      refine W.rd (X.lenSl Try.underlying22 rfl) rfl rfl rfl ?_
      refine W.rd (X.cmp (decide (x2 < ((a0).length : Int))) rfl rfl rfl rfl) rfl rfl rfl ?_
      refine W.nil ?_
      refine At.next ?_
      refine V.keep [(0, Value.slice sa0 (a0).length sc0), (1, Value.slice sa1 (a1).length sc1), (5, Value.int .i64 (x2)), (14, Value.bool (decide (x2 < ((a0).length : Int))))] ⟨rfl, rfl, rfl, rfl, trivial⟩ ?_
      by_cases c5 : x2 < ((a0).length : Int)
      · replace H := ite_t c5 H
        refine V.condT (sb (decide_eq_true c5)) ?_
        refine V.skip ?_
        refine At.next ?_
        refine V.keep [(0, Value.slice sa0 (a0).length sc0), (1, Value.slice sa1 (a1).length sc1), (5, Value.int .i64 (x2))] ⟨rfl, rfl, rfl, trivial⟩ ?_
        refine V.seq ?_
        refine V.block ?_
        refine V.seq ?_
        obtain ⟨c6, H⟩ := ite_n H
        obtain ⟨eb7, eo8, hh⟩ := ((rdC.at 0 hr0 HS rfl)).some (by decide) c6.1 c6.2; subst hh
        obtain ⟨c9, H⟩ := ite_n H
        obtain ⟨eb10, eo11, hh⟩ := ((rdC.at 0 hr1 HS rfl)).some (by decide) c9.1 c9.2; subst hh
        refine V.draw (es := []) (bl := []) (f := [(17, Value.slice (some ⟨eb7, eo8, none⟩) (a0).length sc0), (18, Value.int .i64 (x2)), (19, Value.pointer (some ⟨eb7, eo8 + (x2).toNat * 1, none⟩)), (20, Value.int .i64 ((a0).getD (x2).toNat 0)), (21, Value.slice (some ⟨eb10, eo11, none⟩) (a1).length sc1), (22, Value.int .i64 (x2)), (23, Value.pointer (some ⟨eb10, eo11 + (x2).toNat * 1, none⟩)), (24, Value.int .i64 ((a1).getD (x2).toNat 0)), (25, Value.bool (!(decide (((a0).getD (x2).toNat 0) = ((a1).getD (x2).toNat 0)))))]) (fun w => Sep.St [R] w0 w) mo HS.drew rfl ?_
        refine T.fin [(0, Value.slice (some ⟨eb7, eo8, none⟩) (a0).length sc0), (1, Value.slice (some ⟨eb10, eo11, none⟩) (a1).length sc1), (5, Value.int .i64 (x2)), (25, Value.bool (!(decide (((a0).getD (x2).toNat 0) = ((a1).getD (x2).toNat 0)))))] rfl ⟨⟨_, Value.slice (some ⟨eb7, eo8, none⟩) (a0).length sc0, [(0, Value.slice (some ⟨eb7, eo8, none⟩) (a0).length sc0)], 17, rfl, rfl, ⟨.inl ⟨rfl, rfl⟩, trivial⟩, .run rfl (fun w HS => X.move rfl), rfl, rfl, rfl⟩, ⟨_, Value.int .i64 (x2), [(5, Value.int .i64 (x2))], 18, rfl, rfl, ⟨.inl ⟨rfl, rfl⟩, trivial⟩, .run rfl (fun w HS => X.move rfl), rfl, rfl, rfl⟩, ⟨_, Value.pointer (some ⟨eb7, eo8 + (x2).toNat * 1, none⟩), [(17, Value.slice (some ⟨eb7, eo8, none⟩) (a0).length sc0), (18, Value.int .i64 (x2))], 19, rfl, rfl, ⟨.inr ⟨rfl, rfl⟩, ⟨.inr ⟨rfl, rfl⟩, trivial⟩⟩, .run rfl (fun w HS => X.indexSl Try.underlying22 inf3 rfl rfl c6.1 c6.2), rfl, rfl, rfl⟩, ⟨_, Value.int .i64 ((a0).getD (x2).toNat 0), [(19, Value.pointer (some ⟨eb7, eo8 + (x2).toNat * 1, none⟩))], 20, rfl, rfl, ⟨.inr ⟨rfl, rfl⟩, trivial⟩, .run rfl (fun w HS => X.load Try.underlying3 rfl rfl (((rdC.at 0 hr0 HS rfl)).cellI c6.1 c6.2)), rfl, rfl, rfl⟩, ⟨_, Value.slice (some ⟨eb10, eo11, none⟩) (a1).length sc1, [(1, Value.slice (some ⟨eb10, eo11, none⟩) (a1).length sc1)], 21, rfl, rfl, ⟨.inl ⟨rfl, rfl⟩, trivial⟩, .run rfl (fun w HS => X.move rfl), rfl, rfl, rfl⟩, ⟨_, Value.int .i64 (x2), [(5, Value.int .i64 (x2))], 22, rfl, rfl, ⟨.inl ⟨rfl, rfl⟩, trivial⟩, .run rfl (fun w HS => X.move rfl), rfl, rfl, rfl⟩, ⟨_, Value.pointer (some ⟨eb10, eo11 + (x2).toNat * 1, none⟩), [(21, Value.slice (some ⟨eb10, eo11, none⟩) (a1).length sc1), (22, Value.int .i64 (x2))], 23, rfl, rfl, ⟨.inr ⟨rfl, rfl⟩, ⟨.inr ⟨rfl, rfl⟩, trivial⟩⟩, .run rfl (fun w HS => X.indexSl Try.underlying22 inf3 rfl rfl c9.1 c9.2), rfl, rfl, rfl⟩, ⟨_, Value.int .i64 ((a1).getD (x2).toNat 0), [(23, Value.pointer (some ⟨eb10, eo11 + (x2).toNat * 1, none⟩))], 24, rfl, rfl, ⟨.inr ⟨rfl, rfl⟩, trivial⟩, .run rfl (fun w HS => X.load Try.underlying3 rfl rfl (((rdC.at 0 hr1 HS rfl)).cellI c9.1 c9.2)), rfl, rfl, rfl⟩, ⟨_, Value.bool (!(decide (((a0).getD (x2).toNat 0) = ((a1).getD (x2).toNat 0)))), [(20, Value.int .i64 ((a0).getD (x2).toNat 0)), (24, Value.int .i64 ((a1).getD (x2).toNat 0))], 25, rfl, rfl, ⟨.inr ⟨rfl, rfl⟩, ⟨.inr ⟨rfl, rfl⟩, trivial⟩⟩, .run rfl (fun w HS => X.cmp (!(decide (((a0).getD (x2).toNat 0) = ((a1).getD (x2).toNat 0)))) rfl rfl rfl rfl), rfl, rfl, rfl⟩, trivial⟩ ⟨.inl ⟨rfl, rfl⟩, ⟨.inl ⟨rfl, rfl⟩, ⟨.inl ⟨rfl, rfl⟩, ⟨.inr ⟨rfl, rfl⟩, trivial⟩⟩⟩⟩ (fun w HS => ?_)
        have HS : Sep.St [R] w0 w := HS
        refine At.next ?_
        refine V.keep [(0, Value.slice (some ⟨eb7, eo8, none⟩) (a0).length sc0), (1, Value.slice (some ⟨eb10, eo11, none⟩) (a1).length sc1), (5, Value.int .i64 (x2)), (25, Value.bool (!(decide (((a0).getD (x2).toNat 0) = ((a1).getD (x2).toNat 0)))))] ⟨rfl, rfl, rfl, rfl, trivial⟩ ?_
        by_cases c12 : ((a0).getD (x2).toNat 0) = ((a1).getD (x2).toNat 0)
        · replace H := ite_t c12 H
          refine V.condF (sb (n_t (decide_eq_true c12))) ?_
          refine V.skip ?_
          refine At.blockEnd ?_
          refine At.next ?_
          refine V.keep [(0, Value.slice (some ⟨eb7, eo8, none⟩) (a0).length sc0), (1, Value.slice (some ⟨eb10, eo11, none⟩) (a1).length sc1), (5, Value.int .i64 (x2))] ⟨rfl, rfl, rfl, trivial⟩ ?_
          refine V.region ?_
          refine W.rd (X.move rfl) rfl rfl rfl ?_
          refine W.rd (X.add rfl rfl) rfl rfl rfl ?_
          refine W.rd (X.assign rfl) rfl rfl rfl ?_
          refine W.nil ?_
          exact At.round kq3 (by omega) (w64 (x2 + 1)) ⟨rfl, rfl, rfl, trivial⟩ ⟨HS, H, by omega⟩
        · replace H := ite_f c12 H
          refine V.condT (sb (n_f (decide_eq_false c12))) ?_
          refine V.seq ?_
          refine V.region ?_
          refine W.rd (X.assign rfl) rfl rfl rfl ?_
          refine W.nil ?_
          refine At.next ?_
          refine V.keep [(4, Value.bool (false))] ⟨rfl, trivial⟩ ?_
          refine V.ret ?_
          refine At.blockRet ?_
          refine At.thenRet ?_
          refine At.thenRet ?_
          refine At.blockRet ?_
          refine At.thenRet ?_
          cases H
          exact At.ret1 rfl rfl ⟨_, rfl, rfl, HS⟩
      · replace H := ite_f c5 H
        refine V.condF (sb (decide_eq_false c5)) ?_
        refine V.exit ?_
        refine At.thenExit ?_
        refine At.thenExit ?_
        refine At.blockExit ?_
        refine At.next ?_
        refine V.keep [] trivial ?_
        refine V.seq ?_
        refine V.region ?_
        refine W.rd (X.assign rfl) rfl rfl rfl ?_
        refine W.nil ?_
        refine At.next ?_
        refine V.keep [(4, Value.bool (true))] ⟨rfl, trivial⟩ ?_
        refine V.ret ?_
        cases H
        exact At.ret1 rfl rfl ⟨_, rfl, rfl, HS⟩
  · replace H := ite_f c1 H
    refine V.condT (sb (n_f (decide_eq_false c1))) ?_
    refine V.seq ?_
    refine V.region ?_
    refine W.rd (X.assign rfl) rfl rfl rfl ?_
    refine W.nil ?_
    refine At.next ?_
    refine V.keep [(4, Value.bool (false))] ⟨rfl, trivial⟩ ?_
    refine V.ret ?_
    refine At.thenRet ?_
    cases H
    exact At.ret1 rfl rfl ⟨_, rfl, rfl, HS⟩

/-! ### (*signalman/clock.Set).Now: function 19 -/
def clock_Set_Now.f (a0 : clock_Set) : Option (Int) := some ((a0).now)
set_option maxRecDepth 100000 in
set_option maxHeartbeats 4000000 in
theorem clock_Set_Now.calls (a0 : clock_Set) (R : As) (w0 w : World) (b0 : Nat) (r : Int)  (H : clock_Set_Now.f a0 = some r) (HS : Sep.St [clock_Set.at b0 (a0), R] w0 w) : Calls Try.prog 19 #[Value.pointer (some ⟨b0, 0, none⟩)] w (Ret fun u w => u = Value.int .u32 (r) ∧ Sep.St [clock_Set.at b0 a0, R] w0 w) := by
  unfold clock_Set_Now.f at H
  refine calls_enter Try.func19 rfl rfl ?_
  have H : _ = some r := H
  refine V.seq ?_
  refine V.region ?_
  refine W.rd (X.assign rfl) rfl rfl rfl ?_
  refine W.nil ?_
  refine At.next ?_
  refine V.keep [(0, Value.pointer (some ⟨b0, 0, none⟩))] ⟨rfl, trivial⟩ ?_
  refine V.seq ?_
  refine V.region ?_
  refine W.rd (X.move rfl) rfl rfl rfl ?_
  refine W.rd (X.nilCheck rfl) rfl rfl rfl ?_
  obtain ⟨hi2, HS⟩ := clock_Set.open HS
  have HS : Sep.St [blk b0 (([Value.int .u32 ((a0).now)] ++ ((a0).left).map (Value.int .i64)).toArray) 45, R] w0 w := HS
  refine W.rd (X.fieldAddr 0 fo45_0 rfl) rfl rfl rfl ?_
  refine W.rd (X.loadAt 0 HS rfl Try.underlying26 rfl rfl rfl) rfl rfl rfl ?_
  refine W.rd (X.assign rfl) rfl rfl rfl ?_
  refine W.nil ?_
  refine At.next ?_
  refine V.keep [(2, Value.int .u32 ((a0).now))] ⟨rfl, trivial⟩ ?_
  refine V.ret ?_
  replace HS := clock_Set.close (a0) (by first | exact hi2 | (simp only [List.length_set]; exact hi2)) HS
  have HS : Sep.St [clock_Set.at b0 (a0), R] w0 w := HS
  cases H
  exact At.ret1 rfl rfl ⟨_, rfl, rfl, HS⟩

structure signalmanlaw7_Act where
  Way : Int
  Id : Int
  N : Int
deriving DecidableEq, Inhabited

def signalmanlaw7_Act.El : El signalmanlaw7_Act := El.iso (El.prod (El.int .i64) (El.prod (El.int .i64) (El.prod (El.int .i64) (El.unit)))) (fun x => (x.Way, (x.Id, (x.N, ()))))
theorem signalmanlaw7_Act.unpack {c : List Value} {x : signalmanlaw7_Act} {L : List As} {w0 w : World} (hs : Sep.St (signalmanlaw7_Act.El.p c x :: L) w0 w) : c = [Value.int .i64 (x.Way), Value.int .i64 (x.Id), Value.int .i64 (x.N)] ∧ Sep.St (L) w0 w := by
  have hs : Sep.St ((El.prod (El.int .i64) (El.prod (El.int .i64) (El.prod (El.int .i64) (El.unit)))).p c (x.Way, (x.Id, (x.N, ()))) :: L) w0 w := hs
  obtain ⟨c0, r0, e0, hs⟩ := St.prod_open hs
  have hs : Sep.St ((El.int .i64).p c0 x.Way :: (El.prod (El.int .i64) (El.prod (El.int .i64) (El.unit))).p r0 (x.Id, (x.N, ())) :: L) w0 w := hs
  obtain ⟨q0, hs⟩ := St.int_open hs
  have hs : Sep.St ((El.prod (El.int .i64) (El.prod (El.int .i64) (El.unit))).p r0 (x.Id, (x.N, ())) :: L) w0 w := hs
  obtain ⟨c1, r1, e1, hs⟩ := St.prod_open hs
  have hs : Sep.St ((El.int .i64).p c1 x.Id :: (El.prod (El.int .i64) (El.unit)).p r1 (x.N, ()) :: L) w0 w := hs
  obtain ⟨q1, hs⟩ := St.int_open hs
  have hs : Sep.St ((El.prod (El.int .i64) (El.unit)).p r1 (x.N, ()) :: L) w0 w := hs
  obtain ⟨c2, r2, e2, hs⟩ := St.prod_open hs
  have hs : Sep.St ((El.int .i64).p c2 x.N :: (El.unit).p r2 () :: L) w0 w := hs
  obtain ⟨q2, hs⟩ := St.int_open hs
  have hs : Sep.St ((El.unit).p r2 () :: L) w0 w := hs
  obtain ⟨qu, hs⟩ := St.unit_open hs
  exact ⟨by rw [e0, q0, e1, q1, e2, q2, qu]; rfl, hs⟩
theorem signalmanlaw7_Act.pack  {x : signalmanlaw7_Act} {L : List As} {w0 w : World} (hs : Sep.St (L) w0 w) : Sep.St (signalmanlaw7_Act.El.p [Value.int .i64 (x.Way), Value.int .i64 (x.Id), Value.int .i64 (x.N)] x :: L) w0 w := by
  have h1 := St.join (m := []) hs
  exact h1.mono fun h hh => ⟨[Value.int .i64 (x.Way)], [Value.int .i64 (x.Id), Value.int .i64 (x.N)], rfl, rfl, ⟨[Value.int .i64 (x.Id)], [Value.int .i64 (x.N)], rfl, rfl, ⟨[Value.int .i64 (x.N)], [], rfl, rfl, rfl⟩⟩⟩

/-! ### signalman/signalmanlaw7.ClockWraps: function 6 -/
mutual
def signalmanlaw7_ClockWraps.l0 : Nat → Int → Int → (List signalmanlaw7_Act) → Int → clock_Set → clock_Set → Option (Bool)
  | 0, _, _, _, _, _, _ => none
  | k + 1, a0, a1, a2, x12, x13, x14 => (if x12 < ((a2).length : Int) then (if 0 ≤ x12 ∧ x12 < ((a2).length : Int) then (if (((a2).getD (x12).toNat default).Way) = 0 then ((clock_Set_Start.f x14 (((a2).getD (x12).toNat default).Id) (((a2).getD (x12).toNat default).N)).bind fun t25 => ((clock_Set_Start.f x13 (((a2).getD (x12).toNat default).Id) (((a2).getD (x12).toNat default).N)).bind fun t27 => (if ((t25.1) != (t27.1)) = true then some (false) else ((clock_Set_Now.f t25.2).bind fun t30 => ((clock_Set_Now.f t27.2).bind fun t32 => (if (IntKind.u32.wrap (t30 - a0)) = (IntKind.u32.wrap (t32 - a1)) then (signalmanlaw7_ClockWraps.l0 k a0 a1 a2 (w64 (x12 + 1)) t27.2 t25.2) else some (false))))))) else (if (((a2).getD (x12).toNat default).Way) = 1 then ((clock_Set_Stop.f x14 (((a2).getD (x12).toNat default).Id)).bind fun t36 => ((clock_Set_Stop.f x13 (((a2).getD (x12).toNat default).Id)).bind fun t38 => (if ((t36.1) != (t38.1)) = true then some (false) else ((clock_Set_Now.f t36.2).bind fun t41 => ((clock_Set_Now.f t38.2).bind fun t43 => (if (IntKind.u32.wrap (t41 - a0)) = (IntKind.u32.wrap (t43 - a1)) then (signalmanlaw7_ClockWraps.l0 k a0 a1 a2 (w64 (x12 + 1)) t38.2 t36.2) else some (false))))))) else ((clock_Set_Pass.f k x14 (((a2).getD (x12).toNat default).N)).bind fun t46 => ((clock_Set_Pass.f k x13 (((a2).getD (x12).toNat default).N)).bind fun t48 => ((signalmanref6_SameInts.f k t46.1 t48.1).bind fun t50 => (if t50 = true then ((clock_Set_Now.f t46.2).bind fun t53 => ((clock_Set_Now.f t48.2).bind fun t55 => (if (IntKind.u32.wrap (t53 - a0)) = (IntKind.u32.wrap (t55 - a1)) then (signalmanlaw7_ClockWraps.l0 k a0 a1 a2 (w64 (x12 + 1)) t48.2 t46.2) else some (false)))) else some (false))))))) else none) else some (true))
end
def signalmanlaw7_ClockWraps.f (k : Nat) (a0 : Int) (a1 : Int) (a2 : List signalmanlaw7_Act) : Option (Bool) := ((signalmanlaw7_alive.f k ).bind fun t1 => (if t1 = true then (if ((a2).length : Int) > 100 then some (t1) else ((clock_New.f a0).bind fun t5 => ((clock_New.f a1).bind fun t7 => (signalmanlaw7_ClockWraps.l0 k a0 a1 a2 0 t7 t5)))) else some (t1)))
set_option maxRecDepth 100000 in
set_option maxHeartbeats 4000000 in
theorem signalmanlaw7_ClockWraps.calls (k : Nat) (a0 : Int) (a1 : Int) (a2 : List signalmanlaw7_Act) (R : As) (w0 w : World) (sa2 : Option Addr) (sc2 : Nat) (sd2 : List Value) (r : Bool) (hr2 : rdC R 3 (.slice sa2 (a2).length sc2) (a2).length sd2) (ht2 : ∀ h, R h → tie signalmanlaw7_Act.El sd2 a2 h) (H : signalmanlaw7_ClockWraps.f k a0 a1 a2 = some r) (HS : Sep.St [R] w0 w) : Calls Try.prog 6 #[Value.int .u32 (a0), Value.int .u32 (a1), Value.slice sa2 (a2).length sc2] w (Ret fun u w => u = Value.bool (r) ∧ Sep.St [R] w0 w) := by
  unfold signalmanlaw7_ClockWraps.f at H
  refine calls_enter Try.func6 rfl rfl ?_
  have H : _ = some r := H
  replace HS := St.more 0 HS rfl ht2 tie.pers
  have HS : Sep.St [tie signalmanlaw7_Act.El sd2 (a2), R] w0 w := HS
  refine V.seq ?_
  refine V.region ?_
  refine W.rd (X.assign rfl) rfl rfl rfl ?_
  refine W.nil ?_
  refine At.next ?_
  refine V.keep [(0, Value.int .u32 (a0)), (1, Value.int .u32 (a1)), (2, Value.slice sa2 (a2).length sc2)] ⟨rfl, rfl, rfl, trivial⟩ ?_
  refine V.seq ?_
  refine V.region ?_
  obtain ⟨t1, A2, H⟩ := bind_s H
  refine W.ev (Y.call Try.func7 (by kernel_rfl) rfl (vs := []) rfl (signalmanlaw7_alive.calls k  _ w0 _  t1  A2 (Sep.St.tailJoin (m := []) (r := [tie signalmanlaw7_Act.El sd2 (a2), R]) HS))) rfl rfl rfl ?_
  rintro _ w ⟨rfl, HS⟩
  replace HS := Sep.St.tailOpen (m := []) (r := [tie signalmanlaw7_Act.El sd2 (a2), R]) HS
  have HS : Sep.St [tie signalmanlaw7_Act.El sd2 (a2), R] w0 w := HS
  refine W.rd (X.assign rfl) rfl rfl rfl ?_
  refine W.nil ?_
  refine At.next ?_
  refine V.keep [(0, Value.int .u32 (a0)), (1, Value.int .u32 (a1)), (2, Value.slice sa2 (a2).length sc2), (7, Value.bool (t1))] ⟨rfl, rfl, rfl, rfl, trivial⟩ ?_
  refine V.seq ?_
  refine V.seq ?_
  refine V.region ?_
  refine W.rd (X.move rfl) rfl rfl rfl ?_
  refine W.rd (X.not rfl) rfl rfl rfl ?_
  refine W.rd (X.move rfl) rfl rfl rfl ?_
  by_cases c3 : t1 = true
  · replace H := ite_t c3 H
    refine W.want 14 rfl (sb (n_t c3)) ?_
    refine W.rd (X.move rfl) rfl rfl rfl ?_
    refine W.want 14 rfl (sb (n_t c3)) ?_
    refine W.rd (X.lenSl Try.underlying35 rfl) rfl rfl rfl ?_
    refine W.want 14 rfl (sb (n_t c3)) ?_
    refine W.rd (X.cmp (decide (((a2).length : Int) > 100)) rfl rfl rfl rfl) rfl rfl rfl ?_
    refine W.rd (X.pickF (sb (n_t c3)) rfl) rfl rfl rfl ?_
    refine W.nil ?_
    refine At.next ?_
    refine V.keep [(0, Value.int .u32 (a0)), (1, Value.int .u32 (a1)), (2, Value.slice sa2 (a2).length sc2), (7, Value.bool (t1)), (18, Value.bool (decide (((a2).length : Int) > 100)))] ⟨rfl, rfl, rfl, rfl, rfl, trivial⟩ ?_
    by_cases c4 : ((a2).length : Int) > 100
    · replace H := ite_t c4 H
      refine V.condT (sb (decide_eq_true c4)) ?_
      refine V.seq ?_
      refine V.region ?_
      refine W.rd (X.move rfl) rfl rfl rfl ?_
      refine W.rd (X.assign rfl) rfl rfl rfl ?_
      refine W.nil ?_
      refine At.next ?_
      refine V.keep [(6, Value.bool (t1))] ⟨rfl, trivial⟩ ?_
      refine V.ret ?_
      refine At.thenRet ?_
      replace HS := HS.sel [1] [0] rfl
      cases H
      exact At.ret1 rfl rfl ⟨_, rfl, rfl, HS⟩
    · replace H := ite_f c4 H
      refine V.condF (sb (decide_eq_false c4)) ?_
      refine V.skip ?_
      refine At.next ?_
      refine V.keep [(0, Value.int .u32 (a0)), (1, Value.int .u32 (a1)), (2, Value.slice sa2 (a2).length sc2)] ⟨rfl, rfl, rfl, trivial⟩ ?_
      refine V.seq ?_
      refine V.region ?_
      refine W.rd (X.move rfl) rfl rfl rfl ?_
      obtain ⟨t5, A6, H⟩ := bind_s H
      refine W.ev (Y.call Try.func8 (by kernel_rfl) rfl (vs := [Value.int .u32 (a0)]) rfl (clock_New.calls a0 _ w0 _  t5  A6 (Sep.St.tailJoin (m := []) (r := [tie signalmanlaw7_Act.El sd2 (a2), R]) HS))) rfl rfl rfl ?_
      rintro _ w ⟨bt5_0, rfl, HS⟩
      replace HS := Sep.St.tailOpen (m := [clock_Set.at bt5_0 (t5)]) (r := [tie signalmanlaw7_Act.El sd2 (a2), R]) HS
      have HS : Sep.St [clock_Set.at bt5_0 (t5), tie signalmanlaw7_Act.El sd2 (a2), R] w0 w := HS
      refine W.rd (X.assign rfl) rfl rfl rfl ?_
      refine W.nil ?_
      refine At.next ?_
      refine V.keep [(0, Value.int .u32 (a0)), (1, Value.int .u32 (a1)), (2, Value.slice sa2 (a2).length sc2), (8, Value.pointer (some ⟨bt5_0, 0, none⟩))] ⟨rfl, rfl, rfl, rfl, trivial⟩ ?_
      refine V.seq ?_
      refine V.region ?_
      refine W.rd (X.move rfl) rfl rfl rfl ?_
      obtain ⟨t7, A8, H⟩ := bind_s H
      refine W.ev (Y.call Try.func8 (by kernel_rfl) rfl (vs := [Value.int .u32 (a1)]) rfl (clock_New.calls a1 _ w0 _  t7  A8 (Sep.St.tailJoin (m := []) (r := [clock_Set.at bt5_0 (t5), tie signalmanlaw7_Act.El sd2 (a2), R]) HS))) rfl rfl rfl ?_
      rintro _ w ⟨bt7_0, rfl, HS⟩
      replace HS := Sep.St.tailOpen (m := [clock_Set.at bt7_0 (t7)]) (r := [clock_Set.at bt5_0 (t5), tie signalmanlaw7_Act.El sd2 (a2), R]) HS
      have HS : Sep.St [clock_Set.at bt7_0 (t7), clock_Set.at bt5_0 (t5), tie signalmanlaw7_Act.El sd2 (a2), R] w0 w := HS
      refine W.rd (X.assign rfl) rfl rfl rfl ?_
      refine W.nil ?_
      refine At.next ?_
      refine V.keep [(0, Value.int .u32 (a0)), (1, Value.int .u32 (a1)), (2, Value.slice sa2 (a2).length sc2), (8, Value.pointer (some ⟨bt5_0, 0, none⟩)), (9, Value.pointer (some ⟨bt7_0, 0, none⟩))] ⟨rfl, rfl, rfl, rfl, rfl, trivial⟩ ?_
      refine V.seq ?_
      refine V.seq ?_
      refine V.region ?_
      refine W.rd (X.assign rfl) rfl rfl rfl ?_
      refine W.nil ?_
      refine At.next ?_
      refine V.keep [(0, Value.int .u32 (a0)), (1, Value.int .u32 (a1)), (2, Value.slice sa2 (a2).length sc2), (8, Value.pointer (some ⟨bt5_0, 0, none⟩)), (9, Value.pointer (some ⟨bt7_0, 0, none⟩)), (10, Value.int .i64 (0))] ⟨rfl, rfl, rfl, rfl, rfl, rfl, trivial⟩ ?_
      refine V.block ?_
      refine V.loop (σ := Int × clock_Set × clock_Set) (fun kq (st : Int × clock_Set × clock_Set) w => match st with | (x12, x13, x14) => Sep.St [clock_Set.at bt7_0 (x13), clock_Set.at bt5_0 (x14), tie signalmanlaw7_Act.El sd2 (a2), R] w0 w ∧ signalmanlaw7_ClockWraps.l0 kq a0 a1 a2 x12 x13 x14 = some r ∧ kq ≤ k) (fun st => match st with | (x12, x13, x14) => [(0, Value.int .u32 (a0)), (1, Value.int .u32 (a1)), (2, Value.slice sa2 (a2).length sc2), (8, Value.pointer (some ⟨bt5_0, 0, none⟩)), (9, Value.pointer (some ⟨bt7_0, 0, none⟩)), (10, Value.int .i64 (x12))]) k (0, t7, t5) ⟨rfl, rfl, rfl, rfl, rfl, rfl, trivial⟩ ⟨HS, H, Nat.le_refl _⟩ ?_
      rintro kq15 ⟨x12, x13, x14⟩ w ⟨HS, H, hk16⟩
      cases kq15 with
      | zero => exact absurd H (by simp [signalmanlaw7_ClockWraps.l0])
      | succ kq15 =>
        simp only [signalmanlaw7_ClockWraps.l0] at H
        have HS : Sep.St [clock_Set.at bt7_0 (x13), clock_Set.at bt5_0 (x14), tie signalmanlaw7_Act.El sd2 (a2), R] w0 w := HS
        refine V.seq ?_
        refine V.seq ?_
        refine V.region ?_
        refine W.rd (X.move rfl) rfl rfl rfl ?_
        refine W.rd (X.move rfl) rfl rfl rfl ?_
        refine W.rd (X.lenSl Try.underlying35 rfl) rfl rfl rfl ?_
        refine W.rd (X.cmp (decide (x12 < ((a2).length : Int))) rfl rfl rfl rfl) rfl rfl rfl ?_
        refine W.nil ?_
        refine At.next ?_
        refine V.keep [(0, Value.int .u32 (a0)), (1, Value.int .u32 (a1)), (2, Value.slice sa2 (a2).length sc2), (8, Value.pointer (some ⟨bt5_0, 0, none⟩)), (9, Value.pointer (some ⟨bt7_0, 0, none⟩)), (10, Value.int .i64 (x12)), (27, Value.bool (decide (x12 < ((a2).length : Int))))] ⟨rfl, rfl, rfl, rfl, rfl, rfl, rfl, trivial⟩ ?_
        by_cases c17 : x12 < ((a2).length : Int)
        · replace H := ite_t c17 H
          refine V.condT (sb (decide_eq_true c17)) ?_
          refine V.skip ?_
          refine At.next ?_
          refine V.keep [(0, Value.int .u32 (a0)), (1, Value.int .u32 (a1)), (2, Value.slice sa2 (a2).length sc2), (8, Value.pointer (some ⟨bt5_0, 0, none⟩)), (9, Value.pointer (some ⟨bt7_0, 0, none⟩)), (10, Value.int .i64 (x12))] ⟨rfl, rfl, rfl, rfl, rfl, rfl, trivial⟩ ?_
          refine V.seq ?_
          refine V.block ?_
          refine V.seq ?_
          refine V.seq ?_
          refine V.region ?_
          refine W.rd (X.move rfl) rfl rfl rfl ?_
          refine W.rd (X.move rfl) rfl rfl rfl ?_
          obtain ⟨c18, H⟩ := ite_n H
          obtain ⟨eb19, eo20, hh⟩ := ((rdC.at 3 hr2 HS rfl)).some (by decide) c18.1 c18.2; subst hh
          refine W.rd (X.indexSl Try.underlying35 inf39 rfl rfl c18.1 c18.2) rfl rfl rfl ?_
          refine W.rd (X.fieldAddr 0 fo39_0 rfl) rfl rfl rfl ?_
          obtain ⟨ec21, hc22, HS⟩ := St.tie_at 2 HS rfl (default) c18.1 c18.2
          obtain ⟨he23, HN⟩ := signalmanlaw7_Act.unpack HS; clear HS; subst he23; have HS := HN
          have HS : Sep.St [clock_Set.at bt7_0 (x13), clock_Set.at bt5_0 (x14), tie signalmanlaw7_Act.El sd2 (a2), R] w0 w := HS
          refine W.rd (X.load Try.underlying3 rfl rfl (((rdC.at 3 hr2 HS rfl)).cellEl (hc22 0 _ rfl))) rfl rfl rfl ?_
          refine W.nil ?_
          refine At.next ?_
          refine V.keep [(0, Value.int .u32 (a0)), (1, Value.int .u32 (a1)), (2, Value.slice (some ⟨eb19, eo20, none⟩) (a2).length sc2), (8, Value.pointer (some ⟨bt5_0, 0, none⟩)), (9, Value.pointer (some ⟨bt7_0, 0, none⟩)), (10, Value.int .i64 (x12)), (34, Value.int .i64 (((a2).getD (x12).toNat default).Way))] ⟨rfl, rfl, rfl, rfl, rfl, rfl, rfl, trivial⟩ ?_
          refine V.block ?_
          refine V.seq ?_
          refine V.region ?_
          refine W.rd (X.cmp (decide ((((a2).getD (x12).toNat default).Way) = 0)) rfl rfl rfl rfl) rfl rfl rfl ?_
          refine W.rd (X.assign rfl) rfl rfl rfl ?_
          refine W.nil ?_
          refine At.next ?_
          refine V.keep [(0, Value.int .u32 (a0)), (1, Value.int .u32 (a1)), (2, Value.slice (some ⟨eb19, eo20, none⟩) (a2).length sc2), (8, Value.pointer (some ⟨bt5_0, 0, none⟩)), (9, Value.pointer (some ⟨bt7_0, 0, none⟩)), (10, Value.int .i64 (x12)), (34, Value.int .i64 (((a2).getD (x12).toNat default).Way)), (51, Value.bool (decide ((((a2).getD (x12).toNat default).Way) = 0)))] ⟨rfl, rfl, rfl, rfl, rfl, rfl, rfl, rfl, trivial⟩ ?_
          by_cases c24 : (((a2).getD (x12).toNat default).Way) = 0
          · replace H := ite_t c24 H
            refine V.condT (sb (decide_eq_true c24)) ?_
            refine V.seq ?_
            refine V.draw (es := [11, 23]) (bl := [24]) (f := [(53, Value.pointer (some ⟨bt5_0, 0, none⟩)), (54, Value.slice (some ⟨eb19, eo20, none⟩) (a2).length sc2), (55, Value.int .i64 (x12)), (56, Value.pointer (some ⟨eb19, eo20 + (x12).toNat * 3, none⟩)), (57, Value.pointer (some ⟨eb19, eo20 + (x12).toNat * 3 + 1, none⟩)), (58, Value.int .i64 (((a2).getD (x12).toNat default).Id)), (59, Value.slice (some ⟨eb19, eo20, none⟩) (a2).length sc2), (60, Value.int .i64 (x12)), (61, Value.pointer (some ⟨eb19, eo20 + (x12).toNat * 3, none⟩)), (62, Value.pointer (some ⟨eb19, eo20 + (x12).toNat * 3 + 2, none⟩)), (63, Value.int .i64 (((a2).getD (x12).toNat default).N)), (65, Value.pointer (some ⟨bt7_0, 0, none⟩)), (66, Value.slice (some ⟨eb19, eo20, none⟩) (a2).length sc2), (67, Value.int .i64 (x12)), (68, Value.pointer (some ⟨eb19, eo20 + (x12).toNat * 3, none⟩)), (69, Value.pointer (some ⟨eb19, eo20 + (x12).toNat * 3 + 1, none⟩)), (70, Value.int .i64 (((a2).getD (x12).toNat default).Id)), (71, Value.slice (some ⟨eb19, eo20, none⟩) (a2).length sc2), (72, Value.int .i64 (x12)), (73, Value.pointer (some ⟨eb19, eo20 + (x12).toNat * 3, none⟩)), (74, Value.pointer (some ⟨eb19, eo20 + (x12).toNat * 3 + 2, none⟩)), (75, Value.int .i64 (((a2).getD (x12).toNat default).N))]) (fun w => Sep.St [clock_Set.at bt7_0 (x13), clock_Set.at bt5_0 (x14), tie signalmanlaw7_Act.El sd2 (a2), R] w0 w) mo HS.drew rfl ?_
            refine T.event _ [(53, Value.pointer (some ⟨bt5_0, 0, none⟩)), (58, Value.int .i64 (((a2).getD (x12).toNat default).Id)), (63, Value.int .i64 (((a2).getD (x12).toNat default).N))] rfl rfl ⟨⟨_, Value.pointer (some ⟨bt5_0, 0, none⟩), [(8, Value.pointer (some ⟨bt5_0, 0, none⟩))], 53, rfl, rfl, ⟨.inl ⟨rfl, rfl⟩, trivial⟩, .run rfl (fun w HS => X.move rfl), rfl, rfl, rfl⟩, ⟨_, Value.slice (some ⟨eb19, eo20, none⟩) (a2).length sc2, [(2, Value.slice (some ⟨eb19, eo20, none⟩) (a2).length sc2)], 54, rfl, rfl, ⟨.inl ⟨rfl, rfl⟩, trivial⟩, .run rfl (fun w HS => X.move rfl), rfl, rfl, rfl⟩, ⟨_, Value.int .i64 (x12), [(10, Value.int .i64 (x12))], 55, rfl, rfl, ⟨.inl ⟨rfl, rfl⟩, trivial⟩, .run rfl (fun w HS => X.move rfl), rfl, rfl, rfl⟩, ⟨_, Value.pointer (some ⟨eb19, eo20 + (x12).toNat * 3, none⟩), [(54, Value.slice (some ⟨eb19, eo20, none⟩) (a2).length sc2), (55, Value.int .i64 (x12))], 56, rfl, rfl, ⟨.inr ⟨rfl, rfl⟩, ⟨.inr ⟨rfl, rfl⟩, trivial⟩⟩, .run rfl (fun w HS => X.indexSl Try.underlying35 inf39 rfl rfl c18.1 c18.2), rfl, rfl, rfl⟩, ⟨_, Value.pointer (some ⟨eb19, eo20 + (x12).toNat * 3 + 1, none⟩), [(56, Value.pointer (some ⟨eb19, eo20 + (x12).toNat * 3, none⟩))], 57, rfl, rfl, ⟨.inr ⟨rfl, rfl⟩, trivial⟩, .run rfl (fun w HS => X.fieldAddr 1 fo39_1 rfl), rfl, rfl, rfl⟩, ⟨_, Value.int .i64 (((a2).getD (x12).toNat default).Id), [(57, Value.pointer (some ⟨eb19, eo20 + (x12).toNat * 3 + 1, none⟩))], 58, rfl, rfl, ⟨.inr ⟨rfl, rfl⟩, trivial⟩, .run rfl (fun w HS => X.load Try.underlying3 rfl rfl (((rdC.at 3 hr2 HS rfl)).cellEl (hc22 1 _ rfl))), rfl, rfl, rfl⟩, ⟨_, Value.slice (some ⟨eb19, eo20, none⟩) (a2).length sc2, [(2, Value.slice (some ⟨eb19, eo20, none⟩) (a2).length sc2)], 59, rfl, rfl, ⟨.inl ⟨rfl, rfl⟩, trivial⟩, .run rfl (fun w HS => X.move rfl), rfl, rfl, rfl⟩, ⟨_, Value.int .i64 (x12), [(10, Value.int .i64 (x12))], 60, rfl, rfl, ⟨.inl ⟨rfl, rfl⟩, trivial⟩, .run rfl (fun w HS => X.move rfl), rfl, rfl, rfl⟩, ⟨_, Value.pointer (some ⟨eb19, eo20 + (x12).toNat * 3, none⟩), [(59, Value.slice (some ⟨eb19, eo20, none⟩) (a2).length sc2), (60, Value.int .i64 (x12))], 61, rfl, rfl, ⟨.inr ⟨rfl, rfl⟩, ⟨.inr ⟨rfl, rfl⟩, trivial⟩⟩, .run rfl (fun w HS => X.indexSl Try.underlying35 inf39 rfl rfl c18.1 c18.2), rfl, rfl, rfl⟩, ⟨_, Value.pointer (some ⟨eb19, eo20 + (x12).toNat * 3 + 2, none⟩), [(61, Value.pointer (some ⟨eb19, eo20 + (x12).toNat * 3, none⟩))], 62, rfl, rfl, ⟨.inr ⟨rfl, rfl⟩, trivial⟩, .run rfl (fun w HS => X.fieldAddr 2 fo39_2 rfl), rfl, rfl, rfl⟩, ⟨_, Value.int .i64 (((a2).getD (x12).toNat default).N), [(62, Value.pointer (some ⟨eb19, eo20 + (x12).toNat * 3 + 2, none⟩))], 63, rfl, rfl, ⟨.inr ⟨rfl, rfl⟩, trivial⟩, .run rfl (fun w HS => X.load Try.underlying3 rfl rfl (((rdC.at 3 hr2 HS rfl)).cellEl (hc22 2 _ rfl))), rfl, rfl, rfl⟩, ⟨_, Value.pointer (some ⟨bt7_0, 0, none⟩), [(9, Value.pointer (some ⟨bt7_0, 0, none⟩))], 65, rfl, rfl, ⟨.inl ⟨rfl, rfl⟩, trivial⟩, .run rfl (fun w HS => X.move rfl), rfl, rfl, rfl⟩, ⟨_, Value.slice (some ⟨eb19, eo20, none⟩) (a2).length sc2, [(2, Value.slice (some ⟨eb19, eo20, none⟩) (a2).length sc2)], 66, rfl, rfl, ⟨.inl ⟨rfl, rfl⟩, trivial⟩, .run rfl (fun w HS => X.move rfl), rfl, rfl, rfl⟩, ⟨_, Value.int .i64 (x12), [(10, Value.int .i64 (x12))], 67, rfl, rfl, ⟨.inl ⟨rfl, rfl⟩, trivial⟩, .run rfl (fun w HS => X.move rfl), rfl, rfl, rfl⟩, ⟨_, Value.pointer (some ⟨eb19, eo20 + (x12).toNat * 3, none⟩), [(66, Value.slice (some ⟨eb19, eo20, none⟩) (a2).length sc2), (67, Value.int .i64 (x12))], 68, rfl, rfl, ⟨.inr ⟨rfl, rfl⟩, ⟨.inr ⟨rfl, rfl⟩, trivial⟩⟩, .run rfl (fun w HS => X.indexSl Try.underlying35 inf39 rfl rfl c18.1 c18.2), rfl, rfl, rfl⟩, ⟨_, Value.pointer (some ⟨eb19, eo20 + (x12).toNat * 3 + 1, none⟩), [(68, Value.pointer (some ⟨eb19, eo20 + (x12).toNat * 3, none⟩))], 69, rfl, rfl, ⟨.inr ⟨rfl, rfl⟩, trivial⟩, .run rfl (fun w HS => X.fieldAddr 1 fo39_1 rfl), rfl, rfl, rfl⟩, ⟨_, Value.int .i64 (((a2).getD (x12).toNat default).Id), [(69, Value.pointer (some ⟨eb19, eo20 + (x12).toNat * 3 + 1, none⟩))], 70, rfl, rfl, ⟨.inr ⟨rfl, rfl⟩, trivial⟩, .run rfl (fun w HS => X.load Try.underlying3 rfl rfl (((rdC.at 3 hr2 HS rfl)).cellEl (hc22 1 _ rfl))), rfl, rfl, rfl⟩, ⟨_, Value.slice (some ⟨eb19, eo20, none⟩) (a2).length sc2, [(2, Value.slice (some ⟨eb19, eo20, none⟩) (a2).length sc2)], 71, rfl, rfl, ⟨.inl ⟨rfl, rfl⟩, trivial⟩, .run rfl (fun w HS => X.move rfl), rfl, rfl, rfl⟩, ⟨_, Value.int .i64 (x12), [(10, Value.int .i64 (x12))], 72, rfl, rfl, ⟨.inl ⟨rfl, rfl⟩, trivial⟩, .run rfl (fun w HS => X.move rfl), rfl, rfl, rfl⟩, ⟨_, Value.pointer (some ⟨eb19, eo20 + (x12).toNat * 3, none⟩), [(71, Value.slice (some ⟨eb19, eo20, none⟩) (a2).length sc2), (72, Value.int .i64 (x12))], 73, rfl, rfl, ⟨.inr ⟨rfl, rfl⟩, ⟨.inr ⟨rfl, rfl⟩, trivial⟩⟩, .run rfl (fun w HS => X.indexSl Try.underlying35 inf39 rfl rfl c18.1 c18.2), rfl, rfl, rfl⟩, ⟨_, Value.pointer (some ⟨eb19, eo20 + (x12).toNat * 3 + 2, none⟩), [(73, Value.pointer (some ⟨eb19, eo20 + (x12).toNat * 3, none⟩))], 74, rfl, rfl, ⟨.inr ⟨rfl, rfl⟩, trivial⟩, .run rfl (fun w HS => X.fieldAddr 2 fo39_2 rfl), rfl, rfl, rfl⟩, ⟨_, Value.int .i64 (((a2).getD (x12).toNat default).N), [(74, Value.pointer (some ⟨eb19, eo20 + (x12).toNat * 3 + 2, none⟩))], 75, rfl, rfl, ⟨.inr ⟨rfl, rfl⟩, trivial⟩, .run rfl (fun w HS => X.load Try.underlying3 rfl rfl (((rdC.at 3 hr2 HS rfl)).cellEl (hc22 2 _ rfl))), rfl, rfl, rfl⟩, trivial⟩ rfl ⟨.inr ⟨rfl, rfl⟩, ⟨.inr ⟨rfl, rfl⟩, ⟨.inr ⟨rfl, rfl⟩, trivial⟩⟩⟩ (Or.inl rfl) (by intro d hd; cases hd; exact ⟨by decide, rfl, rfl⟩) [24] [0, 1, 2, 3, 4, 5, 6, 7, 8, 9, 10] rfl rfl (fun w HS => ?_)
            have HS : Sep.St [clock_Set.at bt7_0 (x13), clock_Set.at bt5_0 (x14), tie signalmanlaw7_Act.El sd2 (a2), R] w0 w := HS
            obtain ⟨t25, A26, H⟩ := bind_s H
            replace HS := HS.re [1, 0, 2, 3] rfl
            have HS : Sep.St [clock_Set.at bt5_0 (x14), clock_Set.at bt7_0 (x13), tie signalmanlaw7_Act.El sd2 (a2), R] w0 w := HS
            refine ⟨_, Y.call Try.func9 (by kernel_rfl) rfl (vs := [Value.pointer (some ⟨bt5_0, 0, none⟩), Value.int .i64 (((a2).getD (x12).toNat default).Id), Value.int .i64 (((a2).getD (x12).toNat default).N)]) rfl (clock_Set_Start.calls x14 (((a2).getD (x12).toNat default).Id) (((a2).getD (x12).toNat default).N) _ w0 _ bt5_0 t25  A26 (Sep.St.tailJoin (m := [clock_Set.at bt5_0 (x14)]) (r := [clock_Set.at bt7_0 (x13), tie signalmanlaw7_Act.El sd2 (a2), R]) HS)), ?_⟩
            rintro _ w ⟨rfl, HS⟩
            replace HS := Sep.St.tailOpen (m := [clock_Set.at bt5_0 (t25.2)]) (r := [clock_Set.at bt7_0 (x13), tie signalmanlaw7_Act.El sd2 (a2), R]) HS
            have HS : Sep.St [clock_Set.at bt5_0 (t25.2), clock_Set.at bt7_0 (x13), tie signalmanlaw7_Act.El sd2 (a2), R] w0 w := HS
            refine ⟨[(64, Value.bool (t25.1))], fun w => Sep.St [clock_Set.at bt5_0 (t25.2), clock_Set.at bt7_0 (x13), tie signalmanlaw7_Act.El sd2 (a2), R] w0 w, ⟨.inl ⟨rfl, rfl⟩, trivial⟩, ?_, HS⟩
            refine T.event _ [(65, Value.pointer (some ⟨bt7_0, 0, none⟩)), (70, Value.int .i64 (((a2).getD (x12).toNat default).Id)), (75, Value.int .i64 (((a2).getD (x12).toNat default).N))] rfl rfl ⟨⟨_, Value.pointer (some ⟨bt7_0, 0, none⟩), [(9, Value.pointer (some ⟨bt7_0, 0, none⟩))], 65, rfl, rfl, ⟨.inl ⟨rfl, rfl⟩, trivial⟩, .run rfl (fun w HS => X.move rfl), rfl, rfl, rfl⟩, ⟨_, Value.slice (some ⟨eb19, eo20, none⟩) (a2).length sc2, [(2, Value.slice (some ⟨eb19, eo20, none⟩) (a2).length sc2)], 66, rfl, rfl, ⟨.inl ⟨rfl, rfl⟩, trivial⟩, .run rfl (fun w HS => X.move rfl), rfl, rfl, rfl⟩, ⟨_, Value.int .i64 (x12), [(10, Value.int .i64 (x12))], 67, rfl, rfl, ⟨.inl ⟨rfl, rfl⟩, trivial⟩, .run rfl (fun w HS => X.move rfl), rfl, rfl, rfl⟩, ⟨_, Value.pointer (some ⟨eb19, eo20 + (x12).toNat * 3, none⟩), [(66, Value.slice (some ⟨eb19, eo20, none⟩) (a2).length sc2), (67, Value.int .i64 (x12))], 68, rfl, rfl, ⟨.inr ⟨rfl, rfl⟩, ⟨.inr ⟨rfl, rfl⟩, trivial⟩⟩, .run rfl (fun w HS => X.indexSl Try.underlying35 inf39 rfl rfl c18.1 c18.2), rfl, rfl, rfl⟩, ⟨_, Value.pointer (some ⟨eb19, eo20 + (x12).toNat * 3 + 1, none⟩), [(68, Value.pointer (some ⟨eb19, eo20 + (x12).toNat * 3, none⟩))], 69, rfl, rfl, ⟨.inr ⟨rfl, rfl⟩, trivial⟩, .run rfl (fun w HS => X.fieldAddr 1 fo39_1 rfl), rfl, rfl, rfl⟩, ⟨_, Value.int .i64 (((a2).getD (x12).toNat default).Id), [(69, Value.pointer (some ⟨eb19, eo20 + (x12).toNat * 3 + 1, none⟩))], 70, rfl, rfl, ⟨.inr ⟨rfl, rfl⟩, trivial⟩, .run rfl (fun w HS => X.load Try.underlying3 rfl rfl (((rdC.at 3 hr2 HS rfl)).cellEl (hc22 1 _ rfl))), rfl, rfl, rfl⟩, ⟨_, Value.slice (some ⟨eb19, eo20, none⟩) (a2).length sc2, [(2, Value.slice (some ⟨eb19, eo20, none⟩) (a2).length sc2)], 71, rfl, rfl, ⟨.inl ⟨rfl, rfl⟩, trivial⟩, .run rfl (fun w HS => X.move rfl), rfl, rfl, rfl⟩, ⟨_, Value.int .i64 (x12), [(10, Value.int .i64 (x12))], 72, rfl, rfl, ⟨.inl ⟨rfl, rfl⟩, trivial⟩, .run rfl (fun w HS => X.move rfl), rfl, rfl, rfl⟩, ⟨_, Value.pointer (some ⟨eb19, eo20 + (x12).toNat * 3, none⟩), [(71, Value.slice (some ⟨eb19, eo20, none⟩) (a2).length sc2), (72, Value.int .i64 (x12))], 73, rfl, rfl, ⟨.inr ⟨rfl, rfl⟩, ⟨.inr ⟨rfl, rfl⟩, trivial⟩⟩, .run rfl (fun w HS => X.indexSl Try.underlying35 inf39 rfl rfl c18.1 c18.2), rfl, rfl, rfl⟩, ⟨_, Value.pointer (some ⟨eb19, eo20 + (x12).toNat * 3 + 2, none⟩), [(73, Value.pointer (some ⟨eb19, eo20 + (x12).toNat * 3, none⟩))], 74, rfl, rfl, ⟨.inr ⟨rfl, rfl⟩, trivial⟩, .run rfl (fun w HS => X.fieldAddr 2 fo39_2 rfl), rfl, rfl, rfl⟩, ⟨_, Value.int .i64 (((a2).getD (x12).toNat default).N), [(74, Value.pointer (some ⟨eb19, eo20 + (x12).toNat * 3 + 2, none⟩))], 75, rfl, rfl, ⟨.inr ⟨rfl, rfl⟩, trivial⟩, .run rfl (fun w HS => X.load Try.underlying3 rfl rfl (((rdC.at 3 hr2 HS rfl)).cellEl (hc22 2 _ rfl))), rfl, rfl, rfl⟩, trivial⟩ rfl ⟨.inr ⟨rfl, rfl⟩, ⟨.inr ⟨rfl, rfl⟩, ⟨.inr ⟨rfl, rfl⟩, trivial⟩⟩⟩ (Or.inl rfl) (by intro d hd; cases hd; exact ⟨by decide, rfl, rfl⟩) [] [12, 13, 14, 15, 16, 17, 18, 19, 20, 21, 22] rfl rfl (fun w HS => ?_)
            have HS : Sep.St [clock_Set.at bt5_0 (t25.2), clock_Set.at bt7_0 (x13), tie signalmanlaw7_Act.El sd2 (a2), R] w0 w := HS
            obtain ⟨t27, A28, H⟩ := bind_s H
            replace HS := HS.re [1, 0, 2, 3] rfl
            have HS : Sep.St [clock_Set.at bt7_0 (x13), clock_Set.at bt5_0 (t25.2), tie signalmanlaw7_Act.El sd2 (a2), R] w0 w := HS
            refine ⟨_, Y.call Try.func9 (by kernel_rfl) rfl (vs := [Value.pointer (some ⟨bt7_0, 0, none⟩), Value.int .i64 (((a2).getD (x12).toNat default).Id), Value.int .i64 (((a2).getD (x12).toNat default).N)]) rfl (clock_Set_Start.calls x13 (((a2).getD (x12).toNat default).Id) (((a2).getD (x12).toNat default).N) _ w0 _ bt7_0 t27  A28 (Sep.St.tailJoin (m := [clock_Set.at bt7_0 (x13)]) (r := [clock_Set.at bt5_0 (t25.2), tie signalmanlaw7_Act.El sd2 (a2), R]) HS)), ?_⟩
            rintro _ w ⟨rfl, HS⟩
            replace HS := Sep.St.tailOpen (m := [clock_Set.at bt7_0 (t27.2)]) (r := [clock_Set.at bt5_0 (t25.2), tie signalmanlaw7_Act.El sd2 (a2), R]) HS
            have HS : Sep.St [clock_Set.at bt7_0 (t27.2), clock_Set.at bt5_0 (t25.2), tie signalmanlaw7_Act.El sd2 (a2), R] w0 w := HS
            refine ⟨[(76, Value.bool (t27.1)), (77, Value.bool (((t25.1) != (t27.1))))], fun w => Sep.St [clock_Set.at bt7_0 (t27.2), clock_Set.at bt5_0 (t25.2), tie signalmanlaw7_Act.El sd2 (a2), R] w0 w, ⟨.inl ⟨rfl, rfl⟩, ⟨.inr ⟨by decide, rfl⟩, trivial⟩⟩, ?_, HS⟩
            refine T.fin [(0, Value.int .u32 (a0)), (1, Value.int .u32 (a1)), (2, Value.slice (some ⟨eb19, eo20, none⟩) (a2).length sc2), (8, Value.pointer (some ⟨bt5_0, 0, none⟩)), (9, Value.pointer (some ⟨bt7_0, 0, none⟩)), (10, Value.int .i64 (x12)), (77, Value.bool (((t25.1) != (t27.1))))] rfl ⟨⟨_, Value.bool (((t25.1) != (t27.1))), [(64, Value.bool (t25.1)), (76, Value.bool (t27.1))], 77, rfl, rfl, ⟨.inr ⟨rfl, rfl⟩, ⟨.inr ⟨rfl, rfl⟩, trivial⟩⟩, .run rfl (fun w HS => X.neB Try.underlying4 rfl rfl), rfl, rfl, rfl⟩, trivial⟩ ⟨.inl ⟨rfl, rfl⟩, ⟨.inl ⟨rfl, rfl⟩, ⟨.inl ⟨rfl, rfl⟩, ⟨.inl ⟨rfl, rfl⟩, ⟨.inl ⟨rfl, rfl⟩, ⟨.inl ⟨rfl, rfl⟩, ⟨.inr ⟨rfl, rfl⟩, trivial⟩⟩⟩⟩⟩⟩⟩ (fun w HS => ?_)
            have HS : Sep.St [clock_Set.at bt7_0 (t27.2), clock_Set.at bt5_0 (t25.2), tie signalmanlaw7_Act.El sd2 (a2), R] w0 w := HS
            refine At.next ?_
            refine V.keep [(0, Value.int .u32 (a0)), (1, Value.int .u32 (a1)), (2, Value.slice (some ⟨eb19, eo20, none⟩) (a2).length sc2), (8, Value.pointer (some ⟨bt5_0, 0, none⟩)), (9, Value.pointer (some ⟨bt7_0, 0, none⟩)), (10, Value.int .i64 (x12)), (77, Value.bool (((t25.1) != (t27.1))))] ⟨rfl, rfl, rfl, rfl, rfl, rfl, rfl, trivial⟩ ?_
            by_cases c29 : ((t25.1) != (t27.1)) = true
            · replace H := ite_t c29 H
              refine V.condT (sb c29) ?_
              refine V.seq ?_
              refine V.region ?_
              refine W.rd (X.assign rfl) rfl rfl rfl ?_
              refine W.nil ?_
              refine At.next ?_
              refine V.keep [(6, Value.bool (false))] ⟨rfl, trivial⟩ ?_
              refine V.ret ?_
              refine At.blockRet ?_
              refine At.thenRet ?_
              refine At.blockRet ?_
              refine At.thenRet ?_
              refine At.thenRet ?_
              refine At.blockRet ?_
              refine At.thenRet ?_
              replace HS := HS.sel [3] [0, 1, 2] rfl
              cases H
              exact At.ret1 rfl rfl ⟨_, rfl, rfl, HS⟩
            · replace H := ite_f c29 H
              refine V.condF (sb (b_f c29)) ?_
              refine V.skip ?_
              refine At.blockEnd ?_
              refine At.next ?_
              refine V.keep [(0, Value.int .u32 (a0)), (1, Value.int .u32 (a1)), (2, Value.slice (some ⟨eb19, eo20, none⟩) (a2).length sc2), (8, Value.pointer (some ⟨bt5_0, 0, none⟩)), (9, Value.pointer (some ⟨bt7_0, 0, none⟩)), (10, Value.int .i64 (x12))] ⟨rfl, rfl, rfl, rfl, rfl, rfl, trivial⟩ ?_
              refine V.seq ?_
              refine V.region ?_
              refine W.rd (X.move rfl) rfl rfl rfl ?_
              obtain ⟨t30, A31, H⟩ := bind_s H
              replace HS := HS.re [1, 0, 2, 3] rfl
              have HS : Sep.St [clock_Set.at bt5_0 (t25.2), clock_Set.at bt7_0 (t27.2), tie signalmanlaw7_Act.El sd2 (a2), R] w0 w := HS
              refine W.ev (Y.call Try.func19 (by kernel_rfl) rfl (vs := [Value.pointer (some ⟨bt5_0, 0, none⟩)]) rfl (clock_Set_Now.calls t25.2 _ w0 _ bt5_0 t30  A31 (Sep.St.tailJoin (m := [clock_Set.at bt5_0 (t25.2)]) (r := [clock_Set.at bt7_0 (t27.2), tie signalmanlaw7_Act.El sd2 (a2), R]) HS))) rfl rfl rfl ?_
              rintro _ w ⟨rfl, HS⟩
              replace HS := Sep.St.tailOpen (m := [clock_Set.at bt5_0 (t25.2)]) (r := [clock_Set.at bt7_0 (t27.2), tie signalmanlaw7_Act.El sd2 (a2), R]) HS
              have HS : Sep.St [clock_Set.at bt5_0 (t25.2), clock_Set.at bt7_0 (t27.2), tie signalmanlaw7_Act.El sd2 (a2), R] w0 w := HS
              refine W.rd (X.move rfl) rfl rfl rfl ?_
              refine W.rd (X.sub rfl rfl) rfl rfl rfl ?_
              refine W.rd (X.move rfl) rfl rfl rfl ?_
              obtain ⟨t32, A33, H⟩ := bind_s H
              replace HS := HS.re [1, 0, 2, 3] rfl
              have HS : Sep.St [clock_Set.at bt7_0 (t27.2), clock_Set.at bt5_0 (t25.2), tie signalmanlaw7_Act.El sd2 (a2), R] w0 w := HS
              refine W.ev (Y.call Try.func19 (by kernel_rfl) rfl (vs := [Value.pointer (some ⟨bt7_0, 0, none⟩)]) rfl (clock_Set_Now.calls t27.2 _ w0 _ bt7_0 t32  A33 (Sep.St.tailJoin (m := [clock_Set.at bt7_0 (t27.2)]) (r := [clock_Set.at bt5_0 (t25.2), tie signalmanlaw7_Act.El sd2 (a2), R]) HS))) rfl rfl rfl ?_
              rintro _ w ⟨rfl, HS⟩
              replace HS := Sep.St.tailOpen (m := [clock_Set.at bt7_0 (t27.2)]) (r := [clock_Set.at bt5_0 (t25.2), tie signalmanlaw7_Act.El sd2 (a2), R]) HS
              have HS : Sep.St [clock_Set.at bt7_0 (t27.2), clock_Set.at bt5_0 (t25.2), tie signalmanlaw7_Act.El sd2 (a2), R] w0 w := HS
              refine W.rd (X.move rfl) rfl rfl rfl ?_
              refine W.rd (X.sub rfl rfl) rfl rfl rfl ?_
              refine W.rd (X.cmp (!(decide ((IntKind.u32.wrap (t30 - a0)) = (IntKind.u32.wrap (t32 - a1))))) rfl rfl rfl rfl) rfl rfl rfl ?_
              refine W.nil ?_
              refine At.next ?_
              refine V.keep [(0, Value.int .u32 (a0)), (1, Value.int .u32 (a1)), (2, Value.slice (some ⟨eb19, eo20, none⟩) (a2).length sc2), (8, Value.pointer (some ⟨bt5_0, 0, none⟩)), (9, Value.pointer (some ⟨bt7_0, 0, none⟩)), (10, Value.int .i64 (x12)), (103, Value.bool (!(decide ((IntKind.u32.wrap (t30 - a0)) = (IntKind.u32.wrap (t32 - a1))))))] ⟨rfl, rfl, rfl, rfl, rfl, rfl, rfl, trivial⟩ ?_
              by_cases c34 : (IntKind.u32.wrap (t30 - a0)) = (IntKind.u32.wrap (t32 - a1))
              · replace H := ite_t c34 H
                refine V.condF (sb (n_t (decide_eq_true c34))) ?_
                refine V.skip ?_
                refine At.blockEnd ?_
                refine At.next ?_
                refine V.keep [(0, Value.int .u32 (a0)), (1, Value.int .u32 (a1)), (2, Value.slice (some ⟨eb19, eo20, none⟩) (a2).length sc2), (8, Value.pointer (some ⟨bt5_0, 0, none⟩)), (9, Value.pointer (some ⟨bt7_0, 0, none⟩)), (10, Value.int .i64 (x12))] ⟨rfl, rfl, rfl, rfl, rfl, rfl, trivial⟩ ?_
                refine V.region ?_
                refine W.rd (X.move rfl) rfl rfl rfl ?_
                refine W.rd (X.add rfl rfl) rfl rfl rfl ?_
                refine W.rd (X.assign rfl) rfl rfl rfl ?_
                refine W.nil ?_
                exact At.round kq15 (by omega) (w64 (x12 + 1), t27.2, t25.2) ⟨rfl, rfl, rfl, rfl, rfl, rfl, trivial⟩ ⟨HS, H, by omega⟩
              · replace H := ite_f c34 H
                refine V.condT (sb (n_f (decide_eq_false c34))) ?_
                refine V.seq ?_
                refine V.region ?_
                refine W.rd (X.assign rfl) rfl rfl rfl ?_
                refine W.nil ?_
                refine At.next ?_
                refine V.keep [(6, Value.bool (false))] ⟨rfl, trivial⟩ ?_
                refine V.ret ?_
                refine At.blockRet ?_
                refine At.thenRet ?_
                refine At.thenRet ?_
                refine At.blockRet ?_
                refine At.thenRet ?_
                replace HS := HS.sel [3] [0, 1, 2] rfl
                cases H
                exact At.ret1 rfl rfl ⟨_, rfl, rfl, HS⟩
          · replace H := ite_f c24 H
            refine V.condF (sb (decide_eq_false c24)) ?_
            refine V.seq ?_
            refine V.region ?_
            refine W.rd (X.cmp (decide ((((a2).getD (x12).toNat default).Way) = 1)) rfl rfl rfl rfl) rfl rfl rfl ?_
            refine W.rd (X.assign rfl) rfl rfl rfl ?_
            refine W.nil ?_
            refine At.next ?_
            refine V.keep [(0, Value.int .u32 (a0)), (1, Value.int .u32 (a1)), (2, Value.slice (some ⟨eb19, eo20, none⟩) (a2).length sc2), (8, Value.pointer (some ⟨bt5_0, 0, none⟩)), (9, Value.pointer (some ⟨bt7_0, 0, none⟩)), (10, Value.int .i64 (x12)), (78, Value.bool (decide ((((a2).getD (x12).toNat default).Way) = 1)))] ⟨rfl, rfl, rfl, rfl, rfl, rfl, rfl, trivial⟩ ?_
            by_cases c35 : (((a2).getD (x12).toNat default).Way) = 1
            · replace H := ite_t c35 H
              refine V.condT (sb (decide_eq_true c35)) ?_
              refine V.seq ?_
              refine V.draw (es := [6, 13]) (bl := [14]) (f := [(80, Value.pointer (some ⟨bt5_0, 0, none⟩)), (81, Value.slice (some ⟨eb19, eo20, none⟩) (a2).length sc2), (82, Value.int .i64 (x12)), (83, Value.pointer (some ⟨eb19, eo20 + (x12).toNat * 3, none⟩)), (84, Value.pointer (some ⟨eb19, eo20 + (x12).toNat * 3 + 1, none⟩)), (85, Value.int .i64 (((a2).getD (x12).toNat default).Id)), (87, Value.pointer (some ⟨bt7_0, 0, none⟩)), (88, Value.slice (some ⟨eb19, eo20, none⟩) (a2).length sc2), (89, Value.int .i64 (x12)), (90, Value.pointer (some ⟨eb19, eo20 + (x12).toNat * 3, none⟩)), (91, Value.pointer (some ⟨eb19, eo20 + (x12).toNat * 3 + 1, none⟩)), (92, Value.int .i64 (((a2).getD (x12).toNat default).Id))]) (fun w => Sep.St [clock_Set.at bt7_0 (x13), clock_Set.at bt5_0 (x14), tie signalmanlaw7_Act.El sd2 (a2), R] w0 w) mo HS.drew rfl ?_
              refine T.event _ [(80, Value.pointer (some ⟨bt5_0, 0, none⟩)), (85, Value.int .i64 (((a2).getD (x12).toNat default).Id))] rfl rfl ⟨⟨_, Value.pointer (some ⟨bt5_0, 0, none⟩), [(8, Value.pointer (some ⟨bt5_0, 0, none⟩))], 80, rfl, rfl, ⟨.inl ⟨rfl, rfl⟩, trivial⟩, .run rfl (fun w HS => X.move rfl), rfl, rfl, rfl⟩, ⟨_, Value.slice (some ⟨eb19, eo20, none⟩) (a2).length sc2, [(2, Value.slice (some ⟨eb19, eo20, none⟩) (a2).length sc2)], 81, rfl, rfl, ⟨.inl ⟨rfl, rfl⟩, trivial⟩, .run rfl (fun w HS => X.move rfl), rfl, rfl, rfl⟩, ⟨_, Value.int .i64 (x12), [(10, Value.int .i64 (x12))], 82, rfl, rfl, ⟨.inl ⟨rfl, rfl⟩, trivial⟩, .run rfl (fun w HS => X.move rfl), rfl, rfl, rfl⟩, ⟨_, Value.pointer (some ⟨eb19, eo20 + (x12).toNat * 3, none⟩), [(81, Value.slice (some ⟨eb19, eo20, none⟩) (a2).length sc2), (82, Value.int .i64 (x12))], 83, rfl, rfl, ⟨.inr ⟨rfl, rfl⟩, ⟨.inr ⟨rfl, rfl⟩, trivial⟩⟩, .run rfl (fun w HS => X.indexSl Try.underlying35 inf39 rfl rfl c18.1 c18.2), rfl, rfl, rfl⟩, ⟨_, Value.pointer (some ⟨eb19, eo20 + (x12).toNat * 3 + 1, none⟩), [(83, Value.pointer (some ⟨eb19, eo20 + (x12).toNat * 3, none⟩))], 84, rfl, rfl, ⟨.inr ⟨rfl, rfl⟩, trivial⟩, .run rfl (fun w HS => X.fieldAddr 1 fo39_1 rfl), rfl, rfl, rfl⟩, ⟨_, Value.int .i64 (((a2).getD (x12).toNat default).Id), [(84, Value.pointer (some ⟨eb19, eo20 + (x12).toNat * 3 + 1, none⟩))], 85, rfl, rfl, ⟨.inr ⟨rfl, rfl⟩, trivial⟩, .run rfl (fun w HS => X.load Try.underlying3 rfl rfl (((rdC.at 3 hr2 HS rfl)).cellEl (hc22 1 _ rfl))), rfl, rfl, rfl⟩, ⟨_, Value.pointer (some ⟨bt7_0, 0, none⟩), [(9, Value.pointer (some ⟨bt7_0, 0, none⟩))], 87, rfl, rfl, ⟨.inl ⟨rfl, rfl⟩, trivial⟩, .run rfl (fun w HS => X.move rfl), rfl, rfl, rfl⟩, ⟨_, Value.slice (some ⟨eb19, eo20, none⟩) (a2).length sc2, [(2, Value.slice (some ⟨eb19, eo20, none⟩) (a2).length sc2)], 88, rfl, rfl, ⟨.inl ⟨rfl, rfl⟩, trivial⟩, .run rfl (fun w HS => X.move rfl), rfl, rfl, rfl⟩, ⟨_, Value.int .i64 (x12), [(10, Value.int .i64 (x12))], 89, rfl, rfl, ⟨.inl ⟨rfl, rfl⟩, trivial⟩, .run rfl (fun w HS => X.move rfl), rfl, rfl, rfl⟩, ⟨_, Value.pointer (some ⟨eb19, eo20 + (x12).toNat * 3, none⟩), [(88, Value.slice (some ⟨eb19, eo20, none⟩) (a2).length sc2), (89, Value.int .i64 (x12))], 90, rfl, rfl, ⟨.inr ⟨rfl, rfl⟩, ⟨.inr ⟨rfl, rfl⟩, trivial⟩⟩, .run rfl (fun w HS => X.indexSl Try.underlying35 inf39 rfl rfl c18.1 c18.2), rfl, rfl, rfl⟩, ⟨_, Value.pointer (some ⟨eb19, eo20 + (x12).toNat * 3 + 1, none⟩), [(90, Value.pointer (some ⟨eb19, eo20 + (x12).toNat * 3, none⟩))], 91, rfl, rfl, ⟨.inr ⟨rfl, rfl⟩, trivial⟩, .run rfl (fun w HS => X.fieldAddr 1 fo39_1 rfl), rfl, rfl, rfl⟩, ⟨_, Value.int .i64 (((a2).getD (x12).toNat default).Id), [(91, Value.pointer (some ⟨eb19, eo20 + (x12).toNat * 3 + 1, none⟩))], 92, rfl, rfl, ⟨.inr ⟨rfl, rfl⟩, trivial⟩, .run rfl (fun w HS => X.load Try.underlying3 rfl rfl (((rdC.at 3 hr2 HS rfl)).cellEl (hc22 1 _ rfl))), rfl, rfl, rfl⟩, trivial⟩ rfl ⟨.inr ⟨rfl, rfl⟩, ⟨.inr ⟨rfl, rfl⟩, trivial⟩⟩ (Or.inl rfl) (by intro d hd; cases hd; exact ⟨by decide, rfl, rfl⟩) [14] [0, 1, 2, 3, 4, 5] rfl rfl (fun w HS => ?_)
              have HS : Sep.St [clock_Set.at bt7_0 (x13), clock_Set.at bt5_0 (x14), tie signalmanlaw7_Act.El sd2 (a2), R] w0 w := HS
              obtain ⟨t36, A37, H⟩ := bind_s H
              replace HS := HS.re [1, 0, 2, 3] rfl
              have HS : Sep.St [clock_Set.at bt5_0 (x14), clock_Set.at bt7_0 (x13), tie signalmanlaw7_Act.El sd2 (a2), R] w0 w := HS
              refine ⟨_, Y.call Try.func13 (by kernel_rfl) rfl (vs := [Value.pointer (some ⟨bt5_0, 0, none⟩), Value.int .i64 (((a2).getD (x12).toNat default).Id)]) rfl (clock_Set_Stop.calls x14 (((a2).getD (x12).toNat default).Id) _ w0 _ bt5_0 t36  A37 (Sep.St.tailJoin (m := [clock_Set.at bt5_0 (x14)]) (r := [clock_Set.at bt7_0 (x13), tie signalmanlaw7_Act.El sd2 (a2), R]) HS)), ?_⟩
              rintro _ w ⟨rfl, HS⟩
              replace HS := Sep.St.tailOpen (m := [clock_Set.at bt5_0 (t36.2)]) (r := [clock_Set.at bt7_0 (x13), tie signalmanlaw7_Act.El sd2 (a2), R]) HS
              have HS : Sep.St [clock_Set.at bt5_0 (t36.2), clock_Set.at bt7_0 (x13), tie signalmanlaw7_Act.El sd2 (a2), R] w0 w := HS
              refine ⟨[(86, Value.bool (t36.1))], fun w => Sep.St [clock_Set.at bt5_0 (t36.2), clock_Set.at bt7_0 (x13), tie signalmanlaw7_Act.El sd2 (a2), R] w0 w, ⟨.inl ⟨rfl, rfl⟩, trivial⟩, ?_, HS⟩
              refine T.event _ [(87, Value.pointer (some ⟨bt7_0, 0, none⟩)), (92, Value.int .i64 (((a2).getD (x12).toNat default).Id))] rfl rfl ⟨⟨_, Value.pointer (some ⟨bt7_0, 0, none⟩), [(9, Value.pointer (some ⟨bt7_0, 0, none⟩))], 87, rfl, rfl, ⟨.inl ⟨rfl, rfl⟩, trivial⟩, .run rfl (fun w HS => X.move rfl), rfl, rfl, rfl⟩, ⟨_, Value.slice (some ⟨eb19, eo20, none⟩) (a2).length sc2, [(2, Value.slice (some ⟨eb19, eo20, none⟩) (a2).length sc2)], 88, rfl, rfl, ⟨.inl ⟨rfl, rfl⟩, trivial⟩, .run rfl (fun w HS => X.move rfl), rfl, rfl, rfl⟩, ⟨_, Value.int .i64 (x12), [(10, Value.int .i64 (x12))], 89, rfl, rfl, ⟨.inl ⟨rfl, rfl⟩, trivial⟩, .run rfl (fun w HS => X.move rfl), rfl, rfl, rfl⟩, ⟨_, Value.pointer (some ⟨eb19, eo20 + (x12).toNat * 3, none⟩), [(88, Value.slice (some ⟨eb19, eo20, none⟩) (a2).length sc2), (89, Value.int .i64 (x12))], 90, rfl, rfl, ⟨.inr ⟨rfl, rfl⟩, ⟨.inr ⟨rfl, rfl⟩, trivial⟩⟩, .run rfl (fun w HS => X.indexSl Try.underlying35 inf39 rfl rfl c18.1 c18.2), rfl, rfl, rfl⟩, ⟨_, Value.pointer (some ⟨eb19, eo20 + (x12).toNat * 3 + 1, none⟩), [(90, Value.pointer (some ⟨eb19, eo20 + (x12).toNat * 3, none⟩))], 91, rfl, rfl, ⟨.inr ⟨rfl, rfl⟩, trivial⟩, .run rfl (fun w HS => X.fieldAddr 1 fo39_1 rfl), rfl, rfl, rfl⟩, ⟨_, Value.int .i64 (((a2).getD (x12).toNat default).Id), [(91, Value.pointer (some ⟨eb19, eo20 + (x12).toNat * 3 + 1, none⟩))], 92, rfl, rfl, ⟨.inr ⟨rfl, rfl⟩, trivial⟩, .run rfl (fun w HS => X.load Try.underlying3 rfl rfl (((rdC.at 3 hr2 HS rfl)).cellEl (hc22 1 _ rfl))), rfl, rfl, rfl⟩, trivial⟩ rfl ⟨.inr ⟨rfl, rfl⟩, ⟨.inr ⟨rfl, rfl⟩, trivial⟩⟩ (Or.inl rfl) (by intro d hd; cases hd; exact ⟨by decide, rfl, rfl⟩) [] [7, 8, 9, 10, 11, 12] rfl rfl (fun w HS => ?_)
              have HS : Sep.St [clock_Set.at bt5_0 (t36.2), clock_Set.at bt7_0 (x13), tie signalmanlaw7_Act.El sd2 (a2), R] w0 w := HS
              obtain ⟨t38, A39, H⟩ := bind_s H
              replace HS := HS.re [1, 0, 2, 3] rfl
              have HS : Sep.St [clock_Set.at bt7_0 (x13), clock_Set.at bt5_0 (t36.2), tie signalmanlaw7_Act.El sd2 (a2), R] w0 w := HS
              refine ⟨_, Y.call Try.func13 (by kernel_rfl) rfl (vs := [Value.pointer (some ⟨bt7_0, 0, none⟩), Value.int .i64 (((a2).getD (x12).toNat default).Id)]) rfl (clock_Set_Stop.calls x13 (((a2).getD (x12).toNat default).Id) _ w0 _ bt7_0 t38  A39 (Sep.St.tailJoin (m := [clock_Set.at bt7_0 (x13)]) (r := [clock_Set.at bt5_0 (t36.2), tie signalmanlaw7_Act.El sd2 (a2), R]) HS)), ?_⟩
              rintro _ w ⟨rfl, HS⟩
              replace HS := Sep.St.tailOpen (m := [clock_Set.at bt7_0 (t38.2)]) (r := [clock_Set.at bt5_0 (t36.2), tie signalmanlaw7_Act.El sd2 (a2), R]) HS
              have HS : Sep.St [clock_Set.at bt7_0 (t38.2), clock_Set.at bt5_0 (t36.2), tie signalmanlaw7_Act.El sd2 (a2), R] w0 w := HS
              refine ⟨[(93, Value.bool (t38.1)), (94, Value.bool (((t36.1) != (t38.1))))], fun w => Sep.St [clock_Set.at bt7_0 (t38.2), clock_Set.at bt5_0 (t36.2), tie signalmanlaw7_Act.El sd2 (a2), R] w0 w, ⟨.inl ⟨rfl, rfl⟩, ⟨.inr ⟨by decide, rfl⟩, trivial⟩⟩, ?_, HS⟩
              refine T.fin [(0, Value.int .u32 (a0)), (1, Value.int .u32 (a1)), (2, Value.slice (some ⟨eb19, eo20, none⟩) (a2).length sc2), (8, Value.pointer (some ⟨bt5_0, 0, none⟩)), (9, Value.pointer (some ⟨bt7_0, 0, none⟩)), (10, Value.int .i64 (x12)), (94, Value.bool (((t36.1) != (t38.1))))] rfl ⟨⟨_, Value.bool (((t36.1) != (t38.1))), [(86, Value.bool (t36.1)), (93, Value.bool (t38.1))], 94, rfl, rfl, ⟨.inr ⟨rfl, rfl⟩, ⟨.inr ⟨rfl, rfl⟩, trivial⟩⟩, .run rfl (fun w HS => X.neB Try.underlying4 rfl rfl), rfl, rfl, rfl⟩, trivial⟩ ⟨.inl ⟨rfl, rfl⟩, ⟨.inl ⟨rfl, rfl⟩, ⟨.inl ⟨rfl, rfl⟩, ⟨.inl ⟨rfl, rfl⟩, ⟨.inl ⟨rfl, rfl⟩, ⟨.inl ⟨rfl, rfl⟩, ⟨.inr ⟨rfl, rfl⟩, trivial⟩⟩⟩⟩⟩⟩⟩ (fun w HS => ?_)
              have HS : Sep.St [clock_Set.at bt7_0 (t38.2), clock_Set.at bt5_0 (t36.2), tie signalmanlaw7_Act.El sd2 (a2), R] w0 w := HS
              refine At.next ?_
              refine V.keep [(0, Value.int .u32 (a0)), (1, Value.int .u32 (a1)), (2, Value.slice (some ⟨eb19, eo20, none⟩) (a2).length sc2), (8, Value.pointer (some ⟨bt5_0, 0, none⟩)), (9, Value.pointer (some ⟨bt7_0, 0, none⟩)), (10, Value.int .i64 (x12)), (94, Value.bool (((t36.1) != (t38.1))))] ⟨rfl, rfl, rfl, rfl, rfl, rfl, rfl, trivial⟩ ?_
              by_cases c40 : ((t36.1) != (t38.1)) = true
              · replace H := ite_t c40 H
                refine V.condT (sb c40) ?_
                refine V.seq ?_
                refine V.region ?_
                refine W.rd (X.assign rfl) rfl rfl rfl ?_
                refine W.nil ?_
                refine At.next ?_
                refine V.keep [(6, Value.bool (false))] ⟨rfl, trivial⟩ ?_
                refine V.ret ?_
                refine At.blockRet ?_
                refine At.thenRet ?_
                refine At.blockRet ?_
                refine At.thenRet ?_
                refine At.thenRet ?_
                refine At.blockRet ?_
                refine At.thenRet ?_
                replace HS := HS.sel [3] [0, 1, 2] rfl
                cases H
                exact At.ret1 rfl rfl ⟨_, rfl, rfl, HS⟩
              · replace H := ite_f c40 H
                refine V.condF (sb (b_f c40)) ?_
                refine V.skip ?_
                refine At.blockEnd ?_
                refine At.next ?_
                refine V.keep [(0, Value.int .u32 (a0)), (1, Value.int .u32 (a1)), (2, Value.slice (some ⟨eb19, eo20, none⟩) (a2).length sc2), (8, Value.pointer (some ⟨bt5_0, 0, none⟩)), (9, Value.pointer (some ⟨bt7_0, 0, none⟩)), (10, Value.int .i64 (x12))] ⟨rfl, rfl, rfl, rfl, rfl, rfl, trivial⟩ ?_
                refine V.seq ?_
                refine V.region ?_
                refine W.rd (X.move rfl) rfl rfl rfl ?_
                obtain ⟨t41, A42, H⟩ := bind_s H
                replace HS := HS.re [1, 0, 2, 3] rfl
                have HS : Sep.St [clock_Set.at bt5_0 (t36.2), clock_Set.at bt7_0 (t38.2), tie signalmanlaw7_Act.El sd2 (a2), R] w0 w := HS
                refine W.ev (Y.call Try.func19 (by kernel_rfl) rfl (vs := [Value.pointer (some ⟨bt5_0, 0, none⟩)]) rfl (clock_Set_Now.calls t36.2 _ w0 _ bt5_0 t41  A42 (Sep.St.tailJoin (m := [clock_Set.at bt5_0 (t36.2)]) (r := [clock_Set.at bt7_0 (t38.2), tie signalmanlaw7_Act.El sd2 (a2), R]) HS))) rfl rfl rfl ?_
                rintro _ w ⟨rfl, HS⟩
                replace HS := Sep.St.tailOpen (m := [clock_Set.at bt5_0 (t36.2)]) (r := [clock_Set.at bt7_0 (t38.2), tie signalmanlaw7_Act.El sd2 (a2), R]) HS
                have HS : Sep.St [clock_Set.at bt5_0 (t36.2), clock_Set.at bt7_0 (t38.2), tie signalmanlaw7_Act.El sd2 (a2), R] w0 w := HS
                refine W.rd (X.move rfl) rfl rfl rfl ?_
                refine W.rd (X.sub rfl rfl) rfl rfl rfl ?_
                refine W.rd (X.move rfl) rfl rfl rfl ?_
                obtain ⟨t43, A44, H⟩ := bind_s H
                replace HS := HS.re [1, 0, 2, 3] rfl
                have HS : Sep.St [clock_Set.at bt7_0 (t38.2), clock_Set.at bt5_0 (t36.2), tie signalmanlaw7_Act.El sd2 (a2), R] w0 w := HS
                refine W.ev (Y.call Try.func19 (by kernel_rfl) rfl (vs := [Value.pointer (some ⟨bt7_0, 0, none⟩)]) rfl (clock_Set_Now.calls t38.2 _ w0 _ bt7_0 t43  A44 (Sep.St.tailJoin (m := [clock_Set.at bt7_0 (t38.2)]) (r := [clock_Set.at bt5_0 (t36.2), tie signalmanlaw7_Act.El sd2 (a2), R]) HS))) rfl rfl rfl ?_
                rintro _ w ⟨rfl, HS⟩
                replace HS := Sep.St.tailOpen (m := [clock_Set.at bt7_0 (t38.2)]) (r := [clock_Set.at bt5_0 (t36.2), tie signalmanlaw7_Act.El sd2 (a2), R]) HS
                have HS : Sep.St [clock_Set.at bt7_0 (t38.2), clock_Set.at bt5_0 (t36.2), tie signalmanlaw7_Act.El sd2 (a2), R] w0 w := HS
                refine W.rd (X.move rfl) rfl rfl rfl ?_
                refine W.rd (X.sub rfl rfl) rfl rfl rfl ?_
                refine W.rd (X.cmp (!(decide ((IntKind.u32.wrap (t41 - a0)) = (IntKind.u32.wrap (t43 - a1))))) rfl rfl rfl rfl) rfl rfl rfl ?_
                refine W.nil ?_
                refine At.next ?_
                refine V.keep [(0, Value.int .u32 (a0)), (1, Value.int .u32 (a1)), (2, Value.slice (some ⟨eb19, eo20, none⟩) (a2).length sc2), (8, Value.pointer (some ⟨bt5_0, 0, none⟩)), (9, Value.pointer (some ⟨bt7_0, 0, none⟩)), (10, Value.int .i64 (x12)), (103, Value.bool (!(decide ((IntKind.u32.wrap (t41 - a0)) = (IntKind.u32.wrap (t43 - a1))))))] ⟨rfl, rfl, rfl, rfl, rfl, rfl, rfl, trivial⟩ ?_
                by_cases c45 : (IntKind.u32.wrap (t41 - a0)) = (IntKind.u32.wrap (t43 - a1))
                · replace H := ite_t c45 H
                  refine V.condF (sb (n_t (decide_eq_true c45))) ?_
                  refine V.skip ?_
                  refine At.blockEnd ?_
                  refine At.next ?_
                  refine V.keep [(0, Value.int .u32 (a0)), (1, Value.int .u32 (a1)), (2, Value.slice (some ⟨eb19, eo20, none⟩) (a2).length sc2), (8, Value.pointer (some ⟨bt5_0, 0, none⟩)), (9, Value.pointer (some ⟨bt7_0, 0, none⟩)), (10, Value.int .i64 (x12))] ⟨rfl, rfl, rfl, rfl, rfl, rfl, trivial⟩ ?_
                  refine V.region ?_
                  refine W.rd (X.move rfl) rfl rfl rfl ?_
                  refine W.rd (X.add rfl rfl) rfl rfl rfl ?_
                  refine W.rd (X.assign rfl) rfl rfl rfl ?_
                  refine W.nil ?_
                  exact At.round kq15 (by omega) (w64 (x12 + 1), t38.2, t36.2) ⟨rfl, rfl, rfl, rfl, rfl, rfl, trivial⟩ ⟨HS, H, by omega⟩
                · replace H := ite_f c45 H
                  refine V.condT (sb (n_f (decide_eq_false c45))) ?_
                  refine V.seq ?_
                  refine V.region ?_
                  refine W.rd (X.assign rfl) rfl rfl rfl ?_
                  refine W.nil ?_
                  refine At.next ?_
                  refine V.keep [(6, Value.bool (false))] ⟨rfl, trivial⟩ ?_
                  refine V.ret ?_
                  refine At.blockRet ?_
                  refine At.thenRet ?_
                  refine At.thenRet ?_
                  refine At.blockRet ?_
                  refine At.thenRet ?_
                  replace HS := HS.sel [3] [0, 1, 2] rfl
                  cases H
                  exact At.ret1 rfl rfl ⟨_, rfl, rfl, HS⟩
            · replace H := ite_f c35 H
              refine V.condF (sb (decide_eq_false c35)) ?_
              refine V.seq ?_
              refine V.draw (es := [6, 13, 14]) (bl := [15]) (f := [(35, Value.pointer (some ⟨bt5_0, 0, none⟩)), (36, Value.slice (some ⟨eb19, eo20, none⟩) (a2).length sc2), (37, Value.int .i64 (x12)), (38, Value.pointer (some ⟨eb19, eo20 + (x12).toNat * 3, none⟩)), (39, Value.pointer (some ⟨eb19, eo20 + (x12).toNat * 3 + 2, none⟩)), (40, Value.int .i64 (((a2).getD (x12).toNat default).N)), (42, Value.pointer (some ⟨bt7_0, 0, none⟩)), (43, Value.slice (some ⟨eb19, eo20, none⟩) (a2).length sc2), (44, Value.int .i64 (x12)), (45, Value.pointer (some ⟨eb19, eo20 + (x12).toNat * 3, none⟩)), (46, Value.pointer (some ⟨eb19, eo20 + (x12).toNat * 3 + 2, none⟩)), (47, Value.int .i64 (((a2).getD (x12).toNat default).N))]) (fun w => Sep.St [clock_Set.at bt7_0 (x13), clock_Set.at bt5_0 (x14), tie signalmanlaw7_Act.El sd2 (a2), R] w0 w) mo HS.drew rfl ?_
              refine T.event _ [(35, Value.pointer (some ⟨bt5_0, 0, none⟩)), (40, Value.int .i64 (((a2).getD (x12).toNat default).N))] rfl rfl ⟨⟨_, Value.pointer (some ⟨bt5_0, 0, none⟩), [(8, Value.pointer (some ⟨bt5_0, 0, none⟩))], 35, rfl, rfl, ⟨.inl ⟨rfl, rfl⟩, trivial⟩, .run rfl (fun w HS => X.move rfl), rfl, rfl, rfl⟩, ⟨_, Value.slice (some ⟨eb19, eo20, none⟩) (a2).length sc2, [(2, Value.slice (some ⟨eb19, eo20, none⟩) (a2).length sc2)], 36, rfl, rfl, ⟨.inl ⟨rfl, rfl⟩, trivial⟩, .run rfl (fun w HS => X.move rfl), rfl, rfl, rfl⟩, ⟨_, Value.int .i64 (x12), [(10, Value.int .i64 (x12))], 37, rfl, rfl, ⟨.inl ⟨rfl, rfl⟩, trivial⟩, .run rfl (fun w HS => X.move rfl), rfl, rfl, rfl⟩, ⟨_, Value.pointer (some ⟨eb19, eo20 + (x12).toNat * 3, none⟩), [(36, Value.slice (some ⟨eb19, eo20, none⟩) (a2).length sc2), (37, Value.int .i64 (x12))], 38, rfl, rfl, ⟨.inr ⟨rfl, rfl⟩, ⟨.inr ⟨rfl, rfl⟩, trivial⟩⟩, .run rfl (fun w HS => X.indexSl Try.underlying35 inf39 rfl rfl c18.1 c18.2), rfl, rfl, rfl⟩, ⟨_, Value.pointer (some ⟨eb19, eo20 + (x12).toNat * 3 + 2, none⟩), [(38, Value.pointer (some ⟨eb19, eo20 + (x12).toNat * 3, none⟩))], 39, rfl, rfl, ⟨.inr ⟨rfl, rfl⟩, trivial⟩, .run rfl (fun w HS => X.fieldAddr 2 fo39_2 rfl), rfl, rfl, rfl⟩, ⟨_, Value.int .i64 (((a2).getD (x12).toNat default).N), [(39, Value.pointer (some ⟨eb19, eo20 + (x12).toNat * 3 + 2, none⟩))], 40, rfl, rfl, ⟨.inr ⟨rfl, rfl⟩, trivial⟩, .run rfl (fun w HS => X.load Try.underlying3 rfl rfl (((rdC.at 3 hr2 HS rfl)).cellEl (hc22 2 _ rfl))), rfl, rfl, rfl⟩, ⟨_, Value.pointer (some ⟨bt7_0, 0, none⟩), [(9, Value.pointer (some ⟨bt7_0, 0, none⟩))], 42, rfl, rfl, ⟨.inl ⟨rfl, rfl⟩, trivial⟩, .run rfl (fun w HS => X.move rfl), rfl, rfl, rfl⟩, ⟨_, Value.slice (some ⟨eb19, eo20, none⟩) (a2).length sc2, [(2, Value.slice (some ⟨eb19, eo20, none⟩) (a2).length sc2)], 43, rfl, rfl, ⟨.inl ⟨rfl, rfl⟩, trivial⟩, .run rfl (fun w HS => X.move rfl), rfl, rfl, rfl⟩, ⟨_, Value.int .i64 (x12), [(10, Value.int .i64 (x12))], 44, rfl, rfl, ⟨.inl ⟨rfl, rfl⟩, trivial⟩, .run rfl (fun w HS => X.move rfl), rfl, rfl, rfl⟩, ⟨_, Value.pointer (some ⟨eb19, eo20 + (x12).toNat * 3, none⟩), [(43, Value.slice (some ⟨eb19, eo20, none⟩) (a2).length sc2), (44, Value.int .i64 (x12))], 45, rfl, rfl, ⟨.inr ⟨rfl, rfl⟩, ⟨.inr ⟨rfl, rfl⟩, trivial⟩⟩, .run rfl (fun w HS => X.indexSl Try.underlying35 inf39 rfl rfl c18.1 c18.2), rfl, rfl, rfl⟩, ⟨_, Value.pointer (some ⟨eb19, eo20 + (x12).toNat * 3 + 2, none⟩), [(45, Value.pointer (some ⟨eb19, eo20 + (x12).toNat * 3, none⟩))], 46, rfl, rfl, ⟨.inr ⟨rfl, rfl⟩, trivial⟩, .run rfl (fun w HS => X.fieldAddr 2 fo39_2 rfl), rfl, rfl, rfl⟩, ⟨_, Value.int .i64 (((a2).getD (x12).toNat default).N), [(46, Value.pointer (some ⟨eb19, eo20 + (x12).toNat * 3 + 2, none⟩))], 47, rfl, rfl, ⟨.inr ⟨rfl, rfl⟩, trivial⟩, .run rfl (fun w HS => X.load Try.underlying3 rfl rfl (((rdC.at 3 hr2 HS rfl)).cellEl (hc22 2 _ rfl))), rfl, rfl, rfl⟩, trivial⟩ rfl ⟨.inr ⟨rfl, rfl⟩, ⟨.inr ⟨rfl, rfl⟩, trivial⟩⟩ (Or.inl rfl) (by intro d hd; cases hd; exact ⟨by decide, rfl, rfl⟩) [15] [0, 1, 2, 3, 4, 5] rfl rfl (fun w HS => ?_)
              have HS : Sep.St [clock_Set.at bt7_0 (x13), clock_Set.at bt5_0 (x14), tie signalmanlaw7_Act.El sd2 (a2), R] w0 w := HS
              obtain ⟨t46, A47, H⟩ := bind_s H
              replace HS := HS.re [1, 0, 2, 3] rfl
              have HS : Sep.St [clock_Set.at bt5_0 (x14), clock_Set.at bt7_0 (x13), tie signalmanlaw7_Act.El sd2 (a2), R] w0 w := HS
              refine ⟨_, Y.call Try.func10 (by kernel_rfl) rfl (vs := [Value.pointer (some ⟨bt5_0, 0, none⟩), Value.int .i64 (((a2).getD (x12).toNat default).N)]) rfl (clock_Set_Pass.calls kq15 x14 (((a2).getD (x12).toNat default).N) _ w0 _ bt5_0 t46  A47 (Sep.St.tailJoin (m := [clock_Set.at bt5_0 (x14)]) (r := [clock_Set.at bt7_0 (x13), tie signalmanlaw7_Act.El sd2 (a2), R]) HS)), ?_⟩
              rintro _ w ⟨at46_0, ct46_0, rfl, HS⟩
              replace HS := Sep.St.tailOpen (m := [row 3 1 (.slice at46_0 (t46.1).length ct46_0) (t46.1).length ((t46.1).map (Value.int .i64)), clock_Set.at bt5_0 (t46.2)]) (r := [clock_Set.at bt7_0 (x13), tie signalmanlaw7_Act.El sd2 (a2), R]) HS
              have HS : Sep.St [row 3 1 (.slice at46_0 (t46.1).length ct46_0) (t46.1).length ((t46.1).map (Value.int .i64)), clock_Set.at bt5_0 (t46.2), clock_Set.at bt7_0 (x13), tie signalmanlaw7_Act.El sd2 (a2), R] w0 w := HS
              refine ⟨[(41, Value.slice at46_0 (t46.1).length ct46_0)], fun w => Sep.St [row 3 1 (.slice at46_0 (t46.1).length ct46_0) (t46.1).length ((t46.1).map (Value.int .i64)), clock_Set.at bt5_0 (t46.2), clock_Set.at bt7_0 (x13), tie signalmanlaw7_Act.El sd2 (a2), R] w0 w, ⟨.inl ⟨rfl, rfl⟩, trivial⟩, ?_, HS⟩
              refine T.event _ [(42, Value.pointer (some ⟨bt7_0, 0, none⟩)), (47, Value.int .i64 (((a2).getD (x12).toNat default).N))] rfl rfl ⟨⟨_, Value.pointer (some ⟨bt7_0, 0, none⟩), [(9, Value.pointer (some ⟨bt7_0, 0, none⟩))], 42, rfl, rfl, ⟨.inl ⟨rfl, rfl⟩, trivial⟩, .run rfl (fun w HS => X.move rfl), rfl, rfl, rfl⟩, ⟨_, Value.slice (some ⟨eb19, eo20, none⟩) (a2).length sc2, [(2, Value.slice (some ⟨eb19, eo20, none⟩) (a2).length sc2)], 43, rfl, rfl, ⟨.inl ⟨rfl, rfl⟩, trivial⟩, .run rfl (fun w HS => X.move rfl), rfl, rfl, rfl⟩, ⟨_, Value.int .i64 (x12), [(10, Value.int .i64 (x12))], 44, rfl, rfl, ⟨.inl ⟨rfl, rfl⟩, trivial⟩, .run rfl (fun w HS => X.move rfl), rfl, rfl, rfl⟩, ⟨_, Value.pointer (some ⟨eb19, eo20 + (x12).toNat * 3, none⟩), [(43, Value.slice (some ⟨eb19, eo20, none⟩) (a2).length sc2), (44, Value.int .i64 (x12))], 45, rfl, rfl, ⟨.inr ⟨rfl, rfl⟩, ⟨.inr ⟨rfl, rfl⟩, trivial⟩⟩, .run rfl (fun w HS => X.indexSl Try.underlying35 inf39 rfl rfl c18.1 c18.2), rfl, rfl, rfl⟩, ⟨_, Value.pointer (some ⟨eb19, eo20 + (x12).toNat * 3 + 2, none⟩), [(45, Value.pointer (some ⟨eb19, eo20 + (x12).toNat * 3, none⟩))], 46, rfl, rfl, ⟨.inr ⟨rfl, rfl⟩, trivial⟩, .run rfl (fun w HS => X.fieldAddr 2 fo39_2 rfl), rfl, rfl, rfl⟩, ⟨_, Value.int .i64 (((a2).getD (x12).toNat default).N), [(46, Value.pointer (some ⟨eb19, eo20 + (x12).toNat * 3 + 2, none⟩))], 47, rfl, rfl, ⟨.inr ⟨rfl, rfl⟩, trivial⟩, .run rfl (fun w HS => X.load Try.underlying3 rfl rfl (((rdC.at 4 hr2 HS rfl)).cellEl (hc22 2 _ rfl))), rfl, rfl, rfl⟩, trivial⟩ rfl ⟨.inr ⟨rfl, rfl⟩, ⟨.inr ⟨rfl, rfl⟩, trivial⟩⟩ (Or.inl rfl) (by intro d hd; cases hd; exact ⟨by decide, rfl, rfl⟩) [15] [7, 8, 9, 10, 11, 12] rfl rfl (fun w HS => ?_)
              have HS : Sep.St [row 3 1 (.slice at46_0 (t46.1).length ct46_0) (t46.1).length ((t46.1).map (Value.int .i64)), clock_Set.at bt5_0 (t46.2), clock_Set.at bt7_0 (x13), tie signalmanlaw7_Act.El sd2 (a2), R] w0 w := HS
              obtain ⟨t48, A49, H⟩ := bind_s H
              replace HS := HS.re [2, 0, 1, 3, 4] rfl
              have HS : Sep.St [clock_Set.at bt7_0 (x13), row 3 1 (.slice at46_0 (t46.1).length ct46_0) (t46.1).length ((t46.1).map (Value.int .i64)), clock_Set.at bt5_0 (t46.2), tie signalmanlaw7_Act.El sd2 (a2), R] w0 w := HS
              refine ⟨_, Y.call Try.func10 (by kernel_rfl) rfl (vs := [Value.pointer (some ⟨bt7_0, 0, none⟩), Value.int .i64 (((a2).getD (x12).toNat default).N)]) rfl (clock_Set_Pass.calls kq15 x13 (((a2).getD (x12).toNat default).N) _ w0 _ bt7_0 t48  A49 (Sep.St.tailJoin (m := [clock_Set.at bt7_0 (x13)]) (r := [row 3 1 (.slice at46_0 (t46.1).length ct46_0) (t46.1).length ((t46.1).map (Value.int .i64)), clock_Set.at bt5_0 (t46.2), tie signalmanlaw7_Act.El sd2 (a2), R]) HS)), ?_⟩
              rintro _ w ⟨at48_0, ct48_0, rfl, HS⟩
              replace HS := Sep.St.tailOpen (m := [row 3 1 (.slice at48_0 (t48.1).length ct48_0) (t48.1).length ((t48.1).map (Value.int .i64)), clock_Set.at bt7_0 (t48.2)]) (r := [row 3 1 (.slice at46_0 (t46.1).length ct46_0) (t46.1).length ((t46.1).map (Value.int .i64)), clock_Set.at bt5_0 (t46.2), tie signalmanlaw7_Act.El sd2 (a2), R]) HS
              have HS : Sep.St [row 3 1 (.slice at48_0 (t48.1).length ct48_0) (t48.1).length ((t48.1).map (Value.int .i64)), clock_Set.at bt7_0 (t48.2), row 3 1 (.slice at46_0 (t46.1).length ct46_0) (t46.1).length ((t46.1).map (Value.int .i64)), clock_Set.at bt5_0 (t46.2), tie signalmanlaw7_Act.El sd2 (a2), R] w0 w := HS
              refine ⟨[(48, Value.slice at48_0 (t48.1).length ct48_0)], fun w => Sep.St [row 3 1 (.slice at48_0 (t48.1).length ct48_0) (t48.1).length ((t48.1).map (Value.int .i64)), clock_Set.at bt7_0 (t48.2), row 3 1 (.slice at46_0 (t46.1).length ct46_0) (t46.1).length ((t46.1).map (Value.int .i64)), clock_Set.at bt5_0 (t46.2), tie signalmanlaw7_Act.El sd2 (a2), R] w0 w, ⟨.inl ⟨rfl, rfl⟩, trivial⟩, ?_, HS⟩
              refine T.event _ [(41, Value.slice at46_0 (t46.1).length ct46_0), (48, Value.slice at48_0 (t48.1).length ct48_0)] rfl rfl trivial rfl ⟨.inr ⟨rfl, rfl⟩, ⟨.inr ⟨rfl, rfl⟩, trivial⟩⟩ (Or.inl rfl) (by intro d hd; cases hd; exact ⟨by decide, rfl, rfl⟩) [] [] rfl rfl (fun w HS => ?_)
              have HS : Sep.St [row 3 1 (.slice at48_0 (t48.1).length ct48_0) (t48.1).length ((t48.1).map (Value.int .i64)), clock_Set.at bt7_0 (t48.2), row 3 1 (.slice at46_0 (t46.1).length ct46_0) (t46.1).length ((t46.1).map (Value.int .i64)), clock_Set.at bt5_0 (t46.2), tie signalmanlaw7_Act.El sd2 (a2), R] w0 w := HS
              obtain ⟨t50, A51, H⟩ := bind_s H
              refine ⟨_, Y.call Try.func11 (by kernel_rfl) rfl (vs := [Value.slice at46_0 (t46.1).length ct46_0, Value.slice at48_0 (t48.1).length ct48_0]) rfl (signalmanref6_SameInts.calls kq15 t46.1 t48.1 _ w0 _ at46_0 ct46_0 at48_0 ct48_0 t50 (rdC.part 2 row_rd rfl) (rdC.part 0 row_rd rfl) A51 (Sep.St.tailJoin (m := []) (r := [row 3 1 (.slice at48_0 (t48.1).length ct48_0) (t48.1).length ((t48.1).map (Value.int .i64)), clock_Set.at bt7_0 (t48.2), row 3 1 (.slice at46_0 (t46.1).length ct46_0) (t46.1).length ((t46.1).map (Value.int .i64)), clock_Set.at bt5_0 (t46.2), tie signalmanlaw7_Act.El sd2 (a2), R]) HS)), ?_⟩
              rintro _ w ⟨rfl, HS⟩
              replace HS := Sep.St.tailOpen (m := []) (r := [row 3 1 (.slice at48_0 (t48.1).length ct48_0) (t48.1).length ((t48.1).map (Value.int .i64)), clock_Set.at bt7_0 (t48.2), row 3 1 (.slice at46_0 (t46.1).length ct46_0) (t46.1).length ((t46.1).map (Value.int .i64)), clock_Set.at bt5_0 (t46.2), tie signalmanlaw7_Act.El sd2 (a2), R]) HS
              have HS : Sep.St [row 3 1 (.slice at48_0 (t48.1).length ct48_0) (t48.1).length ((t48.1).map (Value.int .i64)), clock_Set.at bt7_0 (t48.2), row 3 1 (.slice at46_0 (t46.1).length ct46_0) (t46.1).length ((t46.1).map (Value.int .i64)), clock_Set.at bt5_0 (t46.2), tie signalmanlaw7_Act.El sd2 (a2), R] w0 w := HS
              refine ⟨[(49, Value.bool (t50)), (50, Value.bool (!(t50)))], fun w => Sep.St [row 3 1 (.slice at48_0 (t48.1).length ct48_0) (t48.1).length ((t48.1).map (Value.int .i64)), clock_Set.at bt7_0 (t48.2), row 3 1 (.slice at46_0 (t46.1).length ct46_0) (t46.1).length ((t46.1).map (Value.int .i64)), clock_Set.at bt5_0 (t46.2), tie signalmanlaw7_Act.El sd2 (a2), R] w0 w, ⟨.inl ⟨rfl, rfl⟩, ⟨.inr ⟨by decide, rfl⟩, trivial⟩⟩, ?_, HS⟩
              refine T.fin [(0, Value.int .u32 (a0)), (1, Value.int .u32 (a1)), (2, Value.slice (some ⟨eb19, eo20, none⟩) (a2).length sc2), (8, Value.pointer (some ⟨bt5_0, 0, none⟩)), (9, Value.pointer (some ⟨bt7_0, 0, none⟩)), (10, Value.int .i64 (x12)), (50, Value.bool (!(t50)))] rfl ⟨⟨_, Value.bool (!(t50)), [(49, Value.bool (t50))], 50, rfl, rfl, ⟨.inr ⟨rfl, rfl⟩, trivial⟩, .run rfl (fun w HS => X.not rfl), rfl, rfl, rfl⟩, trivial⟩ ⟨.inl ⟨rfl, rfl⟩, ⟨.inl ⟨rfl, rfl⟩, ⟨.inl ⟨rfl, rfl⟩, ⟨.inl ⟨rfl, rfl⟩, ⟨.inl ⟨rfl, rfl⟩, ⟨.inl ⟨rfl, rfl⟩, ⟨.inr ⟨rfl, rfl⟩, trivial⟩⟩⟩⟩⟩⟩⟩ (fun w HS => ?_)
              have HS : Sep.St [row 3 1 (.slice at48_0 (t48.1).length ct48_0) (t48.1).length ((t48.1).map (Value.int .i64)), clock_Set.at bt7_0 (t48.2), row 3 1 (.slice at46_0 (t46.1).length ct46_0) (t46.1).length ((t46.1).map (Value.int .i64)), clock_Set.at bt5_0 (t46.2), tie signalmanlaw7_Act.El sd2 (a2), R] w0 w := HS
              refine At.next ?_
              refine V.keep [(0, Value.int .u32 (a0)), (1, Value.int .u32 (a1)), (2, Value.slice (some ⟨eb19, eo20, none⟩) (a2).length sc2), (8, Value.pointer (some ⟨bt5_0, 0, none⟩)), (9, Value.pointer (some ⟨bt7_0, 0, none⟩)), (10, Value.int .i64 (x12)), (50, Value.bool (!(t50)))] ⟨rfl, rfl, rfl, rfl, rfl, rfl, rfl, trivial⟩ ?_
              by_cases c52 : t50 = true
              · replace H := ite_t c52 H
                refine V.condF (sb (n_t c52)) ?_
                refine V.skip ?_
                refine At.blockEnd ?_
                refine At.next ?_
                refine V.keep [(0, Value.int .u32 (a0)), (1, Value.int .u32 (a1)), (2, Value.slice (some ⟨eb19, eo20, none⟩) (a2).length sc2), (8, Value.pointer (some ⟨bt5_0, 0, none⟩)), (9, Value.pointer (some ⟨bt7_0, 0, none⟩)), (10, Value.int .i64 (x12))] ⟨rfl, rfl, rfl, rfl, rfl, rfl, trivial⟩ ?_
                refine V.seq ?_
                refine V.region ?_
                refine W.rd (X.move rfl) rfl rfl rfl ?_
                obtain ⟨t53, A54, H⟩ := bind_s H
                replace HS := HS.re [3, 0, 1, 2, 4, 5] rfl
                have HS : Sep.St [clock_Set.at bt5_0 (t46.2), row 3 1 (.slice at48_0 (t48.1).length ct48_0) (t48.1).length ((t48.1).map (Value.int .i64)), clock_Set.at bt7_0 (t48.2), row 3 1 (.slice at46_0 (t46.1).length ct46_0) (t46.1).length ((t46.1).map (Value.int .i64)), tie signalmanlaw7_Act.El sd2 (a2), R] w0 w := HS
                refine W.ev (Y.call Try.func19 (by kernel_rfl) rfl (vs := [Value.pointer (some ⟨bt5_0, 0, none⟩)]) rfl (clock_Set_Now.calls t46.2 _ w0 _ bt5_0 t53  A54 (Sep.St.tailJoin (m := [clock_Set.at bt5_0 (t46.2)]) (r := [row 3 1 (.slice at48_0 (t48.1).length ct48_0) (t48.1).length ((t48.1).map (Value.int .i64)), clock_Set.at bt7_0 (t48.2), row 3 1 (.slice at46_0 (t46.1).length ct46_0) (t46.1).length ((t46.1).map (Value.int .i64)), tie signalmanlaw7_Act.El sd2 (a2), R]) HS))) rfl rfl rfl ?_
                rintro _ w ⟨rfl, HS⟩
                replace HS := Sep.St.tailOpen (m := [clock_Set.at bt5_0 (t46.2)]) (r := [row 3 1 (.slice at48_0 (t48.1).length ct48_0) (t48.1).length ((t48.1).map (Value.int .i64)), clock_Set.at bt7_0 (t48.2), row 3 1 (.slice at46_0 (t46.1).length ct46_0) (t46.1).length ((t46.1).map (Value.int .i64)), tie signalmanlaw7_Act.El sd2 (a2), R]) HS
                have HS : Sep.St [clock_Set.at bt5_0 (t46.2), row 3 1 (.slice at48_0 (t48.1).length ct48_0) (t48.1).length ((t48.1).map (Value.int .i64)), clock_Set.at bt7_0 (t48.2), row 3 1 (.slice at46_0 (t46.1).length ct46_0) (t46.1).length ((t46.1).map (Value.int .i64)), tie signalmanlaw7_Act.El sd2 (a2), R] w0 w := HS
                refine W.rd (X.move rfl) rfl rfl rfl ?_
                refine W.rd (X.sub rfl rfl) rfl rfl rfl ?_
                refine W.rd (X.move rfl) rfl rfl rfl ?_
                obtain ⟨t55, A56, H⟩ := bind_s H
                replace HS := HS.re [2, 0, 1, 3, 4, 5] rfl
                have HS : Sep.St [clock_Set.at bt7_0 (t48.2), clock_Set.at bt5_0 (t46.2), row 3 1 (.slice at48_0 (t48.1).length ct48_0) (t48.1).length ((t48.1).map (Value.int .i64)), row 3 1 (.slice at46_0 (t46.1).length ct46_0) (t46.1).length ((t46.1).map (Value.int .i64)), tie signalmanlaw7_Act.El sd2 (a2), R] w0 w := HS
                refine W.ev (Y.call Try.func19 (by kernel_rfl) rfl (vs := [Value.pointer (some ⟨bt7_0, 0, none⟩)]) rfl (clock_Set_Now.calls t48.2 _ w0 _ bt7_0 t55  A56 (Sep.St.tailJoin (m := [clock_Set.at bt7_0 (t48.2)]) (r := [clock_Set.at bt5_0 (t46.2), row 3 1 (.slice at48_0 (t48.1).length ct48_0) (t48.1).length ((t48.1).map (Value.int .i64)), row 3 1 (.slice at46_0 (t46.1).length ct46_0) (t46.1).length ((t46.1).map (Value.int .i64)), tie signalmanlaw7_Act.El sd2 (a2), R]) HS))) rfl rfl rfl ?_
                rintro _ w ⟨rfl, HS⟩
                replace HS := Sep.St.tailOpen (m := [clock_Set.at bt7_0 (t48.2)]) (r := [clock_Set.at bt5_0 (t46.2), row 3 1 (.slice at48_0 (t48.1).length ct48_0) (t48.1).length ((t48.1).map (Value.int .i64)), row 3 1 (.slice at46_0 (t46.1).length ct46_0) (t46.1).length ((t46.1).map (Value.int .i64)), tie signalmanlaw7_Act.El sd2 (a2), R]) HS
                have HS : Sep.St [clock_Set.at bt7_0 (t48.2), clock_Set.at bt5_0 (t46.2), row 3 1 (.slice at48_0 (t48.1).length ct48_0) (t48.1).length ((t48.1).map (Value.int .i64)), row 3 1 (.slice at46_0 (t46.1).length ct46_0) (t46.1).length ((t46.1).map (Value.int .i64)), tie signalmanlaw7_Act.El sd2 (a2), R] w0 w := HS
                refine W.rd (X.move rfl) rfl rfl rfl ?_
                refine W.rd (X.sub rfl rfl) rfl rfl rfl ?_
                refine W.rd (X.cmp (!(decide ((IntKind.u32.wrap (t53 - a0)) = (IntKind.u32.wrap (t55 - a1))))) rfl rfl rfl rfl) rfl rfl rfl ?_
                refine W.nil ?_
                refine At.next ?_
                refine V.keep [(0, Value.int .u32 (a0)), (1, Value.int .u32 (a1)), (2, Value.slice (some ⟨eb19, eo20, none⟩) (a2).length sc2), (8, Value.pointer (some ⟨bt5_0, 0, none⟩)), (9, Value.pointer (some ⟨bt7_0, 0, none⟩)), (10, Value.int .i64 (x12)), (103, Value.bool (!(decide ((IntKind.u32.wrap (t53 - a0)) = (IntKind.u32.wrap (t55 - a1))))))] ⟨rfl, rfl, rfl, rfl, rfl, rfl, rfl, trivial⟩ ?_
                by_cases c57 : (IntKind.u32.wrap (t53 - a0)) = (IntKind.u32.wrap (t55 - a1))
                · replace H := ite_t c57 H
                  refine V.condF (sb (n_t (decide_eq_true c57))) ?_
                  refine V.skip ?_
                  refine At.blockEnd ?_
                  refine At.next ?_
                  refine V.keep [(0, Value.int .u32 (a0)), (1, Value.int .u32 (a1)), (2, Value.slice (some ⟨eb19, eo20, none⟩) (a2).length sc2), (8, Value.pointer (some ⟨bt5_0, 0, none⟩)), (9, Value.pointer (some ⟨bt7_0, 0, none⟩)), (10, Value.int .i64 (x12))] ⟨rfl, rfl, rfl, rfl, rfl, rfl, trivial⟩ ?_
                  refine V.region ?_
                  refine W.rd (X.move rfl) rfl rfl rfl ?_
                  refine W.rd (X.add rfl rfl) rfl rfl rfl ?_
                  refine W.rd (X.assign rfl) rfl rfl rfl ?_
                  refine W.nil ?_
                  replace HS := HS.sel [0, 1, 4, 5] [2, 3] rfl
                  exact At.round kq15 (by omega) (w64 (x12 + 1), t48.2, t46.2) ⟨rfl, rfl, rfl, rfl, rfl, rfl, trivial⟩ ⟨HS, H, by omega⟩
                · replace H := ite_f c57 H
                  refine V.condT (sb (n_f (decide_eq_false c57))) ?_
                  refine V.seq ?_
                  refine V.region ?_
                  refine W.rd (X.assign rfl) rfl rfl rfl ?_
                  refine W.nil ?_
                  refine At.next ?_
                  refine V.keep [(6, Value.bool (false))] ⟨rfl, trivial⟩ ?_
                  refine V.ret ?_
                  refine At.blockRet ?_
                  refine At.thenRet ?_
                  refine At.thenRet ?_
                  refine At.blockRet ?_
                  refine At.thenRet ?_
                  replace HS := HS.sel [5] [0, 1, 2, 3, 4] rfl
                  cases H
                  exact At.ret1 rfl rfl ⟨_, rfl, rfl, HS⟩
              · replace H := ite_f c52 H
                refine V.condT (sb (n_f (b_f c52))) ?_
                refine V.seq ?_
                refine V.region ?_
                refine W.rd (X.assign rfl) rfl rfl rfl ?_
                refine W.nil ?_
                refine At.next ?_
                refine V.keep [(6, Value.bool (false))] ⟨rfl, trivial⟩ ?_
                refine V.ret ?_
                refine At.blockRet ?_
                refine At.thenRet ?_
                refine At.blockRet ?_
                refine At.thenRet ?_
                refine At.thenRet ?_
                refine At.blockRet ?_
                refine At.thenRet ?_
                replace HS := HS.sel [5] [0, 1, 2, 3, 4] rfl
                cases H
                exact At.ret1 rfl rfl ⟨_, rfl, rfl, HS⟩
        · replace H := ite_f c17 H
          refine V.condF (sb (decide_eq_false c17)) ?_
          refine V.exit ?_
          refine At.thenExit ?_
          refine At.thenExit ?_
          refine At.blockExit ?_
          refine At.next ?_
          refine V.keep [] trivial ?_
          refine V.seq ?_
          refine V.region ?_
          refine W.rd (X.assign rfl) rfl rfl rfl ?_
          refine W.nil ?_
          refine At.next ?_
          refine V.keep [(6, Value.bool (true))] ⟨rfl, trivial⟩ ?_
          refine V.ret ?_
          replace HS := HS.sel [3] [0, 1, 2] rfl
          cases H
          exact At.ret1 rfl rfl ⟨_, rfl, rfl, HS⟩
  · replace H := ite_f c3 H
    refine W.pass 14 rfl (sb (n_f (b_f c3))) rfl rfl ?_
    refine W.pass 14 rfl (sb (n_f (b_f c3))) rfl rfl ?_
    refine W.pass 14 rfl (sb (n_f (b_f c3))) rfl rfl ?_
    refine W.rd (X.pickT (sb (n_f (b_f c3))) rfl) rfl rfl rfl ?_
    refine W.nil ?_
    refine At.next ?_
    refine V.keep [(0, Value.int .u32 (a0)), (1, Value.int .u32 (a1)), (2, Value.slice sa2 (a2).length sc2), (7, Value.bool (t1)), (18, Value.bool (true))] ⟨rfl, rfl, rfl, rfl, rfl, trivial⟩ ?_
    refine V.condT rfl ?_
    refine V.seq ?_
    refine V.region ?_
    refine W.rd (X.move rfl) rfl rfl rfl ?_
    refine W.rd (X.assign rfl) rfl rfl rfl ?_
    refine W.nil ?_
    refine At.next ?_
    refine V.keep [(6, Value.bool (t1))] ⟨rfl, trivial⟩ ?_
    refine V.ret ?_
    refine At.thenRet ?_
    replace HS := HS.sel [1] [0] rfl
    cases H
    exact At.ret1 rfl rfl ⟨_, rfl, rfl, HS⟩

def signalmanlaw7_ClockWraps.Pure : Prop := ∀ (a0 : Int) (a1 : Int) (a2 : List signalmanlaw7_Act), (Lit.int .u32 a0).wf = true → (Lit.int .u32 a1).wf = true → (∀ z ∈ a2, ((Lit.int .i64 z.Way).wf = true ∧ ((Lit.int .i64 z.Id).wf = true ∧ ((Lit.int .i64 z.N).wf = true ∧ True)))) → (a2.length : Int) ≤ 9223372036854775807 → ∃ k, signalmanlaw7_ClockWraps.f k a0 a1 a2 = some true
end Go.Proofs.Ytmknlnpjimfliaa

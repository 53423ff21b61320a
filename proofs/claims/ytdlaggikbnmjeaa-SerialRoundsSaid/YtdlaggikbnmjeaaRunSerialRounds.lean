/- SerialRounds: the functions that its law reaches, as plain functions, and that the machine's calls come to what these say. Conditions: those that stand at each. -/
import Derived.Test.YtdlaggikbnmjeaaProg
import Derived.Test.YtdlaggikbnmjeaaEls
set_option linter.unusedVariables false
set_option linter.unusedSimpArgs false
namespace Go.Proofs.Ytdlaggikbnmjeaa
open Go.RowKit Go.Proofs.Ytdlaggikbnmjeaa.Sep Go.Proofs.Ytdlaggikbnmjeaa.Walk
theorem mo : Try.prog.follows .mixedOrders = true := by kernel_rfl

/-! ### signalman/serial.round: function 15 -/
def serial_round.f (a0 : Int) (a1 : Int) : Option (Int × Int) := (if ¬ (imax (1) (imin (a1) (1073741824)) = 0) then (if ((a0).tmod (imax (1) (imin (a1) (1073741824)))) < 0 then some (w64 (((a0).tmod (imax (1) (imin (a1) (1073741824)))) + (imax (1) (imin (a1) (1073741824)))), imax (1) (imin (a1) (1073741824))) else some ((a0).tmod (imax (1) (imin (a1) (1073741824))), imax (1) (imin (a1) (1073741824)))) else none)
set_option maxRecDepth 100000 in
set_option maxHeartbeats 4000000 in
theorem serial_round.calls (a0 : Int) (a1 : Int) (R : As) (w0 w : World)  (r : Int × Int)  (H : serial_round.f a0 a1 = some r) (HS : Sep.St [R] w0 w) : Calls Try.prog 15 #[Value.int .i64 (a0), Value.int .i64 (a1)] w (Ret fun u w => u = Value.tuple #[Value.int .i64 (r.1), Value.int .i64 (r.2)] ∧ Sep.St [R] w0 w) := by
  unfold serial_round.f at H
  refine calls_enter Try.func15 rfl rfl ?_
  have H : _ = some r := H
  refine V.seq ?_
  refine V.region ?_
  refine W.rd (X.assign rfl) rfl rfl rfl ?_
  refine W.rd (X.assign rfl) rfl rfl rfl ?_
  refine W.nil ?_
  refine At.next ?_
  refine V.keep [(0, Value.int .i64 (a0)), (1, Value.int .i64 (a1))] ⟨rfl, rfl, trivial⟩ ?_
  refine V.seq ?_
  refine V.region ?_
  refine W.rd (X.move rfl) rfl rfl rfl ?_
  refine W.rd (X.min2 rfl rfl) rfl rfl rfl ?_
  refine W.rd (X.max2 rfl rfl) rfl rfl rfl ?_
  refine W.rd (X.assign rfl) rfl rfl rfl ?_
  refine W.nil ?_
  refine At.next ?_
  refine V.keep [(0, Value.int .i64 (a0)), (1, Value.int .i64 (imax (1) (imin (a1) (1073741824))))] ⟨rfl, rfl, trivial⟩ ?_
  refine V.seq ?_
  refine V.region ?_
  refine W.rd (X.move rfl) rfl rfl rfl ?_
  refine W.rd (X.move rfl) rfl rfl rfl ?_
  obtain ⟨c1, H⟩ := ite_n H
  refine W.rd (X.rem rfl rfl c1) rfl rfl rfl ?_
  refine W.rd (X.assign rfl) rfl rfl rfl ?_
  refine W.nil ?_
  refine At.next ?_
  refine V.keep [(0, Value.int .i64 ((a0).tmod (imax (1) (imin (a1) (1073741824))))), (1, Value.int .i64 (imax (1) (imin (a1) (1073741824))))] ⟨rfl, rfl, trivial⟩ ?_
  refine V.seq ?_
  refine V.seq ?_
  refine V.region ?_
  refine W.rd (X.move rfl) rfl rfl rfl ?_
  refine W.rd (X.cmp (decide (((a0).tmod (imax (1) (imin (a1) (1073741824)))) < 0)) rfl rfl rfl rfl) rfl rfl rfl ?_
  refine W.nil ?_
  refine At.next ?_
  refine V.keep [(0, Value.int .i64 ((a0).tmod (imax (1) (imin (a1) (1073741824))))), (1, Value.int .i64 (imax (1) (imin (a1) (1073741824)))), (13, Value.bool (decide (((a0).tmod (imax (1) (imin (a1) (1073741824)))) < 0)))] ⟨rfl, rfl, rfl, trivial⟩ ?_
  by_cases c2 : ((a0).tmod (imax (1) (imin (a1) (1073741824)))) < 0
  · replace H := ite_t c2 H
    refine V.condT (sb (decide_eq_true c2)) ?_
    refine V.region ?_
    refine W.rd (X.move rfl) rfl rfl rfl ?_
    refine W.rd (X.move rfl) rfl rfl rfl ?_
    refine W.rd (X.add rfl rfl) rfl rfl rfl ?_
    refine W.rd (X.assign rfl) rfl rfl rfl ?_
    refine W.nil ?_
    refine At.next ?_
    refine V.keep [(0, Value.int .i64 (w64 (((a0).tmod (imax (1) (imin (a1) (1073741824)))) + (imax (1) (imin (a1) (1073741824)))))), (1, Value.int .i64 (imax (1) (imin (a1) (1073741824))))] ⟨rfl, rfl, trivial⟩ ?_
    refine V.seq ?_
    refine V.region ?_
    refine W.rd (X.move rfl) rfl rfl rfl ?_
    refine W.rd (X.move rfl) rfl rfl rfl ?_
    refine W.rd (X.assign rfl) rfl rfl rfl ?_
    refine W.rd (X.assign rfl) rfl rfl rfl ?_
    refine W.nil ?_
    refine At.next ?_
    refine V.keep [(4, Value.int .i64 (w64 (((a0).tmod (imax (1) (imin (a1) (1073741824)))) + (imax (1) (imin (a1) (1073741824)))))), (5, Value.int .i64 (imax (1) (imin (a1) (1073741824))))] ⟨rfl, rfl, trivial⟩ ?_
    refine V.ret ?_
    cases H
    exact At.ret2 rfl rfl rfl ⟨_, rfl, rfl, HS⟩
  · replace H := ite_f c2 H
    refine V.condF (sb (decide_eq_false c2)) ?_
    refine V.skip ?_
    refine At.next ?_
    refine V.keep [(0, Value.int .i64 ((a0).tmod (imax (1) (imin (a1) (1073741824))))), (1, Value.int .i64 (imax (1) (imin (a1) (1073741824))))] ⟨rfl, rfl, trivial⟩ ?_
    refine V.seq ?_
    refine V.region ?_
    refine W.rd (X.move rfl) rfl rfl rfl ?_
    refine W.rd (X.move rfl) rfl rfl rfl ?_
    refine W.rd (X.assign rfl) rfl rfl rfl ?_
    refine W.rd (X.assign rfl) rfl rfl rfl ?_
    refine W.nil ?_
    refine At.next ?_
    refine V.keep [(4, Value.int .i64 ((a0).tmod (imax (1) (imin (a1) (1073741824))))), (5, Value.int .i64 (imax (1) (imin (a1) (1073741824))))] ⟨rfl, rfl, trivial⟩ ?_
    refine V.ret ?_
    cases H
    exact At.ret2 rfl rfl rfl ⟨_, rfl, rfl, HS⟩

/-! ### signalman/serial.Next: function 9 -/
def serial_Next.f (a0 : Int) (a1 : Int) : Option (Int) := ((serial_round.f a0 a1).bind fun t1 => ((serial_round.f (w64 (t1.1 + 1)) t1.2).bind fun t3 => some (t3.1)))
set_option maxRecDepth 100000 in
set_option maxHeartbeats 4000000 in
theorem serial_Next.calls (a0 : Int) (a1 : Int) (R : As) (w0 w : World)  (r : Int)  (H : serial_Next.f a0 a1 = some r) (HS : Sep.St [R] w0 w) : Calls Try.prog 9 #[Value.int .i64 (a0), Value.int .i64 (a1)] w (Ret fun u w => u = Value.int .i64 (r) ∧ Sep.St [R] w0 w) := by
  unfold serial_Next.f at H
  refine calls_enter Try.func9 rfl rfl ?_
  have H : _ = some r := H
  refine V.seq ?_
  refine V.region ?_
  refine W.rd (X.assign rfl) rfl rfl rfl ?_
  refine W.nil ?_
  refine At.next ?_
  refine V.keep [(0, Value.int .i64 (a0)), (1, Value.int .i64 (a1))] ⟨rfl, rfl, trivial⟩ ?_
  refine V.seq ?_
  refine V.region ?_
  refine W.rd (X.move rfl) rfl rfl rfl ?_
  refine W.rd (X.move rfl) rfl rfl rfl ?_
  obtain ⟨t1, A2, H⟩ := bind_s H
  refine W.ev (Y.call Try.func15 (by kernel_rfl) rfl (vs := [Value.int .i64 (a0), Value.int .i64 (a1)]) rfl (serial_round.calls a0 a1 _ w0 _  t1  A2 (Sep.St.tailJoin (m := []) (r := [R]) HS))) rfl rfl rfl ?_
  rintro _ w ⟨rfl, HS⟩
  replace HS := Sep.St.tailOpen (m := []) (r := [R]) HS
  have HS : Sep.St [R] w0 w := HS
  refine W.rd (X.move rfl) rfl rfl rfl ?_
  refine W.rd (X.extract rfl rfl) rfl rfl rfl ?_
  refine W.rd (X.extract rfl rfl) rfl rfl rfl ?_
  refine W.rd (X.assign rfl) rfl rfl rfl ?_
  refine W.rd (X.assign rfl) rfl rfl rfl ?_
  refine W.nil ?_
  refine At.next ?_
  refine V.keep [(0, Value.int .i64 (t1.1)), (1, Value.int .i64 (t1.2))] ⟨rfl, rfl, trivial⟩ ?_
  refine V.seq ?_
  refine V.region ?_
  refine W.rd (X.move rfl) rfl rfl rfl ?_
  refine W.rd (X.add rfl rfl) rfl rfl rfl ?_
  refine W.rd (X.move rfl) rfl rfl rfl ?_
  obtain ⟨t3, A4, H⟩ := bind_s H
  refine W.ev (Y.call Try.func15 (by kernel_rfl) rfl (vs := [Value.int .i64 (w64 (t1.1 + 1)), Value.int .i64 (t1.2)]) rfl (serial_round.calls (w64 (t1.1 + 1)) t1.2 _ w0 _  t3  A4 (Sep.St.tailJoin (m := []) (r := [R]) HS))) rfl rfl rfl ?_
  rintro _ w ⟨rfl, HS⟩
  replace HS := Sep.St.tailOpen (m := []) (r := [R]) HS
  have HS : Sep.St [R] w0 w := HS
  refine W.rd (X.move rfl) rfl rfl rfl ?_
  refine W.rd (X.extract rfl rfl) rfl rfl rfl ?_
  refine W.rd (X.extract rfl rfl) rfl rfl rfl ?_
  refine W.rd (X.assign rfl) rfl rfl rfl ?_
  refine W.nil ?_
  refine At.next ?_
  refine V.keep [(0, Value.int .i64 (t3.1))] ⟨rfl, trivial⟩ ?_
  refine V.seq ?_
  refine V.region ?_
  refine W.rd (X.move rfl) rfl rfl rfl ?_
  refine W.rd (X.assign rfl) rfl rfl rfl ?_
  refine W.nil ?_
  refine At.next ?_
  refine V.keep [(4, Value.int .i64 (t3.1))] ⟨rfl, trivial⟩ ?_
  refine V.ret ?_
  cases H
  exact At.ret1 rfl rfl ⟨_, rfl, rfl, HS⟩

/-! ### signalman/serial.Dist: function 11 -/
def serial_Dist.f (a0 : Int) (a1 : Int) (a2 : Int) : Option (Int) := ((serial_round.f a0 a2).bind fun t1 => ((serial_round.f a1 a2).bind fun t3 => ((serial_round.f (w64 (t3.1 - t1.1)) t3.2).bind fun t5 => some (t5.1))))
set_option maxRecDepth 100000 in
set_option maxHeartbeats 4000000 in
theorem serial_Dist.calls (a0 : Int) (a1 : Int) (a2 : Int) (R : As) (w0 w : World)  (r : Int)  (H : serial_Dist.f a0 a1 a2 = some r) (HS : Sep.St [R] w0 w) : Calls Try.prog 11 #[Value.int .i64 (a0), Value.int .i64 (a1), Value.int .i64 (a2)] w (Ret fun u w => u = Value.int .i64 (r) ∧ Sep.St [R] w0 w) := by
  unfold serial_Dist.f at H
  refine calls_enter Try.func11 rfl rfl ?_
  have H : _ = some r := H
  refine V.seq ?_
  refine V.region ?_
  refine W.rd (X.assign rfl) rfl rfl rfl ?_
  refine W.nil ?_
  refine At.next ?_
  refine V.keep [(0, Value.int .i64 (a0)), (1, Value.int .i64 (a1)), (2, Value.int .i64 (a2))] ⟨rfl, rfl, rfl, trivial⟩ ?_
  refine V.seq ?_
  refine V.region ?_
  refine W.rd (X.move rfl) rfl rfl rfl ?_
  refine W.rd (X.move rfl) rfl rfl rfl ?_
  obtain ⟨t1, A2, H⟩ := bind_s H
  refine W.ev (Y.call Try.func15 (by kernel_rfl) rfl (vs := [Value.int .i64 (a0), Value.int .i64 (a2)]) rfl (serial_round.calls a0 a2 _ w0 _  t1  A2 (Sep.St.tailJoin (m := []) (r := [R]) HS))) rfl rfl rfl ?_
  rintro _ w ⟨rfl, HS⟩
  replace HS := Sep.St.tailOpen (m := []) (r := [R]) HS
  have HS : Sep.St [R] w0 w := HS
  refine W.rd (X.move rfl) rfl rfl rfl ?_
  refine W.rd (X.extract rfl rfl) rfl rfl rfl ?_
  refine W.rd (X.extract rfl rfl) rfl rfl rfl ?_
  refine W.rd (X.assign rfl) rfl rfl rfl ?_
  refine W.nil ?_
  refine At.next ?_
  refine V.keep [(0, Value.int .i64 (t1.1)), (1, Value.int .i64 (a1)), (2, Value.int .i64 (a2))] ⟨rfl, rfl, rfl, trivial⟩ ?_
  refine V.seq ?_
  refine V.region ?_
  refine W.rd (X.move rfl) rfl rfl rfl ?_
  refine W.rd (X.move rfl) rfl rfl rfl ?_
  obtain ⟨t3, A4, H⟩ := bind_s H
  refine W.ev (Y.call Try.func15 (by kernel_rfl) rfl (vs := [Value.int .i64 (a1), Value.int .i64 (a2)]) rfl (serial_round.calls a1 a2 _ w0 _  t3  A4 (Sep.St.tailJoin (m := []) (r := [R]) HS))) rfl rfl rfl ?_
  rintro _ w ⟨rfl, HS⟩
  replace HS := Sep.St.tailOpen (m := []) (r := [R]) HS
  have HS : Sep.St [R] w0 w := HS
  refine W.rd (X.move rfl) rfl rfl rfl ?_
  refine W.rd (X.extract rfl rfl) rfl rfl rfl ?_
  refine W.rd (X.extract rfl rfl) rfl rfl rfl ?_
  refine W.rd (X.assign rfl) rfl rfl rfl ?_
  refine W.rd (X.assign rfl) rfl rfl rfl ?_
  refine W.nil ?_
  refine At.next ?_
  refine V.keep [(0, Value.int .i64 (t1.1)), (1, Value.int .i64 (t3.1)), (2, Value.int .i64 (t3.2))] ⟨rfl, rfl, rfl, trivial⟩ ?_
  refine V.seq ?_
  refine V.region ?_
  refine W.rd (X.move rfl) rfl rfl rfl ?_
  refine W.rd (X.move rfl) rfl rfl rfl ?_
  refine W.rd (X.sub rfl rfl) rfl rfl rfl ?_
  refine W.rd (X.move rfl) rfl rfl rfl ?_
  obtain ⟨t5, A6, H⟩ := bind_s H
  refine W.ev (Y.call Try.func15 (by kernel_rfl) rfl (vs := [Value.int .i64 (w64 (t3.1 - t1.1)), Value.int .i64 (t3.2)]) rfl (serial_round.calls (w64 (t3.1 - t1.1)) t3.2 _ w0 _  t5  A6 (Sep.St.tailJoin (m := []) (r := [R]) HS))) rfl rfl rfl ?_
  rintro _ w ⟨rfl, HS⟩
  replace HS := Sep.St.tailOpen (m := []) (r := [R]) HS
  have HS : Sep.St [R] w0 w := HS
  refine W.rd (X.move rfl) rfl rfl rfl ?_
  refine W.rd (X.extract rfl rfl) rfl rfl rfl ?_
  refine W.rd (X.extract rfl rfl) rfl rfl rfl ?_
  refine W.rd (X.assign rfl) rfl rfl rfl ?_
  refine W.rd (X.assign rfl) rfl rfl rfl ?_
  refine W.nil ?_
  refine At.next ?_
  refine V.keep [(7, Value.int .i64 (t5.1))] ⟨rfl, trivial⟩ ?_
  refine V.seq ?_
  refine V.region ?_
  refine W.rd (X.move rfl) rfl rfl rfl ?_
  refine W.rd (X.assign rfl) rfl rfl rfl ?_
  refine W.nil ?_
  refine At.next ?_
  refine V.keep [(6, Value.int .i64 (t5.1))] ⟨rfl, trivial⟩ ?_
  refine V.ret ?_
  cases H
  exact At.ret1 rfl rfl ⟨_, rfl, rfl, HS⟩

/-! ### signalman/serial.In: function 13 -/
def serial_In.f (a0 : Int) (a1 : Int) (a2 : Int) (a3 : Int) : Option (Bool) := ((serial_Dist.f a1 a0 a3).bind fun t1 => some (decide (t1 < a2)))
set_option maxRecDepth 100000 in
set_option maxHeartbeats 4000000 in
theorem serial_In.calls (a0 : Int) (a1 : Int) (a2 : Int) (a3 : Int) (R : As) (w0 w : World)  (r : Bool)  (H : serial_In.f a0 a1 a2 a3 = some r) (HS : Sep.St [R] w0 w) : Calls Try.prog 13 #[Value.int .i64 (a0), Value.int .i64 (a1), Value.int .i64 (a2), Value.int .i64 (a3)] w (Ret fun u w => u = Value.bool (r) ∧ Sep.St [R] w0 w) := by
  unfold serial_In.f at H
  refine calls_enter Try.func13 rfl rfl ?_
  have H : _ = some r := H
  refine V.seq ?_
  refine V.region ?_
  refine W.rd (X.assign rfl) rfl rfl rfl ?_
  refine W.nil ?_
  refine At.next ?_
  refine V.keep [(0, Value.int .i64 (a0)), (1, Value.int .i64 (a1)), (2, Value.int .i64 (a2)), (3, Value.int .i64 (a3))] ⟨rfl, rfl, rfl, rfl, trivial⟩ ?_
  refine V.seq ?_
  refine V.region ?_
  refine W.rd (X.move rfl) rfl rfl rfl ?_
  refine W.rd (X.move rfl) rfl rfl rfl ?_
  refine W.rd (X.move rfl) rfl rfl rfl ?_
  obtain ⟨t1, A2, H⟩ := bind_s H
  refine W.ev (Y.call Try.func11 (by kernel_rfl) rfl (vs := [Value.int .i64 (a1), Value.int .i64 (a0), Value.int .i64 (a3)]) rfl (serial_Dist.calls a1 a0 a3 _ w0 _  t1  A2 (Sep.St.tailJoin (m := []) (r := [R]) HS))) rfl rfl rfl ?_
  rintro _ w ⟨rfl, HS⟩
  replace HS := Sep.St.tailOpen (m := []) (r := [R]) HS
  have HS : Sep.St [R] w0 w := HS
  refine W.rd (X.move rfl) rfl rfl rfl ?_
  refine W.rd (X.cmp (decide (t1 < a2)) rfl rfl rfl rfl) rfl rfl rfl ?_
  refine W.rd (X.assign rfl) rfl rfl rfl ?_
  refine W.nil ?_
  refine At.next ?_
  refine V.keep [(8, Value.bool (decide (t1 < a2)))] ⟨rfl, trivial⟩ ?_
  refine V.ret ?_
  cases H
  exact At.ret1 rfl rfl ⟨_, rfl, rfl, HS⟩

/-! ### signalman/signalmanlaw1.alive: function 8 -/
def signalmanlaw1_alive.f  : Option (Bool) := ((serial_Next.f 7 8).bind fun t1 => (if t1 = 0 then ((serial_Dist.f 7 1 8).bind fun t4 => (if t4 = 2 then ((serial_In.f 1 7 3 8).bind fun t7 => some (t7)) else some (false))) else some (false)))
set_option maxRecDepth 100000 in
set_option maxHeartbeats 4000000 in
theorem signalmanlaw1_alive.calls  (R : As) (w0 w : World)  (r : Bool)  (H : signalmanlaw1_alive.f  = some r) (HS : Sep.St [R] w0 w) : Calls Try.prog 8 #[] w (Ret fun u w => u = Value.bool (r) ∧ Sep.St [R] w0 w) := by
  unfold signalmanlaw1_alive.f at H
  refine calls_enter Try.func8 rfl rfl ?_
  have H : _ = some r := H
  refine V.seq ?_
  refine V.region ?_
  refine W.rd (X.assign rfl) rfl rfl rfl ?_
  refine W.nil ?_
  refine At.next ?_
  refine V.keep [] trivial ?_
  refine V.seq ?_
  refine V.region ?_
  obtain ⟨t1, A2, H⟩ := bind_s H
  refine W.ev (Y.call Try.func9 (by kernel_rfl) rfl (vs := [Value.int .i64 (7), Value.int .i64 (8)]) rfl (serial_Next.calls 7 8 _ w0 _  t1  A2 (Sep.St.tailJoin (m := []) (r := [R]) HS))) rfl rfl rfl ?_
  rintro _ w ⟨rfl, HS⟩
  replace HS := Sep.St.tailOpen (m := []) (r := [R]) HS
  have HS : Sep.St [R] w0 w := HS
  refine W.rd (X.cmp (decide (t1 = 0)) rfl rfl rfl rfl) rfl rfl rfl ?_
  refine W.rd (X.move rfl) rfl rfl rfl ?_
  by_cases c3 : t1 = 0
  · replace H := ite_t c3 H
    refine W.want 3 rfl (sb (decide_eq_true c3)) ?_
    obtain ⟨t4, A5, H⟩ := bind_s H
    refine W.ev (Y.call Try.func11 (by kernel_rfl) rfl (vs := [Value.int .i64 (7), Value.int .i64 (1), Value.int .i64 (8)]) rfl (serial_Dist.calls 7 1 8 _ w0 _  t4  A5 (Sep.St.tailJoin (m := []) (r := [R]) HS))) rfl rfl rfl ?_
    rintro _ w ⟨rfl, HS⟩
    replace HS := Sep.St.tailOpen (m := []) (r := [R]) HS
    have HS : Sep.St [R] w0 w := HS
    refine W.want 3 rfl (sb (decide_eq_true c3)) ?_
    refine W.rd (X.cmp (decide (t4 = 2)) rfl rfl rfl rfl) rfl rfl rfl ?_
    refine W.rd (X.pickT (sb (decide_eq_true c3)) rfl) rfl rfl rfl ?_
    refine W.rd (X.move rfl) rfl rfl rfl ?_
    by_cases c6 : t4 = 2
    · replace H := ite_t c6 H
      refine W.want 7 rfl (sb (decide_eq_true c6)) ?_
      obtain ⟨t7, A8, H⟩ := bind_s H
      refine W.ev (Y.call Try.func13 (by kernel_rfl) rfl (vs := [Value.int .i64 (1), Value.int .i64 (7), Value.int .i64 (3), Value.int .i64 (8)]) rfl (serial_In.calls 1 7 3 8 _ w0 _  t7  A8 (Sep.St.tailJoin (m := []) (r := [R]) HS))) rfl rfl rfl ?_
      rintro _ w ⟨rfl, HS⟩
      replace HS := Sep.St.tailOpen (m := []) (r := [R]) HS
      have HS : Sep.St [R] w0 w := HS
      refine W.rd (X.pickT (sb (decide_eq_true c6)) rfl) rfl rfl rfl ?_
      refine W.rd (X.assign rfl) rfl rfl rfl ?_
      refine W.nil ?_
      refine At.next ?_
      refine V.keep [(0, Value.bool (t7))] ⟨rfl, trivial⟩ ?_
      refine V.ret ?_
      cases H
      exact At.ret1 rfl rfl ⟨_, rfl, rfl, HS⟩
    · replace H := ite_f c6 H
      refine W.pass 7 rfl (sb (decide_eq_false c6)) rfl rfl ?_
      refine W.rd (X.pickF (sb (decide_eq_false c6)) rfl) rfl rfl rfl ?_
      refine W.rd (X.assign rfl) rfl rfl rfl ?_
      refine W.nil ?_
      refine At.next ?_
      refine V.keep [(0, Value.bool (false))] ⟨rfl, trivial⟩ ?_
      refine V.ret ?_
      cases H
      exact At.ret1 rfl rfl ⟨_, rfl, rfl, HS⟩
  · replace H := ite_f c3 H
    refine W.pass 3 rfl (sb (decide_eq_false c3)) rfl rfl ?_
    refine W.pass 3 rfl (sb (decide_eq_false c3)) rfl rfl ?_
    refine W.rd (X.pickF (sb (decide_eq_false c3)) rfl) rfl rfl rfl ?_
    refine W.rd (X.move rfl) rfl rfl rfl ?_
    refine W.pass 7 rfl rfl rfl rfl ?_
    refine W.rd (X.pickF rfl rfl) rfl rfl rfl ?_
    refine W.rd (X.assign rfl) rfl rfl rfl ?_
    refine W.nil ?_
    refine At.next ?_
    refine V.keep [(0, Value.bool (false))] ⟨rfl, trivial⟩ ?_
    refine V.ret ?_
    cases H
    exact At.ret1 rfl rfl ⟨_, rfl, rfl, HS⟩

/-! ### signalman/signalmanlaw1.SerialRounds: function 5 -/
def signalmanlaw1_SerialRounds.f (a0 : Int) (a1 : Int) (a2 : Int) (a3 : Int) : Option (Bool) := ((signalmanlaw1_alive.f ).bind fun t1 => (if t1 = true then (if a3 < 1 then some (t1) else (if a3 > 1073741824 then some (t1) else (if a0 > 1099511627776 then some (t1) else (if a0 < (-1099511627776) then some (t1) else ((serial_Dist.f a0 a1 a3).bind fun t8 => ((serial_Dist.f a1 a0 a3).bind fun t10 => (if t8 = 0 then (if t10 = 0 then ((serial_Dist.f a1 a2 a3).bind fun t14 => (if ¬ (a3 = 0) then ((serial_Dist.f a0 a2 a3).bind fun t17 => (if ((w64 (t8 + t14)).tmod (a3)) = t17 then ((serial_Dist.f (w64 (a0 + a3)) a1 a3).bind fun t20 => (if t20 = t8 then ((serial_Next.f a0 a3).bind fun t23 => ((serial_Dist.f a0 t23 a3).bind fun t25 => some (decide (t25 = (((1 : Int)).tmod (a3)))))) else some (false))) else some (false))) else none)) else (if (w64 (t8 + t10)) = a3 then ((serial_Dist.f a1 a2 a3).bind fun t28 => (if ¬ (a3 = 0) then ((serial_Dist.f a0 a2 a3).bind fun t31 => (if ((w64 (t8 + t28)).tmod (a3)) = t31 then ((serial_Dist.f (w64 (a0 + a3)) a1 a3).bind fun t34 => (if t34 = t8 then ((serial_Next.f a0 a3).bind fun t37 => ((serial_Dist.f a0 t37 a3).bind fun t39 => some (decide (t39 = (((1 : Int)).tmod (a3)))))) else some (false))) else some (false))) else none)) else some (false))) else (if (w64 (t8 + t10)) = a3 then ((serial_Dist.f a1 a2 a3).bind fun t42 => (if ¬ (a3 = 0) then ((serial_Dist.f a0 a2 a3).bind fun t45 => (if ((w64 (t8 + t42)).tmod (a3)) = t45 then ((serial_Dist.f (w64 (a0 + a3)) a1 a3).bind fun t48 => (if t48 = t8 then ((serial_Next.f a0 a3).bind fun t51 => ((serial_Dist.f a0 t51 a3).bind fun t53 => some (decide (t53 = (((1 : Int)).tmod (a3)))))) else some (false))) else some (false))) else none)) else some (false))))))))) else some (t1)))
set_option maxRecDepth 100000 in
set_option maxHeartbeats 4000000 in
theorem signalmanlaw1_SerialRounds.calls (a0 : Int) (a1 : Int) (a2 : Int) (a3 : Int) (R : As) (w0 w : World)  (r : Bool)  (H : signalmanlaw1_SerialRounds.f a0 a1 a2 a3 = some r) (HS : Sep.St [R] w0 w) : Calls Try.prog 5 #[Value.int .i64 (a0), Value.int .i64 (a1), Value.int .i64 (a2), Value.int .i64 (a3)] w (Ret fun u w => u = Value.bool (r) ∧ Sep.St [R] w0 w) := by
  unfold signalmanlaw1_SerialRounds.f at H
  refine calls_enter Try.func5 rfl rfl ?_
  have H : _ = some r := H
  refine V.seq ?_
  refine V.region ?_
  refine W.rd (X.assign rfl) rfl rfl rfl ?_
  refine W.nil ?_
  refine At.next ?_
  refine V.keep [(0, Value.int .i64 (a0)), (1, Value.int .i64 (a1)), (2, Value.int .i64 (a2)), (3, Value.int .i64 (a3))] ⟨rfl, rfl, rfl, rfl, trivial⟩ ?_
  refine V.seq ?_
  refine V.region ?_
  obtain ⟨t1, A2, H⟩ := bind_s H
  refine W.ev (Y.call Try.func8 (by kernel_rfl) rfl (vs := []) rfl (signalmanlaw1_alive.calls  _ w0 _  t1  A2 (Sep.St.tailJoin (m := []) (r := [R]) HS))) rfl rfl rfl ?_
  rintro _ w ⟨rfl, HS⟩
  replace HS := Sep.St.tailOpen (m := []) (r := [R]) HS
  have HS : Sep.St [R] w0 w := HS
  refine W.rd (X.assign rfl) rfl rfl rfl ?_
  refine W.nil ?_
  refine At.next ?_
  refine V.keep [(0, Value.int .i64 (a0)), (1, Value.int .i64 (a1)), (2, Value.int .i64 (a2)), (3, Value.int .i64 (a3)), (9, Value.bool (t1))] ⟨rfl, rfl, rfl, rfl, rfl, trivial⟩ ?_
  refine V.seq ?_
  refine V.seq ?_
  refine V.region ?_
  refine W.rd (X.move rfl) rfl rfl rfl ?_
  refine W.rd (X.not rfl) rfl rfl rfl ?_
  refine W.rd (X.move rfl) rfl rfl rfl ?_
  by_cases c3 : t1 = true
  · replace H := ite_t c3 H
    refine W.want 16 rfl (sb (n_t c3)) ?_
    refine W.rd (X.move rfl) rfl rfl rfl ?_
    refine W.want 16 rfl (sb (n_t c3)) ?_
    refine W.rd (X.cmp (decide (a3 < 1)) rfl rfl rfl rfl) rfl rfl rfl ?_
    refine W.rd (X.pickF (sb (n_t c3)) rfl) rfl rfl rfl ?_
    refine W.rd (X.move rfl) rfl rfl rfl ?_
    by_cases c4 : a3 < 1
    · replace H := ite_t c4 H
      refine W.pass 20 rfl (sb (decide_eq_true c4)) rfl rfl ?_
      refine W.pass 20 rfl (sb (decide_eq_true c4)) rfl rfl ?_
      refine W.rd (X.pickT (sb (decide_eq_true c4)) rfl) rfl rfl rfl ?_
      refine W.rd (X.move rfl) rfl rfl rfl ?_
      refine W.pass 24 rfl rfl rfl rfl ?_
      refine W.pass 24 rfl rfl rfl rfl ?_
      refine W.rd (X.pickT rfl rfl) rfl rfl rfl ?_
      refine W.rd (X.move rfl) rfl rfl rfl ?_
      refine W.pass 28 rfl rfl rfl rfl ?_
      refine W.pass 28 rfl rfl rfl rfl ?_
      refine W.rd (X.pickT rfl rfl) rfl rfl rfl ?_
      refine W.nil ?_
      refine At.next ?_
      refine V.keep [(0, Value.int .i64 (a0)), (1, Value.int .i64 (a1)), (2, Value.int .i64 (a2)), (3, Value.int .i64 (a3)), (9, Value.bool (t1)), (31, Value.bool (true))] ⟨rfl, rfl, rfl, rfl, rfl, rfl, trivial⟩ ?_
      refine V.condT rfl ?_
      refine V.seq ?_
      refine V.region ?_
      refine W.rd (X.move rfl) rfl rfl rfl ?_
      refine W.rd (X.assign rfl) rfl rfl rfl ?_
      refine W.nil ?_
      refine At.next ?_
      refine V.keep [(8, Value.bool (t1))] ⟨rfl, trivial⟩ ?_
      refine V.ret ?_
      refine At.thenRet ?_
      cases H
      exact At.ret1 rfl rfl ⟨_, rfl, rfl, HS⟩
    · replace H := ite_f c4 H
      refine W.want 20 rfl (sb (decide_eq_false c4)) ?_
      refine W.rd (X.move rfl) rfl rfl rfl ?_
      refine W.want 20 rfl (sb (decide_eq_false c4)) ?_
      refine W.rd (X.cmp (decide (a3 > 1073741824)) rfl rfl rfl rfl) rfl rfl rfl ?_
      refine W.rd (X.pickF (sb (decide_eq_false c4)) rfl) rfl rfl rfl ?_
      refine W.rd (X.move rfl) rfl rfl rfl ?_
      by_cases c5 : a3 > 1073741824
      · replace H := ite_t c5 H
        refine W.pass 24 rfl (sb (decide_eq_true c5)) rfl rfl ?_
        refine W.pass 24 rfl (sb (decide_eq_true c5)) rfl rfl ?_
        refine W.rd (X.pickT (sb (decide_eq_true c5)) rfl) rfl rfl rfl ?_
        refine W.rd (X.move rfl) rfl rfl rfl ?_
        refine W.pass 28 rfl rfl rfl rfl ?_
        refine W.pass 28 rfl rfl rfl rfl ?_
        refine W.rd (X.pickT rfl rfl) rfl rfl rfl ?_
        refine W.nil ?_
        refine At.next ?_
        refine V.keep [(0, Value.int .i64 (a0)), (1, Value.int .i64 (a1)), (2, Value.int .i64 (a2)), (3, Value.int .i64 (a3)), (9, Value.bool (t1)), (31, Value.bool (true))] ⟨rfl, rfl, rfl, rfl, rfl, rfl, trivial⟩ ?_
        refine V.condT rfl ?_
        refine V.seq ?_
        refine V.region ?_
        refine W.rd (X.move rfl) rfl rfl rfl ?_
        refine W.rd (X.assign rfl) rfl rfl rfl ?_
        refine W.nil ?_
        refine At.next ?_
        refine V.keep [(8, Value.bool (t1))] ⟨rfl, trivial⟩ ?_
        refine V.ret ?_
        refine At.thenRet ?_
        cases H
        exact At.ret1 rfl rfl ⟨_, rfl, rfl, HS⟩
      · replace H := ite_f c5 H
        refine W.want 24 rfl (sb (decide_eq_false c5)) ?_
        refine W.rd (X.move rfl) rfl rfl rfl ?_
        refine W.want 24 rfl (sb (decide_eq_false c5)) ?_
        refine W.rd (X.cmp (decide (a0 > 1099511627776)) rfl rfl rfl rfl) rfl rfl rfl ?_
        refine W.rd (X.pickF (sb (decide_eq_false c5)) rfl) rfl rfl rfl ?_
        refine W.rd (X.move rfl) rfl rfl rfl ?_
        by_cases c6 : a0 > 1099511627776
        · replace H := ite_t c6 H
          refine W.pass 28 rfl (sb (decide_eq_true c6)) rfl rfl ?_
          refine W.pass 28 rfl (sb (decide_eq_true c6)) rfl rfl ?_
          refine W.rd (X.pickT (sb (decide_eq_true c6)) rfl) rfl rfl rfl ?_
          refine W.nil ?_
          refine At.next ?_
          refine V.keep [(0, Value.int .i64 (a0)), (1, Value.int .i64 (a1)), (2, Value.int .i64 (a2)), (3, Value.int .i64 (a3)), (9, Value.bool (t1)), (31, Value.bool (true))] ⟨rfl, rfl, rfl, rfl, rfl, rfl, trivial⟩ ?_
          refine V.condT rfl ?_
          refine V.seq ?_
          refine V.region ?_
          refine W.rd (X.move rfl) rfl rfl rfl ?_
          refine W.rd (X.assign rfl) rfl rfl rfl ?_
          refine W.nil ?_
          refine At.next ?_
          refine V.keep [(8, Value.bool (t1))] ⟨rfl, trivial⟩ ?_
          refine V.ret ?_
          refine At.thenRet ?_
          cases H
          exact At.ret1 rfl rfl ⟨_, rfl, rfl, HS⟩
        · replace H := ite_f c6 H
          refine W.want 28 rfl (sb (decide_eq_false c6)) ?_
          refine W.rd (X.move rfl) rfl rfl rfl ?_
          refine W.want 28 rfl (sb (decide_eq_false c6)) ?_
          refine W.rd (X.cmp (decide (a0 < (-1099511627776))) rfl rfl rfl rfl) rfl rfl rfl ?_
          refine W.rd (X.pickF (sb (decide_eq_false c6)) rfl) rfl rfl rfl ?_
          refine W.nil ?_
          refine At.next ?_
          refine V.keep [(0, Value.int .i64 (a0)), (1, Value.int .i64 (a1)), (2, Value.int .i64 (a2)), (3, Value.int .i64 (a3)), (9, Value.bool (t1)), (31, Value.bool (decide (a0 < (-1099511627776))))] ⟨rfl, rfl, rfl, rfl, rfl, rfl, trivial⟩ ?_
          by_cases c7 : a0 < (-1099511627776)
          · replace H := ite_t c7 H
            refine V.condT (sb (decide_eq_true c7)) ?_
            refine V.seq ?_
            refine V.region ?_
            refine W.rd (X.move rfl) rfl rfl rfl ?_
            refine W.rd (X.assign rfl) rfl rfl rfl ?_
            refine W.nil ?_
            refine At.next ?_
            refine V.keep [(8, Value.bool (t1))] ⟨rfl, trivial⟩ ?_
            refine V.ret ?_
            refine At.thenRet ?_
            cases H
            exact At.ret1 rfl rfl ⟨_, rfl, rfl, HS⟩
          · replace H := ite_f c7 H
            refine V.condF (sb (decide_eq_false c7)) ?_
            refine V.skip ?_
            refine At.next ?_
            refine V.keep [(0, Value.int .i64 (a0)), (1, Value.int .i64 (a1)), (2, Value.int .i64 (a2)), (3, Value.int .i64 (a3))] ⟨rfl, rfl, rfl, rfl, trivial⟩ ?_
            refine V.seq ?_
            refine V.region ?_
            refine W.rd (X.move rfl) rfl rfl rfl ?_
            refine W.rd (X.move rfl) rfl rfl rfl ?_
            refine W.rd (X.move rfl) rfl rfl rfl ?_
            obtain ⟨t8, A9, H⟩ := bind_s H
            refine W.ev (Y.call Try.func11 (by kernel_rfl) rfl (vs := [Value.int .i64 (a0), Value.int .i64 (a1), Value.int .i64 (a3)]) rfl (serial_Dist.calls a0 a1 a3 _ w0 _  t8  A9 (Sep.St.tailJoin (m := []) (r := [R]) HS))) rfl rfl rfl ?_
            rintro _ w ⟨rfl, HS⟩
            replace HS := Sep.St.tailOpen (m := []) (r := [R]) HS
            have HS : Sep.St [R] w0 w := HS
            refine W.rd (X.assign rfl) rfl rfl rfl ?_
            refine W.nil ?_
            refine At.next ?_
            refine V.keep [(0, Value.int .i64 (a0)), (1, Value.int .i64 (a1)), (2, Value.int .i64 (a2)), (3, Value.int .i64 (a3)), (10, Value.int .i64 (t8))] ⟨rfl, rfl, rfl, rfl, rfl, trivial⟩ ?_
            refine V.seq ?_
            refine V.region ?_
            refine W.rd (X.move rfl) rfl rfl rfl ?_
            refine W.rd (X.move rfl) rfl rfl rfl ?_
            refine W.rd (X.move rfl) rfl rfl rfl ?_
            obtain ⟨t10, A11, H⟩ := bind_s H
            refine W.ev (Y.call Try.func11 (by kernel_rfl) rfl (vs := [Value.int .i64 (a1), Value.int .i64 (a0), Value.int .i64 (a3)]) rfl (serial_Dist.calls a1 a0 a3 _ w0 _  t10  A11 (Sep.St.tailJoin (m := []) (r := [R]) HS))) rfl rfl rfl ?_
            rintro _ w ⟨rfl, HS⟩
            replace HS := Sep.St.tailOpen (m := []) (r := [R]) HS
            have HS : Sep.St [R] w0 w := HS
            refine W.rd (X.assign rfl) rfl rfl rfl ?_
            refine W.nil ?_
            refine At.next ?_
            refine V.keep [(0, Value.int .i64 (a0)), (1, Value.int .i64 (a1)), (2, Value.int .i64 (a2)), (3, Value.int .i64 (a3)), (10, Value.int .i64 (t8)), (11, Value.int .i64 (t10))] ⟨rfl, rfl, rfl, rfl, rfl, rfl, trivial⟩ ?_
            refine V.seq ?_
            refine V.region ?_
            refine W.rd (X.move rfl) rfl rfl rfl ?_
            refine W.rd (X.cmp (decide (t8 = 0)) rfl rfl rfl rfl) rfl rfl rfl ?_
            refine W.rd (X.move rfl) rfl rfl rfl ?_
            by_cases c12 : t8 = 0
            · replace H := ite_t c12 H
              refine W.want 43 rfl (sb (decide_eq_true c12)) ?_
              refine W.rd (X.move rfl) rfl rfl rfl ?_
              refine W.want 43 rfl (sb (decide_eq_true c12)) ?_
              refine W.rd (X.cmp (decide (t10 = 0)) rfl rfl rfl rfl) rfl rfl rfl ?_
              refine W.rd (X.pickT (sb (decide_eq_true c12)) rfl) rfl rfl rfl ?_
              refine W.rd (X.move rfl) rfl rfl rfl ?_
              by_cases c13 : t10 = 0
              · replace H := ite_t c13 H
                refine W.pass 47 rfl (sb (decide_eq_true c13)) rfl rfl ?_
                refine W.pass 47 rfl (sb (decide_eq_true c13)) rfl rfl ?_
                refine W.pass 47 rfl (sb (decide_eq_true c13)) rfl rfl ?_
                refine W.pass 47 rfl (sb (decide_eq_true c13)) rfl rfl ?_
                refine W.pass 47 rfl (sb (decide_eq_true c13)) rfl rfl ?_
                refine W.rd (X.pickT (sb (decide_eq_true c13)) rfl) rfl rfl rfl ?_
                refine W.rd (X.assign rfl) rfl rfl rfl ?_
                refine W.nil ?_
                refine At.next ?_
                refine V.keep [(0, Value.int .i64 (a0)), (1, Value.int .i64 (a1)), (2, Value.int .i64 (a2)), (3, Value.int .i64 (a3)), (10, Value.int .i64 (t8)), (12, Value.bool (true))] ⟨rfl, rfl, rfl, rfl, rfl, rfl, trivial⟩ ?_
                refine V.seq ?_
                refine V.draw (es := [6, 13, 22, 30, 32]) (bl := [7, 9, 14, 15, 16, 17, 18, 19, 20, 21, 23, 24, 25, 26, 27, 28, 29, 31, 33, 34, 35, 36, 37]) (f := [(54, Value.bool (true)), (55, Value.bool (true)), (56, Value.int .i64 (t8)), (57, Value.int .i64 (a1)), (58, Value.int .i64 (a2)), (59, Value.int .i64 (a3)), (62, Value.int .i64 (a3)), (64, Value.int .i64 (a0)), (65, Value.int .i64 (a2)), (66, Value.int .i64 (a3))]) (fun w => Sep.St [R] w0 w) mo HS.drew rfl ?_
                refine T.event _ [(57, Value.int .i64 (a1)), (58, Value.int .i64 (a2)), (59, Value.int .i64 (a3)), (55, Value.bool (true))] rfl rfl ⟨⟨_, Value.bool (true), [(12, Value.bool (true))], 54, rfl, rfl, ⟨.inl ⟨rfl, rfl⟩, trivial⟩, .run rfl (fun w HS => X.move rfl), rfl, rfl, rfl⟩, ⟨_, Value.bool (true), [(54, Value.bool (true))], 55, rfl, rfl, ⟨.inr ⟨rfl, rfl⟩, trivial⟩, .run rfl (fun w HS => X.move rfl), rfl, rfl, rfl⟩, ⟨_, Value.int .i64 (t8), [(10, Value.int .i64 (t8)), (55, Value.bool (true))], 56, rfl, rfl, ⟨.inl ⟨rfl, rfl⟩, ⟨.inr ⟨rfl, rfl⟩, trivial⟩⟩, .want 1 true 55 rfl rfl rfl (fun w HS => X.move rfl), rfl, rfl, rfl⟩, ⟨_, Value.int .i64 (a1), [(1, Value.int .i64 (a1)), (55, Value.bool (true))], 57, rfl, rfl, ⟨.inl ⟨rfl, rfl⟩, ⟨.inr ⟨rfl, rfl⟩, trivial⟩⟩, .want 1 true 55 rfl rfl rfl (fun w HS => X.move rfl), rfl, rfl, rfl⟩, ⟨_, Value.int .i64 (a2), [(2, Value.int .i64 (a2)), (55, Value.bool (true))], 58, rfl, rfl, ⟨.inl ⟨rfl, rfl⟩, ⟨.inr ⟨rfl, rfl⟩, trivial⟩⟩, .want 1 true 55 rfl rfl rfl (fun w HS => X.move rfl), rfl, rfl, rfl⟩, ⟨_, Value.int .i64 (a3), [(3, Value.int .i64 (a3)), (55, Value.bool (true))], 59, rfl, rfl, ⟨.inl ⟨rfl, rfl⟩, ⟨.inr ⟨rfl, rfl⟩, trivial⟩⟩, .want 1 true 55 rfl rfl rfl (fun w HS => X.move rfl), rfl, rfl, rfl⟩, ⟨_, Value.int .i64 (a3), [(3, Value.int .i64 (a3)), (55, Value.bool (true))], 62, rfl, rfl, ⟨.inl ⟨rfl, rfl⟩, ⟨.inr ⟨rfl, rfl⟩, trivial⟩⟩, .want 1 true 55 rfl rfl rfl (fun w HS => X.move rfl), rfl, rfl, rfl⟩, ⟨_, Value.int .i64 (a0), [(0, Value.int .i64 (a0)), (55, Value.bool (true))], 64, rfl, rfl, ⟨.inl ⟨rfl, rfl⟩, ⟨.inr ⟨rfl, rfl⟩, trivial⟩⟩, .want 1 true 55 rfl rfl rfl (fun w HS => X.move rfl), rfl, rfl, rfl⟩, ⟨_, Value.int .i64 (a2), [(2, Value.int .i64 (a2)), (55, Value.bool (true))], 65, rfl, rfl, ⟨.inl ⟨rfl, rfl⟩, ⟨.inr ⟨rfl, rfl⟩, trivial⟩⟩, .want 1 true 55 rfl rfl rfl (fun w HS => X.move rfl), rfl, rfl, rfl⟩, ⟨_, Value.int .i64 (a3), [(3, Value.int .i64 (a3)), (55, Value.bool (true))], 66, rfl, rfl, ⟨.inl ⟨rfl, rfl⟩, ⟨.inr ⟨rfl, rfl⟩, trivial⟩⟩, .want 1 true 55 rfl rfl rfl (fun w HS => X.move rfl), rfl, rfl, rfl⟩, trivial⟩ rfl ⟨.inr ⟨rfl, rfl⟩, ⟨.inr ⟨rfl, rfl⟩, ⟨.inr ⟨rfl, rfl⟩, ⟨.inr ⟨rfl, rfl⟩, trivial⟩⟩⟩⟩ (Or.inr ⟨1, true, 55, rfl, rfl, rfl⟩) (by intro d hd; cases hd; exact ⟨by decide, rfl, rfl⟩) [14, 15, 16, 17, 18, 19, 20, 21, 23, 24, 25, 26, 27, 28, 29, 31, 33, 34, 35, 36, 37] [0, 1, 3, 4, 5] rfl rfl (fun w HS => ?_)
                have HS : Sep.St [R] w0 w := HS
                obtain ⟨t14, A15, H⟩ := bind_s H
                refine ⟨_, Y.call Try.func11 (by kernel_rfl) rfl (vs := [Value.int .i64 (a1), Value.int .i64 (a2), Value.int .i64 (a3)]) rfl (serial_Dist.calls a1 a2 a3 _ w0 _  t14  A15 (Sep.St.tailJoin (m := []) (r := [R]) HS)), ?_⟩
                rintro _ w ⟨rfl, HS⟩
                replace HS := Sep.St.tailOpen (m := []) (r := [R]) HS
                have HS : Sep.St [R] w0 w := HS
                obtain ⟨c16, H⟩ := ite_n H
                refine ⟨[(60, Value.int .i64 (t14)), (61, Value.int .i64 (w64 (t8 + t14))), (63, Value.int .i64 ((w64 (t8 + t14)).tmod (a3)))], fun w => Sep.St [R] w0 w, ⟨.inl ⟨rfl, rfl⟩, ⟨.inr ⟨by decide, rfl⟩, ⟨.inr ⟨by decide, rfl⟩, trivial⟩⟩⟩, ?_, HS⟩
                refine T.event _ [(64, Value.int .i64 (a0)), (65, Value.int .i64 (a2)), (66, Value.int .i64 (a3)), (55, Value.bool (true))] rfl rfl ⟨⟨_, Value.int .i64 (t8), [(10, Value.int .i64 (t8)), (55, Value.bool (true))], 56, rfl, rfl, ⟨.inl ⟨rfl, rfl⟩, ⟨.inr ⟨rfl, rfl⟩, trivial⟩⟩, .want 1 true 55 rfl rfl rfl (fun w HS => X.move rfl), rfl, rfl, rfl⟩, ⟨_, Value.int .i64 (w64 (t8 + t14)), [(56, Value.int .i64 (t8)), (60, Value.int .i64 (t14)), (55, Value.bool (true))], 61, rfl, rfl, ⟨.inr ⟨rfl, rfl⟩, ⟨.inr ⟨rfl, rfl⟩, ⟨.inr ⟨rfl, rfl⟩, trivial⟩⟩⟩, .want 1 true 55 rfl rfl rfl (fun w HS => X.add rfl rfl), rfl, rfl, rfl⟩, ⟨_, Value.int .i64 (a3), [(3, Value.int .i64 (a3)), (55, Value.bool (true))], 62, rfl, rfl, ⟨.inl ⟨rfl, rfl⟩, ⟨.inr ⟨rfl, rfl⟩, trivial⟩⟩, .want 1 true 55 rfl rfl rfl (fun w HS => X.move rfl), rfl, rfl, rfl⟩, ⟨_, Value.int .i64 ((w64 (t8 + t14)).tmod (a3)), [(61, Value.int .i64 (w64 (t8 + t14))), (62, Value.int .i64 (a3)), (55, Value.bool (true))], 63, rfl, rfl, ⟨.inr ⟨rfl, rfl⟩, ⟨.inr ⟨rfl, rfl⟩, ⟨.inr ⟨rfl, rfl⟩, trivial⟩⟩⟩, .want 1 true 55 rfl rfl rfl (fun w HS => X.rem rfl rfl c16), rfl, rfl, rfl⟩, ⟨_, Value.int .i64 (a0), [(0, Value.int .i64 (a0)), (55, Value.bool (true))], 64, rfl, rfl, ⟨.inl ⟨rfl, rfl⟩, ⟨.inr ⟨rfl, rfl⟩, trivial⟩⟩, .want 1 true 55 rfl rfl rfl (fun w HS => X.move rfl), rfl, rfl, rfl⟩, ⟨_, Value.int .i64 (a2), [(2, Value.int .i64 (a2)), (55, Value.bool (true))], 65, rfl, rfl, ⟨.inl ⟨rfl, rfl⟩, ⟨.inr ⟨rfl, rfl⟩, trivial⟩⟩, .want 1 true 55 rfl rfl rfl (fun w HS => X.move rfl), rfl, rfl, rfl⟩, ⟨_, Value.int .i64 (a3), [(3, Value.int .i64 (a3)), (55, Value.bool (true))], 66, rfl, rfl, ⟨.inl ⟨rfl, rfl⟩, ⟨.inr ⟨rfl, rfl⟩, trivial⟩⟩, .want 1 true 55 rfl rfl rfl (fun w HS => X.move rfl), rfl, rfl, rfl⟩, trivial⟩ rfl ⟨.inr ⟨rfl, rfl⟩, ⟨.inr ⟨rfl, rfl⟩, ⟨.inr ⟨rfl, rfl⟩, ⟨.inr ⟨rfl, rfl⟩, trivial⟩⟩⟩⟩ (Or.inr ⟨1, true, 55, rfl, rfl, rfl⟩) (by intro d hd; cases hd; exact ⟨by decide, rfl, rfl⟩) [24, 25, 26, 27, 28, 29, 31, 33, 34, 35, 36, 37] [10, 11, 12] rfl rfl (fun w HS => ?_)
                have HS : Sep.St [R] w0 w := HS
                obtain ⟨t17, A18, H⟩ := bind_s H
                refine ⟨_, Y.call Try.func11 (by kernel_rfl) rfl (vs := [Value.int .i64 (a0), Value.int .i64 (a2), Value.int .i64 (a3)]) rfl (serial_Dist.calls a0 a2 a3 _ w0 _  t17  A18 (Sep.St.tailJoin (m := []) (r := [R]) HS)), ?_⟩
                rintro _ w ⟨rfl, HS⟩
                replace HS := Sep.St.tailOpen (m := []) (r := [R]) HS
                have HS : Sep.St [R] w0 w := HS
                by_cases c19 : ((w64 (t8 + t14)).tmod (a3)) = t17
                · replace H := ite_t c19 H
                  refine ⟨[(67, Value.int .i64 (t17)), (68, Value.bool (decide (((w64 (t8 + t14)).tmod (a3)) = t17))), (69, Value.bool (decide (((w64 (t8 + t14)).tmod (a3)) = t17))), (70, Value.bool (decide (((w64 (t8 + t14)).tmod (a3)) = t17))), (71, Value.int .i64 (a0)), (72, Value.int .i64 (a3)), (73, Value.int .i64 (w64 (a0 + a3))), (74, Value.int .i64 (a1)), (75, Value.int .i64 (a3)), (77, Value.int .i64 (t8))], fun w => Sep.St [R] w0 w, ⟨.inl ⟨rfl, rfl⟩, ⟨.inr ⟨by decide, rfl⟩, ⟨.inr ⟨by decide, rfl⟩, ⟨.inr ⟨by decide, rfl⟩, ⟨.inr ⟨by decide, rfl⟩, ⟨.inr ⟨by decide, rfl⟩, ⟨.inr ⟨by decide, rfl⟩, ⟨.inr ⟨by decide, rfl⟩, ⟨.inr ⟨by decide, rfl⟩, ⟨.inr ⟨by decide, rfl⟩, trivial⟩⟩⟩⟩⟩⟩⟩⟩⟩⟩, ?_, HS⟩
                  refine T.event _ [(73, Value.int .i64 (w64 (a0 + a3))), (74, Value.int .i64 (a1)), (75, Value.int .i64 (a3)), (70, Value.bool (decide (((w64 (t8 + t14)).tmod (a3)) = t17)))] rfl rfl ⟨⟨_, Value.int .i64 (t8), [(10, Value.int .i64 (t8)), (55, Value.bool (true))], 56, rfl, rfl, ⟨.inl ⟨rfl, rfl⟩, ⟨.inr ⟨rfl, rfl⟩, trivial⟩⟩, .want 1 true 55 rfl rfl rfl (fun w HS => X.move rfl), rfl, rfl, rfl⟩, ⟨_, Value.int .i64 (w64 (t8 + t14)), [(56, Value.int .i64 (t8)), (60, Value.int .i64 (t14)), (55, Value.bool (true))], 61, rfl, rfl, ⟨.inr ⟨rfl, rfl⟩, ⟨.inr ⟨rfl, rfl⟩, ⟨.inr ⟨rfl, rfl⟩, trivial⟩⟩⟩, .want 1 true 55 rfl rfl rfl (fun w HS => X.add rfl rfl), rfl, rfl, rfl⟩, ⟨_, Value.int .i64 (a3), [(3, Value.int .i64 (a3)), (55, Value.bool (true))], 62, rfl, rfl, ⟨.inl ⟨rfl, rfl⟩, ⟨.inr ⟨rfl, rfl⟩, trivial⟩⟩, .want 1 true 55 rfl rfl rfl (fun w HS => X.move rfl), rfl, rfl, rfl⟩, ⟨_, Value.int .i64 ((w64 (t8 + t14)).tmod (a3)), [(61, Value.int .i64 (w64 (t8 + t14))), (62, Value.int .i64 (a3)), (55, Value.bool (true))], 63, rfl, rfl, ⟨.inr ⟨rfl, rfl⟩, ⟨.inr ⟨rfl, rfl⟩, ⟨.inr ⟨rfl, rfl⟩, trivial⟩⟩⟩, .want 1 true 55 rfl rfl rfl (fun w HS => X.rem rfl rfl c16), rfl, rfl, rfl⟩, ⟨_, Value.bool (decide (((w64 (t8 + t14)).tmod (a3)) = t17)), [(63, Value.int .i64 ((w64 (t8 + t14)).tmod (a3))), (67, Value.int .i64 (t17)), (55, Value.bool (true))], 68, rfl, rfl, ⟨.inr ⟨rfl, rfl⟩, ⟨.inr ⟨rfl, rfl⟩, ⟨.inr ⟨rfl, rfl⟩, trivial⟩⟩⟩, .want 1 true 55 rfl rfl rfl (fun w HS => X.cmp (decide (((w64 (t8 + t14)).tmod (a3)) = t17)) rfl rfl rfl rfl), rfl, rfl, rfl⟩, ⟨_, Value.bool (decide (((w64 (t8 + t14)).tmod (a3)) = t17)), [(55, Value.bool (true)), (68, Value.bool (decide (((w64 (t8 + t14)).tmod (a3)) = t17)))], 69, rfl, rfl, ⟨.inr ⟨rfl, rfl⟩, ⟨.inr ⟨rfl, rfl⟩, trivial⟩⟩, .run rfl (fun w HS => X.pickT rfl rfl), rfl, rfl, rfl⟩, ⟨_, Value.bool (decide (((w64 (t8 + t14)).tmod (a3)) = t17)), [(69, Value.bool (decide (((w64 (t8 + t14)).tmod (a3)) = t17)))], 70, rfl, rfl, ⟨.inr ⟨rfl, rfl⟩, trivial⟩, .run rfl (fun w HS => X.move rfl), rfl, rfl, rfl⟩, ⟨_, Value.int .i64 (a0), [(0, Value.int .i64 (a0)), (70, Value.bool (decide (((w64 (t8 + t14)).tmod (a3)) = t17)))], 71, rfl, rfl, ⟨.inl ⟨rfl, rfl⟩, ⟨.inr ⟨rfl, rfl⟩, trivial⟩⟩, .want 16 true 70 rfl rfl (sb (decide_eq_true c19)) (fun w HS => X.move rfl), rfl, rfl, rfl⟩, ⟨_, Value.int .i64 (a3), [(3, Value.int .i64 (a3)), (70, Value.bool (decide (((w64 (t8 + t14)).tmod (a3)) = t17)))], 72, rfl, rfl, ⟨.inl ⟨rfl, rfl⟩, ⟨.inr ⟨rfl, rfl⟩, trivial⟩⟩, .want 16 true 70 rfl rfl (sb (decide_eq_true c19)) (fun w HS => X.move rfl), rfl, rfl, rfl⟩, ⟨_, Value.int .i64 (w64 (a0 + a3)), [(71, Value.int .i64 (a0)), (72, Value.int .i64 (a3)), (70, Value.bool (decide (((w64 (t8 + t14)).tmod (a3)) = t17)))], 73, rfl, rfl, ⟨.inr ⟨rfl, rfl⟩, ⟨.inr ⟨rfl, rfl⟩, ⟨.inr ⟨rfl, rfl⟩, trivial⟩⟩⟩, .want 16 true 70 rfl rfl (sb (decide_eq_true c19)) (fun w HS => X.add rfl rfl), rfl, rfl, rfl⟩, ⟨_, Value.int .i64 (a1), [(1, Value.int .i64 (a1)), (70, Value.bool (decide (((w64 (t8 + t14)).tmod (a3)) = t17)))], 74, rfl, rfl, ⟨.inl ⟨rfl, rfl⟩, ⟨.inr ⟨rfl, rfl⟩, trivial⟩⟩, .want 16 true 70 rfl rfl (sb (decide_eq_true c19)) (fun w HS => X.move rfl), rfl, rfl, rfl⟩, ⟨_, Value.int .i64 (a3), [(3, Value.int .i64 (a3)), (70, Value.bool (decide (((w64 (t8 + t14)).tmod (a3)) = t17)))], 75, rfl, rfl, ⟨.inl ⟨rfl, rfl⟩, ⟨.inr ⟨rfl, rfl⟩, trivial⟩⟩, .want 16 true 70 rfl rfl (sb (decide_eq_true c19)) (fun w HS => X.move rfl), rfl, rfl, rfl⟩, ⟨_, Value.int .i64 (t8), [(10, Value.int .i64 (t8)), (70, Value.bool (decide (((w64 (t8 + t14)).tmod (a3)) = t17)))], 77, rfl, rfl, ⟨.inl ⟨rfl, rfl⟩, ⟨.inr ⟨rfl, rfl⟩, trivial⟩⟩, .want 16 true 70 rfl rfl (sb (decide_eq_true c19)) (fun w HS => X.move rfl), rfl, rfl, rfl⟩, trivial⟩ rfl ⟨.inr ⟨rfl, rfl⟩, ⟨.inr ⟨rfl, rfl⟩, ⟨.inr ⟨rfl, rfl⟩, ⟨.inr ⟨rfl, rfl⟩, trivial⟩⟩⟩⟩ (Or.inr ⟨16, true, 70, rfl, rfl, (sb (decide_eq_true c19))⟩) (by intro d hd; cases hd; exact ⟨by decide, rfl, rfl⟩) [35, 36, 37] [2, 7, 8, 9, 14, 15, 16, 17, 18, 19, 20, 21] rfl rfl (fun w HS => ?_)
                  have HS : Sep.St [R] w0 w := HS
                  obtain ⟨t20, A21, H⟩ := bind_s H
                  refine ⟨_, Y.call Try.func11 (by kernel_rfl) rfl (vs := [Value.int .i64 (w64 (a0 + a3)), Value.int .i64 (a1), Value.int .i64 (a3)]) rfl (serial_Dist.calls (w64 (a0 + a3)) a1 a3 _ w0 _  t20  A21 (Sep.St.tailJoin (m := []) (r := [R]) HS)), ?_⟩
                  rintro _ w ⟨rfl, HS⟩
                  replace HS := Sep.St.tailOpen (m := []) (r := [R]) HS
                  have HS : Sep.St [R] w0 w := HS
                  by_cases c22 : t20 = t8
                  · replace H := ite_t c22 H
                    refine ⟨[(76, Value.int .i64 (t20)), (78, Value.bool (decide (t20 = t8))), (79, Value.bool (decide (t20 = t8))), (80, Value.bool (decide (t20 = t8))), (81, Value.int .i64 (a0)), (82, Value.int .i64 (a0)), (83, Value.int .i64 (a3)), (85, Value.int .i64 (a3)), (87, Value.int .i64 (a3)), (88, Value.int .i64 (((1 : Int)).tmod (a3)))], fun w => Sep.St [R] w0 w, ⟨.inl ⟨rfl, rfl⟩, ⟨.inr ⟨by decide, rfl⟩, ⟨.inr ⟨by decide, rfl⟩, ⟨.inr ⟨by decide, rfl⟩, ⟨.inr ⟨by decide, rfl⟩, ⟨.inr ⟨by decide, rfl⟩, ⟨.inr ⟨by decide, rfl⟩, ⟨.inr ⟨by decide, rfl⟩, ⟨.inr ⟨by decide, rfl⟩, ⟨.inr ⟨by decide, rfl⟩, trivial⟩⟩⟩⟩⟩⟩⟩⟩⟩⟩, ?_, HS⟩
                    refine T.event _ [(82, Value.int .i64 (a0)), (83, Value.int .i64 (a3)), (80, Value.bool (decide (t20 = t8)))] rfl rfl ⟨⟨_, Value.int .i64 (t8), [(10, Value.int .i64 (t8)), (70, Value.bool (decide (((w64 (t8 + t14)).tmod (a3)) = t17)))], 77, rfl, rfl, ⟨.inl ⟨rfl, rfl⟩, ⟨.inr ⟨rfl, rfl⟩, trivial⟩⟩, .want 16 true 70 rfl rfl (sb (decide_eq_true c19)) (fun w HS => X.move rfl), rfl, rfl, rfl⟩, ⟨_, Value.bool (decide (t20 = t8)), [(76, Value.int .i64 (t20)), (77, Value.int .i64 (t8)), (70, Value.bool (decide (((w64 (t8 + t14)).tmod (a3)) = t17)))], 78, rfl, rfl, ⟨.inr ⟨rfl, rfl⟩, ⟨.inr ⟨rfl, rfl⟩, ⟨.inr ⟨rfl, rfl⟩, trivial⟩⟩⟩, .want 16 true 70 rfl rfl (sb (decide_eq_true c19)) (fun w HS => X.cmp (decide (t20 = t8)) rfl rfl rfl rfl), rfl, rfl, rfl⟩, ⟨_, Value.bool (decide (t20 = t8)), [(70, Value.bool (decide (((w64 (t8 + t14)).tmod (a3)) = t17))), (78, Value.bool (decide (t20 = t8)))], 79, rfl, rfl, ⟨.inr ⟨rfl, rfl⟩, ⟨.inr ⟨rfl, rfl⟩, trivial⟩⟩, .run rfl (fun w HS => X.pickT (sb (decide_eq_true c19)) rfl), rfl, rfl, rfl⟩, ⟨_, Value.bool (decide (t20 = t8)), [(79, Value.bool (decide (t20 = t8)))], 80, rfl, rfl, ⟨.inr ⟨rfl, rfl⟩, trivial⟩, .run rfl (fun w HS => X.move rfl), rfl, rfl, rfl⟩, ⟨_, Value.int .i64 (a0), [(0, Value.int .i64 (a0)), (80, Value.bool (decide (t20 = t8)))], 81, rfl, rfl, ⟨.inl ⟨rfl, rfl⟩, ⟨.inr ⟨rfl, rfl⟩, trivial⟩⟩, .want 26 true 80 rfl rfl (sb (decide_eq_true c22)) (fun w HS => X.move rfl), rfl, rfl, rfl⟩, ⟨_, Value.int .i64 (a0), [(0, Value.int .i64 (a0)), (80, Value.bool (decide (t20 = t8)))], 82, rfl, rfl, ⟨.inl ⟨rfl, rfl⟩, ⟨.inr ⟨rfl, rfl⟩, trivial⟩⟩, .want 26 true 80 rfl rfl (sb (decide_eq_true c22)) (fun w HS => X.move rfl), rfl, rfl, rfl⟩, ⟨_, Value.int .i64 (a3), [(3, Value.int .i64 (a3)), (80, Value.bool (decide (t20 = t8)))], 83, rfl, rfl, ⟨.inl ⟨rfl, rfl⟩, ⟨.inr ⟨rfl, rfl⟩, trivial⟩⟩, .want 26 true 80 rfl rfl (sb (decide_eq_true c22)) (fun w HS => X.move rfl), rfl, rfl, rfl⟩, ⟨_, Value.int .i64 (a3), [(3, Value.int .i64 (a3)), (80, Value.bool (decide (t20 = t8)))], 85, rfl, rfl, ⟨.inl ⟨rfl, rfl⟩, ⟨.inr ⟨rfl, rfl⟩, trivial⟩⟩, .want 26 true 80 rfl rfl (sb (decide_eq_true c22)) (fun w HS => X.move rfl), rfl, rfl, rfl⟩, ⟨_, Value.int .i64 (a3), [(3, Value.int .i64 (a3)), (80, Value.bool (decide (t20 = t8)))], 87, rfl, rfl, ⟨.inl ⟨rfl, rfl⟩, ⟨.inr ⟨rfl, rfl⟩, trivial⟩⟩, .want 26 true 80 rfl rfl (sb (decide_eq_true c22)) (fun w HS => X.move rfl), rfl, rfl, rfl⟩, ⟨_, Value.int .i64 (((1 : Int)).tmod (a3)), [(87, Value.int .i64 (a3)), (80, Value.bool (decide (t20 = t8)))], 88, rfl, rfl, ⟨.inr ⟨rfl, rfl⟩, ⟨.inr ⟨rfl, rfl⟩, trivial⟩⟩, .want 26 true 80 rfl rfl (sb (decide_eq_true c22)) (fun w HS => X.rem rfl rfl c16), rfl, rfl, rfl⟩, trivial⟩ rfl ⟨.inr ⟨rfl, rfl⟩, ⟨.inr ⟨rfl, rfl⟩, ⟨.inr ⟨rfl, rfl⟩, trivial⟩⟩⟩ (Or.inr ⟨26, true, 80, rfl, rfl, (sb (decide_eq_true c22))⟩) (by intro d hd; cases hd; exact ⟨by decide, rfl, rfl⟩) [35, 36, 37] [23, 24, 25, 26, 28, 29] rfl rfl (fun w HS => ?_)
                    have HS : Sep.St [R] w0 w := HS
                    obtain ⟨t23, A24, H⟩ := bind_s H
                    refine ⟨_, Y.call Try.func9 (by kernel_rfl) rfl (vs := [Value.int .i64 (a0), Value.int .i64 (a3)]) rfl (serial_Next.calls a0 a3 _ w0 _  t23  A24 (Sep.St.tailJoin (m := []) (r := [R]) HS)), ?_⟩
                    rintro _ w ⟨rfl, HS⟩
                    replace HS := Sep.St.tailOpen (m := []) (r := [R]) HS
                    have HS : Sep.St [R] w0 w := HS
                    refine ⟨[(84, Value.int .i64 (t23))], fun w => Sep.St [R] w0 w, ⟨.inl ⟨rfl, rfl⟩, trivial⟩, ?_, HS⟩
                    refine T.event _ [(81, Value.int .i64 (a0)), (84, Value.int .i64 (t23)), (85, Value.int .i64 (a3)), (80, Value.bool (decide (t20 = t8)))] rfl rfl ⟨⟨_, Value.int .i64 (a0), [(0, Value.int .i64 (a0)), (80, Value.bool (decide (t20 = t8)))], 81, rfl, rfl, ⟨.inl ⟨rfl, rfl⟩, ⟨.inr ⟨rfl, rfl⟩, trivial⟩⟩, .want 26 true 80 rfl rfl (sb (decide_eq_true c22)) (fun w HS => X.move rfl), rfl, rfl, rfl⟩, ⟨_, Value.int .i64 (a3), [(3, Value.int .i64 (a3)), (80, Value.bool (decide (t20 = t8)))], 85, rfl, rfl, ⟨.inl ⟨rfl, rfl⟩, ⟨.inr ⟨rfl, rfl⟩, trivial⟩⟩, .want 26 true 80 rfl rfl (sb (decide_eq_true c22)) (fun w HS => X.move rfl), rfl, rfl, rfl⟩, ⟨_, Value.int .i64 (a3), [(3, Value.int .i64 (a3)), (80, Value.bool (decide (t20 = t8)))], 87, rfl, rfl, ⟨.inl ⟨rfl, rfl⟩, ⟨.inr ⟨rfl, rfl⟩, trivial⟩⟩, .want 26 true 80 rfl rfl (sb (decide_eq_true c22)) (fun w HS => X.move rfl), rfl, rfl, rfl⟩, ⟨_, Value.int .i64 (((1 : Int)).tmod (a3)), [(87, Value.int .i64 (a3)), (80, Value.bool (decide (t20 = t8)))], 88, rfl, rfl, ⟨.inr ⟨rfl, rfl⟩, ⟨.inr ⟨rfl, rfl⟩, trivial⟩⟩, .want 26 true 80 rfl rfl (sb (decide_eq_true c22)) (fun w HS => X.rem rfl rfl c16), rfl, rfl, rfl⟩, trivial⟩ rfl ⟨.inr ⟨rfl, rfl⟩, ⟨.inr ⟨rfl, rfl⟩, ⟨.inr ⟨rfl, rfl⟩, ⟨.inr ⟨rfl, rfl⟩, trivial⟩⟩⟩⟩ (Or.inr ⟨26, true, 80, rfl, rfl, (sb (decide_eq_true c22))⟩) (by intro d hd; cases hd; exact ⟨by decide, rfl, rfl⟩) [] [27, 31] rfl rfl (fun w HS => ?_)
                    have HS : Sep.St [R] w0 w := HS
                    obtain ⟨t25, A26, H⟩ := bind_s H
                    refine ⟨_, Y.call Try.func11 (by kernel_rfl) rfl (vs := [Value.int .i64 (a0), Value.int .i64 (t23), Value.int .i64 (a3)]) rfl (serial_Dist.calls a0 t23 a3 _ w0 _  t25  A26 (Sep.St.tailJoin (m := []) (r := [R]) HS)), ?_⟩
                    rintro _ w ⟨rfl, HS⟩
                    replace HS := Sep.St.tailOpen (m := []) (r := [R]) HS
                    have HS : Sep.St [R] w0 w := HS
                    refine ⟨[(86, Value.int .i64 (t25)), (89, Value.bool (decide (t25 = (((1 : Int)).tmod (a3))))), (90, Value.bool (decide (t25 = (((1 : Int)).tmod (a3))))), (8, Value.bool (decide (t25 = (((1 : Int)).tmod (a3)))))], fun w => Sep.St [R] w0 w, ⟨.inl ⟨rfl, rfl⟩, ⟨.inr ⟨by decide, rfl⟩, ⟨.inr ⟨by decide, rfl⟩, ⟨.inr ⟨by decide, rfl⟩, trivial⟩⟩⟩⟩, ?_, HS⟩
                    refine T.fin [(8, Value.bool (decide (t25 = (((1 : Int)).tmod (a3)))))] rfl ⟨⟨_, Value.int .i64 (a3), [(3, Value.int .i64 (a3)), (80, Value.bool (decide (t20 = t8)))], 87, rfl, rfl, ⟨.inl ⟨rfl, rfl⟩, ⟨.inr ⟨rfl, rfl⟩, trivial⟩⟩, .want 26 true 80 rfl rfl (sb (decide_eq_true c22)) (fun w HS => X.move rfl), rfl, rfl, rfl⟩, ⟨_, Value.int .i64 (((1 : Int)).tmod (a3)), [(87, Value.int .i64 (a3)), (80, Value.bool (decide (t20 = t8)))], 88, rfl, rfl, ⟨.inr ⟨rfl, rfl⟩, ⟨.inr ⟨rfl, rfl⟩, trivial⟩⟩, .want 26 true 80 rfl rfl (sb (decide_eq_true c22)) (fun w HS => X.rem rfl rfl c16), rfl, rfl, rfl⟩, ⟨_, Value.bool (decide (t25 = (((1 : Int)).tmod (a3)))), [(86, Value.int .i64 (t25)), (88, Value.int .i64 (((1 : Int)).tmod (a3))), (80, Value.bool (decide (t20 = t8)))], 89, rfl, rfl, ⟨.inr ⟨rfl, rfl⟩, ⟨.inr ⟨rfl, rfl⟩, ⟨.inr ⟨rfl, rfl⟩, trivial⟩⟩⟩, .want 26 true 80 rfl rfl (sb (decide_eq_true c22)) (fun w HS => X.cmp (decide (t25 = (((1 : Int)).tmod (a3)))) rfl rfl rfl rfl), rfl, rfl, rfl⟩, ⟨_, Value.bool (decide (t25 = (((1 : Int)).tmod (a3)))), [(80, Value.bool (decide (t20 = t8))), (89, Value.bool (decide (t25 = (((1 : Int)).tmod (a3)))))], 90, rfl, rfl, ⟨.inr ⟨rfl, rfl⟩, ⟨.inr ⟨rfl, rfl⟩, trivial⟩⟩, .run rfl (fun w HS => X.pickT (sb (decide_eq_true c22)) rfl), rfl, rfl, rfl⟩, ⟨_, Value.bool (decide (t25 = (((1 : Int)).tmod (a3)))), [(90, Value.bool (decide (t25 = (((1 : Int)).tmod (a3)))))], 8, rfl, rfl, ⟨.inr ⟨rfl, rfl⟩, trivial⟩, .run rfl (fun w HS => X.assign rfl), rfl, rfl, rfl⟩, trivial⟩ ⟨.inr ⟨rfl, rfl⟩, trivial⟩ (fun w HS => ?_)
                    have HS : Sep.St [R] w0 w := HS
                    refine At.next ?_
                    refine V.keep [(8, Value.bool (decide (t25 = (((1 : Int)).tmod (a3)))))] ⟨rfl, trivial⟩ ?_
                    refine V.ret ?_
                    cases H
                    exact At.ret1 rfl rfl ⟨_, rfl, rfl, HS⟩
                  · replace H := ite_f c22 H
                    refine ⟨[(76, Value.int .i64 (t20)), (78, Value.bool (decide (t20 = t8))), (79, Value.bool (decide (t20 = t8))), (80, Value.bool (decide (t20 = t8))), (81, undef), (82, undef), (83, undef), (85, undef), (87, undef), (88, undef)], fun w => Sep.St [R] w0 w, ⟨.inl ⟨rfl, rfl⟩, ⟨.inr ⟨by decide, rfl⟩, ⟨.inr ⟨by decide, rfl⟩, ⟨.inr ⟨by decide, rfl⟩, ⟨.inr ⟨by decide, rfl⟩, ⟨.inr ⟨by decide, rfl⟩, ⟨.inr ⟨by decide, rfl⟩, ⟨.inr ⟨by decide, rfl⟩, ⟨.inr ⟨by decide, rfl⟩, ⟨.inr ⟨by decide, rfl⟩, trivial⟩⟩⟩⟩⟩⟩⟩⟩⟩⟩, ?_, HS⟩
                    refine T.drop (es' := [32]) (bl' := [35, 36, 37]) [(84, undef)] rfl ⟨.inr ⟨by decide, rfl⟩, trivial⟩ ?_
                    refine T.drop (es' := []) (bl' := []) [(86, undef), (89, undef), (90, Value.bool (false)), (8, Value.bool (false))] rfl ⟨.inr ⟨by decide, rfl⟩, ⟨.inr ⟨by decide, rfl⟩, ⟨.inr ⟨by decide, rfl⟩, ⟨.inr ⟨by decide, rfl⟩, trivial⟩⟩⟩⟩ ?_
                    refine T.fin [(8, Value.bool (false))] rfl ⟨⟨_, Value.int .i64 (t8), [(10, Value.int .i64 (t8)), (70, Value.bool (decide (((w64 (t8 + t14)).tmod (a3)) = t17)))], 77, rfl, rfl, ⟨.inl ⟨rfl, rfl⟩, ⟨.inr ⟨rfl, rfl⟩, trivial⟩⟩, .want 16 true 70 rfl rfl (sb (decide_eq_true c19)) (fun w HS => X.move rfl), rfl, rfl, rfl⟩, ⟨_, Value.bool (decide (t20 = t8)), [(76, Value.int .i64 (t20)), (77, Value.int .i64 (t8)), (70, Value.bool (decide (((w64 (t8 + t14)).tmod (a3)) = t17)))], 78, rfl, rfl, ⟨.inr ⟨rfl, rfl⟩, ⟨.inr ⟨rfl, rfl⟩, ⟨.inr ⟨rfl, rfl⟩, trivial⟩⟩⟩, .want 16 true 70 rfl rfl (sb (decide_eq_true c19)) (fun w HS => X.cmp (decide (t20 = t8)) rfl rfl rfl rfl), rfl, rfl, rfl⟩, ⟨_, Value.bool (decide (t20 = t8)), [(70, Value.bool (decide (((w64 (t8 + t14)).tmod (a3)) = t17))), (78, Value.bool (decide (t20 = t8)))], 79, rfl, rfl, ⟨.inr ⟨rfl, rfl⟩, ⟨.inr ⟨rfl, rfl⟩, trivial⟩⟩, .run rfl (fun w HS => X.pickT (sb (decide_eq_true c19)) rfl), rfl, rfl, rfl⟩, ⟨_, Value.bool (decide (t20 = t8)), [(79, Value.bool (decide (t20 = t8)))], 80, rfl, rfl, ⟨.inr ⟨rfl, rfl⟩, trivial⟩, .run rfl (fun w HS => X.move rfl), rfl, rfl, rfl⟩, ⟨_, undef, [(80, Value.bool (decide (t20 = t8)))], 81, rfl, rfl, ⟨.inr ⟨rfl, rfl⟩, trivial⟩, .pass 26 true false 80 rfl rfl (sb (decide_eq_false c22)) rfl rfl, rfl, rfl, rfl⟩, ⟨_, undef, [(80, Value.bool (decide (t20 = t8)))], 82, rfl, rfl, ⟨.inr ⟨rfl, rfl⟩, trivial⟩, .pass 26 true false 80 rfl rfl (sb (decide_eq_false c22)) rfl rfl, rfl, rfl, rfl⟩, ⟨_, undef, [(80, Value.bool (decide (t20 = t8)))], 83, rfl, rfl, ⟨.inr ⟨rfl, rfl⟩, trivial⟩, .pass 26 true false 80 rfl rfl (sb (decide_eq_false c22)) rfl rfl, rfl, rfl, rfl⟩, ⟨_, undef, [(80, Value.bool (decide (t20 = t8)))], 84, rfl, rfl, ⟨.inr ⟨rfl, rfl⟩, trivial⟩, .pass 26 true false 80 rfl rfl (sb (decide_eq_false c22)) rfl rfl, rfl, rfl, rfl⟩, ⟨_, undef, [(80, Value.bool (decide (t20 = t8)))], 85, rfl, rfl, ⟨.inr ⟨rfl, rfl⟩, trivial⟩, .pass 26 true false 80 rfl rfl (sb (decide_eq_false c22)) rfl rfl, rfl, rfl, rfl⟩, ⟨_, undef, [(80, Value.bool (decide (t20 = t8)))], 86, rfl, rfl, ⟨.inr ⟨rfl, rfl⟩, trivial⟩, .pass 26 true false 80 rfl rfl (sb (decide_eq_false c22)) rfl rfl, rfl, rfl, rfl⟩, ⟨_, undef, [(80, Value.bool (decide (t20 = t8)))], 87, rfl, rfl, ⟨.inr ⟨rfl, rfl⟩, trivial⟩, .pass 26 true false 80 rfl rfl (sb (decide_eq_false c22)) rfl rfl, rfl, rfl, rfl⟩, ⟨_, undef, [(80, Value.bool (decide (t20 = t8)))], 88, rfl, rfl, ⟨.inr ⟨rfl, rfl⟩, trivial⟩, .pass 26 true false 80 rfl rfl (sb (decide_eq_false c22)) rfl rfl, rfl, rfl, rfl⟩, ⟨_, undef, [(80, Value.bool (decide (t20 = t8)))], 89, rfl, rfl, ⟨.inr ⟨rfl, rfl⟩, trivial⟩, .pass 26 true false 80 rfl rfl (sb (decide_eq_false c22)) rfl rfl, rfl, rfl, rfl⟩, ⟨_, Value.bool (false), [(80, Value.bool (decide (t20 = t8))), (89, undef)], 90, rfl, rfl, ⟨.inr ⟨rfl, rfl⟩, ⟨.inr ⟨rfl, rfl⟩, trivial⟩⟩, .run rfl (fun w HS => X.pickF (sb (decide_eq_false c22)) rfl), rfl, rfl, rfl⟩, ⟨_, Value.bool (false), [(90, Value.bool (false))], 8, rfl, rfl, ⟨.inr ⟨rfl, rfl⟩, trivial⟩, .run rfl (fun w HS => X.assign rfl), rfl, rfl, rfl⟩, trivial⟩ ⟨.inr ⟨rfl, rfl⟩, trivial⟩ (fun w HS => ?_)
                    have HS : Sep.St [R] w0 w := HS
                    refine At.next ?_
                    refine V.keep [(8, Value.bool (false))] ⟨rfl, trivial⟩ ?_
                    refine V.ret ?_
                    cases H
                    exact At.ret1 rfl rfl ⟨_, rfl, rfl, HS⟩
                · replace H := ite_f c19 H
                  refine ⟨[(67, Value.int .i64 (t17)), (68, Value.bool (decide (((w64 (t8 + t14)).tmod (a3)) = t17))), (69, Value.bool (decide (((w64 (t8 + t14)).tmod (a3)) = t17))), (70, Value.bool (decide (((w64 (t8 + t14)).tmod (a3)) = t17))), (71, undef), (72, undef), (73, undef), (74, undef), (75, undef), (77, undef)], fun w => Sep.St [R] w0 w, ⟨.inl ⟨rfl, rfl⟩, ⟨.inr ⟨by decide, rfl⟩, ⟨.inr ⟨by decide, rfl⟩, ⟨.inr ⟨by decide, rfl⟩, ⟨.inr ⟨by decide, rfl⟩, ⟨.inr ⟨by decide, rfl⟩, ⟨.inr ⟨by decide, rfl⟩, ⟨.inr ⟨by decide, rfl⟩, ⟨.inr ⟨by decide, rfl⟩, ⟨.inr ⟨by decide, rfl⟩, trivial⟩⟩⟩⟩⟩⟩⟩⟩⟩⟩, ?_, HS⟩
                  refine T.drop (es' := [30, 32]) (bl' := [35, 36, 37]) [(76, undef), (78, undef), (79, Value.bool (false)), (80, Value.bool (false)), (81, undef), (82, undef), (83, undef), (85, undef), (87, undef), (88, undef)] rfl ⟨.inr ⟨by decide, rfl⟩, ⟨.inr ⟨by decide, rfl⟩, ⟨.inr ⟨by decide, rfl⟩, ⟨.inr ⟨by decide, rfl⟩, ⟨.inr ⟨by decide, rfl⟩, ⟨.inr ⟨by decide, rfl⟩, ⟨.inr ⟨by decide, rfl⟩, ⟨.inr ⟨by decide, rfl⟩, ⟨.inr ⟨by decide, rfl⟩, ⟨.inr ⟨by decide, rfl⟩, trivial⟩⟩⟩⟩⟩⟩⟩⟩⟩⟩ ?_
                  refine T.drop (es' := [32]) (bl' := [35, 36, 37]) [(84, undef)] rfl ⟨.inr ⟨by decide, rfl⟩, trivial⟩ ?_
                  refine T.drop (es' := []) (bl' := []) [(86, undef), (89, undef), (90, Value.bool (false)), (8, Value.bool (false))] rfl ⟨.inr ⟨by decide, rfl⟩, ⟨.inr ⟨by decide, rfl⟩, ⟨.inr ⟨by decide, rfl⟩, ⟨.inr ⟨by decide, rfl⟩, trivial⟩⟩⟩⟩ ?_
                  refine T.fin [(8, Value.bool (false))] rfl ⟨⟨_, Value.int .i64 (t8), [(10, Value.int .i64 (t8)), (55, Value.bool (true))], 56, rfl, rfl, ⟨.inl ⟨rfl, rfl⟩, ⟨.inr ⟨rfl, rfl⟩, trivial⟩⟩, .want 1 true 55 rfl rfl rfl (fun w HS => X.move rfl), rfl, rfl, rfl⟩, ⟨_, Value.int .i64 (w64 (t8 + t14)), [(56, Value.int .i64 (t8)), (60, Value.int .i64 (t14)), (55, Value.bool (true))], 61, rfl, rfl, ⟨.inr ⟨rfl, rfl⟩, ⟨.inr ⟨rfl, rfl⟩, ⟨.inr ⟨rfl, rfl⟩, trivial⟩⟩⟩, .want 1 true 55 rfl rfl rfl (fun w HS => X.add rfl rfl), rfl, rfl, rfl⟩, ⟨_, Value.int .i64 (a3), [(3, Value.int .i64 (a3)), (55, Value.bool (true))], 62, rfl, rfl, ⟨.inl ⟨rfl, rfl⟩, ⟨.inr ⟨rfl, rfl⟩, trivial⟩⟩, .want 1 true 55 rfl rfl rfl (fun w HS => X.move rfl), rfl, rfl, rfl⟩, ⟨_, Value.int .i64 ((w64 (t8 + t14)).tmod (a3)), [(61, Value.int .i64 (w64 (t8 + t14))), (62, Value.int .i64 (a3)), (55, Value.bool (true))], 63, rfl, rfl, ⟨.inr ⟨rfl, rfl⟩, ⟨.inr ⟨rfl, rfl⟩, ⟨.inr ⟨rfl, rfl⟩, trivial⟩⟩⟩, .want 1 true 55 rfl rfl rfl (fun w HS => X.rem rfl rfl c16), rfl, rfl, rfl⟩, ⟨_, Value.bool (decide (((w64 (t8 + t14)).tmod (a3)) = t17)), [(63, Value.int .i64 ((w64 (t8 + t14)).tmod (a3))), (67, Value.int .i64 (t17)), (55, Value.bool (true))], 68, rfl, rfl, ⟨.inr ⟨rfl, rfl⟩, ⟨.inr ⟨rfl, rfl⟩, ⟨.inr ⟨rfl, rfl⟩, trivial⟩⟩⟩, .want 1 true 55 rfl rfl rfl (fun w HS => X.cmp (decide (((w64 (t8 + t14)).tmod (a3)) = t17)) rfl rfl rfl rfl), rfl, rfl, rfl⟩, ⟨_, Value.bool (decide (((w64 (t8 + t14)).tmod (a3)) = t17)), [(55, Value.bool (true)), (68, Value.bool (decide (((w64 (t8 + t14)).tmod (a3)) = t17)))], 69, rfl, rfl, ⟨.inr ⟨rfl, rfl⟩, ⟨.inr ⟨rfl, rfl⟩, trivial⟩⟩, .run rfl (fun w HS => X.pickT rfl rfl), rfl, rfl, rfl⟩, ⟨_, Value.bool (decide (((w64 (t8 + t14)).tmod (a3)) = t17)), [(69, Value.bool (decide (((w64 (t8 + t14)).tmod (a3)) = t17)))], 70, rfl, rfl, ⟨.inr ⟨rfl, rfl⟩, trivial⟩, .run rfl (fun w HS => X.move rfl), rfl, rfl, rfl⟩, ⟨_, undef, [(70, Value.bool (decide (((w64 (t8 + t14)).tmod (a3)) = t17)))], 71, rfl, rfl, ⟨.inr ⟨rfl, rfl⟩, trivial⟩, .pass 16 true false 70 rfl rfl (sb (decide_eq_false c19)) rfl rfl, rfl, rfl, rfl⟩, ⟨_, undef, [(70, Value.bool (decide (((w64 (t8 + t14)).tmod (a3)) = t17)))], 72, rfl, rfl, ⟨.inr ⟨rfl, rfl⟩, trivial⟩, .pass 16 true false 70 rfl rfl (sb (decide_eq_false c19)) rfl rfl, rfl, rfl, rfl⟩, ⟨_, undef, [(70, Value.bool (decide (((w64 (t8 + t14)).tmod (a3)) = t17)))], 73, rfl, rfl, ⟨.inr ⟨rfl, rfl⟩, trivial⟩, .pass 16 true false 70 rfl rfl (sb (decide_eq_false c19)) rfl rfl, rfl, rfl, rfl⟩, ⟨_, undef, [(70, Value.bool (decide (((w64 (t8 + t14)).tmod (a3)) = t17)))], 74, rfl, rfl, ⟨.inr ⟨rfl, rfl⟩, trivial⟩, .pass 16 true false 70 rfl rfl (sb (decide_eq_false c19)) rfl rfl, rfl, rfl, rfl⟩, ⟨_, undef, [(70, Value.bool (decide (((w64 (t8 + t14)).tmod (a3)) = t17)))], 75, rfl, rfl, ⟨.inr ⟨rfl, rfl⟩, trivial⟩, .pass 16 true false 70 rfl rfl (sb (decide_eq_false c19)) rfl rfl, rfl, rfl, rfl⟩, ⟨_, undef, [(70, Value.bool (decide (((w64 (t8 + t14)).tmod (a3)) = t17)))], 76, rfl, rfl, ⟨.inr ⟨rfl, rfl⟩, trivial⟩, .pass 16 true false 70 rfl rfl (sb (decide_eq_false c19)) rfl rfl, rfl, rfl, rfl⟩, ⟨_, undef, [(70, Value.bool (decide (((w64 (t8 + t14)).tmod (a3)) = t17)))], 77, rfl, rfl, ⟨.inr ⟨rfl, rfl⟩, trivial⟩, .pass 16 true false 70 rfl rfl (sb (decide_eq_false c19)) rfl rfl, rfl, rfl, rfl⟩, ⟨_, undef, [(70, Value.bool (decide (((w64 (t8 + t14)).tmod (a3)) = t17)))], 78, rfl, rfl, ⟨.inr ⟨rfl, rfl⟩, trivial⟩, .pass 16 true false 70 rfl rfl (sb (decide_eq_false c19)) rfl rfl, rfl, rfl, rfl⟩, ⟨_, Value.bool (false), [(70, Value.bool (decide (((w64 (t8 + t14)).tmod (a3)) = t17))), (78, undef)], 79, rfl, rfl, ⟨.inr ⟨rfl, rfl⟩, ⟨.inr ⟨rfl, rfl⟩, trivial⟩⟩, .run rfl (fun w HS => X.pickF (sb (decide_eq_false c19)) rfl), rfl, rfl, rfl⟩, ⟨_, Value.bool (false), [(79, Value.bool (false))], 80, rfl, rfl, ⟨.inr ⟨rfl, rfl⟩, trivial⟩, .run rfl (fun w HS => X.move rfl), rfl, rfl, rfl⟩, ⟨_, undef, [(80, Value.bool (false))], 81, rfl, rfl, ⟨.inr ⟨rfl, rfl⟩, trivial⟩, .pass 26 true false 80 rfl rfl rfl rfl rfl, rfl, rfl, rfl⟩, ⟨_, undef, [(80, Value.bool (false))], 82, rfl, rfl, ⟨.inr ⟨rfl, rfl⟩, trivial⟩, .pass 26 true false 80 rfl rfl rfl rfl rfl, rfl, rfl, rfl⟩, ⟨_, undef, [(80, Value.bool (false))], 83, rfl, rfl, ⟨.inr ⟨rfl, rfl⟩, trivial⟩, .pass 26 true false 80 rfl rfl rfl rfl rfl, rfl, rfl, rfl⟩, ⟨_, undef, [(80, Value.bool (false))], 84, rfl, rfl, ⟨.inr ⟨rfl, rfl⟩, trivial⟩, .pass 26 true false 80 rfl rfl rfl rfl rfl, rfl, rfl, rfl⟩, ⟨_, undef, [(80, Value.bool (false))], 85, rfl, rfl, ⟨.inr ⟨rfl, rfl⟩, trivial⟩, .pass 26 true false 80 rfl rfl rfl rfl rfl, rfl, rfl, rfl⟩, ⟨_, undef, [(80, Value.bool (false))], 86, rfl, rfl, ⟨.inr ⟨rfl, rfl⟩, trivial⟩, .pass 26 true false 80 rfl rfl rfl rfl rfl, rfl, rfl, rfl⟩, ⟨_, undef, [(80, Value.bool (false))], 87, rfl, rfl, ⟨.inr ⟨rfl, rfl⟩, trivial⟩, .pass 26 true false 80 rfl rfl rfl rfl rfl, rfl, rfl, rfl⟩, ⟨_, undef, [(80, Value.bool (false))], 88, rfl, rfl, ⟨.inr ⟨rfl, rfl⟩, trivial⟩, .pass 26 true false 80 rfl rfl rfl rfl rfl, rfl, rfl, rfl⟩, ⟨_, undef, [(80, Value.bool (false))], 89, rfl, rfl, ⟨.inr ⟨rfl, rfl⟩, trivial⟩, .pass 26 true false 80 rfl rfl rfl rfl rfl, rfl, rfl, rfl⟩, ⟨_, Value.bool (false), [(80, Value.bool (false)), (89, undef)], 90, rfl, rfl, ⟨.inr ⟨rfl, rfl⟩, ⟨.inr ⟨rfl, rfl⟩, trivial⟩⟩, .run rfl (fun w HS => X.pickF rfl rfl), rfl, rfl, rfl⟩, ⟨_, Value.bool (false), [(90, Value.bool (false))], 8, rfl, rfl, ⟨.inr ⟨rfl, rfl⟩, trivial⟩, .run rfl (fun w HS => X.assign rfl), rfl, rfl, rfl⟩, trivial⟩ ⟨.inr ⟨rfl, rfl⟩, trivial⟩ (fun w HS => ?_)
                  have HS : Sep.St [R] w0 w := HS
                  refine At.next ?_
                  refine V.keep [(8, Value.bool (false))] ⟨rfl, trivial⟩ ?_
                  refine V.ret ?_
                  cases H
                  exact At.ret1 rfl rfl ⟨_, rfl, rfl, HS⟩
              · replace H := ite_f c13 H
                refine W.want 47 rfl (sb (decide_eq_false c13)) ?_
                refine W.rd (X.move rfl) rfl rfl rfl ?_
                refine W.want 47 rfl (sb (decide_eq_false c13)) ?_
                refine W.rd (X.move rfl) rfl rfl rfl ?_
                refine W.want 47 rfl (sb (decide_eq_false c13)) ?_
                refine W.rd (X.add rfl rfl) rfl rfl rfl ?_
                refine W.want 47 rfl (sb (decide_eq_false c13)) ?_
                refine W.rd (X.move rfl) rfl rfl rfl ?_
                refine W.want 47 rfl (sb (decide_eq_false c13)) ?_
                refine W.rd (X.cmp (decide ((w64 (t8 + t10)) = a3)) rfl rfl rfl rfl) rfl rfl rfl ?_
                refine W.rd (X.pickF (sb (decide_eq_false c13)) rfl) rfl rfl rfl ?_
                refine W.rd (X.assign rfl) rfl rfl rfl ?_
                refine W.nil ?_
                refine At.next ?_
                refine V.keep [(0, Value.int .i64 (a0)), (1, Value.int .i64 (a1)), (2, Value.int .i64 (a2)), (3, Value.int .i64 (a3)), (10, Value.int .i64 (t8)), (12, Value.bool (decide ((w64 (t8 + t10)) = a3)))] ⟨rfl, rfl, rfl, rfl, rfl, rfl, trivial⟩ ?_
                refine V.seq ?_
                by_cases c27 : (w64 (t8 + t10)) = a3
                · replace H := ite_t c27 H
                  refine V.draw (es := [6, 13, 22, 30, 32]) (bl := [7, 9, 14, 15, 16, 17, 18, 19, 20, 21, 23, 24, 25, 26, 27, 28, 29, 31, 33, 34, 35, 36, 37]) (f := [(54, Value.bool (decide ((w64 (t8 + t10)) = a3))), (55, Value.bool (decide ((w64 (t8 + t10)) = a3))), (56, Value.int .i64 (t8)), (57, Value.int .i64 (a1)), (58, Value.int .i64 (a2)), (59, Value.int .i64 (a3)), (62, Value.int .i64 (a3)), (64, Value.int .i64 (a0)), (65, Value.int .i64 (a2)), (66, Value.int .i64 (a3))]) (fun w => Sep.St [R] w0 w) mo HS.drew rfl ?_
                  refine T.event _ [(57, Value.int .i64 (a1)), (58, Value.int .i64 (a2)), (59, Value.int .i64 (a3)), (55, Value.bool (decide ((w64 (t8 + t10)) = a3)))] rfl rfl ⟨⟨_, Value.bool (decide ((w64 (t8 + t10)) = a3)), [(12, Value.bool (decide ((w64 (t8 + t10)) = a3)))], 54, rfl, rfl, ⟨.inl ⟨rfl, rfl⟩, trivial⟩, .run rfl (fun w HS => X.move rfl), rfl, rfl, rfl⟩, ⟨_, Value.bool (decide ((w64 (t8 + t10)) = a3)), [(54, Value.bool (decide ((w64 (t8 + t10)) = a3)))], 55, rfl, rfl, ⟨.inr ⟨rfl, rfl⟩, trivial⟩, .run rfl (fun w HS => X.move rfl), rfl, rfl, rfl⟩, ⟨_, Value.int .i64 (t8), [(10, Value.int .i64 (t8)), (55, Value.bool (decide ((w64 (t8 + t10)) = a3)))], 56, rfl, rfl, ⟨.inl ⟨rfl, rfl⟩, ⟨.inr ⟨rfl, rfl⟩, trivial⟩⟩, .want 1 true 55 rfl rfl (sb (decide_eq_true c27)) (fun w HS => X.move rfl), rfl, rfl, rfl⟩, ⟨_, Value.int .i64 (a1), [(1, Value.int .i64 (a1)), (55, Value.bool (decide ((w64 (t8 + t10)) = a3)))], 57, rfl, rfl, ⟨.inl ⟨rfl, rfl⟩, ⟨.inr ⟨rfl, rfl⟩, trivial⟩⟩, .want 1 true 55 rfl rfl (sb (decide_eq_true c27)) (fun w HS => X.move rfl), rfl, rfl, rfl⟩, ⟨_, Value.int .i64 (a2), [(2, Value.int .i64 (a2)), (55, Value.bool (decide ((w64 (t8 + t10)) = a3)))], 58, rfl, rfl, ⟨.inl ⟨rfl, rfl⟩, ⟨.inr ⟨rfl, rfl⟩, trivial⟩⟩, .want 1 true 55 rfl rfl (sb (decide_eq_true c27)) (fun w HS => X.move rfl), rfl, rfl, rfl⟩, ⟨_, Value.int .i64 (a3), [(3, Value.int .i64 (a3)), (55, Value.bool (decide ((w64 (t8 + t10)) = a3)))], 59, rfl, rfl, ⟨.inl ⟨rfl, rfl⟩, ⟨.inr ⟨rfl, rfl⟩, trivial⟩⟩, .want 1 true 55 rfl rfl (sb (decide_eq_true c27)) (fun w HS => X.move rfl), rfl, rfl, rfl⟩, ⟨_, Value.int .i64 (a3), [(3, Value.int .i64 (a3)), (55, Value.bool (decide ((w64 (t8 + t10)) = a3)))], 62, rfl, rfl, ⟨.inl ⟨rfl, rfl⟩, ⟨.inr ⟨rfl, rfl⟩, trivial⟩⟩, .want 1 true 55 rfl rfl (sb (decide_eq_true c27)) (fun w HS => X.move rfl), rfl, rfl, rfl⟩, ⟨_, Value.int .i64 (a0), [(0, Value.int .i64 (a0)), (55, Value.bool (decide ((w64 (t8 + t10)) = a3)))], 64, rfl, rfl, ⟨.inl ⟨rfl, rfl⟩, ⟨.inr ⟨rfl, rfl⟩, trivial⟩⟩, .want 1 true 55 rfl rfl (sb (decide_eq_true c27)) (fun w HS => X.move rfl), rfl, rfl, rfl⟩, ⟨_, Value.int .i64 (a2), [(2, Value.int .i64 (a2)), (55, Value.bool (decide ((w64 (t8 + t10)) = a3)))], 65, rfl, rfl, ⟨.inl ⟨rfl, rfl⟩, ⟨.inr ⟨rfl, rfl⟩, trivial⟩⟩, .want 1 true 55 rfl rfl (sb (decide_eq_true c27)) (fun w HS => X.move rfl), rfl, rfl, rfl⟩, ⟨_, Value.int .i64 (a3), [(3, Value.int .i64 (a3)), (55, Value.bool (decide ((w64 (t8 + t10)) = a3)))], 66, rfl, rfl, ⟨.inl ⟨rfl, rfl⟩, ⟨.inr ⟨rfl, rfl⟩, trivial⟩⟩, .want 1 true 55 rfl rfl (sb (decide_eq_true c27)) (fun w HS => X.move rfl), rfl, rfl, rfl⟩, trivial⟩ rfl ⟨.inr ⟨rfl, rfl⟩, ⟨.inr ⟨rfl, rfl⟩, ⟨.inr ⟨rfl, rfl⟩, ⟨.inr ⟨rfl, rfl⟩, trivial⟩⟩⟩⟩ (Or.inr ⟨1, true, 55, rfl, rfl, (sb (decide_eq_true c27))⟩) (by intro d hd; cases hd; exact ⟨by decide, rfl, rfl⟩) [14, 15, 16, 17, 18, 19, 20, 21, 23, 24, 25, 26, 27, 28, 29, 31, 33, 34, 35, 36, 37] [0, 1, 3, 4, 5] rfl rfl (fun w HS => ?_)
                  have HS : Sep.St [R] w0 w := HS
                  obtain ⟨t28, A29, H⟩ := bind_s H
                  refine ⟨_, Y.call Try.func11 (by kernel_rfl) rfl (vs := [Value.int .i64 (a1), Value.int .i64 (a2), Value.int .i64 (a3)]) rfl (serial_Dist.calls a1 a2 a3 _ w0 _  t28  A29 (Sep.St.tailJoin (m := []) (r := [R]) HS)), ?_⟩
                  rintro _ w ⟨rfl, HS⟩
                  replace HS := Sep.St.tailOpen (m := []) (r := [R]) HS
                  have HS : Sep.St [R] w0 w := HS
                  obtain ⟨c30, H⟩ := ite_n H
                  refine ⟨[(60, Value.int .i64 (t28)), (61, Value.int .i64 (w64 (t8 + t28))), (63, Value.int .i64 ((w64 (t8 + t28)).tmod (a3)))], fun w => Sep.St [R] w0 w, ⟨.inl ⟨rfl, rfl⟩, ⟨.inr ⟨by decide, rfl⟩, ⟨.inr ⟨by decide, rfl⟩, trivial⟩⟩⟩, ?_, HS⟩
                  refine T.event _ [(64, Value.int .i64 (a0)), (65, Value.int .i64 (a2)), (66, Value.int .i64 (a3)), (55, Value.bool (decide ((w64 (t8 + t10)) = a3)))] rfl rfl ⟨⟨_, Value.int .i64 (t8), [(10, Value.int .i64 (t8)), (55, Value.bool (decide ((w64 (t8 + t10)) = a3)))], 56, rfl, rfl, ⟨.inl ⟨rfl, rfl⟩, ⟨.inr ⟨rfl, rfl⟩, trivial⟩⟩, .want 1 true 55 rfl rfl (sb (decide_eq_true c27)) (fun w HS => X.move rfl), rfl, rfl, rfl⟩, ⟨_, Value.int .i64 (w64 (t8 + t28)), [(56, Value.int .i64 (t8)), (60, Value.int .i64 (t28)), (55, Value.bool (decide ((w64 (t8 + t10)) = a3)))], 61, rfl, rfl, ⟨.inr ⟨rfl, rfl⟩, ⟨.inr ⟨rfl, rfl⟩, ⟨.inr ⟨rfl, rfl⟩, trivial⟩⟩⟩, .want 1 true 55 rfl rfl (sb (decide_eq_true c27)) (fun w HS => X.add rfl rfl), rfl, rfl, rfl⟩, ⟨_, Value.int .i64 (a3), [(3, Value.int .i64 (a3)), (55, Value.bool (decide ((w64 (t8 + t10)) = a3)))], 62, rfl, rfl, ⟨.inl ⟨rfl, rfl⟩, ⟨.inr ⟨rfl, rfl⟩, trivial⟩⟩, .want 1 true 55 rfl rfl (sb (decide_eq_true c27)) (fun w HS => X.move rfl), rfl, rfl, rfl⟩, ⟨_, Value.int .i64 ((w64 (t8 + t28)).tmod (a3)), [(61, Value.int .i64 (w64 (t8 + t28))), (62, Value.int .i64 (a3)), (55, Value.bool (decide ((w64 (t8 + t10)) = a3)))], 63, rfl, rfl, ⟨.inr ⟨rfl, rfl⟩, ⟨.inr ⟨rfl, rfl⟩, ⟨.inr ⟨rfl, rfl⟩, trivial⟩⟩⟩, .want 1 true 55 rfl rfl (sb (decide_eq_true c27)) (fun w HS => X.rem rfl rfl c30), rfl, rfl, rfl⟩, ⟨_, Value.int .i64 (a0), [(0, Value.int .i64 (a0)), (55, Value.bool (decide ((w64 (t8 + t10)) = a3)))], 64, rfl, rfl, ⟨.inl ⟨rfl, rfl⟩, ⟨.inr ⟨rfl, rfl⟩, trivial⟩⟩, .want 1 true 55 rfl rfl (sb (decide_eq_true c27)) (fun w HS => X.move rfl), rfl, rfl, rfl⟩, ⟨_, Value.int .i64 (a2), [(2, Value.int .i64 (a2)), (55, Value.bool (decide ((w64 (t8 + t10)) = a3)))], 65, rfl, rfl, ⟨.inl ⟨rfl, rfl⟩, ⟨.inr ⟨rfl, rfl⟩, trivial⟩⟩, .want 1 true 55 rfl rfl (sb (decide_eq_true c27)) (fun w HS => X.move rfl), rfl, rfl, rfl⟩, ⟨_, Value.int .i64 (a3), [(3, Value.int .i64 (a3)), (55, Value.bool (decide ((w64 (t8 + t10)) = a3)))], 66, rfl, rfl, ⟨.inl ⟨rfl, rfl⟩, ⟨.inr ⟨rfl, rfl⟩, trivial⟩⟩, .want 1 true 55 rfl rfl (sb (decide_eq_true c27)) (fun w HS => X.move rfl), rfl, rfl, rfl⟩, trivial⟩ rfl ⟨.inr ⟨rfl, rfl⟩, ⟨.inr ⟨rfl, rfl⟩, ⟨.inr ⟨rfl, rfl⟩, ⟨.inr ⟨rfl, rfl⟩, trivial⟩⟩⟩⟩ (Or.inr ⟨1, true, 55, rfl, rfl, (sb (decide_eq_true c27))⟩) (by intro d hd; cases hd; exact ⟨by decide, rfl, rfl⟩) [24, 25, 26, 27, 28, 29, 31, 33, 34, 35, 36, 37] [10, 11, 12] rfl rfl (fun w HS => ?_)
                  have HS : Sep.St [R] w0 w := HS
                  obtain ⟨t31, A32, H⟩ := bind_s H
                  refine ⟨_, Y.call Try.func11 (by kernel_rfl) rfl (vs := [Value.int .i64 (a0), Value.int .i64 (a2), Value.int .i64 (a3)]) rfl (serial_Dist.calls a0 a2 a3 _ w0 _  t31  A32 (Sep.St.tailJoin (m := []) (r := [R]) HS)), ?_⟩
                  rintro _ w ⟨rfl, HS⟩
                  replace HS := Sep.St.tailOpen (m := []) (r := [R]) HS
                  have HS : Sep.St [R] w0 w := HS
                  by_cases c33 : ((w64 (t8 + t28)).tmod (a3)) = t31
                  · replace H := ite_t c33 H
                    refine ⟨[(67, Value.int .i64 (t31)), (68, Value.bool (decide (((w64 (t8 + t28)).tmod (a3)) = t31))), (69, Value.bool (decide (((w64 (t8 + t28)).tmod (a3)) = t31))), (70, Value.bool (decide (((w64 (t8 + t28)).tmod (a3)) = t31))), (71, Value.int .i64 (a0)), (72, Value.int .i64 (a3)), (73, Value.int .i64 (w64 (a0 + a3))), (74, Value.int .i64 (a1)), (75, Value.int .i64 (a3)), (77, Value.int .i64 (t8))], fun w => Sep.St [R] w0 w, ⟨.inl ⟨rfl, rfl⟩, ⟨.inr ⟨by decide, rfl⟩, ⟨.inr ⟨by decide, rfl⟩, ⟨.inr ⟨by decide, rfl⟩, ⟨.inr ⟨by decide, rfl⟩, ⟨.inr ⟨by decide, rfl⟩, ⟨.inr ⟨by decide, rfl⟩, ⟨.inr ⟨by decide, rfl⟩, ⟨.inr ⟨by decide, rfl⟩, ⟨.inr ⟨by decide, rfl⟩, trivial⟩⟩⟩⟩⟩⟩⟩⟩⟩⟩, ?_, HS⟩
                    refine T.event _ [(73, Value.int .i64 (w64 (a0 + a3))), (74, Value.int .i64 (a1)), (75, Value.int .i64 (a3)), (70, Value.bool (decide (((w64 (t8 + t28)).tmod (a3)) = t31)))] rfl rfl ⟨⟨_, Value.int .i64 (t8), [(10, Value.int .i64 (t8)), (55, Value.bool (decide ((w64 (t8 + t10)) = a3)))], 56, rfl, rfl, ⟨.inl ⟨rfl, rfl⟩, ⟨.inr ⟨rfl, rfl⟩, trivial⟩⟩, .want 1 true 55 rfl rfl (sb (decide_eq_true c27)) (fun w HS => X.move rfl), rfl, rfl, rfl⟩, ⟨_, Value.int .i64 (w64 (t8 + t28)), [(56, Value.int .i64 (t8)), (60, Value.int .i64 (t28)), (55, Value.bool (decide ((w64 (t8 + t10)) = a3)))], 61, rfl, rfl, ⟨.inr ⟨rfl, rfl⟩, ⟨.inr ⟨rfl, rfl⟩, ⟨.inr ⟨rfl, rfl⟩, trivial⟩⟩⟩, .want 1 true 55 rfl rfl (sb (decide_eq_true c27)) (fun w HS => X.add rfl rfl), rfl, rfl, rfl⟩, ⟨_, Value.int .i64 (a3), [(3, Value.int .i64 (a3)), (55, Value.bool (decide ((w64 (t8 + t10)) = a3)))], 62, rfl, rfl, ⟨.inl ⟨rfl, rfl⟩, ⟨.inr ⟨rfl, rfl⟩, trivial⟩⟩, .want 1 true 55 rfl rfl (sb (decide_eq_true c27)) (fun w HS => X.move rfl), rfl, rfl, rfl⟩, ⟨_, Value.int .i64 ((w64 (t8 + t28)).tmod (a3)), [(61, Value.int .i64 (w64 (t8 + t28))), (62, Value.int .i64 (a3)), (55, Value.bool (decide ((w64 (t8 + t10)) = a3)))], 63, rfl, rfl, ⟨.inr ⟨rfl, rfl⟩, ⟨.inr ⟨rfl, rfl⟩, ⟨.inr ⟨rfl, rfl⟩, trivial⟩⟩⟩, .want 1 true 55 rfl rfl (sb (decide_eq_true c27)) (fun w HS => X.rem rfl rfl c30), rfl, rfl, rfl⟩, ⟨_, Value.bool (decide (((w64 (t8 + t28)).tmod (a3)) = t31)), [(63, Value.int .i64 ((w64 (t8 + t28)).tmod (a3))), (67, Value.int .i64 (t31)), (55, Value.bool (decide ((w64 (t8 + t10)) = a3)))], 68, rfl, rfl, ⟨.inr ⟨rfl, rfl⟩, ⟨.inr ⟨rfl, rfl⟩, ⟨.inr ⟨rfl, rfl⟩, trivial⟩⟩⟩, .want 1 true 55 rfl rfl (sb (decide_eq_true c27)) (fun w HS => X.cmp (decide (((w64 (t8 + t28)).tmod (a3)) = t31)) rfl rfl rfl rfl), rfl, rfl, rfl⟩, ⟨_, Value.bool (decide (((w64 (t8 + t28)).tmod (a3)) = t31)), [(55, Value.bool (decide ((w64 (t8 + t10)) = a3))), (68, Value.bool (decide (((w64 (t8 + t28)).tmod (a3)) = t31)))], 69, rfl, rfl, ⟨.inr ⟨rfl, rfl⟩, ⟨.inr ⟨rfl, rfl⟩, trivial⟩⟩, .run rfl (fun w HS => X.pickT (sb (decide_eq_true c27)) rfl), rfl, rfl, rfl⟩, ⟨_, Value.bool (decide (((w64 (t8 + t28)).tmod (a3)) = t31)), [(69, Value.bool (decide (((w64 (t8 + t28)).tmod (a3)) = t31)))], 70, rfl, rfl, ⟨.inr ⟨rfl, rfl⟩, trivial⟩, .run rfl (fun w HS => X.move rfl), rfl, rfl, rfl⟩, ⟨_, Value.int .i64 (a0), [(0, Value.int .i64 (a0)), (70, Value.bool (decide (((w64 (t8 + t28)).tmod (a3)) = t31)))], 71, rfl, rfl, ⟨.inl ⟨rfl, rfl⟩, ⟨.inr ⟨rfl, rfl⟩, trivial⟩⟩, .want 16 true 70 rfl rfl (sb (decide_eq_true c33)) (fun w HS => X.move rfl), rfl, rfl, rfl⟩, ⟨_, Value.int .i64 (a3), [(3, Value.int .i64 (a3)), (70, Value.bool (decide (((w64 (t8 + t28)).tmod (a3)) = t31)))], 72, rfl, rfl, ⟨.inl ⟨rfl, rfl⟩, ⟨.inr ⟨rfl, rfl⟩, trivial⟩⟩, .want 16 true 70 rfl rfl (sb (decide_eq_true c33)) (fun w HS => X.move rfl), rfl, rfl, rfl⟩, ⟨_, Value.int .i64 (w64 (a0 + a3)), [(71, Value.int .i64 (a0)), (72, Value.int .i64 (a3)), (70, Value.bool (decide (((w64 (t8 + t28)).tmod (a3)) = t31)))], 73, rfl, rfl, ⟨.inr ⟨rfl, rfl⟩, ⟨.inr ⟨rfl, rfl⟩, ⟨.inr ⟨rfl, rfl⟩, trivial⟩⟩⟩, .want 16 true 70 rfl rfl (sb (decide_eq_true c33)) (fun w HS => X.add rfl rfl), rfl, rfl, rfl⟩, ⟨_, Value.int .i64 (a1), [(1, Value.int .i64 (a1)), (70, Value.bool (decide (((w64 (t8 + t28)).tmod (a3)) = t31)))], 74, rfl, rfl, ⟨.inl ⟨rfl, rfl⟩, ⟨.inr ⟨rfl, rfl⟩, trivial⟩⟩, .want 16 true 70 rfl rfl (sb (decide_eq_true c33)) (fun w HS => X.move rfl), rfl, rfl, rfl⟩, ⟨_, Value.int .i64 (a3), [(3, Value.int .i64 (a3)), (70, Value.bool (decide (((w64 (t8 + t28)).tmod (a3)) = t31)))], 75, rfl, rfl, ⟨.inl ⟨rfl, rfl⟩, ⟨.inr ⟨rfl, rfl⟩, trivial⟩⟩, .want 16 true 70 rfl rfl (sb (decide_eq_true c33)) (fun w HS => X.move rfl), rfl, rfl, rfl⟩, ⟨_, Value.int .i64 (t8), [(10, Value.int .i64 (t8)), (70, Value.bool (decide (((w64 (t8 + t28)).tmod (a3)) = t31)))], 77, rfl, rfl, ⟨.inl ⟨rfl, rfl⟩, ⟨.inr ⟨rfl, rfl⟩, trivial⟩⟩, .want 16 true 70 rfl rfl (sb (decide_eq_true c33)) (fun w HS => X.move rfl), rfl, rfl, rfl⟩, trivial⟩ rfl ⟨.inr ⟨rfl, rfl⟩, ⟨.inr ⟨rfl, rfl⟩, ⟨.inr ⟨rfl, rfl⟩, ⟨.inr ⟨rfl, rfl⟩, trivial⟩⟩⟩⟩ (Or.inr ⟨16, true, 70, rfl, rfl, (sb (decide_eq_true c33))⟩) (by intro d hd; cases hd; exact ⟨by decide, rfl, rfl⟩) [35, 36, 37] [2, 7, 8, 9, 14, 15, 16, 17, 18, 19, 20, 21] rfl rfl (fun w HS => ?_)
                    have HS : Sep.St [R] w0 w := HS
                    obtain ⟨t34, A35, H⟩ := bind_s H
                    refine ⟨_, Y.call Try.func11 (by kernel_rfl) rfl (vs := [Value.int .i64 (w64 (a0 + a3)), Value.int .i64 (a1), Value.int .i64 (a3)]) rfl (serial_Dist.calls (w64 (a0 + a3)) a1 a3 _ w0 _  t34  A35 (Sep.St.tailJoin (m := []) (r := [R]) HS)), ?_⟩
                    rintro _ w ⟨rfl, HS⟩
                    replace HS := Sep.St.tailOpen (m := []) (r := [R]) HS
                    have HS : Sep.St [R] w0 w := HS
                    by_cases c36 : t34 = t8
                    · replace H := ite_t c36 H
                      refine ⟨[(76, Value.int .i64 (t34)), (78, Value.bool (decide (t34 = t8))), (79, Value.bool (decide (t34 = t8))), (80, Value.bool (decide (t34 = t8))), (81, Value.int .i64 (a0)), (82, Value.int .i64 (a0)), (83, Value.int .i64 (a3)), (85, Value.int .i64 (a3)), (87, Value.int .i64 (a3)), (88, Value.int .i64 (((1 : Int)).tmod (a3)))], fun w => Sep.St [R] w0 w, ⟨.inl ⟨rfl, rfl⟩, ⟨.inr ⟨by decide, rfl⟩, ⟨.inr ⟨by decide, rfl⟩, ⟨.inr ⟨by decide, rfl⟩, ⟨.inr ⟨by decide, rfl⟩, ⟨.inr ⟨by decide, rfl⟩, ⟨.inr ⟨by decide, rfl⟩, ⟨.inr ⟨by decide, rfl⟩, ⟨.inr ⟨by decide, rfl⟩, ⟨.inr ⟨by decide, rfl⟩, trivial⟩⟩⟩⟩⟩⟩⟩⟩⟩⟩, ?_, HS⟩
                      refine T.event _ [(82, Value.int .i64 (a0)), (83, Value.int .i64 (a3)), (80, Value.bool (decide (t34 = t8)))] rfl rfl ⟨⟨_, Value.int .i64 (t8), [(10, Value.int .i64 (t8)), (70, Value.bool (decide (((w64 (t8 + t28)).tmod (a3)) = t31)))], 77, rfl, rfl, ⟨.inl ⟨rfl, rfl⟩, ⟨.inr ⟨rfl, rfl⟩, trivial⟩⟩, .want 16 true 70 rfl rfl (sb (decide_eq_true c33)) (fun w HS => X.move rfl), rfl, rfl, rfl⟩, ⟨_, Value.bool (decide (t34 = t8)), [(76, Value.int .i64 (t34)), (77, Value.int .i64 (t8)), (70, Value.bool (decide (((w64 (t8 + t28)).tmod (a3)) = t31)))], 78, rfl, rfl, ⟨.inr ⟨rfl, rfl⟩, ⟨.inr ⟨rfl, rfl⟩, ⟨.inr ⟨rfl, rfl⟩, trivial⟩⟩⟩, .want 16 true 70 rfl rfl (sb (decide_eq_true c33)) (fun w HS => X.cmp (decide (t34 = t8)) rfl rfl rfl rfl), rfl, rfl, rfl⟩, ⟨_, Value.bool (decide (t34 = t8)), [(70, Value.bool (decide (((w64 (t8 + t28)).tmod (a3)) = t31))), (78, Value.bool (decide (t34 = t8)))], 79, rfl, rfl, ⟨.inr ⟨rfl, rfl⟩, ⟨.inr ⟨rfl, rfl⟩, trivial⟩⟩, .run rfl (fun w HS => X.pickT (sb (decide_eq_true c33)) rfl), rfl, rfl, rfl⟩, ⟨_, Value.bool (decide (t34 = t8)), [(79, Value.bool (decide (t34 = t8)))], 80, rfl, rfl, ⟨.inr ⟨rfl, rfl⟩, trivial⟩, .run rfl (fun w HS => X.move rfl), rfl, rfl, rfl⟩, ⟨_, Value.int .i64 (a0), [(0, Value.int .i64 (a0)), (80, Value.bool (decide (t34 = t8)))], 81, rfl, rfl, ⟨.inl ⟨rfl, rfl⟩, ⟨.inr ⟨rfl, rfl⟩, trivial⟩⟩, .want 26 true 80 rfl rfl (sb (decide_eq_true c36)) (fun w HS => X.move rfl), rfl, rfl, rfl⟩, ⟨_, Value.int .i64 (a0), [(0, Value.int .i64 (a0)), (80, Value.bool (decide (t34 = t8)))], 82, rfl, rfl, ⟨.inl ⟨rfl, rfl⟩, ⟨.inr ⟨rfl, rfl⟩, trivial⟩⟩, .want 26 true 80 rfl rfl (sb (decide_eq_true c36)) (fun w HS => X.move rfl), rfl, rfl, rfl⟩, ⟨_, Value.int .i64 (a3), [(3, Value.int .i64 (a3)), (80, Value.bool (decide (t34 = t8)))], 83, rfl, rfl, ⟨.inl ⟨rfl, rfl⟩, ⟨.inr ⟨rfl, rfl⟩, trivial⟩⟩, .want 26 true 80 rfl rfl (sb (decide_eq_true c36)) (fun w HS => X.move rfl), rfl, rfl, rfl⟩, ⟨_, Value.int .i64 (a3), [(3, Value.int .i64 (a3)), (80, Value.bool (decide (t34 = t8)))], 85, rfl, rfl, ⟨.inl ⟨rfl, rfl⟩, ⟨.inr ⟨rfl, rfl⟩, trivial⟩⟩, .want 26 true 80 rfl rfl (sb (decide_eq_true c36)) (fun w HS => X.move rfl), rfl, rfl, rfl⟩, ⟨_, Value.int .i64 (a3), [(3, Value.int .i64 (a3)), (80, Value.bool (decide (t34 = t8)))], 87, rfl, rfl, ⟨.inl ⟨rfl, rfl⟩, ⟨.inr ⟨rfl, rfl⟩, trivial⟩⟩, .want 26 true 80 rfl rfl (sb (decide_eq_true c36)) (fun w HS => X.move rfl), rfl, rfl, rfl⟩, ⟨_, Value.int .i64 (((1 : Int)).tmod (a3)), [(87, Value.int .i64 (a3)), (80, Value.bool (decide (t34 = t8)))], 88, rfl, rfl, ⟨.inr ⟨rfl, rfl⟩, ⟨.inr ⟨rfl, rfl⟩, trivial⟩⟩, .want 26 true 80 rfl rfl (sb (decide_eq_true c36)) (fun w HS => X.rem rfl rfl c30), rfl, rfl, rfl⟩, trivial⟩ rfl ⟨.inr ⟨rfl, rfl⟩, ⟨.inr ⟨rfl, rfl⟩, ⟨.inr ⟨rfl, rfl⟩, trivial⟩⟩⟩ (Or.inr ⟨26, true, 80, rfl, rfl, (sb (decide_eq_true c36))⟩) (by intro d hd; cases hd; exact ⟨by decide, rfl, rfl⟩) [35, 36, 37] [23, 24, 25, 26, 28, 29] rfl rfl (fun w HS => ?_)
                      have HS : Sep.St [R] w0 w := HS
                      obtain ⟨t37, A38, H⟩ := bind_s H
                      refine ⟨_, Y.call Try.func9 (by kernel_rfl) rfl (vs := [Value.int .i64 (a0), Value.int .i64 (a3)]) rfl (serial_Next.calls a0 a3 _ w0 _  t37  A38 (Sep.St.tailJoin (m := []) (r := [R]) HS)), ?_⟩
                      rintro _ w ⟨rfl, HS⟩
                      replace HS := Sep.St.tailOpen (m := []) (r := [R]) HS
                      have HS : Sep.St [R] w0 w := HS
                      refine ⟨[(84, Value.int .i64 (t37))], fun w => Sep.St [R] w0 w, ⟨.inl ⟨rfl, rfl⟩, trivial⟩, ?_, HS⟩
                      refine T.event _ [(81, Value.int .i64 (a0)), (84, Value.int .i64 (t37)), (85, Value.int .i64 (a3)), (80, Value.bool (decide (t34 = t8)))] rfl rfl ⟨⟨_, Value.int .i64 (a0), [(0, Value.int .i64 (a0)), (80, Value.bool (decide (t34 = t8)))], 81, rfl, rfl, ⟨.inl ⟨rfl, rfl⟩, ⟨.inr ⟨rfl, rfl⟩, trivial⟩⟩, .want 26 true 80 rfl rfl (sb (decide_eq_true c36)) (fun w HS => X.move rfl), rfl, rfl, rfl⟩, ⟨_, Value.int .i64 (a3), [(3, Value.int .i64 (a3)), (80, Value.bool (decide (t34 = t8)))], 85, rfl, rfl, ⟨.inl ⟨rfl, rfl⟩, ⟨.inr ⟨rfl, rfl⟩, trivial⟩⟩, .want 26 true 80 rfl rfl (sb (decide_eq_true c36)) (fun w HS => X.move rfl), rfl, rfl, rfl⟩, ⟨_, Value.int .i64 (a3), [(3, Value.int .i64 (a3)), (80, Value.bool (decide (t34 = t8)))], 87, rfl, rfl, ⟨.inl ⟨rfl, rfl⟩, ⟨.inr ⟨rfl, rfl⟩, trivial⟩⟩, .want 26 true 80 rfl rfl (sb (decide_eq_true c36)) (fun w HS => X.move rfl), rfl, rfl, rfl⟩, ⟨_, Value.int .i64 (((1 : Int)).tmod (a3)), [(87, Value.int .i64 (a3)), (80, Value.bool (decide (t34 = t8)))], 88, rfl, rfl, ⟨.inr ⟨rfl, rfl⟩, ⟨.inr ⟨rfl, rfl⟩, trivial⟩⟩, .want 26 true 80 rfl rfl (sb (decide_eq_true c36)) (fun w HS => X.rem rfl rfl c30), rfl, rfl, rfl⟩, trivial⟩ rfl ⟨.inr ⟨rfl, rfl⟩, ⟨.inr ⟨rfl, rfl⟩, ⟨.inr ⟨rfl, rfl⟩, ⟨.inr ⟨rfl, rfl⟩, trivial⟩⟩⟩⟩ (Or.inr ⟨26, true, 80, rfl, rfl, (sb (decide_eq_true c36))⟩) (by intro d hd; cases hd; exact ⟨by decide, rfl, rfl⟩) [] [27, 31] rfl rfl (fun w HS => ?_)
                      have HS : Sep.St [R] w0 w := HS
                      obtain ⟨t39, A40, H⟩ := bind_s H
                      refine ⟨_, Y.call Try.func11 (by kernel_rfl) rfl (vs := [Value.int .i64 (a0), Value.int .i64 (t37), Value.int .i64 (a3)]) rfl (serial_Dist.calls a0 t37 a3 _ w0 _  t39  A40 (Sep.St.tailJoin (m := []) (r := [R]) HS)), ?_⟩
                      rintro _ w ⟨rfl, HS⟩
                      replace HS := Sep.St.tailOpen (m := []) (r := [R]) HS
                      have HS : Sep.St [R] w0 w := HS
                      refine ⟨[(86, Value.int .i64 (t39)), (89, Value.bool (decide (t39 = (((1 : Int)).tmod (a3))))), (90, Value.bool (decide (t39 = (((1 : Int)).tmod (a3))))), (8, Value.bool (decide (t39 = (((1 : Int)).tmod (a3)))))], fun w => Sep.St [R] w0 w, ⟨.inl ⟨rfl, rfl⟩, ⟨.inr ⟨by decide, rfl⟩, ⟨.inr ⟨by decide, rfl⟩, ⟨.inr ⟨by decide, rfl⟩, trivial⟩⟩⟩⟩, ?_, HS⟩
                      refine T.fin [(8, Value.bool (decide (t39 = (((1 : Int)).tmod (a3)))))] rfl ⟨⟨_, Value.int .i64 (a3), [(3, Value.int .i64 (a3)), (80, Value.bool (decide (t34 = t8)))], 87, rfl, rfl, ⟨.inl ⟨rfl, rfl⟩, ⟨.inr ⟨rfl, rfl⟩, trivial⟩⟩, .want 26 true 80 rfl rfl (sb (decide_eq_true c36)) (fun w HS => X.move rfl), rfl, rfl, rfl⟩, ⟨_, Value.int .i64 (((1 : Int)).tmod (a3)), [(87, Value.int .i64 (a3)), (80, Value.bool (decide (t34 = t8)))], 88, rfl, rfl, ⟨.inr ⟨rfl, rfl⟩, ⟨.inr ⟨rfl, rfl⟩, trivial⟩⟩, .want 26 true 80 rfl rfl (sb (decide_eq_true c36)) (fun w HS => X.rem rfl rfl c30), rfl, rfl, rfl⟩, ⟨_, Value.bool (decide (t39 = (((1 : Int)).tmod (a3)))), [(86, Value.int .i64 (t39)), (88, Value.int .i64 (((1 : Int)).tmod (a3))), (80, Value.bool (decide (t34 = t8)))], 89, rfl, rfl, ⟨.inr ⟨rfl, rfl⟩, ⟨.inr ⟨rfl, rfl⟩, ⟨.inr ⟨rfl, rfl⟩, trivial⟩⟩⟩, .want 26 true 80 rfl rfl (sb (decide_eq_true c36)) (fun w HS => X.cmp (decide (t39 = (((1 : Int)).tmod (a3)))) rfl rfl rfl rfl), rfl, rfl, rfl⟩, ⟨_, Value.bool (decide (t39 = (((1 : Int)).tmod (a3)))), [(80, Value.bool (decide (t34 = t8))), (89, Value.bool (decide (t39 = (((1 : Int)).tmod (a3)))))], 90, rfl, rfl, ⟨.inr ⟨rfl, rfl⟩, ⟨.inr ⟨rfl, rfl⟩, trivial⟩⟩, .run rfl (fun w HS => X.pickT (sb (decide_eq_true c36)) rfl), rfl, rfl, rfl⟩, ⟨_, Value.bool (decide (t39 = (((1 : Int)).tmod (a3)))), [(90, Value.bool (decide (t39 = (((1 : Int)).tmod (a3)))))], 8, rfl, rfl, ⟨.inr ⟨rfl, rfl⟩, trivial⟩, .run rfl (fun w HS => X.assign rfl), rfl, rfl, rfl⟩, trivial⟩ ⟨.inr ⟨rfl, rfl⟩, trivial⟩ (fun w HS => ?_)
                      have HS : Sep.St [R] w0 w := HS
                      refine At.next ?_
                      refine V.keep [(8, Value.bool (decide (t39 = (((1 : Int)).tmod (a3)))))] ⟨rfl, trivial⟩ ?_
                      refine V.ret ?_
                      cases H
                      exact At.ret1 rfl rfl ⟨_, rfl, rfl, HS⟩
                    · replace H := ite_f c36 H
                      refine ⟨[(76, Value.int .i64 (t34)), (78, Value.bool (decide (t34 = t8))), (79, Value.bool (decide (t34 = t8))), (80, Value.bool (decide (t34 = t8))), (81, undef), (82, undef), (83, undef), (85, undef), (87, undef), (88, undef)], fun w => Sep.St [R] w0 w, ⟨.inl ⟨rfl, rfl⟩, ⟨.inr ⟨by decide, rfl⟩, ⟨.inr ⟨by decide, rfl⟩, ⟨.inr ⟨by decide, rfl⟩, ⟨.inr ⟨by decide, rfl⟩, ⟨.inr ⟨by decide, rfl⟩, ⟨.inr ⟨by decide, rfl⟩, ⟨.inr ⟨by decide, rfl⟩, ⟨.inr ⟨by decide, rfl⟩, ⟨.inr ⟨by decide, rfl⟩, trivial⟩⟩⟩⟩⟩⟩⟩⟩⟩⟩, ?_, HS⟩
                      refine T.drop (es' := [32]) (bl' := [35, 36, 37]) [(84, undef)] rfl ⟨.inr ⟨by decide, rfl⟩, trivial⟩ ?_
                      refine T.drop (es' := []) (bl' := []) [(86, undef), (89, undef), (90, Value.bool (false)), (8, Value.bool (false))] rfl ⟨.inr ⟨by decide, rfl⟩, ⟨.inr ⟨by decide, rfl⟩, ⟨.inr ⟨by decide, rfl⟩, ⟨.inr ⟨by decide, rfl⟩, trivial⟩⟩⟩⟩ ?_
                      refine T.fin [(8, Value.bool (false))] rfl ⟨⟨_, Value.int .i64 (t8), [(10, Value.int .i64 (t8)), (70, Value.bool (decide (((w64 (t8 + t28)).tmod (a3)) = t31)))], 77, rfl, rfl, ⟨.inl ⟨rfl, rfl⟩, ⟨.inr ⟨rfl, rfl⟩, trivial⟩⟩, .want 16 true 70 rfl rfl (sb (decide_eq_true c33)) (fun w HS => X.move rfl), rfl, rfl, rfl⟩, ⟨_, Value.bool (decide (t34 = t8)), [(76, Value.int .i64 (t34)), (77, Value.int .i64 (t8)), (70, Value.bool (decide (((w64 (t8 + t28)).tmod (a3)) = t31)))], 78, rfl, rfl, ⟨.inr ⟨rfl, rfl⟩, ⟨.inr ⟨rfl, rfl⟩, ⟨.inr ⟨rfl, rfl⟩, trivial⟩⟩⟩, .want 16 true 70 rfl rfl (sb (decide_eq_true c33)) (fun w HS => X.cmp (decide (t34 = t8)) rfl rfl rfl rfl), rfl, rfl, rfl⟩, ⟨_, Value.bool (decide (t34 = t8)), [(70, Value.bool (decide (((w64 (t8 + t28)).tmod (a3)) = t31))), (78, Value.bool (decide (t34 = t8)))], 79, rfl, rfl, ⟨.inr ⟨rfl, rfl⟩, ⟨.inr ⟨rfl, rfl⟩, trivial⟩⟩, .run rfl (fun w HS => X.pickT (sb (decide_eq_true c33)) rfl), rfl, rfl, rfl⟩, ⟨_, Value.bool (decide (t34 = t8)), [(79, Value.bool (decide (t34 = t8)))], 80, rfl, rfl, ⟨.inr ⟨rfl, rfl⟩, trivial⟩, .run rfl (fun w HS => X.move rfl), rfl, rfl, rfl⟩, ⟨_, undef, [(80, Value.bool (decide (t34 = t8)))], 81, rfl, rfl, ⟨.inr ⟨rfl, rfl⟩, trivial⟩, .pass 26 true false 80 rfl rfl (sb (decide_eq_false c36)) rfl rfl, rfl, rfl, rfl⟩, ⟨_, undef, [(80, Value.bool (decide (t34 = t8)))], 82, rfl, rfl, ⟨.inr ⟨rfl, rfl⟩, trivial⟩, .pass 26 true false 80 rfl rfl (sb (decide_eq_false c36)) rfl rfl, rfl, rfl, rfl⟩, ⟨_, undef, [(80, Value.bool (decide (t34 = t8)))], 83, rfl, rfl, ⟨.inr ⟨rfl, rfl⟩, trivial⟩, .pass 26 true false 80 rfl rfl (sb (decide_eq_false c36)) rfl rfl, rfl, rfl, rfl⟩, ⟨_, undef, [(80, Value.bool (decide (t34 = t8)))], 84, rfl, rfl, ⟨.inr ⟨rfl, rfl⟩, trivial⟩, .pass 26 true false 80 rfl rfl (sb (decide_eq_false c36)) rfl rfl, rfl, rfl, rfl⟩, ⟨_, undef, [(80, Value.bool (decide (t34 = t8)))], 85, rfl, rfl, ⟨.inr ⟨rfl, rfl⟩, trivial⟩, .pass 26 true false 80 rfl rfl (sb (decide_eq_false c36)) rfl rfl, rfl, rfl, rfl⟩, ⟨_, undef, [(80, Value.bool (decide (t34 = t8)))], 86, rfl, rfl, ⟨.inr ⟨rfl, rfl⟩, trivial⟩, .pass 26 true false 80 rfl rfl (sb (decide_eq_false c36)) rfl rfl, rfl, rfl, rfl⟩, ⟨_, undef, [(80, Value.bool (decide (t34 = t8)))], 87, rfl, rfl, ⟨.inr ⟨rfl, rfl⟩, trivial⟩, .pass 26 true false 80 rfl rfl (sb (decide_eq_false c36)) rfl rfl, rfl, rfl, rfl⟩, ⟨_, undef, [(80, Value.bool (decide (t34 = t8)))], 88, rfl, rfl, ⟨.inr ⟨rfl, rfl⟩, trivial⟩, .pass 26 true false 80 rfl rfl (sb (decide_eq_false c36)) rfl rfl, rfl, rfl, rfl⟩, ⟨_, undef, [(80, Value.bool (decide (t34 = t8)))], 89, rfl, rfl, ⟨.inr ⟨rfl, rfl⟩, trivial⟩, .pass 26 true false 80 rfl rfl (sb (decide_eq_false c36)) rfl rfl, rfl, rfl, rfl⟩, ⟨_, Value.bool (false), [(80, Value.bool (decide (t34 = t8))), (89, undef)], 90, rfl, rfl, ⟨.inr ⟨rfl, rfl⟩, ⟨.inr ⟨rfl, rfl⟩, trivial⟩⟩, .run rfl (fun w HS => X.pickF (sb (decide_eq_false c36)) rfl), rfl, rfl, rfl⟩, ⟨_, Value.bool (false), [(90, Value.bool (false))], 8, rfl, rfl, ⟨.inr ⟨rfl, rfl⟩, trivial⟩, .run rfl (fun w HS => X.assign rfl), rfl, rfl, rfl⟩, trivial⟩ ⟨.inr ⟨rfl, rfl⟩, trivial⟩ (fun w HS => ?_)
                      have HS : Sep.St [R] w0 w := HS
                      refine At.next ?_
                      refine V.keep [(8, Value.bool (false))] ⟨rfl, trivial⟩ ?_
                      refine V.ret ?_
                      cases H
                      exact At.ret1 rfl rfl ⟨_, rfl, rfl, HS⟩
                  · replace H := ite_f c33 H
                    refine ⟨[(67, Value.int .i64 (t31)), (68, Value.bool (decide (((w64 (t8 + t28)).tmod (a3)) = t31))), (69, Value.bool (decide (((w64 (t8 + t28)).tmod (a3)) = t31))), (70, Value.bool (decide (((w64 (t8 + t28)).tmod (a3)) = t31))), (71, undef), (72, undef), (73, undef), (74, undef), (75, undef), (77, undef)], fun w => Sep.St [R] w0 w, ⟨.inl ⟨rfl, rfl⟩, ⟨.inr ⟨by decide, rfl⟩, ⟨.inr ⟨by decide, rfl⟩, ⟨.inr ⟨by decide, rfl⟩, ⟨.inr ⟨by decide, rfl⟩, ⟨.inr ⟨by decide, rfl⟩, ⟨.inr ⟨by decide, rfl⟩, ⟨.inr ⟨by decide, rfl⟩, ⟨.inr ⟨by decide, rfl⟩, ⟨.inr ⟨by decide, rfl⟩, trivial⟩⟩⟩⟩⟩⟩⟩⟩⟩⟩, ?_, HS⟩
                    refine T.drop (es' := [30, 32]) (bl' := [35, 36, 37]) [(76, undef), (78, undef), (79, Value.bool (false)), (80, Value.bool (false)), (81, undef), (82, undef), (83, undef), (85, undef), (87, undef), (88, undef)] rfl ⟨.inr ⟨by decide, rfl⟩, ⟨.inr ⟨by decide, rfl⟩, ⟨.inr ⟨by decide, rfl⟩, ⟨.inr ⟨by decide, rfl⟩, ⟨.inr ⟨by decide, rfl⟩, ⟨.inr ⟨by decide, rfl⟩, ⟨.inr ⟨by decide, rfl⟩, ⟨.inr ⟨by decide, rfl⟩, ⟨.inr ⟨by decide, rfl⟩, ⟨.inr ⟨by decide, rfl⟩, trivial⟩⟩⟩⟩⟩⟩⟩⟩⟩⟩ ?_
                    refine T.drop (es' := [32]) (bl' := [35, 36, 37]) [(84, undef)] rfl ⟨.inr ⟨by decide, rfl⟩, trivial⟩ ?_
                    refine T.drop (es' := []) (bl' := []) [(86, undef), (89, undef), (90, Value.bool (false)), (8, Value.bool (false))] rfl ⟨.inr ⟨by decide, rfl⟩, ⟨.inr ⟨by decide, rfl⟩, ⟨.inr ⟨by decide, rfl⟩, ⟨.inr ⟨by decide, rfl⟩, trivial⟩⟩⟩⟩ ?_
                    refine T.fin [(8, Value.bool (false))] rfl ⟨⟨_, Value.int .i64 (t8), [(10, Value.int .i64 (t8)), (55, Value.bool (decide ((w64 (t8 + t10)) = a3)))], 56, rfl, rfl, ⟨.inl ⟨rfl, rfl⟩, ⟨.inr ⟨rfl, rfl⟩, trivial⟩⟩, .want 1 true 55 rfl rfl (sb (decide_eq_true c27)) (fun w HS => X.move rfl), rfl, rfl, rfl⟩, ⟨_, Value.int .i64 (w64 (t8 + t28)), [(56, Value.int .i64 (t8)), (60, Value.int .i64 (t28)), (55, Value.bool (decide ((w64 (t8 + t10)) = a3)))], 61, rfl, rfl, ⟨.inr ⟨rfl, rfl⟩, ⟨.inr ⟨rfl, rfl⟩, ⟨.inr ⟨rfl, rfl⟩, trivial⟩⟩⟩, .want 1 true 55 rfl rfl (sb (decide_eq_true c27)) (fun w HS => X.add rfl rfl), rfl, rfl, rfl⟩, ⟨_, Value.int .i64 (a3), [(3, Value.int .i64 (a3)), (55, Value.bool (decide ((w64 (t8 + t10)) = a3)))], 62, rfl, rfl, ⟨.inl ⟨rfl, rfl⟩, ⟨.inr ⟨rfl, rfl⟩, trivial⟩⟩, .want 1 true 55 rfl rfl (sb (decide_eq_true c27)) (fun w HS => X.move rfl), rfl, rfl, rfl⟩, ⟨_, Value.int .i64 ((w64 (t8 + t28)).tmod (a3)), [(61, Value.int .i64 (w64 (t8 + t28))), (62, Value.int .i64 (a3)), (55, Value.bool (decide ((w64 (t8 + t10)) = a3)))], 63, rfl, rfl, ⟨.inr ⟨rfl, rfl⟩, ⟨.inr ⟨rfl, rfl⟩, ⟨.inr ⟨rfl, rfl⟩, trivial⟩⟩⟩, .want 1 true 55 rfl rfl (sb (decide_eq_true c27)) (fun w HS => X.rem rfl rfl c30), rfl, rfl, rfl⟩, ⟨_, Value.bool (decide (((w64 (t8 + t28)).tmod (a3)) = t31)), [(63, Value.int .i64 ((w64 (t8 + t28)).tmod (a3))), (67, Value.int .i64 (t31)), (55, Value.bool (decide ((w64 (t8 + t10)) = a3)))], 68, rfl, rfl, ⟨.inr ⟨rfl, rfl⟩, ⟨.inr ⟨rfl, rfl⟩, ⟨.inr ⟨rfl, rfl⟩, trivial⟩⟩⟩, .want 1 true 55 rfl rfl (sb (decide_eq_true c27)) (fun w HS => X.cmp (decide (((w64 (t8 + t28)).tmod (a3)) = t31)) rfl rfl rfl rfl), rfl, rfl, rfl⟩, ⟨_, Value.bool (decide (((w64 (t8 + t28)).tmod (a3)) = t31)), [(55, Value.bool (decide ((w64 (t8 + t10)) = a3))), (68, Value.bool (decide (((w64 (t8 + t28)).tmod (a3)) = t31)))], 69, rfl, rfl, ⟨.inr ⟨rfl, rfl⟩, ⟨.inr ⟨rfl, rfl⟩, trivial⟩⟩, .run rfl (fun w HS => X.pickT (sb (decide_eq_true c27)) rfl), rfl, rfl, rfl⟩, ⟨_, Value.bool (decide (((w64 (t8 + t28)).tmod (a3)) = t31)), [(69, Value.bool (decide (((w64 (t8 + t28)).tmod (a3)) = t31)))], 70, rfl, rfl, ⟨.inr ⟨rfl, rfl⟩, trivial⟩, .run rfl (fun w HS => X.move rfl), rfl, rfl, rfl⟩, ⟨_, undef, [(70, Value.bool (decide (((w64 (t8 + t28)).tmod (a3)) = t31)))], 71, rfl, rfl, ⟨.inr ⟨rfl, rfl⟩, trivial⟩, .pass 16 true false 70 rfl rfl (sb (decide_eq_false c33)) rfl rfl, rfl, rfl, rfl⟩, ⟨_, undef, [(70, Value.bool (decide (((w64 (t8 + t28)).tmod (a3)) = t31)))], 72, rfl, rfl, ⟨.inr ⟨rfl, rfl⟩, trivial⟩, .pass 16 true false 70 rfl rfl (sb (decide_eq_false c33)) rfl rfl, rfl, rfl, rfl⟩, ⟨_, undef, [(70, Value.bool (decide (((w64 (t8 + t28)).tmod (a3)) = t31)))], 73, rfl, rfl, ⟨.inr ⟨rfl, rfl⟩, trivial⟩, .pass 16 true false 70 rfl rfl (sb (decide_eq_false c33)) rfl rfl, rfl, rfl, rfl⟩, ⟨_, undef, [(70, Value.bool (decide (((w64 (t8 + t28)).tmod (a3)) = t31)))], 74, rfl, rfl, ⟨.inr ⟨rfl, rfl⟩, trivial⟩, .pass 16 true false 70 rfl rfl (sb (decide_eq_false c33)) rfl rfl, rfl, rfl, rfl⟩, ⟨_, undef, [(70, Value.bool (decide (((w64 (t8 + t28)).tmod (a3)) = t31)))], 75, rfl, rfl, ⟨.inr ⟨rfl, rfl⟩, trivial⟩, .pass 16 true false 70 rfl rfl (sb (decide_eq_false c33)) rfl rfl, rfl, rfl, rfl⟩, ⟨_, undef, [(70, Value.bool (decide (((w64 (t8 + t28)).tmod (a3)) = t31)))], 76, rfl, rfl, ⟨.inr ⟨rfl, rfl⟩, trivial⟩, .pass 16 true false 70 rfl rfl (sb (decide_eq_false c33)) rfl rfl, rfl, rfl, rfl⟩, ⟨_, undef, [(70, Value.bool (decide (((w64 (t8 + t28)).tmod (a3)) = t31)))], 77, rfl, rfl, ⟨.inr ⟨rfl, rfl⟩, trivial⟩, .pass 16 true false 70 rfl rfl (sb (decide_eq_false c33)) rfl rfl, rfl, rfl, rfl⟩, ⟨_, undef, [(70, Value.bool (decide (((w64 (t8 + t28)).tmod (a3)) = t31)))], 78, rfl, rfl, ⟨.inr ⟨rfl, rfl⟩, trivial⟩, .pass 16 true false 70 rfl rfl (sb (decide_eq_false c33)) rfl rfl, rfl, rfl, rfl⟩, ⟨_, Value.bool (false), [(70, Value.bool (decide (((w64 (t8 + t28)).tmod (a3)) = t31))), (78, undef)], 79, rfl, rfl, ⟨.inr ⟨rfl, rfl⟩, ⟨.inr ⟨rfl, rfl⟩, trivial⟩⟩, .run rfl (fun w HS => X.pickF (sb (decide_eq_false c33)) rfl), rfl, rfl, rfl⟩, ⟨_, Value.bool (false), [(79, Value.bool (false))], 80, rfl, rfl, ⟨.inr ⟨rfl, rfl⟩, trivial⟩, .run rfl (fun w HS => X.move rfl), rfl, rfl, rfl⟩, ⟨_, undef, [(80, Value.bool (false))], 81, rfl, rfl, ⟨.inr ⟨rfl, rfl⟩, trivial⟩, .pass 26 true false 80 rfl rfl rfl rfl rfl, rfl, rfl, rfl⟩, ⟨_, undef, [(80, Value.bool (false))], 82, rfl, rfl, ⟨.inr ⟨rfl, rfl⟩, trivial⟩, .pass 26 true false 80 rfl rfl rfl rfl rfl, rfl, rfl, rfl⟩, ⟨_, undef, [(80, Value.bool (false))], 83, rfl, rfl, ⟨.inr ⟨rfl, rfl⟩, trivial⟩, .pass 26 true false 80 rfl rfl rfl rfl rfl, rfl, rfl, rfl⟩, ⟨_, undef, [(80, Value.bool (false))], 84, rfl, rfl, ⟨.inr ⟨rfl, rfl⟩, trivial⟩, .pass 26 true false 80 rfl rfl rfl rfl rfl, rfl, rfl, rfl⟩, ⟨_, undef, [(80, Value.bool (false))], 85, rfl, rfl, ⟨.inr ⟨rfl, rfl⟩, trivial⟩, .pass 26 true false 80 rfl rfl rfl rfl rfl, rfl, rfl, rfl⟩, ⟨_, undef, [(80, Value.bool (false))], 86, rfl, rfl, ⟨.inr ⟨rfl, rfl⟩, trivial⟩, .pass 26 true false 80 rfl rfl rfl rfl rfl, rfl, rfl, rfl⟩, ⟨_, undef, [(80, Value.bool (false))], 87, rfl, rfl, ⟨.inr ⟨rfl, rfl⟩, trivial⟩, .pass 26 true false 80 rfl rfl rfl rfl rfl, rfl, rfl, rfl⟩, ⟨_, undef, [(80, Value.bool (false))], 88, rfl, rfl, ⟨.inr ⟨rfl, rfl⟩, trivial⟩, .pass 26 true false 80 rfl rfl rfl rfl rfl, rfl, rfl, rfl⟩, ⟨_, undef, [(80, Value.bool (false))], 89, rfl, rfl, ⟨.inr ⟨rfl, rfl⟩, trivial⟩, .pass 26 true false 80 rfl rfl rfl rfl rfl, rfl, rfl, rfl⟩, ⟨_, Value.bool (false), [(80, Value.bool (false)), (89, undef)], 90, rfl, rfl, ⟨.inr ⟨rfl, rfl⟩, ⟨.inr ⟨rfl, rfl⟩, trivial⟩⟩, .run rfl (fun w HS => X.pickF rfl rfl), rfl, rfl, rfl⟩, ⟨_, Value.bool (false), [(90, Value.bool (false))], 8, rfl, rfl, ⟨.inr ⟨rfl, rfl⟩, trivial⟩, .run rfl (fun w HS => X.assign rfl), rfl, rfl, rfl⟩, trivial⟩ ⟨.inr ⟨rfl, rfl⟩, trivial⟩ (fun w HS => ?_)
                    have HS : Sep.St [R] w0 w := HS
                    refine At.next ?_
                    refine V.keep [(8, Value.bool (false))] ⟨rfl, trivial⟩ ?_
                    refine V.ret ?_
                    cases H
                    exact At.ret1 rfl rfl ⟨_, rfl, rfl, HS⟩
                · replace H := ite_f c27 H
                  refine V.draw (es := [6, 13, 22, 30, 32]) (bl := [7, 9, 14, 15, 16, 17, 18, 19, 20, 21, 23, 24, 25, 26, 27, 28, 29, 31, 33, 34, 35, 36, 37]) (f := [(54, Value.bool (decide ((w64 (t8 + t10)) = a3))), (55, Value.bool (decide ((w64 (t8 + t10)) = a3))), (56, undef), (57, undef), (58, undef), (59, undef), (62, undef), (64, undef), (65, undef), (66, undef)]) (fun w => Sep.St [R] w0 w) mo HS.drew rfl ?_
                  refine T.drop (es' := [13, 22, 30, 32]) (bl' := [14, 15, 16, 17, 18, 19, 20, 21, 23, 24, 25, 26, 27, 28, 29, 31, 33, 34, 35, 36, 37]) [(60, undef), (61, undef), (63, undef)] rfl ⟨.inr ⟨by decide, rfl⟩, ⟨.inr ⟨by decide, rfl⟩, ⟨.inr ⟨by decide, rfl⟩, trivial⟩⟩⟩ ?_
                  refine T.drop (es' := [22, 30, 32]) (bl' := [24, 25, 26, 27, 28, 29, 31, 33, 34, 35, 36, 37]) [(67, undef), (68, undef), (69, Value.bool (false)), (70, Value.bool (false)), (71, undef), (72, undef), (73, undef), (74, undef), (75, undef), (77, undef)] rfl ⟨.inr ⟨by decide, rfl⟩, ⟨.inr ⟨by decide, rfl⟩, ⟨.inr ⟨by decide, rfl⟩, ⟨.inr ⟨by decide, rfl⟩, ⟨.inr ⟨by decide, rfl⟩, ⟨.inr ⟨by decide, rfl⟩, ⟨.inr ⟨by decide, rfl⟩, ⟨.inr ⟨by decide, rfl⟩, ⟨.inr ⟨by decide, rfl⟩, ⟨.inr ⟨by decide, rfl⟩, trivial⟩⟩⟩⟩⟩⟩⟩⟩⟩⟩ ?_
                  refine T.drop (es' := [30, 32]) (bl' := [35, 36, 37]) [(76, undef), (78, undef), (79, Value.bool (false)), (80, Value.bool (false)), (81, undef), (82, undef), (83, undef), (85, undef), (87, undef), (88, undef)] rfl ⟨.inr ⟨by decide, rfl⟩, ⟨.inr ⟨by decide, rfl⟩, ⟨.inr ⟨by decide, rfl⟩, ⟨.inr ⟨by decide, rfl⟩, ⟨.inr ⟨by decide, rfl⟩, ⟨.inr ⟨by decide, rfl⟩, ⟨.inr ⟨by decide, rfl⟩, ⟨.inr ⟨by decide, rfl⟩, ⟨.inr ⟨by decide, rfl⟩, ⟨.inr ⟨by decide, rfl⟩, trivial⟩⟩⟩⟩⟩⟩⟩⟩⟩⟩ ?_
                  refine T.drop (es' := [32]) (bl' := [35, 36, 37]) [(84, undef)] rfl ⟨.inr ⟨by decide, rfl⟩, trivial⟩ ?_
                  refine T.drop (es' := []) (bl' := []) [(86, undef), (89, undef), (90, Value.bool (false)), (8, Value.bool (false))] rfl ⟨.inr ⟨by decide, rfl⟩, ⟨.inr ⟨by decide, rfl⟩, ⟨.inr ⟨by decide, rfl⟩, ⟨.inr ⟨by decide, rfl⟩, trivial⟩⟩⟩⟩ ?_
                  refine T.fin [(8, Value.bool (false))] rfl ⟨⟨_, Value.bool (decide ((w64 (t8 + t10)) = a3)), [(12, Value.bool (decide ((w64 (t8 + t10)) = a3)))], 54, rfl, rfl, ⟨.inl ⟨rfl, rfl⟩, trivial⟩, .run rfl (fun w HS => X.move rfl), rfl, rfl, rfl⟩, ⟨_, Value.bool (decide ((w64 (t8 + t10)) = a3)), [(54, Value.bool (decide ((w64 (t8 + t10)) = a3)))], 55, rfl, rfl, ⟨.inr ⟨rfl, rfl⟩, trivial⟩, .run rfl (fun w HS => X.move rfl), rfl, rfl, rfl⟩, ⟨_, undef, [(55, Value.bool (decide ((w64 (t8 + t10)) = a3)))], 56, rfl, rfl, ⟨.inr ⟨rfl, rfl⟩, trivial⟩, .pass 1 true false 55 rfl rfl (sb (decide_eq_false c27)) rfl rfl, rfl, rfl, rfl⟩, ⟨_, undef, [(55, Value.bool (decide ((w64 (t8 + t10)) = a3)))], 57, rfl, rfl, ⟨.inr ⟨rfl, rfl⟩, trivial⟩, .pass 1 true false 55 rfl rfl (sb (decide_eq_false c27)) rfl rfl, rfl, rfl, rfl⟩, ⟨_, undef, [(55, Value.bool (decide ((w64 (t8 + t10)) = a3)))], 58, rfl, rfl, ⟨.inr ⟨rfl, rfl⟩, trivial⟩, .pass 1 true false 55 rfl rfl (sb (decide_eq_false c27)) rfl rfl, rfl, rfl, rfl⟩, ⟨_, undef, [(55, Value.bool (decide ((w64 (t8 + t10)) = a3)))], 59, rfl, rfl, ⟨.inr ⟨rfl, rfl⟩, trivial⟩, .pass 1 true false 55 rfl rfl (sb (decide_eq_false c27)) rfl rfl, rfl, rfl, rfl⟩, ⟨_, undef, [(55, Value.bool (decide ((w64 (t8 + t10)) = a3)))], 60, rfl, rfl, ⟨.inr ⟨rfl, rfl⟩, trivial⟩, .pass 1 true false 55 rfl rfl (sb (decide_eq_false c27)) rfl rfl, rfl, rfl, rfl⟩, ⟨_, undef, [(55, Value.bool (decide ((w64 (t8 + t10)) = a3)))], 61, rfl, rfl, ⟨.inr ⟨rfl, rfl⟩, trivial⟩, .pass 1 true false 55 rfl rfl (sb (decide_eq_false c27)) rfl rfl, rfl, rfl, rfl⟩, ⟨_, undef, [(55, Value.bool (decide ((w64 (t8 + t10)) = a3)))], 62, rfl, rfl, ⟨.inr ⟨rfl, rfl⟩, trivial⟩, .pass 1 true false 55 rfl rfl (sb (decide_eq_false c27)) rfl rfl, rfl, rfl, rfl⟩, ⟨_, undef, [(55, Value.bool (decide ((w64 (t8 + t10)) = a3)))], 63, rfl, rfl, ⟨.inr ⟨rfl, rfl⟩, trivial⟩, .pass 1 true false 55 rfl rfl (sb (decide_eq_false c27)) rfl rfl, rfl, rfl, rfl⟩, ⟨_, undef, [(55, Value.bool (decide ((w64 (t8 + t10)) = a3)))], 64, rfl, rfl, ⟨.inr ⟨rfl, rfl⟩, trivial⟩, .pass 1 true false 55 rfl rfl (sb (decide_eq_false c27)) rfl rfl, rfl, rfl, rfl⟩, ⟨_, undef, [(55, Value.bool (decide ((w64 (t8 + t10)) = a3)))], 65, rfl, rfl, ⟨.inr ⟨rfl, rfl⟩, trivial⟩, .pass 1 true false 55 rfl rfl (sb (decide_eq_false c27)) rfl rfl, rfl, rfl, rfl⟩, ⟨_, undef, [(55, Value.bool (decide ((w64 (t8 + t10)) = a3)))], 66, rfl, rfl, ⟨.inr ⟨rfl, rfl⟩, trivial⟩, .pass 1 true false 55 rfl rfl (sb (decide_eq_false c27)) rfl rfl, rfl, rfl, rfl⟩, ⟨_, undef, [(55, Value.bool (decide ((w64 (t8 + t10)) = a3)))], 67, rfl, rfl, ⟨.inr ⟨rfl, rfl⟩, trivial⟩, .pass 1 true false 55 rfl rfl (sb (decide_eq_false c27)) rfl rfl, rfl, rfl, rfl⟩, ⟨_, undef, [(55, Value.bool (decide ((w64 (t8 + t10)) = a3)))], 68, rfl, rfl, ⟨.inr ⟨rfl, rfl⟩, trivial⟩, .pass 1 true false 55 rfl rfl (sb (decide_eq_false c27)) rfl rfl, rfl, rfl, rfl⟩, ⟨_, Value.bool (false), [(55, Value.bool (decide ((w64 (t8 + t10)) = a3))), (68, undef)], 69, rfl, rfl, ⟨.inr ⟨rfl, rfl⟩, ⟨.inr ⟨rfl, rfl⟩, trivial⟩⟩, .run rfl (fun w HS => X.pickF (sb (decide_eq_false c27)) rfl), rfl, rfl, rfl⟩, ⟨_, Value.bool (false), [(69, Value.bool (false))], 70, rfl, rfl, ⟨.inr ⟨rfl, rfl⟩, trivial⟩, .run rfl (fun w HS => X.move rfl), rfl, rfl, rfl⟩, ⟨_, undef, [(70, Value.bool (false))], 71, rfl, rfl, ⟨.inr ⟨rfl, rfl⟩, trivial⟩, .pass 16 true false 70 rfl rfl rfl rfl rfl, rfl, rfl, rfl⟩, ⟨_, undef, [(70, Value.bool (false))], 72, rfl, rfl, ⟨.inr ⟨rfl, rfl⟩, trivial⟩, .pass 16 true false 70 rfl rfl rfl rfl rfl, rfl, rfl, rfl⟩, ⟨_, undef, [(70, Value.bool (false))], 73, rfl, rfl, ⟨.inr ⟨rfl, rfl⟩, trivial⟩, .pass 16 true false 70 rfl rfl rfl rfl rfl, rfl, rfl, rfl⟩, ⟨_, undef, [(70, Value.bool (false))], 74, rfl, rfl, ⟨.inr ⟨rfl, rfl⟩, trivial⟩, .pass 16 true false 70 rfl rfl rfl rfl rfl, rfl, rfl, rfl⟩, ⟨_, undef, [(70, Value.bool (false))], 75, rfl, rfl, ⟨.inr ⟨rfl, rfl⟩, trivial⟩, .pass 16 true false 70 rfl rfl rfl rfl rfl, rfl, rfl, rfl⟩, ⟨_, undef, [(70, Value.bool (false))], 76, rfl, rfl, ⟨.inr ⟨rfl, rfl⟩, trivial⟩, .pass 16 true false 70 rfl rfl rfl rfl rfl, rfl, rfl, rfl⟩, ⟨_, undef, [(70, Value.bool (false))], 77, rfl, rfl, ⟨.inr ⟨rfl, rfl⟩, trivial⟩, .pass 16 true false 70 rfl rfl rfl rfl rfl, rfl, rfl, rfl⟩, ⟨_, undef, [(70, Value.bool (false))], 78, rfl, rfl, ⟨.inr ⟨rfl, rfl⟩, trivial⟩, .pass 16 true false 70 rfl rfl rfl rfl rfl, rfl, rfl, rfl⟩, ⟨_, Value.bool (false), [(70, Value.bool (false)), (78, undef)], 79, rfl, rfl, ⟨.inr ⟨rfl, rfl⟩, ⟨.inr ⟨rfl, rfl⟩, trivial⟩⟩, .run rfl (fun w HS => X.pickF rfl rfl), rfl, rfl, rfl⟩, ⟨_, Value.bool (false), [(79, Value.bool (false))], 80, rfl, rfl, ⟨.inr ⟨rfl, rfl⟩, trivial⟩, .run rfl (fun w HS => X.move rfl), rfl, rfl, rfl⟩, ⟨_, undef, [(80, Value.bool (false))], 81, rfl, rfl, ⟨.inr ⟨rfl, rfl⟩, trivial⟩, .pass 26 true false 80 rfl rfl rfl rfl rfl, rfl, rfl, rfl⟩, ⟨_, undef, [(80, Value.bool (false))], 82, rfl, rfl, ⟨.inr ⟨rfl, rfl⟩, trivial⟩, .pass 26 true false 80 rfl rfl rfl rfl rfl, rfl, rfl, rfl⟩, ⟨_, undef, [(80, Value.bool (false))], 83, rfl, rfl, ⟨.inr ⟨rfl, rfl⟩, trivial⟩, .pass 26 true false 80 rfl rfl rfl rfl rfl, rfl, rfl, rfl⟩, ⟨_, undef, [(80, Value.bool (false))], 84, rfl, rfl, ⟨.inr ⟨rfl, rfl⟩, trivial⟩, .pass 26 true false 80 rfl rfl rfl rfl rfl, rfl, rfl, rfl⟩, ⟨_, undef, [(80, Value.bool (false))], 85, rfl, rfl, ⟨.inr ⟨rfl, rfl⟩, trivial⟩, .pass 26 true false 80 rfl rfl rfl rfl rfl, rfl, rfl, rfl⟩, ⟨_, undef, [(80, Value.bool (false))], 86, rfl, rfl, ⟨.inr ⟨rfl, rfl⟩, trivial⟩, .pass 26 true false 80 rfl rfl rfl rfl rfl, rfl, rfl, rfl⟩, ⟨_, undef, [(80, Value.bool (false))], 87, rfl, rfl, ⟨.inr ⟨rfl, rfl⟩, trivial⟩, .pass 26 true false 80 rfl rfl rfl rfl rfl, rfl, rfl, rfl⟩, ⟨_, undef, [(80, Value.bool (false))], 88, rfl, rfl, ⟨.inr ⟨rfl, rfl⟩, trivial⟩, .pass 26 true false 80 rfl rfl rfl rfl rfl, rfl, rfl, rfl⟩, ⟨_, undef, [(80, Value.bool (false))], 89, rfl, rfl, ⟨.inr ⟨rfl, rfl⟩, trivial⟩, .pass 26 true false 80 rfl rfl rfl rfl rfl, rfl, rfl, rfl⟩, ⟨_, Value.bool (false), [(80, Value.bool (false)), (89, undef)], 90, rfl, rfl, ⟨.inr ⟨rfl, rfl⟩, ⟨.inr ⟨rfl, rfl⟩, trivial⟩⟩, .run rfl (fun w HS => X.pickF rfl rfl), rfl, rfl, rfl⟩, ⟨_, Value.bool (false), [(90, Value.bool (false))], 8, rfl, rfl, ⟨.inr ⟨rfl, rfl⟩, trivial⟩, .run rfl (fun w HS => X.assign rfl), rfl, rfl, rfl⟩, trivial⟩ ⟨.inr ⟨rfl, rfl⟩, trivial⟩ (fun w HS => ?_)
                  have HS : Sep.St [R] w0 w := HS
                  refine At.next ?_
                  refine V.keep [(8, Value.bool (false))] ⟨rfl, trivial⟩ ?_
                  refine V.ret ?_
                  cases H
                  exact At.ret1 rfl rfl ⟨_, rfl, rfl, HS⟩
            · replace H := ite_f c12 H
              refine W.pass 43 rfl (sb (decide_eq_false c12)) rfl rfl ?_
              refine W.pass 43 rfl (sb (decide_eq_false c12)) rfl rfl ?_
              refine W.rd (X.pickF (sb (decide_eq_false c12)) rfl) rfl rfl rfl ?_
              refine W.rd (X.move rfl) rfl rfl rfl ?_
              refine W.want 47 rfl rfl ?_
              refine W.rd (X.move rfl) rfl rfl rfl ?_
              refine W.want 47 rfl rfl ?_
              refine W.rd (X.move rfl) rfl rfl rfl ?_
              refine W.want 47 rfl rfl ?_
              refine W.rd (X.add rfl rfl) rfl rfl rfl ?_
              refine W.want 47 rfl rfl ?_
              refine W.rd (X.move rfl) rfl rfl rfl ?_
              refine W.want 47 rfl rfl ?_
              refine W.rd (X.cmp (decide ((w64 (t8 + t10)) = a3)) rfl rfl rfl rfl) rfl rfl rfl ?_
              refine W.rd (X.pickF rfl rfl) rfl rfl rfl ?_
              refine W.rd (X.assign rfl) rfl rfl rfl ?_
              refine W.nil ?_
              refine At.next ?_
              refine V.keep [(0, Value.int .i64 (a0)), (1, Value.int .i64 (a1)), (2, Value.int .i64 (a2)), (3, Value.int .i64 (a3)), (10, Value.int .i64 (t8)), (12, Value.bool (decide ((w64 (t8 + t10)) = a3)))] ⟨rfl, rfl, rfl, rfl, rfl, rfl, trivial⟩ ?_
              refine V.seq ?_
              by_cases c41 : (w64 (t8 + t10)) = a3
              · replace H := ite_t c41 H
                refine V.draw (es := [6, 13, 22, 30, 32]) (bl := [7, 9, 14, 15, 16, 17, 18, 19, 20, 21, 23, 24, 25, 26, 27, 28, 29, 31, 33, 34, 35, 36, 37]) (f := [(54, Value.bool (decide ((w64 (t8 + t10)) = a3))), (55, Value.bool (decide ((w64 (t8 + t10)) = a3))), (56, Value.int .i64 (t8)), (57, Value.int .i64 (a1)), (58, Value.int .i64 (a2)), (59, Value.int .i64 (a3)), (62, Value.int .i64 (a3)), (64, Value.int .i64 (a0)), (65, Value.int .i64 (a2)), (66, Value.int .i64 (a3))]) (fun w => Sep.St [R] w0 w) mo HS.drew rfl ?_
                refine T.event _ [(57, Value.int .i64 (a1)), (58, Value.int .i64 (a2)), (59, Value.int .i64 (a3)), (55, Value.bool (decide ((w64 (t8 + t10)) = a3)))] rfl rfl ⟨⟨_, Value.bool (decide ((w64 (t8 + t10)) = a3)), [(12, Value.bool (decide ((w64 (t8 + t10)) = a3)))], 54, rfl, rfl, ⟨.inl ⟨rfl, rfl⟩, trivial⟩, .run rfl (fun w HS => X.move rfl), rfl, rfl, rfl⟩, ⟨_, Value.bool (decide ((w64 (t8 + t10)) = a3)), [(54, Value.bool (decide ((w64 (t8 + t10)) = a3)))], 55, rfl, rfl, ⟨.inr ⟨rfl, rfl⟩, trivial⟩, .run rfl (fun w HS => X.move rfl), rfl, rfl, rfl⟩, ⟨_, Value.int .i64 (t8), [(10, Value.int .i64 (t8)), (55, Value.bool (decide ((w64 (t8 + t10)) = a3)))], 56, rfl, rfl, ⟨.inl ⟨rfl, rfl⟩, ⟨.inr ⟨rfl, rfl⟩, trivial⟩⟩, .want 1 true 55 rfl rfl (sb (decide_eq_true c41)) (fun w HS => X.move rfl), rfl, rfl, rfl⟩, ⟨_, Value.int .i64 (a1), [(1, Value.int .i64 (a1)), (55, Value.bool (decide ((w64 (t8 + t10)) = a3)))], 57, rfl, rfl, ⟨.inl ⟨rfl, rfl⟩, ⟨.inr ⟨rfl, rfl⟩, trivial⟩⟩, .want 1 true 55 rfl rfl (sb (decide_eq_true c41)) (fun w HS => X.move rfl), rfl, rfl, rfl⟩, ⟨_, Value.int .i64 (a2), [(2, Value.int .i64 (a2)), (55, Value.bool (decide ((w64 (t8 + t10)) = a3)))], 58, rfl, rfl, ⟨.inl ⟨rfl, rfl⟩, ⟨.inr ⟨rfl, rfl⟩, trivial⟩⟩, .want 1 true 55 rfl rfl (sb (decide_eq_true c41)) (fun w HS => X.move rfl), rfl, rfl, rfl⟩, ⟨_, Value.int .i64 (a3), [(3, Value.int .i64 (a3)), (55, Value.bool (decide ((w64 (t8 + t10)) = a3)))], 59, rfl, rfl, ⟨.inl ⟨rfl, rfl⟩, ⟨.inr ⟨rfl, rfl⟩, trivial⟩⟩, .want 1 true 55 rfl rfl (sb (decide_eq_true c41)) (fun w HS => X.move rfl), rfl, rfl, rfl⟩, ⟨_, Value.int .i64 (a3), [(3, Value.int .i64 (a3)), (55, Value.bool (decide ((w64 (t8 + t10)) = a3)))], 62, rfl, rfl, ⟨.inl ⟨rfl, rfl⟩, ⟨.inr ⟨rfl, rfl⟩, trivial⟩⟩, .want 1 true 55 rfl rfl (sb (decide_eq_true c41)) (fun w HS => X.move rfl), rfl, rfl, rfl⟩, ⟨_, Value.int .i64 (a0), [(0, Value.int .i64 (a0)), (55, Value.bool (decide ((w64 (t8 + t10)) = a3)))], 64, rfl, rfl, ⟨.inl ⟨rfl, rfl⟩, ⟨.inr ⟨rfl, rfl⟩, trivial⟩⟩, .want 1 true 55 rfl rfl (sb (decide_eq_true c41)) (fun w HS => X.move rfl), rfl, rfl, rfl⟩, ⟨_, Value.int .i64 (a2), [(2, Value.int .i64 (a2)), (55, Value.bool (decide ((w64 (t8 + t10)) = a3)))], 65, rfl, rfl, ⟨.inl ⟨rfl, rfl⟩, ⟨.inr ⟨rfl, rfl⟩, trivial⟩⟩, .want 1 true 55 rfl rfl (sb (decide_eq_true c41)) (fun w HS => X.move rfl), rfl, rfl, rfl⟩, ⟨_, Value.int .i64 (a3), [(3, Value.int .i64 (a3)), (55, Value.bool (decide ((w64 (t8 + t10)) = a3)))], 66, rfl, rfl, ⟨.inl ⟨rfl, rfl⟩, ⟨.inr ⟨rfl, rfl⟩, trivial⟩⟩, .want 1 true 55 rfl rfl (sb (decide_eq_true c41)) (fun w HS => X.move rfl), rfl, rfl, rfl⟩, trivial⟩ rfl ⟨.inr ⟨rfl, rfl⟩, ⟨.inr ⟨rfl, rfl⟩, ⟨.inr ⟨rfl, rfl⟩, ⟨.inr ⟨rfl, rfl⟩, trivial⟩⟩⟩⟩ (Or.inr ⟨1, true, 55, rfl, rfl, (sb (decide_eq_true c41))⟩) (by intro d hd; cases hd; exact ⟨by decide, rfl, rfl⟩) [14, 15, 16, 17, 18, 19, 20, 21, 23, 24, 25, 26, 27, 28, 29, 31, 33, 34, 35, 36, 37] [0, 1, 3, 4, 5] rfl rfl (fun w HS => ?_)
                have HS : Sep.St [R] w0 w := HS
                obtain ⟨t42, A43, H⟩ := bind_s H
                refine ⟨_, Y.call Try.func11 (by kernel_rfl) rfl (vs := [Value.int .i64 (a1), Value.int .i64 (a2), Value.int .i64 (a3)]) rfl (serial_Dist.calls a1 a2 a3 _ w0 _  t42  A43 (Sep.St.tailJoin (m := []) (r := [R]) HS)), ?_⟩
                rintro _ w ⟨rfl, HS⟩
                replace HS := Sep.St.tailOpen (m := []) (r := [R]) HS
                have HS : Sep.St [R] w0 w := HS
                obtain ⟨c44, H⟩ := ite_n H
                refine ⟨[(60, Value.int .i64 (t42)), (61, Value.int .i64 (w64 (t8 + t42))), (63, Value.int .i64 ((w64 (t8 + t42)).tmod (a3)))], fun w => Sep.St [R] w0 w, ⟨.inl ⟨rfl, rfl⟩, ⟨.inr ⟨by decide, rfl⟩, ⟨.inr ⟨by decide, rfl⟩, trivial⟩⟩⟩, ?_, HS⟩
                refine T.event _ [(64, Value.int .i64 (a0)), (65, Value.int .i64 (a2)), (66, Value.int .i64 (a3)), (55, Value.bool (decide ((w64 (t8 + t10)) = a3)))] rfl rfl ⟨⟨_, Value.int .i64 (t8), [(10, Value.int .i64 (t8)), (55, Value.bool (decide ((w64 (t8 + t10)) = a3)))], 56, rfl, rfl, ⟨.inl ⟨rfl, rfl⟩, ⟨.inr ⟨rfl, rfl⟩, trivial⟩⟩, .want 1 true 55 rfl rfl (sb (decide_eq_true c41)) (fun w HS => X.move rfl), rfl, rfl, rfl⟩, ⟨_, Value.int .i64 (w64 (t8 + t42)), [(56, Value.int .i64 (t8)), (60, Value.int .i64 (t42)), (55, Value.bool (decide ((w64 (t8 + t10)) = a3)))], 61, rfl, rfl, ⟨.inr ⟨rfl, rfl⟩, ⟨.inr ⟨rfl, rfl⟩, ⟨.inr ⟨rfl, rfl⟩, trivial⟩⟩⟩, .want 1 true 55 rfl rfl (sb (decide_eq_true c41)) (fun w HS => X.add rfl rfl), rfl, rfl, rfl⟩, ⟨_, Value.int .i64 (a3), [(3, Value.int .i64 (a3)), (55, Value.bool (decide ((w64 (t8 + t10)) = a3)))], 62, rfl, rfl, ⟨.inl ⟨rfl, rfl⟩, ⟨.inr ⟨rfl, rfl⟩, trivial⟩⟩, .want 1 true 55 rfl rfl (sb (decide_eq_true c41)) (fun w HS => X.move rfl), rfl, rfl, rfl⟩, ⟨_, Value.int .i64 ((w64 (t8 + t42)).tmod (a3)), [(61, Value.int .i64 (w64 (t8 + t42))), (62, Value.int .i64 (a3)), (55, Value.bool (decide ((w64 (t8 + t10)) = a3)))], 63, rfl, rfl, ⟨.inr ⟨rfl, rfl⟩, ⟨.inr ⟨rfl, rfl⟩, ⟨.inr ⟨rfl, rfl⟩, trivial⟩⟩⟩, .want 1 true 55 rfl rfl (sb (decide_eq_true c41)) (fun w HS => X.rem rfl rfl c44), rfl, rfl, rfl⟩, ⟨_, Value.int .i64 (a0), [(0, Value.int .i64 (a0)), (55, Value.bool (decide ((w64 (t8 + t10)) = a3)))], 64, rfl, rfl, ⟨.inl ⟨rfl, rfl⟩, ⟨.inr ⟨rfl, rfl⟩, trivial⟩⟩, .want 1 true 55 rfl rfl (sb (decide_eq_true c41)) (fun w HS => X.move rfl), rfl, rfl, rfl⟩, ⟨_, Value.int .i64 (a2), [(2, Value.int .i64 (a2)), (55, Value.bool (decide ((w64 (t8 + t10)) = a3)))], 65, rfl, rfl, ⟨.inl ⟨rfl, rfl⟩, ⟨.inr ⟨rfl, rfl⟩, trivial⟩⟩, .want 1 true 55 rfl rfl (sb (decide_eq_true c41)) (fun w HS => X.move rfl), rfl, rfl, rfl⟩, ⟨_, Value.int .i64 (a3), [(3, Value.int .i64 (a3)), (55, Value.bool (decide ((w64 (t8 + t10)) = a3)))], 66, rfl, rfl, ⟨.inl ⟨rfl, rfl⟩, ⟨.inr ⟨rfl, rfl⟩, trivial⟩⟩, .want 1 true 55 rfl rfl (sb (decide_eq_true c41)) (fun w HS => X.move rfl), rfl, rfl, rfl⟩, trivial⟩ rfl ⟨.inr ⟨rfl, rfl⟩, ⟨.inr ⟨rfl, rfl⟩, ⟨.inr ⟨rfl, rfl⟩, ⟨.inr ⟨rfl, rfl⟩, trivial⟩⟩⟩⟩ (Or.inr ⟨1, true, 55, rfl, rfl, (sb (decide_eq_true c41))⟩) (by intro d hd; cases hd; exact ⟨by decide, rfl, rfl⟩) [24, 25, 26, 27, 28, 29, 31, 33, 34, 35, 36, 37] [10, 11, 12] rfl rfl (fun w HS => ?_)
                have HS : Sep.St [R] w0 w := HS
                obtain ⟨t45, A46, H⟩ := bind_s H
                refine ⟨_, Y.call Try.func11 (by kernel_rfl) rfl (vs := [Value.int .i64 (a0), Value.int .i64 (a2), Value.int .i64 (a3)]) rfl (serial_Dist.calls a0 a2 a3 _ w0 _  t45  A46 (Sep.St.tailJoin (m := []) (r := [R]) HS)), ?_⟩
                rintro _ w ⟨rfl, HS⟩
                replace HS := Sep.St.tailOpen (m := []) (r := [R]) HS
                have HS : Sep.St [R] w0 w := HS
                by_cases c47 : ((w64 (t8 + t42)).tmod (a3)) = t45
                · replace H := ite_t c47 H
                  refine ⟨[(67, Value.int .i64 (t45)), (68, Value.bool (decide (((w64 (t8 + t42)).tmod (a3)) = t45))), (69, Value.bool (decide (((w64 (t8 + t42)).tmod (a3)) = t45))), (70, Value.bool (decide (((w64 (t8 + t42)).tmod (a3)) = t45))), (71, Value.int .i64 (a0)), (72, Value.int .i64 (a3)), (73, Value.int .i64 (w64 (a0 + a3))), (74, Value.int .i64 (a1)), (75, Value.int .i64 (a3)), (77, Value.int .i64 (t8))], fun w => Sep.St [R] w0 w, ⟨.inl ⟨rfl, rfl⟩, ⟨.inr ⟨by decide, rfl⟩, ⟨.inr ⟨by decide, rfl⟩, ⟨.inr ⟨by decide, rfl⟩, ⟨.inr ⟨by decide, rfl⟩, ⟨.inr ⟨by decide, rfl⟩, ⟨.inr ⟨by decide, rfl⟩, ⟨.inr ⟨by decide, rfl⟩, ⟨.inr ⟨by decide, rfl⟩, ⟨.inr ⟨by decide, rfl⟩, trivial⟩⟩⟩⟩⟩⟩⟩⟩⟩⟩, ?_, HS⟩
                  refine T.event _ [(73, Value.int .i64 (w64 (a0 + a3))), (74, Value.int .i64 (a1)), (75, Value.int .i64 (a3)), (70, Value.bool (decide (((w64 (t8 + t42)).tmod (a3)) = t45)))] rfl rfl ⟨⟨_, Value.int .i64 (t8), [(10, Value.int .i64 (t8)), (55, Value.bool (decide ((w64 (t8 + t10)) = a3)))], 56, rfl, rfl, ⟨.inl ⟨rfl, rfl⟩, ⟨.inr ⟨rfl, rfl⟩, trivial⟩⟩, .want 1 true 55 rfl rfl (sb (decide_eq_true c41)) (fun w HS => X.move rfl), rfl, rfl, rfl⟩, ⟨_, Value.int .i64 (w64 (t8 + t42)), [(56, Value.int .i64 (t8)), (60, Value.int .i64 (t42)), (55, Value.bool (decide ((w64 (t8 + t10)) = a3)))], 61, rfl, rfl, ⟨.inr ⟨rfl, rfl⟩, ⟨.inr ⟨rfl, rfl⟩, ⟨.inr ⟨rfl, rfl⟩, trivial⟩⟩⟩, .want 1 true 55 rfl rfl (sb (decide_eq_true c41)) (fun w HS => X.add rfl rfl), rfl, rfl, rfl⟩, ⟨_, Value.int .i64 (a3), [(3, Value.int .i64 (a3)), (55, Value.bool (decide ((w64 (t8 + t10)) = a3)))], 62, rfl, rfl, ⟨.inl ⟨rfl, rfl⟩, ⟨.inr ⟨rfl, rfl⟩, trivial⟩⟩, .want 1 true 55 rfl rfl (sb (decide_eq_true c41)) (fun w HS => X.move rfl), rfl, rfl, rfl⟩, ⟨_, Value.int .i64 ((w64 (t8 + t42)).tmod (a3)), [(61, Value.int .i64 (w64 (t8 + t42))), (62, Value.int .i64 (a3)), (55, Value.bool (decide ((w64 (t8 + t10)) = a3)))], 63, rfl, rfl, ⟨.inr ⟨rfl, rfl⟩, ⟨.inr ⟨rfl, rfl⟩, ⟨.inr ⟨rfl, rfl⟩, trivial⟩⟩⟩, .want 1 true 55 rfl rfl (sb (decide_eq_true c41)) (fun w HS => X.rem rfl rfl c44), rfl, rfl, rfl⟩, ⟨_, Value.bool (decide (((w64 (t8 + t42)).tmod (a3)) = t45)), [(63, Value.int .i64 ((w64 (t8 + t42)).tmod (a3))), (67, Value.int .i64 (t45)), (55, Value.bool (decide ((w64 (t8 + t10)) = a3)))], 68, rfl, rfl, ⟨.inr ⟨rfl, rfl⟩, ⟨.inr ⟨rfl, rfl⟩, ⟨.inr ⟨rfl, rfl⟩, trivial⟩⟩⟩, .want 1 true 55 rfl rfl (sb (decide_eq_true c41)) (fun w HS => X.cmp (decide (((w64 (t8 + t42)).tmod (a3)) = t45)) rfl rfl rfl rfl), rfl, rfl, rfl⟩, ⟨_, Value.bool (decide (((w64 (t8 + t42)).tmod (a3)) = t45)), [(55, Value.bool (decide ((w64 (t8 + t10)) = a3))), (68, Value.bool (decide (((w64 (t8 + t42)).tmod (a3)) = t45)))], 69, rfl, rfl, ⟨.inr ⟨rfl, rfl⟩, ⟨.inr ⟨rfl, rfl⟩, trivial⟩⟩, .run rfl (fun w HS => X.pickT (sb (decide_eq_true c41)) rfl), rfl, rfl, rfl⟩, ⟨_, Value.bool (decide (((w64 (t8 + t42)).tmod (a3)) = t45)), [(69, Value.bool (decide (((w64 (t8 + t42)).tmod (a3)) = t45)))], 70, rfl, rfl, ⟨.inr ⟨rfl, rfl⟩, trivial⟩, .run rfl (fun w HS => X.move rfl), rfl, rfl, rfl⟩, ⟨_, Value.int .i64 (a0), [(0, Value.int .i64 (a0)), (70, Value.bool (decide (((w64 (t8 + t42)).tmod (a3)) = t45)))], 71, rfl, rfl, ⟨.inl ⟨rfl, rfl⟩, ⟨.inr ⟨rfl, rfl⟩, trivial⟩⟩, .want 16 true 70 rfl rfl (sb (decide_eq_true c47)) (fun w HS => X.move rfl), rfl, rfl, rfl⟩, ⟨_, Value.int .i64 (a3), [(3, Value.int .i64 (a3)), (70, Value.bool (decide (((w64 (t8 + t42)).tmod (a3)) = t45)))], 72, rfl, rfl, ⟨.inl ⟨rfl, rfl⟩, ⟨.inr ⟨rfl, rfl⟩, trivial⟩⟩, .want 16 true 70 rfl rfl (sb (decide_eq_true c47)) (fun w HS => X.move rfl), rfl, rfl, rfl⟩, ⟨_, Value.int .i64 (w64 (a0 + a3)), [(71, Value.int .i64 (a0)), (72, Value.int .i64 (a3)), (70, Value.bool (decide (((w64 (t8 + t42)).tmod (a3)) = t45)))], 73, rfl, rfl, ⟨.inr ⟨rfl, rfl⟩, ⟨.inr ⟨rfl, rfl⟩, ⟨.inr ⟨rfl, rfl⟩, trivial⟩⟩⟩, .want 16 true 70 rfl rfl (sb (decide_eq_true c47)) (fun w HS => X.add rfl rfl), rfl, rfl, rfl⟩, ⟨_, Value.int .i64 (a1), [(1, Value.int .i64 (a1)), (70, Value.bool (decide (((w64 (t8 + t42)).tmod (a3)) = t45)))], 74, rfl, rfl, ⟨.inl ⟨rfl, rfl⟩, ⟨.inr ⟨rfl, rfl⟩, trivial⟩⟩, .want 16 true 70 rfl rfl (sb (decide_eq_true c47)) (fun w HS => X.move rfl), rfl, rfl, rfl⟩, ⟨_, Value.int .i64 (a3), [(3, Value.int .i64 (a3)), (70, Value.bool (decide (((w64 (t8 + t42)).tmod (a3)) = t45)))], 75, rfl, rfl, ⟨.inl ⟨rfl, rfl⟩, ⟨.inr ⟨rfl, rfl⟩, trivial⟩⟩, .want 16 true 70 rfl rfl (sb (decide_eq_true c47)) (fun w HS => X.move rfl), rfl, rfl, rfl⟩, ⟨_, Value.int .i64 (t8), [(10, Value.int .i64 (t8)), (70, Value.bool (decide (((w64 (t8 + t42)).tmod (a3)) = t45)))], 77, rfl, rfl, ⟨.inl ⟨rfl, rfl⟩, ⟨.inr ⟨rfl, rfl⟩, trivial⟩⟩, .want 16 true 70 rfl rfl (sb (decide_eq_true c47)) (fun w HS => X.move rfl), rfl, rfl, rfl⟩, trivial⟩ rfl ⟨.inr ⟨rfl, rfl⟩, ⟨.inr ⟨rfl, rfl⟩, ⟨.inr ⟨rfl, rfl⟩, ⟨.inr ⟨rfl, rfl⟩, trivial⟩⟩⟩⟩ (Or.inr ⟨16, true, 70, rfl, rfl, (sb (decide_eq_true c47))⟩) (by intro d hd; cases hd; exact ⟨by decide, rfl, rfl⟩) [35, 36, 37] [2, 7, 8, 9, 14, 15, 16, 17, 18, 19, 20, 21] rfl rfl (fun w HS => ?_)
                  have HS : Sep.St [R] w0 w := HS
                  obtain ⟨t48, A49, H⟩ := bind_s H
                  refine ⟨_, Y.call Try.func11 (by kernel_rfl) rfl (vs := [Value.int .i64 (w64 (a0 + a3)), Value.int .i64 (a1), Value.int .i64 (a3)]) rfl (serial_Dist.calls (w64 (a0 + a3)) a1 a3 _ w0 _  t48  A49 (Sep.St.tailJoin (m := []) (r := [R]) HS)), ?_⟩
                  rintro _ w ⟨rfl, HS⟩
                  replace HS := Sep.St.tailOpen (m := []) (r := [R]) HS
                  have HS : Sep.St [R] w0 w := HS
                  by_cases c50 : t48 = t8
                  · replace H := ite_t c50 H
                    refine ⟨[(76, Value.int .i64 (t48)), (78, Value.bool (decide (t48 = t8))), (79, Value.bool (decide (t48 = t8))), (80, Value.bool (decide (t48 = t8))), (81, Value.int .i64 (a0)), (82, Value.int .i64 (a0)), (83, Value.int .i64 (a3)), (85, Value.int .i64 (a3)), (87, Value.int .i64 (a3)), (88, Value.int .i64 (((1 : Int)).tmod (a3)))], fun w => Sep.St [R] w0 w, ⟨.inl ⟨rfl, rfl⟩, ⟨.inr ⟨by decide, rfl⟩, ⟨.inr ⟨by decide, rfl⟩, ⟨.inr ⟨by decide, rfl⟩, ⟨.inr ⟨by decide, rfl⟩, ⟨.inr ⟨by decide, rfl⟩, ⟨.inr ⟨by decide, rfl⟩, ⟨.inr ⟨by decide, rfl⟩, ⟨.inr ⟨by decide, rfl⟩, ⟨.inr ⟨by decide, rfl⟩, trivial⟩⟩⟩⟩⟩⟩⟩⟩⟩⟩, ?_, HS⟩
                    refine T.event _ [(82, Value.int .i64 (a0)), (83, Value.int .i64 (a3)), (80, Value.bool (decide (t48 = t8)))] rfl rfl ⟨⟨_, Value.int .i64 (t8), [(10, Value.int .i64 (t8)), (70, Value.bool (decide (((w64 (t8 + t42)).tmod (a3)) = t45)))], 77, rfl, rfl, ⟨.inl ⟨rfl, rfl⟩, ⟨.inr ⟨rfl, rfl⟩, trivial⟩⟩, .want 16 true 70 rfl rfl (sb (decide_eq_true c47)) (fun w HS => X.move rfl), rfl, rfl, rfl⟩, ⟨_, Value.bool (decide (t48 = t8)), [(76, Value.int .i64 (t48)), (77, Value.int .i64 (t8)), (70, Value.bool (decide (((w64 (t8 + t42)).tmod (a3)) = t45)))], 78, rfl, rfl, ⟨.inr ⟨rfl, rfl⟩, ⟨.inr ⟨rfl, rfl⟩, ⟨.inr ⟨rfl, rfl⟩, trivial⟩⟩⟩, .want 16 true 70 rfl rfl (sb (decide_eq_true c47)) (fun w HS => X.cmp (decide (t48 = t8)) rfl rfl rfl rfl), rfl, rfl, rfl⟩, ⟨_, Value.bool (decide (t48 = t8)), [(70, Value.bool (decide (((w64 (t8 + t42)).tmod (a3)) = t45))), (78, Value.bool (decide (t48 = t8)))], 79, rfl, rfl, ⟨.inr ⟨rfl, rfl⟩, ⟨.inr ⟨rfl, rfl⟩, trivial⟩⟩, .run rfl (fun w HS => X.pickT (sb (decide_eq_true c47)) rfl), rfl, rfl, rfl⟩, ⟨_, Value.bool (decide (t48 = t8)), [(79, Value.bool (decide (t48 = t8)))], 80, rfl, rfl, ⟨.inr ⟨rfl, rfl⟩, trivial⟩, .run rfl (fun w HS => X.move rfl), rfl, rfl, rfl⟩, ⟨_, Value.int .i64 (a0), [(0, Value.int .i64 (a0)), (80, Value.bool (decide (t48 = t8)))], 81, rfl, rfl, ⟨.inl ⟨rfl, rfl⟩, ⟨.inr ⟨rfl, rfl⟩, trivial⟩⟩, .want 26 true 80 rfl rfl (sb (decide_eq_true c50)) (fun w HS => X.move rfl), rfl, rfl, rfl⟩, ⟨_, Value.int .i64 (a0), [(0, Value.int .i64 (a0)), (80, Value.bool (decide (t48 = t8)))], 82, rfl, rfl, ⟨.inl ⟨rfl, rfl⟩, ⟨.inr ⟨rfl, rfl⟩, trivial⟩⟩, .want 26 true 80 rfl rfl (sb (decide_eq_true c50)) (fun w HS => X.move rfl), rfl, rfl, rfl⟩, ⟨_, Value.int .i64 (a3), [(3, Value.int .i64 (a3)), (80, Value.bool (decide (t48 = t8)))], 83, rfl, rfl, ⟨.inl ⟨rfl, rfl⟩, ⟨.inr ⟨rfl, rfl⟩, trivial⟩⟩, .want 26 true 80 rfl rfl (sb (decide_eq_true c50)) (fun w HS => X.move rfl), rfl, rfl, rfl⟩, ⟨_, Value.int .i64 (a3), [(3, Value.int .i64 (a3)), (80, Value.bool (decide (t48 = t8)))], 85, rfl, rfl, ⟨.inl ⟨rfl, rfl⟩, ⟨.inr ⟨rfl, rfl⟩, trivial⟩⟩, .want 26 true 80 rfl rfl (sb (decide_eq_true c50)) (fun w HS => X.move rfl), rfl, rfl, rfl⟩, ⟨_, Value.int .i64 (a3), [(3, Value.int .i64 (a3)), (80, Value.bool (decide (t48 = t8)))], 87, rfl, rfl, ⟨.inl ⟨rfl, rfl⟩, ⟨.inr ⟨rfl, rfl⟩, trivial⟩⟩, .want 26 true 80 rfl rfl (sb (decide_eq_true c50)) (fun w HS => X.move rfl), rfl, rfl, rfl⟩, ⟨_, Value.int .i64 (((1 : Int)).tmod (a3)), [(87, Value.int .i64 (a3)), (80, Value.bool (decide (t48 = t8)))], 88, rfl, rfl, ⟨.inr ⟨rfl, rfl⟩, ⟨.inr ⟨rfl, rfl⟩, trivial⟩⟩, .want 26 true 80 rfl rfl (sb (decide_eq_true c50)) (fun w HS => X.rem rfl rfl c44), rfl, rfl, rfl⟩, trivial⟩ rfl ⟨.inr ⟨rfl, rfl⟩, ⟨.inr ⟨rfl, rfl⟩, ⟨.inr ⟨rfl, rfl⟩, trivial⟩⟩⟩ (Or.inr ⟨26, true, 80, rfl, rfl, (sb (decide_eq_true c50))⟩) (by intro d hd; cases hd; exact ⟨by decide, rfl, rfl⟩) [35, 36, 37] [23, 24, 25, 26, 28, 29] rfl rfl (fun w HS => ?_)
                    have HS : Sep.St [R] w0 w := HS
                    obtain ⟨t51, A52, H⟩ := bind_s H
                    refine ⟨_, Y.call Try.func9 (by kernel_rfl) rfl (vs := [Value.int .i64 (a0), Value.int .i64 (a3)]) rfl (serial_Next.calls a0 a3 _ w0 _  t51  A52 (Sep.St.tailJoin (m := []) (r := [R]) HS)), ?_⟩
                    rintro _ w ⟨rfl, HS⟩
                    replace HS := Sep.St.tailOpen (m := []) (r := [R]) HS
                    have HS : Sep.St [R] w0 w := HS
                    refine ⟨[(84, Value.int .i64 (t51))], fun w => Sep.St [R] w0 w, ⟨.inl ⟨rfl, rfl⟩, trivial⟩, ?_, HS⟩
                    refine T.event _ [(81, Value.int .i64 (a0)), (84, Value.int .i64 (t51)), (85, Value.int .i64 (a3)), (80, Value.bool (decide (t48 = t8)))] rfl rfl ⟨⟨_, Value.int .i64 (a0), [(0, Value.int .i64 (a0)), (80, Value.bool (decide (t48 = t8)))], 81, rfl, rfl, ⟨.inl ⟨rfl, rfl⟩, ⟨.inr ⟨rfl, rfl⟩, trivial⟩⟩, .want 26 true 80 rfl rfl (sb (decide_eq_true c50)) (fun w HS => X.move rfl), rfl, rfl, rfl⟩, ⟨_, Value.int .i64 (a3), [(3, Value.int .i64 (a3)), (80, Value.bool (decide (t48 = t8)))], 85, rfl, rfl, ⟨.inl ⟨rfl, rfl⟩, ⟨.inr ⟨rfl, rfl⟩, trivial⟩⟩, .want 26 true 80 rfl rfl (sb (decide_eq_true c50)) (fun w HS => X.move rfl), rfl, rfl, rfl⟩, ⟨_, Value.int .i64 (a3), [(3, Value.int .i64 (a3)), (80, Value.bool (decide (t48 = t8)))], 87, rfl, rfl, ⟨.inl ⟨rfl, rfl⟩, ⟨.inr ⟨rfl, rfl⟩, trivial⟩⟩, .want 26 true 80 rfl rfl (sb (decide_eq_true c50)) (fun w HS => X.move rfl), rfl, rfl, rfl⟩, ⟨_, Value.int .i64 (((1 : Int)).tmod (a3)), [(87, Value.int .i64 (a3)), (80, Value.bool (decide (t48 = t8)))], 88, rfl, rfl, ⟨.inr ⟨rfl, rfl⟩, ⟨.inr ⟨rfl, rfl⟩, trivial⟩⟩, .want 26 true 80 rfl rfl (sb (decide_eq_true c50)) (fun w HS => X.rem rfl rfl c44), rfl, rfl, rfl⟩, trivial⟩ rfl ⟨.inr ⟨rfl, rfl⟩, ⟨.inr ⟨rfl, rfl⟩, ⟨.inr ⟨rfl, rfl⟩, ⟨.inr ⟨rfl, rfl⟩, trivial⟩⟩⟩⟩ (Or.inr ⟨26, true, 80, rfl, rfl, (sb (decide_eq_true c50))⟩) (by intro d hd; cases hd; exact ⟨by decide, rfl, rfl⟩) [] [27, 31] rfl rfl (fun w HS => ?_)
                    have HS : Sep.St [R] w0 w := HS
                    obtain ⟨t53, A54, H⟩ := bind_s H
                    refine ⟨_, Y.call Try.func11 (by kernel_rfl) rfl (vs := [Value.int .i64 (a0), Value.int .i64 (t51), Value.int .i64 (a3)]) rfl (serial_Dist.calls a0 t51 a3 _ w0 _  t53  A54 (Sep.St.tailJoin (m := []) (r := [R]) HS)), ?_⟩
                    rintro _ w ⟨rfl, HS⟩
                    replace HS := Sep.St.tailOpen (m := []) (r := [R]) HS
                    have HS : Sep.St [R] w0 w := HS
                    refine ⟨[(86, Value.int .i64 (t53)), (89, Value.bool (decide (t53 = (((1 : Int)).tmod (a3))))), (90, Value.bool (decide (t53 = (((1 : Int)).tmod (a3))))), (8, Value.bool (decide (t53 = (((1 : Int)).tmod (a3)))))], fun w => Sep.St [R] w0 w, ⟨.inl ⟨rfl, rfl⟩, ⟨.inr ⟨by decide, rfl⟩, ⟨.inr ⟨by decide, rfl⟩, ⟨.inr ⟨by decide, rfl⟩, trivial⟩⟩⟩⟩, ?_, HS⟩
                    refine T.fin [(8, Value.bool (decide (t53 = (((1 : Int)).tmod (a3)))))] rfl ⟨⟨_, Value.int .i64 (a3), [(3, Value.int .i64 (a3)), (80, Value.bool (decide (t48 = t8)))], 87, rfl, rfl, ⟨.inl ⟨rfl, rfl⟩, ⟨.inr ⟨rfl, rfl⟩, trivial⟩⟩, .want 26 true 80 rfl rfl (sb (decide_eq_true c50)) (fun w HS => X.move rfl), rfl, rfl, rfl⟩, ⟨_, Value.int .i64 (((1 : Int)).tmod (a3)), [(87, Value.int .i64 (a3)), (80, Value.bool (decide (t48 = t8)))], 88, rfl, rfl, ⟨.inr ⟨rfl, rfl⟩, ⟨.inr ⟨rfl, rfl⟩, trivial⟩⟩, .want 26 true 80 rfl rfl (sb (decide_eq_true c50)) (fun w HS => X.rem rfl rfl c44), rfl, rfl, rfl⟩, ⟨_, Value.bool (decide (t53 = (((1 : Int)).tmod (a3)))), [(86, Value.int .i64 (t53)), (88, Value.int .i64 (((1 : Int)).tmod (a3))), (80, Value.bool (decide (t48 = t8)))], 89, rfl, rfl, ⟨.inr ⟨rfl, rfl⟩, ⟨.inr ⟨rfl, rfl⟩, ⟨.inr ⟨rfl, rfl⟩, trivial⟩⟩⟩, .want 26 true 80 rfl rfl (sb (decide_eq_true c50)) (fun w HS => X.cmp (decide (t53 = (((1 : Int)).tmod (a3)))) rfl rfl rfl rfl), rfl, rfl, rfl⟩, ⟨_, Value.bool (decide (t53 = (((1 : Int)).tmod (a3)))), [(80, Value.bool (decide (t48 = t8))), (89, Value.bool (decide (t53 = (((1 : Int)).tmod (a3)))))], 90, rfl, rfl, ⟨.inr ⟨rfl, rfl⟩, ⟨.inr ⟨rfl, rfl⟩, trivial⟩⟩, .run rfl (fun w HS => X.pickT (sb (decide_eq_true c50)) rfl), rfl, rfl, rfl⟩, ⟨_, Value.bool (decide (t53 = (((1 : Int)).tmod (a3)))), [(90, Value.bool (decide (t53 = (((1 : Int)).tmod (a3)))))], 8, rfl, rfl, ⟨.inr ⟨rfl, rfl⟩, trivial⟩, .run rfl (fun w HS => X.assign rfl), rfl, rfl, rfl⟩, trivial⟩ ⟨.inr ⟨rfl, rfl⟩, trivial⟩ (fun w HS => ?_)
                    have HS : Sep.St [R] w0 w := HS
                    refine At.next ?_
                    refine V.keep [(8, Value.bool (decide (t53 = (((1 : Int)).tmod (a3)))))] ⟨rfl, trivial⟩ ?_
                    refine V.ret ?_
                    cases H
                    exact At.ret1 rfl rfl ⟨_, rfl, rfl, HS⟩
                  · replace H := ite_f c50 H
                    refine ⟨[(76, Value.int .i64 (t48)), (78, Value.bool (decide (t48 = t8))), (79, Value.bool (decide (t48 = t8))), (80, Value.bool (decide (t48 = t8))), (81, undef), (82, undef), (83, undef), (85, undef), (87, undef), (88, undef)], fun w => Sep.St [R] w0 w, ⟨.inl ⟨rfl, rfl⟩, ⟨.inr ⟨by decide, rfl⟩, ⟨.inr ⟨by decide, rfl⟩, ⟨.inr ⟨by decide, rfl⟩, ⟨.inr ⟨by decide, rfl⟩, ⟨.inr ⟨by decide, rfl⟩, ⟨.inr ⟨by decide, rfl⟩, ⟨.inr ⟨by decide, rfl⟩, ⟨.inr ⟨by decide, rfl⟩, ⟨.inr ⟨by decide, rfl⟩, trivial⟩⟩⟩⟩⟩⟩⟩⟩⟩⟩, ?_, HS⟩
                    refine T.drop (es' := [32]) (bl' := [35, 36, 37]) [(84, undef)] rfl ⟨.inr ⟨by decide, rfl⟩, trivial⟩ ?_
                    refine T.drop (es' := []) (bl' := []) [(86, undef), (89, undef), (90, Value.bool (false)), (8, Value.bool (false))] rfl ⟨.inr ⟨by decide, rfl⟩, ⟨.inr ⟨by decide, rfl⟩, ⟨.inr ⟨by decide, rfl⟩, ⟨.inr ⟨by decide, rfl⟩, trivial⟩⟩⟩⟩ ?_
                    refine T.fin [(8, Value.bool (false))] rfl ⟨⟨_, Value.int .i64 (t8), [(10, Value.int .i64 (t8)), (70, Value.bool (decide (((w64 (t8 + t42)).tmod (a3)) = t45)))], 77, rfl, rfl, ⟨.inl ⟨rfl, rfl⟩, ⟨.inr ⟨rfl, rfl⟩, trivial⟩⟩, .want 16 true 70 rfl rfl (sb (decide_eq_true c47)) (fun w HS => X.move rfl), rfl, rfl, rfl⟩, ⟨_, Value.bool (decide (t48 = t8)), [(76, Value.int .i64 (t48)), (77, Value.int .i64 (t8)), (70, Value.bool (decide (((w64 (t8 + t42)).tmod (a3)) = t45)))], 78, rfl, rfl, ⟨.inr ⟨rfl, rfl⟩, ⟨.inr ⟨rfl, rfl⟩, ⟨.inr ⟨rfl, rfl⟩, trivial⟩⟩⟩, .want 16 true 70 rfl rfl (sb (decide_eq_true c47)) (fun w HS => X.cmp (decide (t48 = t8)) rfl rfl rfl rfl), rfl, rfl, rfl⟩, ⟨_, Value.bool (decide (t48 = t8)), [(70, Value.bool (decide (((w64 (t8 + t42)).tmod (a3)) = t45))), (78, Value.bool (decide (t48 = t8)))], 79, rfl, rfl, ⟨.inr ⟨rfl, rfl⟩, ⟨.inr ⟨rfl, rfl⟩, trivial⟩⟩, .run rfl (fun w HS => X.pickT (sb (decide_eq_true c47)) rfl), rfl, rfl, rfl⟩, ⟨_, Value.bool (decide (t48 = t8)), [(79, Value.bool (decide (t48 = t8)))], 80, rfl, rfl, ⟨.inr ⟨rfl, rfl⟩, trivial⟩, .run rfl (fun w HS => X.move rfl), rfl, rfl, rfl⟩, ⟨_, undef, [(80, Value.bool (decide (t48 = t8)))], 81, rfl, rfl, ⟨.inr ⟨rfl, rfl⟩, trivial⟩, .pass 26 true false 80 rfl rfl (sb (decide_eq_false c50)) rfl rfl, rfl, rfl, rfl⟩, ⟨_, undef, [(80, Value.bool (decide (t48 = t8)))], 82, rfl, rfl, ⟨.inr ⟨rfl, rfl⟩, trivial⟩, .pass 26 true false 80 rfl rfl (sb (decide_eq_false c50)) rfl rfl, rfl, rfl, rfl⟩, ⟨_, undef, [(80, Value.bool (decide (t48 = t8)))], 83, rfl, rfl, ⟨.inr ⟨rfl, rfl⟩, trivial⟩, .pass 26 true false 80 rfl rfl (sb (decide_eq_false c50)) rfl rfl, rfl, rfl, rfl⟩, ⟨_, undef, [(80, Value.bool (decide (t48 = t8)))], 84, rfl, rfl, ⟨.inr ⟨rfl, rfl⟩, trivial⟩, .pass 26 true false 80 rfl rfl (sb (decide_eq_false c50)) rfl rfl, rfl, rfl, rfl⟩, ⟨_, undef, [(80, Value.bool (decide (t48 = t8)))], 85, rfl, rfl, ⟨.inr ⟨rfl, rfl⟩, trivial⟩, .pass 26 true false 80 rfl rfl (sb (decide_eq_false c50)) rfl rfl, rfl, rfl, rfl⟩, ⟨_, undef, [(80, Value.bool (decide (t48 = t8)))], 86, rfl, rfl, ⟨.inr ⟨rfl, rfl⟩, trivial⟩, .pass 26 true false 80 rfl rfl (sb (decide_eq_false c50)) rfl rfl, rfl, rfl, rfl⟩, ⟨_, undef, [(80, Value.bool (decide (t48 = t8)))], 87, rfl, rfl, ⟨.inr ⟨rfl, rfl⟩, trivial⟩, .pass 26 true false 80 rfl rfl (sb (decide_eq_false c50)) rfl rfl, rfl, rfl, rfl⟩, ⟨_, undef, [(80, Value.bool (decide (t48 = t8)))], 88, rfl, rfl, ⟨.inr ⟨rfl, rfl⟩, trivial⟩, .pass 26 true false 80 rfl rfl (sb (decide_eq_false c50)) rfl rfl, rfl, rfl, rfl⟩, ⟨_, undef, [(80, Value.bool (decide (t48 = t8)))], 89, rfl, rfl, ⟨.inr ⟨rfl, rfl⟩, trivial⟩, .pass 26 true false 80 rfl rfl (sb (decide_eq_false c50)) rfl rfl, rfl, rfl, rfl⟩, ⟨_, Value.bool (false), [(80, Value.bool (decide (t48 = t8))), (89, undef)], 90, rfl, rfl, ⟨.inr ⟨rfl, rfl⟩, ⟨.inr ⟨rfl, rfl⟩, trivial⟩⟩, .run rfl (fun w HS => X.pickF (sb (decide_eq_false c50)) rfl), rfl, rfl, rfl⟩, ⟨_, Value.bool (false), [(90, Value.bool (false))], 8, rfl, rfl, ⟨.inr ⟨rfl, rfl⟩, trivial⟩, .run rfl (fun w HS => X.assign rfl), rfl, rfl, rfl⟩, trivial⟩ ⟨.inr ⟨rfl, rfl⟩, trivial⟩ (fun w HS => ?_)
                    have HS : Sep.St [R] w0 w := HS
                    refine At.next ?_
                    refine V.keep [(8, Value.bool (false))] ⟨rfl, trivial⟩ ?_
                    refine V.ret ?_
                    cases H
                    exact At.ret1 rfl rfl ⟨_, rfl, rfl, HS⟩
                · replace H := ite_f c47 H
                  refine ⟨[(67, Value.int .i64 (t45)), (68, Value.bool (decide (((w64 (t8 + t42)).tmod (a3)) = t45))), (69, Value.bool (decide (((w64 (t8 + t42)).tmod (a3)) = t45))), (70, Value.bool (decide (((w64 (t8 + t42)).tmod (a3)) = t45))), (71, undef), (72, undef), (73, undef), (74, undef), (75, undef), (77, undef)], fun w => Sep.St [R] w0 w, ⟨.inl ⟨rfl, rfl⟩, ⟨.inr ⟨by decide, rfl⟩, ⟨.inr ⟨by decide, rfl⟩, ⟨.inr ⟨by decide, rfl⟩, ⟨.inr ⟨by decide, rfl⟩, ⟨.inr ⟨by decide, rfl⟩, ⟨.inr ⟨by decide, rfl⟩, ⟨.inr ⟨by decide, rfl⟩, ⟨.inr ⟨by decide, rfl⟩, ⟨.inr ⟨by decide, rfl⟩, trivial⟩⟩⟩⟩⟩⟩⟩⟩⟩⟩, ?_, HS⟩
                  refine T.drop (es' := [30, 32]) (bl' := [35, 36, 37]) [(76, undef), (78, undef), (79, Value.bool (false)), (80, Value.bool (false)), (81, undef), (82, undef), (83, undef), (85, undef), (87, undef), (88, undef)] rfl ⟨.inr ⟨by decide, rfl⟩, ⟨.inr ⟨by decide, rfl⟩, ⟨.inr ⟨by decide, rfl⟩, ⟨.inr ⟨by decide, rfl⟩, ⟨.inr ⟨by decide, rfl⟩, ⟨.inr ⟨by decide, rfl⟩, ⟨.inr ⟨by decide, rfl⟩, ⟨.inr ⟨by decide, rfl⟩, ⟨.inr ⟨by decide, rfl⟩, ⟨.inr ⟨by decide, rfl⟩, trivial⟩⟩⟩⟩⟩⟩⟩⟩⟩⟩ ?_
                  refine T.drop (es' := [32]) (bl' := [35, 36, 37]) [(84, undef)] rfl ⟨.inr ⟨by decide, rfl⟩, trivial⟩ ?_
                  refine T.drop (es' := []) (bl' := []) [(86, undef), (89, undef), (90, Value.bool (false)), (8, Value.bool (false))] rfl ⟨.inr ⟨by decide, rfl⟩, ⟨.inr ⟨by decide, rfl⟩, ⟨.inr ⟨by decide, rfl⟩, ⟨.inr ⟨by decide, rfl⟩, trivial⟩⟩⟩⟩ ?_
                  refine T.fin [(8, Value.bool (false))] rfl ⟨⟨_, Value.int .i64 (t8), [(10, Value.int .i64 (t8)), (55, Value.bool (decide ((w64 (t8 + t10)) = a3)))], 56, rfl, rfl, ⟨.inl ⟨rfl, rfl⟩, ⟨.inr ⟨rfl, rfl⟩, trivial⟩⟩, .want 1 true 55 rfl rfl (sb (decide_eq_true c41)) (fun w HS => X.move rfl), rfl, rfl, rfl⟩, ⟨_, Value.int .i64 (w64 (t8 + t42)), [(56, Value.int .i64 (t8)), (60, Value.int .i64 (t42)), (55, Value.bool (decide ((w64 (t8 + t10)) = a3)))], 61, rfl, rfl, ⟨.inr ⟨rfl, rfl⟩, ⟨.inr ⟨rfl, rfl⟩, ⟨.inr ⟨rfl, rfl⟩, trivial⟩⟩⟩, .want 1 true 55 rfl rfl (sb (decide_eq_true c41)) (fun w HS => X.add rfl rfl), rfl, rfl, rfl⟩, ⟨_, Value.int .i64 (a3), [(3, Value.int .i64 (a3)), (55, Value.bool (decide ((w64 (t8 + t10)) = a3)))], 62, rfl, rfl, ⟨.inl ⟨rfl, rfl⟩, ⟨.inr ⟨rfl, rfl⟩, trivial⟩⟩, .want 1 true 55 rfl rfl (sb (decide_eq_true c41)) (fun w HS => X.move rfl), rfl, rfl, rfl⟩, ⟨_, Value.int .i64 ((w64 (t8 + t42)).tmod (a3)), [(61, Value.int .i64 (w64 (t8 + t42))), (62, Value.int .i64 (a3)), (55, Value.bool (decide ((w64 (t8 + t10)) = a3)))], 63, rfl, rfl, ⟨.inr ⟨rfl, rfl⟩, ⟨.inr ⟨rfl, rfl⟩, ⟨.inr ⟨rfl, rfl⟩, trivial⟩⟩⟩, .want 1 true 55 rfl rfl (sb (decide_eq_true c41)) (fun w HS => X.rem rfl rfl c44), rfl, rfl, rfl⟩, ⟨_, Value.bool (decide (((w64 (t8 + t42)).tmod (a3)) = t45)), [(63, Value.int .i64 ((w64 (t8 + t42)).tmod (a3))), (67, Value.int .i64 (t45)), (55, Value.bool (decide ((w64 (t8 + t10)) = a3)))], 68, rfl, rfl, ⟨.inr ⟨rfl, rfl⟩, ⟨.inr ⟨rfl, rfl⟩, ⟨.inr ⟨rfl, rfl⟩, trivial⟩⟩⟩, .want 1 true 55 rfl rfl (sb (decide_eq_true c41)) (fun w HS => X.cmp (decide (((w64 (t8 + t42)).tmod (a3)) = t45)) rfl rfl rfl rfl), rfl, rfl, rfl⟩, ⟨_, Value.bool (decide (((w64 (t8 + t42)).tmod (a3)) = t45)), [(55, Value.bool (decide ((w64 (t8 + t10)) = a3))), (68, Value.bool (decide (((w64 (t8 + t42)).tmod (a3)) = t45)))], 69, rfl, rfl, ⟨.inr ⟨rfl, rfl⟩, ⟨.inr ⟨rfl, rfl⟩, trivial⟩⟩, .run rfl (fun w HS => X.pickT (sb (decide_eq_true c41)) rfl), rfl, rfl, rfl⟩, ⟨_, Value.bool (decide (((w64 (t8 + t42)).tmod (a3)) = t45)), [(69, Value.bool (decide (((w64 (t8 + t42)).tmod (a3)) = t45)))], 70, rfl, rfl, ⟨.inr ⟨rfl, rfl⟩, trivial⟩, .run rfl (fun w HS => X.move rfl), rfl, rfl, rfl⟩, ⟨_, undef, [(70, Value.bool (decide (((w64 (t8 + t42)).tmod (a3)) = t45)))], 71, rfl, rfl, ⟨.inr ⟨rfl, rfl⟩, trivial⟩, .pass 16 true false 70 rfl rfl (sb (decide_eq_false c47)) rfl rfl, rfl, rfl, rfl⟩, ⟨_, undef, [(70, Value.bool (decide (((w64 (t8 + t42)).tmod (a3)) = t45)))], 72, rfl, rfl, ⟨.inr ⟨rfl, rfl⟩, trivial⟩, .pass 16 true false 70 rfl rfl (sb (decide_eq_false c47)) rfl rfl, rfl, rfl, rfl⟩, ⟨_, undef, [(70, Value.bool (decide (((w64 (t8 + t42)).tmod (a3)) = t45)))], 73, rfl, rfl, ⟨.inr ⟨rfl, rfl⟩, trivial⟩, .pass 16 true false 70 rfl rfl (sb (decide_eq_false c47)) rfl rfl, rfl, rfl, rfl⟩, ⟨_, undef, [(70, Value.bool (decide (((w64 (t8 + t42)).tmod (a3)) = t45)))], 74, rfl, rfl, ⟨.inr ⟨rfl, rfl⟩, trivial⟩, .pass 16 true false 70 rfl rfl (sb (decide_eq_false c47)) rfl rfl, rfl, rfl, rfl⟩, ⟨_, undef, [(70, Value.bool (decide (((w64 (t8 + t42)).tmod (a3)) = t45)))], 75, rfl, rfl, ⟨.inr ⟨rfl, rfl⟩, trivial⟩, .pass 16 true false 70 rfl rfl (sb (decide_eq_false c47)) rfl rfl, rfl, rfl, rfl⟩, ⟨_, undef, [(70, Value.bool (decide (((w64 (t8 + t42)).tmod (a3)) = t45)))], 76, rfl, rfl, ⟨.inr ⟨rfl, rfl⟩, trivial⟩, .pass 16 true false 70 rfl rfl (sb (decide_eq_false c47)) rfl rfl, rfl, rfl, rfl⟩, ⟨_, undef, [(70, Value.bool (decide (((w64 (t8 + t42)).tmod (a3)) = t45)))], 77, rfl, rfl, ⟨.inr ⟨rfl, rfl⟩, trivial⟩, .pass 16 true false 70 rfl rfl (sb (decide_eq_false c47)) rfl rfl, rfl, rfl, rfl⟩, ⟨_, undef, [(70, Value.bool (decide (((w64 (t8 + t42)).tmod (a3)) = t45)))], 78, rfl, rfl, ⟨.inr ⟨rfl, rfl⟩, trivial⟩, .pass 16 true false 70 rfl rfl (sb (decide_eq_false c47)) rfl rfl, rfl, rfl, rfl⟩, ⟨_, Value.bool (false), [(70, Value.bool (decide (((w64 (t8 + t42)).tmod (a3)) = t45))), (78, undef)], 79, rfl, rfl, ⟨.inr ⟨rfl, rfl⟩, ⟨.inr ⟨rfl, rfl⟩, trivial⟩⟩, .run rfl (fun w HS => X.pickF (sb (decide_eq_false c47)) rfl), rfl, rfl, rfl⟩, ⟨_, Value.bool (false), [(79, Value.bool (false))], 80, rfl, rfl, ⟨.inr ⟨rfl, rfl⟩, trivial⟩, .run rfl (fun w HS => X.move rfl), rfl, rfl, rfl⟩, ⟨_, undef, [(80, Value.bool (false))], 81, rfl, rfl, ⟨.inr ⟨rfl, rfl⟩, trivial⟩, .pass 26 true false 80 rfl rfl rfl rfl rfl, rfl, rfl, rfl⟩, ⟨_, undef, [(80, Value.bool (false))], 82, rfl, rfl, ⟨.inr ⟨rfl, rfl⟩, trivial⟩, .pass 26 true false 80 rfl rfl rfl rfl rfl, rfl, rfl, rfl⟩, ⟨_, undef, [(80, Value.bool (false))], 83, rfl, rfl, ⟨.inr ⟨rfl, rfl⟩, trivial⟩, .pass 26 true false 80 rfl rfl rfl rfl rfl, rfl, rfl, rfl⟩, ⟨_, undef, [(80, Value.bool (false))], 84, rfl, rfl, ⟨.inr ⟨rfl, rfl⟩, trivial⟩, .pass 26 true false 80 rfl rfl rfl rfl rfl, rfl, rfl, rfl⟩, ⟨_, undef, [(80, Value.bool (false))], 85, rfl, rfl, ⟨.inr ⟨rfl, rfl⟩, trivial⟩, .pass 26 true false 80 rfl rfl rfl rfl rfl, rfl, rfl, rfl⟩, ⟨_, undef, [(80, Value.bool (false))], 86, rfl, rfl, ⟨.inr ⟨rfl, rfl⟩, trivial⟩, .pass 26 true false 80 rfl rfl rfl rfl rfl, rfl, rfl, rfl⟩, ⟨_, undef, [(80, Value.bool (false))], 87, rfl, rfl, ⟨.inr ⟨rfl, rfl⟩, trivial⟩, .pass 26 true false 80 rfl rfl rfl rfl rfl, rfl, rfl, rfl⟩, ⟨_, undef, [(80, Value.bool (false))], 88, rfl, rfl, ⟨.inr ⟨rfl, rfl⟩, trivial⟩, .pass 26 true false 80 rfl rfl rfl rfl rfl, rfl, rfl, rfl⟩, ⟨_, undef, [(80, Value.bool (false))], 89, rfl, rfl, ⟨.inr ⟨rfl, rfl⟩, trivial⟩, .pass 26 true false 80 rfl rfl rfl rfl rfl, rfl, rfl, rfl⟩, ⟨_, Value.bool (false), [(80, Value.bool (false)), (89, undef)], 90, rfl, rfl, ⟨.inr ⟨rfl, rfl⟩, ⟨.inr ⟨rfl, rfl⟩, trivial⟩⟩, .run rfl (fun w HS => X.pickF rfl rfl), rfl, rfl, rfl⟩, ⟨_, Value.bool (false), [(90, Value.bool (false))], 8, rfl, rfl, ⟨.inr ⟨rfl, rfl⟩, trivial⟩, .run rfl (fun w HS => X.assign rfl), rfl, rfl, rfl⟩, trivial⟩ ⟨.inr ⟨rfl, rfl⟩, trivial⟩ (fun w HS => ?_)
                  have HS : Sep.St [R] w0 w := HS
                  refine At.next ?_
                  refine V.keep [(8, Value.bool (false))] ⟨rfl, trivial⟩ ?_
                  refine V.ret ?_
                  cases H
                  exact At.ret1 rfl rfl ⟨_, rfl, rfl, HS⟩
              · replace H := ite_f c41 H
                refine V.draw (es := [6, 13, 22, 30, 32]) (bl := [7, 9, 14, 15, 16, 17, 18, 19, 20, 21, 23, 24, 25, 26, 27, 28, 29, 31, 33, 34, 35, 36, 37]) (f := [(54, Value.bool (decide ((w64 (t8 + t10)) = a3))), (55, Value.bool (decide ((w64 (t8 + t10)) = a3))), (56, undef), (57, undef), (58, undef), (59, undef), (62, undef), (64, undef), (65, undef), (66, undef)]) (fun w => Sep.St [R] w0 w) mo HS.drew rfl ?_
                refine T.drop (es' := [13, 22, 30, 32]) (bl' := [14, 15, 16, 17, 18, 19, 20, 21, 23, 24, 25, 26, 27, 28, 29, 31, 33, 34, 35, 36, 37]) [(60, undef), (61, undef), (63, undef)] rfl ⟨.inr ⟨by decide, rfl⟩, ⟨.inr ⟨by decide, rfl⟩, ⟨.inr ⟨by decide, rfl⟩, trivial⟩⟩⟩ ?_
                refine T.drop (es' := [22, 30, 32]) (bl' := [24, 25, 26, 27, 28, 29, 31, 33, 34, 35, 36, 37]) [(67, undef), (68, undef), (69, Value.bool (false)), (70, Value.bool (false)), (71, undef), (72, undef), (73, undef), (74, undef), (75, undef), (77, undef)] rfl ⟨.inr ⟨by decide, rfl⟩, ⟨.inr ⟨by decide, rfl⟩, ⟨.inr ⟨by decide, rfl⟩, ⟨.inr ⟨by decide, rfl⟩, ⟨.inr ⟨by decide, rfl⟩, ⟨.inr ⟨by decide, rfl⟩, ⟨.inr ⟨by decide, rfl⟩, ⟨.inr ⟨by decide, rfl⟩, ⟨.inr ⟨by decide, rfl⟩, ⟨.inr ⟨by decide, rfl⟩, trivial⟩⟩⟩⟩⟩⟩⟩⟩⟩⟩ ?_
                refine T.drop (es' := [30, 32]) (bl' := [35, 36, 37]) [(76, undef), (78, undef), (79, Value.bool (false)), (80, Value.bool (false)), (81, undef), (82, undef), (83, undef), (85, undef), (87, undef), (88, undef)] rfl ⟨.inr ⟨by decide, rfl⟩, ⟨.inr ⟨by decide, rfl⟩, ⟨.inr ⟨by decide, rfl⟩, ⟨.inr ⟨by decide, rfl⟩, ⟨.inr ⟨by decide, rfl⟩, ⟨.inr ⟨by decide, rfl⟩, ⟨.inr ⟨by decide, rfl⟩, ⟨.inr ⟨by decide, rfl⟩, ⟨.inr ⟨by decide, rfl⟩, ⟨.inr ⟨by decide, rfl⟩, trivial⟩⟩⟩⟩⟩⟩⟩⟩⟩⟩ ?_
                refine T.drop (es' := [32]) (bl' := [35, 36, 37]) [(84, undef)] rfl ⟨.inr ⟨by decide, rfl⟩, trivial⟩ ?_
                refine T.drop (es' := []) (bl' := []) [(86, undef), (89, undef), (90, Value.bool (false)), (8, Value.bool (false))] rfl ⟨.inr ⟨by decide, rfl⟩, ⟨.inr ⟨by decide, rfl⟩, ⟨.inr ⟨by decide, rfl⟩, ⟨.inr ⟨by decide, rfl⟩, trivial⟩⟩⟩⟩ ?_
                refine T.fin [(8, Value.bool (false))] rfl ⟨⟨_, Value.bool (decide ((w64 (t8 + t10)) = a3)), [(12, Value.bool (decide ((w64 (t8 + t10)) = a3)))], 54, rfl, rfl, ⟨.inl ⟨rfl, rfl⟩, trivial⟩, .run rfl (fun w HS => X.move rfl), rfl, rfl, rfl⟩, ⟨_, Value.bool (decide ((w64 (t8 + t10)) = a3)), [(54, Value.bool (decide ((w64 (t8 + t10)) = a3)))], 55, rfl, rfl, ⟨.inr ⟨rfl, rfl⟩, trivial⟩, .run rfl (fun w HS => X.move rfl), rfl, rfl, rfl⟩, ⟨_, undef, [(55, Value.bool (decide ((w64 (t8 + t10)) = a3)))], 56, rfl, rfl, ⟨.inr ⟨rfl, rfl⟩, trivial⟩, .pass 1 true false 55 rfl rfl (sb (decide_eq_false c41)) rfl rfl, rfl, rfl, rfl⟩, ⟨_, undef, [(55, Value.bool (decide ((w64 (t8 + t10)) = a3)))], 57, rfl, rfl, ⟨.inr ⟨rfl, rfl⟩, trivial⟩, .pass 1 true false 55 rfl rfl (sb (decide_eq_false c41)) rfl rfl, rfl, rfl, rfl⟩, ⟨_, undef, [(55, Value.bool (decide ((w64 (t8 + t10)) = a3)))], 58, rfl, rfl, ⟨.inr ⟨rfl, rfl⟩, trivial⟩, .pass 1 true false 55 rfl rfl (sb (decide_eq_false c41)) rfl rfl, rfl, rfl, rfl⟩, ⟨_, undef, [(55, Value.bool (decide ((w64 (t8 + t10)) = a3)))], 59, rfl, rfl, ⟨.inr ⟨rfl, rfl⟩, trivial⟩, .pass 1 true false 55 rfl rfl (sb (decide_eq_false c41)) rfl rfl, rfl, rfl, rfl⟩, ⟨_, undef, [(55, Value.bool (decide ((w64 (t8 + t10)) = a3)))], 60, rfl, rfl, ⟨.inr ⟨rfl, rfl⟩, trivial⟩, .pass 1 true false 55 rfl rfl (sb (decide_eq_false c41)) rfl rfl, rfl, rfl, rfl⟩, ⟨_, undef, [(55, Value.bool (decide ((w64 (t8 + t10)) = a3)))], 61, rfl, rfl, ⟨.inr ⟨rfl, rfl⟩, trivial⟩, .pass 1 true false 55 rfl rfl (sb (decide_eq_false c41)) rfl rfl, rfl, rfl, rfl⟩, ⟨_, undef, [(55, Value.bool (decide ((w64 (t8 + t10)) = a3)))], 62, rfl, rfl, ⟨.inr ⟨rfl, rfl⟩, trivial⟩, .pass 1 true false 55 rfl rfl (sb (decide_eq_false c41)) rfl rfl, rfl, rfl, rfl⟩, ⟨_, undef, [(55, Value.bool (decide ((w64 (t8 + t10)) = a3)))], 63, rfl, rfl, ⟨.inr ⟨rfl, rfl⟩, trivial⟩, .pass 1 true false 55 rfl rfl (sb (decide_eq_false c41)) rfl rfl, rfl, rfl, rfl⟩, ⟨_, undef, [(55, Value.bool (decide ((w64 (t8 + t10)) = a3)))], 64, rfl, rfl, ⟨.inr ⟨rfl, rfl⟩, trivial⟩, .pass 1 true false 55 rfl rfl (sb (decide_eq_false c41)) rfl rfl, rfl, rfl, rfl⟩, ⟨_, undef, [(55, Value.bool (decide ((w64 (t8 + t10)) = a3)))], 65, rfl, rfl, ⟨.inr ⟨rfl, rfl⟩, trivial⟩, .pass 1 true false 55 rfl rfl (sb (decide_eq_false c41)) rfl rfl, rfl, rfl, rfl⟩, ⟨_, undef, [(55, Value.bool (decide ((w64 (t8 + t10)) = a3)))], 66, rfl, rfl, ⟨.inr ⟨rfl, rfl⟩, trivial⟩, .pass 1 true false 55 rfl rfl (sb (decide_eq_false c41)) rfl rfl, rfl, rfl, rfl⟩, ⟨_, undef, [(55, Value.bool (decide ((w64 (t8 + t10)) = a3)))], 67, rfl, rfl, ⟨.inr ⟨rfl, rfl⟩, trivial⟩, .pass 1 true false 55 rfl rfl (sb (decide_eq_false c41)) rfl rfl, rfl, rfl, rfl⟩, ⟨_, undef, [(55, Value.bool (decide ((w64 (t8 + t10)) = a3)))], 68, rfl, rfl, ⟨.inr ⟨rfl, rfl⟩, trivial⟩, .pass 1 true false 55 rfl rfl (sb (decide_eq_false c41)) rfl rfl, rfl, rfl, rfl⟩, ⟨_, Value.bool (false), [(55, Value.bool (decide ((w64 (t8 + t10)) = a3))), (68, undef)], 69, rfl, rfl, ⟨.inr ⟨rfl, rfl⟩, ⟨.inr ⟨rfl, rfl⟩, trivial⟩⟩, .run rfl (fun w HS => X.pickF (sb (decide_eq_false c41)) rfl), rfl, rfl, rfl⟩, ⟨_, Value.bool (false), [(69, Value.bool (false))], 70, rfl, rfl, ⟨.inr ⟨rfl, rfl⟩, trivial⟩, .run rfl (fun w HS => X.move rfl), rfl, rfl, rfl⟩, ⟨_, undef, [(70, Value.bool (false))], 71, rfl, rfl, ⟨.inr ⟨rfl, rfl⟩, trivial⟩, .pass 16 true false 70 rfl rfl rfl rfl rfl, rfl, rfl, rfl⟩, ⟨_, undef, [(70, Value.bool (false))], 72, rfl, rfl, ⟨.inr ⟨rfl, rfl⟩, trivial⟩, .pass 16 true false 70 rfl rfl rfl rfl rfl, rfl, rfl, rfl⟩, ⟨_, undef, [(70, Value.bool (false))], 73, rfl, rfl, ⟨.inr ⟨rfl, rfl⟩, trivial⟩, .pass 16 true false 70 rfl rfl rfl rfl rfl, rfl, rfl, rfl⟩, ⟨_, undef, [(70, Value.bool (false))], 74, rfl, rfl, ⟨.inr ⟨rfl, rfl⟩, trivial⟩, .pass 16 true false 70 rfl rfl rfl rfl rfl, rfl, rfl, rfl⟩, ⟨_, undef, [(70, Value.bool (false))], 75, rfl, rfl, ⟨.inr ⟨rfl, rfl⟩, trivial⟩, .pass 16 true false 70 rfl rfl rfl rfl rfl, rfl, rfl, rfl⟩, ⟨_, undef, [(70, Value.bool (false))], 76, rfl, rfl, ⟨.inr ⟨rfl, rfl⟩, trivial⟩, .pass 16 true false 70 rfl rfl rfl rfl rfl, rfl, rfl, rfl⟩, ⟨_, undef, [(70, Value.bool (false))], 77, rfl, rfl, ⟨.inr ⟨rfl, rfl⟩, trivial⟩, .pass 16 true false 70 rfl rfl rfl rfl rfl, rfl, rfl, rfl⟩, ⟨_, undef, [(70, Value.bool (false))], 78, rfl, rfl, ⟨.inr ⟨rfl, rfl⟩, trivial⟩, .pass 16 true false 70 rfl rfl rfl rfl rfl, rfl, rfl, rfl⟩, ⟨_, Value.bool (false), [(70, Value.bool (false)), (78, undef)], 79, rfl, rfl, ⟨.inr ⟨rfl, rfl⟩, ⟨.inr ⟨rfl, rfl⟩, trivial⟩⟩, .run rfl (fun w HS => X.pickF rfl rfl), rfl, rfl, rfl⟩, ⟨_, Value.bool (false), [(79, Value.bool (false))], 80, rfl, rfl, ⟨.inr ⟨rfl, rfl⟩, trivial⟩, .run rfl (fun w HS => X.move rfl), rfl, rfl, rfl⟩, ⟨_, undef, [(80, Value.bool (false))], 81, rfl, rfl, ⟨.inr ⟨rfl, rfl⟩, trivial⟩, .pass 26 true false 80 rfl rfl rfl rfl rfl, rfl, rfl, rfl⟩, ⟨_, undef, [(80, Value.bool (false))], 82, rfl, rfl, ⟨.inr ⟨rfl, rfl⟩, trivial⟩, .pass 26 true false 80 rfl rfl rfl rfl rfl, rfl, rfl, rfl⟩, ⟨_, undef, [(80, Value.bool (false))], 83, rfl, rfl, ⟨.inr ⟨rfl, rfl⟩, trivial⟩, .pass 26 true false 80 rfl rfl rfl rfl rfl, rfl, rfl, rfl⟩, ⟨_, undef, [(80, Value.bool (false))], 84, rfl, rfl, ⟨.inr ⟨rfl, rfl⟩, trivial⟩, .pass 26 true false 80 rfl rfl rfl rfl rfl, rfl, rfl, rfl⟩, ⟨_, undef, [(80, Value.bool (false))], 85, rfl, rfl, ⟨.inr ⟨rfl, rfl⟩, trivial⟩, .pass 26 true false 80 rfl rfl rfl rfl rfl, rfl, rfl, rfl⟩, ⟨_, undef, [(80, Value.bool (false))], 86, rfl, rfl, ⟨.inr ⟨rfl, rfl⟩, trivial⟩, .pass 26 true false 80 rfl rfl rfl rfl rfl, rfl, rfl, rfl⟩, ⟨_, undef, [(80, Value.bool (false))], 87, rfl, rfl, ⟨.inr ⟨rfl, rfl⟩, trivial⟩, .pass 26 true false 80 rfl rfl rfl rfl rfl, rfl, rfl, rfl⟩, ⟨_, undef, [(80, Value.bool (false))], 88, rfl, rfl, ⟨.inr ⟨rfl, rfl⟩, trivial⟩, .pass 26 true false 80 rfl rfl rfl rfl rfl, rfl, rfl, rfl⟩, ⟨_, undef, [(80, Value.bool (false))], 89, rfl, rfl, ⟨.inr ⟨rfl, rfl⟩, trivial⟩, .pass 26 true false 80 rfl rfl rfl rfl rfl, rfl, rfl, rfl⟩, ⟨_, Value.bool (false), [(80, Value.bool (false)), (89, undef)], 90, rfl, rfl, ⟨.inr ⟨rfl, rfl⟩, ⟨.inr ⟨rfl, rfl⟩, trivial⟩⟩, .run rfl (fun w HS => X.pickF rfl rfl), rfl, rfl, rfl⟩, ⟨_, Value.bool (false), [(90, Value.bool (false))], 8, rfl, rfl, ⟨.inr ⟨rfl, rfl⟩, trivial⟩, .run rfl (fun w HS => X.assign rfl), rfl, rfl, rfl⟩, trivial⟩ ⟨.inr ⟨rfl, rfl⟩, trivial⟩ (fun w HS => ?_)
                have HS : Sep.St [R] w0 w := HS
                refine At.next ?_
                refine V.keep [(8, Value.bool (false))] ⟨rfl, trivial⟩ ?_
                refine V.ret ?_
                cases H
                exact At.ret1 rfl rfl ⟨_, rfl, rfl, HS⟩
  · replace H := ite_f c3 H
    refine W.pass 16 rfl (sb (n_f (b_f c3))) rfl rfl ?_
    refine W.pass 16 rfl (sb (n_f (b_f c3))) rfl rfl ?_
    refine W.rd (X.pickT (sb (n_f (b_f c3))) rfl) rfl rfl rfl ?_
    refine W.rd (X.move rfl) rfl rfl rfl ?_
    refine W.pass 20 rfl rfl rfl rfl ?_
    refine W.pass 20 rfl rfl rfl rfl ?_
    refine W.rd (X.pickT rfl rfl) rfl rfl rfl ?_
    refine W.rd (X.move rfl) rfl rfl rfl ?_
    refine W.pass 24 rfl rfl rfl rfl ?_
    refine W.pass 24 rfl rfl rfl rfl ?_
    refine W.rd (X.pickT rfl rfl) rfl rfl rfl ?_
    refine W.rd (X.move rfl) rfl rfl rfl ?_
    refine W.pass 28 rfl rfl rfl rfl ?_
    refine W.pass 28 rfl rfl rfl rfl ?_
    refine W.rd (X.pickT rfl rfl) rfl rfl rfl ?_
    refine W.nil ?_
    refine At.next ?_
    refine V.keep [(0, Value.int .i64 (a0)), (1, Value.int .i64 (a1)), (2, Value.int .i64 (a2)), (3, Value.int .i64 (a3)), (9, Value.bool (t1)), (31, Value.bool (true))] ⟨rfl, rfl, rfl, rfl, rfl, rfl, trivial⟩ ?_
    refine V.condT rfl ?_
    refine V.seq ?_
    refine V.region ?_
    refine W.rd (X.move rfl) rfl rfl rfl ?_
    refine W.rd (X.assign rfl) rfl rfl rfl ?_
    refine W.nil ?_
    refine At.next ?_
    refine V.keep [(8, Value.bool (t1))] ⟨rfl, trivial⟩ ?_
    refine V.ret ?_
    refine At.thenRet ?_
    cases H
    exact At.ret1 rfl rfl ⟨_, rfl, rfl, HS⟩
def signalmanlaw1_SerialRounds.Pure : Prop := ∀ (a0 : Int) (a1 : Int) (a2 : Int) (a3 : Int), (Lit.int .i64 a0).wf = true → (Lit.int .i64 a1).wf = true → (Lit.int .i64 a2).wf = true → (Lit.int .i64 a3).wf = true → signalmanlaw1_SerialRounds.f a0 a1 a2 a3 = some true
end Go.Proofs.Ytdlaggikbnmjeaa

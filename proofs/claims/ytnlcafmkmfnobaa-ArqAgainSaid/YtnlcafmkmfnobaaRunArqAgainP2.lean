/- ArqAgain: the functions that its law reaches, as plain functions, and that the machine's calls come to what these say. Conditions: those that stand at each. -/
import Derived.Test.YtnlcafmkmfnobaaRunArqAgainP1
set_option linter.all false
namespace Go.Proofs.Ytnlcafmkmfnobaa
open Go.RowKit Go.Proofs.Ytnlcafmkmfnobaa.Sep Go.Proofs.Ytnlcafmkmfnobaa.Walk
/-! ### (*signalman/arq.Arq).Connect: function 18 -/
def arq_Arq_Connect.f (k : Nat) (a0 : arq_Arq) : Option (Int × arq_Arq) := (if a0.state = 0 then ((serial_Next.f a0.tag 65536).bind fun t5 => ((arq_Arq_tell.f k ({ m := a0.m, t1 := a0.t1, n2 := a0.n2, size := a0.size, state := 1, tag := t5, tries := 0, rejected := a0.rejected, log := a0.log, order := a0.order, timers := a0.timers, out := a0.out, inds := a0.inds, sent := a0.sent, acked := a0.acked, lost := a0.lost } : arq_Arq) ({ Kind := 3, Ns := 0, Nr := 0, Poll := true } : api_Ctl)).bind fun t7 => ((arq_Arq_start.f t7).bind fun t9 => some (0, t9)))) else some (8, a0))
set_option maxRecDepth 100000 in
set_option maxHeartbeats 4000000 in
theorem arq_Arq_Connect.calls (k : Nat) (a0 : arq_Arq) (R : As) (w0 w : World) (b0 : Nat) (r : Int × arq_Arq)  (H : arq_Arq_Connect.f k a0 = some r) (HS : Sep.St [arq_Arq.at b0 a0, R] w0 w) : Calls Try.prog 18 #[Value.pointer (some ⟨b0, 0, none⟩)] w (Ret fun u w => u = Value.int .i64 r.1 ∧ Sep.St [arq_Arq.at b0 r.2, R] w0 w) := by
  unfold arq_Arq_Connect.f at H
  refine calls_enter Try.func18 rfl rfl ?_
  have H : _ = some r := H
  refine V.seq ?_
  refine V.region ?_
  refine W.rd (X.assign rfl) rfl rfl rfl ?_
  refine W.nil ?_
  refine At.next ?_
  refine V.seq ?_
  refine V.seq ?_
  refine V.region ?_
  refine W.rd (X.move rfl) rfl rfl rfl ?_
  refine W.rd (X.nilCheck rfl) rfl rfl rfl ?_
  obtain ⟨b8_2, b9_2, b10_2, a11_2, c11_2, d11_2, a12_2, c12_2, hi3, HS⟩ := arq_Arq.open HS
  refine W.rd (X.fieldAddr 4 fo82_4 rfl) rfl rfl rfl ?_
  refine W.rd (X.loadAt 0 HS rfl Try.underlying3 rfl rfl rfl) rfl rfl rfl ?_
  refine W.rd (X.cmp (!(decide (a0.state = 0))) rfl rfl rfl rfl) rfl rfl rfl ?_
  refine W.nil ?_
  refine At.next ?_
  by_cases c4 : a0.state = 0
  · replace H := ite_t c4 H
    refine V.condF (sb (n_t (decide_eq_true c4))) ?_
    refine V.skip ?_
    refine At.next ?_
    refine V.seq ?_
    refine V.region ?_
    refine W.rd (X.move rfl) rfl rfl rfl ?_
    refine W.rd (X.move rfl) rfl rfl rfl ?_
    refine W.rd (X.nilCheck rfl) rfl rfl rfl ?_
    refine W.rd (X.fieldAddr 5 fo82_5 rfl) rfl rfl rfl ?_
    refine W.rd (X.loadAt 0 HS rfl Try.underlying3 rfl rfl rfl) rfl rfl rfl ?_
    obtain ⟨t5, A6, H⟩ := bind_s H
    refine W.ev (Y.call Try.func45 (by kernel_rfl) rfl (vs := [Value.int .i64 a0.tag, Value.int .i64 (65536)]) rfl (serial_Next.calls a0.tag 65536 _ w0 _  t5  A6 (Sep.St.tailJoin (m := []) (r := [blk b0 (#[Value.int .i64 a0.m, Value.int .i64 a0.t1, Value.int .i64 a0.n2, Value.int .i64 a0.size, Value.int .i64 a0.state, Value.int .i64 a0.tag, Value.int .i64 a0.tries, Value.bool a0.rejected, Value.pointer (some ⟨b8_2, 0, none⟩), Value.pointer (some ⟨b9_2, 0, none⟩), Value.pointer (some ⟨b10_2, 0, none⟩), Value.slice a11_2 a0.out.length c11_2, Value.slice a12_2 a0.inds.length c12_2, Value.int .i64 a0.sent, Value.int .i64 a0.acked, Value.int .i64 a0.lost]) 82, backlog_Log.at b8_2 a0.log, reorder_Order.at b9_2 a0.order, clock_Set.at b10_2 a0.timers, row 39 1 (.slice a11_2 a0.out.length c11_2) a0.out.length d11_2, tie (El.sl (El.int .u8)) d11_2 a0.out, row 3 1 (.slice a12_2 a0.inds.length c12_2) a0.inds.length (a0.inds.map (Value.int .i64)), R]) HS))) rfl rfl rfl ?_
    rintro _ w ⟨rfl, HS⟩
    replace HS := Sep.St.tailOpen (m := []) (r := [blk b0 (#[Value.int .i64 a0.m, Value.int .i64 a0.t1, Value.int .i64 a0.n2, Value.int .i64 a0.size, Value.int .i64 a0.state, Value.int .i64 a0.tag, Value.int .i64 a0.tries, Value.bool a0.rejected, Value.pointer (some ⟨b8_2, 0, none⟩), Value.pointer (some ⟨b9_2, 0, none⟩), Value.pointer (some ⟨b10_2, 0, none⟩), Value.slice a11_2 a0.out.length c11_2, Value.slice a12_2 a0.inds.length c12_2, Value.int .i64 a0.sent, Value.int .i64 a0.acked, Value.int .i64 a0.lost]) 82, backlog_Log.at b8_2 a0.log, reorder_Order.at b9_2 a0.order, clock_Set.at b10_2 a0.timers, row 39 1 (.slice a11_2 a0.out.length c11_2) a0.out.length d11_2, tie (El.sl (El.int .u8)) d11_2 a0.out, row 3 1 (.slice a12_2 a0.inds.length c12_2) a0.inds.length (a0.inds.map (Value.int .i64)), R]) HS
    refine W.rd (X.nilCheck rfl) rfl rfl rfl ?_
    refine W.rd (X.fieldAddr 5 fo82_5 rfl) rfl rfl rfl ?_
    refine W.ev_none (Y.storeAt 0 HS rfl inf3 rfl rfl rfl rfl rfl rfl) rfl rfl ?_
    rintro _ w HS
    refine W.nil ?_
    refine At.next ?_
    refine V.seq ?_
    refine V.region ?_
    refine W.rd (X.move rfl) rfl rfl rfl ?_
    refine W.rd (X.move rfl) rfl rfl rfl ?_
    refine W.rd (X.nilCheck rfl) rfl rfl rfl ?_
    refine W.rd (X.fieldAddr 4 fo82_4 rfl) rfl rfl rfl ?_
    refine W.ev_none (Y.storeAt 0 HS rfl inf3 rfl rfl rfl rfl rfl rfl) rfl rfl ?_
    rintro _ w HS
    refine W.rd (X.nilCheck rfl) rfl rfl rfl ?_
    refine W.rd (X.fieldAddr 6 fo82_6 rfl) rfl rfl rfl ?_
    refine W.ev_none (Y.storeAt 0 HS rfl inf3 rfl rfl rfl rfl rfl rfl) rfl rfl ?_
    rintro _ w HS
    refine W.nil ?_
    refine At.next ?_
    refine V.seq ?_
    refine V.region ?_
    refine W.rd (X.move rfl) rfl rfl rfl ?_
    refine W.rd (X.build (vs := #[(0, Value.int .i64 (3)), (3, Value.bool true)]) (v := Value.agg #[Value.int .i64 (3), Value.int .i64 (0), Value.int .i64 (0), Value.bool true]) (fun a ha => by simp only [List.map_toArray, List.map_cons, List.map_nil]; try rfl) (fun _ => by kernel_rfl)) rfl rfl rfl ?_
    replace HS := arq_Arq.close ({ m := a0.m, t1 := a0.t1, n2 := a0.n2, size := a0.size, state := 1, tag := t5, tries := 0, rejected := a0.rejected, log := a0.log, order := a0.order, timers := a0.timers, out := a0.out, inds := a0.inds, sent := a0.sent, acked := a0.acked, lost := a0.lost } : arq_Arq) trivial HS
    obtain ⟨t7, A8, H⟩ := bind_s H
    refine W.ev (Y.call Try.func46 (by kernel_rfl) rfl (vs := [Value.pointer (some ⟨b0, 0, none⟩), Value.agg #[Value.int .i64 (3), Value.int .i64 (0), Value.int .i64 (0), Value.bool true]]) rfl (arq_Arq_tell.calls k ({ m := a0.m, t1 := a0.t1, n2 := a0.n2, size := a0.size, state := 1, tag := t5, tries := 0, rejected := a0.rejected, log := a0.log, order := a0.order, timers := a0.timers, out := a0.out, inds := a0.inds, sent := a0.sent, acked := a0.acked, lost := a0.lost } : arq_Arq) ({ Kind := 3, Ns := 0, Nr := 0, Poll := true } : api_Ctl) _ w0 _ b0 t7  A8 (Sep.St.tailJoin (m := [arq_Arq.at b0 ({ m := a0.m, t1 := a0.t1, n2 := a0.n2, size := a0.size, state := 1, tag := t5, tries := 0, rejected := a0.rejected, log := a0.log, order := a0.order, timers := a0.timers, out := a0.out, inds := a0.inds, sent := a0.sent, acked := a0.acked, lost := a0.lost } : arq_Arq)]) (r := [R]) HS))) rfl rfl rfl ?_
    rintro _ w ⟨rfl, HS⟩
    replace HS := Sep.St.tailOpen (m := [arq_Arq.at b0 t7]) (r := [R]) HS
    refine W.nil ?_
    refine At.next ?_
    refine V.seq ?_
    refine V.region ?_
    refine W.rd (X.move rfl) rfl rfl rfl ?_
    obtain ⟨t9, A10, H⟩ := bind_s H
    refine W.ev (Y.call Try.func47 (by kernel_rfl) rfl (vs := [Value.pointer (some ⟨b0, 0, none⟩)]) rfl (arq_Arq_start.calls t7 _ w0 _ b0 t9  A10 (Sep.St.tailJoin (m := [arq_Arq.at b0 t7]) (r := [R]) HS))) rfl rfl rfl ?_
    rintro _ w ⟨rfl, HS⟩
    replace HS := Sep.St.tailOpen (m := [arq_Arq.at b0 t9]) (r := [R]) HS
    refine W.nil ?_
    refine At.next ?_
    refine V.seq ?_
    refine V.region ?_
    refine W.rd (X.assign rfl) rfl rfl rfl ?_
    refine W.nil ?_
    refine At.next ?_
    refine V.ret ?_
    cases H
    exact At.ret1 rfl rfl ⟨_, rfl, rfl, HS⟩
  · replace H := ite_f c4 H
    refine V.condT (sb (n_f (decide_eq_false c4))) ?_
    refine V.seq ?_
    refine V.region ?_
    refine W.rd (X.assign rfl) rfl rfl rfl ?_
    refine W.nil ?_
    refine At.next ?_
    refine V.ret ?_
    refine At.thenRet ?_
    replace HS := arq_Arq.close a0 trivial HS
    cases H
    exact At.ret1 rfl rfl ⟨_, rfl, rfl, HS⟩

/-! ### (*signalman/arq.Arq).Output: function 20 -/
def arq_Arq_Output.f (a0 : arq_Arq) : Option (List (List Int) × arq_Arq) := some (a0.out, ({ m := a0.m, t1 := a0.t1, n2 := a0.n2, size := a0.size, state := a0.state, tag := a0.tag, tries := a0.tries, rejected := a0.rejected, log := a0.log, order := a0.order, timers := a0.timers, out := ([] : List (List Int)), inds := a0.inds, sent := a0.sent, acked := a0.acked, lost := a0.lost } : arq_Arq))
set_option maxRecDepth 100000 in
set_option maxHeartbeats 4000000 in
theorem arq_Arq_Output.calls (a0 : arq_Arq) (R : As) (w0 w : World) (b0 : Nat) (r : List (List Int) × arq_Arq)  (H : arq_Arq_Output.f a0 = some r) (HS : Sep.St [arq_Arq.at b0 a0, R] w0 w) : Calls Try.prog 20 #[Value.pointer (some ⟨b0, 0, none⟩)] w (Ret fun u w => ∃ (aq0 : Option Addr) (cq0 : Nat) (dq0 : List Value), u = Value.slice aq0 r.1.length cq0 ∧ Sep.St [row 39 1 (.slice aq0 r.1.length cq0) r.1.length dq0, tie (El.sl (El.int .u8)) dq0 r.1, arq_Arq.at b0 r.2, R] w0 w) := by
  unfold arq_Arq_Output.f at H
  refine calls_enter Try.func20 rfl rfl ?_
  have H : _ = some r := H
  refine V.seq ?_
  refine V.region ?_
  refine W.rd (X.assign rfl) rfl rfl rfl ?_
  refine W.nil ?_
  refine At.next ?_
  refine V.seq ?_
  refine V.region ?_
  refine W.rd (X.move rfl) rfl rfl rfl ?_
  refine W.rd (X.nilCheck rfl) rfl rfl rfl ?_
  obtain ⟨b8_1, b9_1, b10_1, a11_1, c11_1, d11_1, a12_1, c12_1, hi2, HS⟩ := arq_Arq.open HS
  refine W.rd (X.fieldAddr 11 fo82_11 rfl) rfl rfl rfl ?_
  refine W.rd (X.loadAt 0 HS rfl Try.underlying30 rfl rfl rfl) rfl rfl rfl ?_
  refine W.rd (X.assign rfl) rfl rfl rfl ?_
  refine W.nil ?_
  refine At.next ?_
  refine V.seq ?_
  refine V.region ?_
  refine W.rd (X.move rfl) rfl rfl rfl ?_
  refine W.rd (X.nilCheck rfl) rfl rfl rfl ?_
  refine W.rd (X.fieldAddr 11 fo82_11 rfl) rfl rfl rfl ?_
  refine W.ev_none (Y.storeAt 0 HS rfl inf30 rfl rfl rfl rfl rfl rfl) rfl rfl ?_
  rintro _ w HS
  refine W.nil ?_
  refine At.next ?_
  refine V.seq ?_
  refine V.region ?_
  refine W.rd (X.move rfl) rfl rfl rfl ?_
  refine W.rd (X.assign rfl) rfl rfl rfl ?_
  refine W.nil ?_
  refine At.next ?_
  refine V.ret ?_
  replace HS := row_nil' (e := 39) 1 none (St.put (A := tie (El.sl (El.int .u8)) ([]) (([] : List (List Int)))) (fun _ => tie.nil) HS)
  have HS : Sep.St [row 39 1 (.slice none (([] : List (List Int))).length 0) (([] : List (List Int))).length ([]), tie (El.sl (El.int .u8)) ([]) (([] : List (List Int))), blk b0 (#[Value.int .i64 a0.m, Value.int .i64 a0.t1, Value.int .i64 a0.n2, Value.int .i64 a0.size, Value.int .i64 a0.state, Value.int .i64 a0.tag, Value.int .i64 a0.tries, Value.bool a0.rejected, Value.pointer (some ⟨b8_1, 0, none⟩), Value.pointer (some ⟨b9_1, 0, none⟩), Value.pointer (some ⟨b10_1, 0, none⟩), Value.slice none 0 0, Value.slice a12_1 a0.inds.length c12_1, Value.int .i64 a0.sent, Value.int .i64 a0.acked, Value.int .i64 a0.lost]) 82, backlog_Log.at b8_1 a0.log, reorder_Order.at b9_1 a0.order, clock_Set.at b10_1 a0.timers, row 39 1 (.slice a11_1 a0.out.length c11_1) a0.out.length d11_1, tie (El.sl (El.int .u8)) d11_1 a0.out, row 3 1 (.slice a12_1 a0.inds.length c12_1) a0.inds.length (a0.inds.map (Value.int .i64)), R] w0 w := HS
  replace HS := HS.re [2, 3, 4, 5, 0, 1, 8, 6, 7, 9] (by kernel_rfl)
  replace HS := arq_Arq.close (({ m := a0.m, t1 := a0.t1, n2 := a0.n2, size := a0.size, state := a0.state, tag := a0.tag, tries := a0.tries, rejected := a0.rejected, log := a0.log, order := a0.order, timers := a0.timers, out := ([] : List (List Int)), inds := a0.inds, sent := a0.sent, acked := a0.acked, lost := a0.lost } : arq_Arq)) trivial HS
  replace HS := HS.sel [1, 2, 0, 3] [] (by kernel_rfl)
  cases H
  exact At.ret1 rfl rfl ⟨_, rfl, a11_1, c11_1, d11_1, rfl, HS⟩

/-! ### signalman/signalmanlaw15.num: function 35 -/
def signalmanlaw15_num.f (a0 : Int) : Option Int := some a0
set_option maxRecDepth 100000 in
set_option maxHeartbeats 4000000 in
theorem signalmanlaw15_num.calls (a0 : Int) (R : As) (w0 w : World)  (r : Int)  (H : signalmanlaw15_num.f a0 = some r) (HS : Sep.St [R] w0 w) : Calls Try.prog 35 #[Value.int .i64 a0] w (Ret fun u w => u = Value.int .i64 r ∧ Sep.St [R] w0 w) := by
  unfold signalmanlaw15_num.f at H
  refine calls_enter Try.func35 rfl rfl ?_
  have H : _ = some r := H
  refine V.seq ?_
  refine V.region ?_
  refine W.rd (X.assign rfl) rfl rfl rfl ?_
  refine W.nil ?_
  refine At.next ?_
  refine V.seq ?_
  refine V.region ?_
  refine W.rd (X.move rfl) rfl rfl rfl ?_
  refine W.rd (X.assign rfl) rfl rfl rfl ?_
  refine W.nil ?_
  refine At.next ?_
  refine V.ret ?_
  cases H
  exact At.ret1 rfl rfl ⟨_, rfl, rfl, HS⟩

/-! ### (*signalman/arq.Arq).State: function 22 -/
def arq_Arq_State.f (a0 : arq_Arq) : Option Int := some a0.state
set_option maxRecDepth 100000 in
set_option maxHeartbeats 4000000 in
theorem arq_Arq_State.calls (a0 : arq_Arq) (R : As) (w0 w : World) (b0 : Nat) (b8_p0 : Nat) (b9_p0 : Nat) (b10_p0 : Nat) (a11_p0 : Option Addr) (c11_p0 : Nat) (d11_p0 : List Value) (a12_p0 : Option Addr) (c12_p0 : Nat) (r : Int)  (H : arq_Arq_State.f a0 = some r) (HS : Sep.St [blk b0 (#[Value.int .i64 a0.m, Value.int .i64 a0.t1, Value.int .i64 a0.n2, Value.int .i64 a0.size, Value.int .i64 a0.state, Value.int .i64 a0.tag, Value.int .i64 a0.tries, Value.bool a0.rejected, Value.pointer (some ⟨b8_p0, 0, none⟩), Value.pointer (some ⟨b9_p0, 0, none⟩), Value.pointer (some ⟨b10_p0, 0, none⟩), Value.slice a11_p0 a0.out.length c11_p0, Value.slice a12_p0 a0.inds.length c12_p0, Value.int .i64 a0.sent, Value.int .i64 a0.acked, Value.int .i64 a0.lost]) 82, backlog_Log.at b8_p0 a0.log, reorder_Order.at b9_p0 a0.order, clock_Set.at b10_p0 a0.timers, row 39 1 (.slice a11_p0 a0.out.length c11_p0) a0.out.length d11_p0, tie (El.sl (El.int .u8)) d11_p0 a0.out, row 3 1 (.slice a12_p0 a0.inds.length c12_p0) a0.inds.length (a0.inds.map (Value.int .i64)), R] w0 w) : Calls Try.prog 22 #[Value.pointer (some ⟨b0, 0, none⟩)] w (Ret fun u w => u = Value.int .i64 r ∧ Sep.St [blk b0 (#[Value.int .i64 a0.m, Value.int .i64 a0.t1, Value.int .i64 a0.n2, Value.int .i64 a0.size, Value.int .i64 a0.state, Value.int .i64 a0.tag, Value.int .i64 a0.tries, Value.bool a0.rejected, Value.pointer (some ⟨b8_p0, 0, none⟩), Value.pointer (some ⟨b9_p0, 0, none⟩), Value.pointer (some ⟨b10_p0, 0, none⟩), Value.slice a11_p0 a0.out.length c11_p0, Value.slice a12_p0 a0.inds.length c12_p0, Value.int .i64 a0.sent, Value.int .i64 a0.acked, Value.int .i64 a0.lost]) 82, backlog_Log.at b8_p0 a0.log, reorder_Order.at b9_p0 a0.order, clock_Set.at b10_p0 a0.timers, row 39 1 (.slice a11_p0 a0.out.length c11_p0) a0.out.length d11_p0, tie (El.sl (El.int .u8)) d11_p0 a0.out, row 3 1 (.slice a12_p0 a0.inds.length c12_p0) a0.inds.length (a0.inds.map (Value.int .i64)), R] w0 w) := by
  unfold arq_Arq_State.f at H
  refine calls_enter Try.func22 rfl rfl ?_
  have H : _ = some r := H
  refine V.seq ?_
  refine V.region ?_
  refine W.rd (X.assign rfl) rfl rfl rfl ?_
  refine W.nil ?_
  refine At.next ?_
  refine V.seq ?_
  refine V.region ?_
  refine W.rd (X.move rfl) rfl rfl rfl ?_
  refine W.rd (X.nilCheck rfl) rfl rfl rfl ?_
  refine W.rd (X.fieldAddr 4 fo82_4 rfl) rfl rfl rfl ?_
  refine W.rd (X.loadAt 0 HS rfl Try.underlying3 rfl rfl rfl) rfl rfl rfl ?_
  refine W.rd (X.assign rfl) rfl rfl rfl ?_
  refine W.nil ?_
  refine At.next ?_
  refine V.ret ?_
  cases H
  exact At.ret1 rfl rfl ⟨_, rfl, rfl, HS⟩

/-! ### signalman/signalmanlaw15.alive: function 15 -/
def signalmanlaw15_alive.f (k : Nat)  : Option Bool := ((signalmanlaw15_shape.f 128 4 4).bind fun t1 => ((arq_New.f t1).bind fun t3 => ((arq_Arq_Connect.f k t3).bind fun t6 => ((arq_Arq_Output.f t6.2).bind fun t8 => ((signalmanlaw15_num.f t6.1).bind fun t10 => (if t10 = 0 then ((arq_Arq_State.f t8.2).bind fun t15 => (if t15 = 1 then (if (t8.1.length : Int) = 1 then (if 0 ≤ (0 : Int) ∧ (0 : Int) < (t8.1.length : Int) then some (sEq (t8.1.getD (0 : Int).toNat []) ([0, 1, 127] : List Int)) else none) else some false) else some false)) else some false))))))
set_option maxRecDepth 100000 in
set_option maxHeartbeats 4000000 in
theorem signalmanlaw15_alive.calls (k : Nat)  (R : As) (w0 w : World)  (r : Bool)  (H : signalmanlaw15_alive.f k  = some r) (HS : Sep.St [R] w0 w) : Calls Try.prog 15 #[] w (Ret fun u w => u = Value.bool r ∧ Sep.St [R] w0 w) := by
  unfold signalmanlaw15_alive.f at H
  refine calls_enter Try.func15 rfl rfl ?_
  have H : _ = some r := H
  refine V.seq ?_
  refine V.region ?_
  refine W.rd (X.assign rfl) rfl rfl rfl ?_
  refine W.nil ?_
  refine At.next ?_
  refine V.seq ?_
  refine V.region ?_
  obtain ⟨t1, A2, H⟩ := bind_s H
  refine W.ev (Y.call Try.func16 (by kernel_rfl) rfl (vs := [Value.int .i64 (128), Value.int .i64 (4), Value.int .i64 (4)]) rfl (signalmanlaw15_shape.calls 128 4 4 _ w0 _  t1  A2 (Sep.St.tailJoin (m := []) (r := [R]) HS))) rfl rfl rfl ?_
  rintro _ w ⟨rfl, HS⟩
  replace HS := Sep.St.tailOpen (m := []) (r := [R]) HS
  obtain ⟨t3, A4, H⟩ := bind_s H
  refine W.ev (Y.call Try.func17 (by kernel_rfl) rfl (vs := [Value.agg #[Value.int .i64 t1.Mode, Value.int .i64 t1.Modulus, Value.int .i64 t1.Window, Value.int .i64 t1.T1, Value.int .i64 t1.N2, Value.int .i64 t1.Hold, Value.int .i64 t1.Wait, Value.int .i64 t1.Keep, Value.int .i64 t1.Queue, Value.int .i64 t1.Size, Value.int .i64 t1.Ring, Value.int .i64 t1.Rate, Value.int .i64 t1.Bad, Value.int .i64 t1.Good, Value.bool t1.Revert, Value.bool t1.Wide]]) rfl (arq_New.calls t1 _ w0 _  t3  A4 (Sep.St.tailJoin (m := []) (r := [R]) HS))) rfl rfl rfl ?_
  rintro _ w ⟨bt3_0, rfl, HS⟩
  replace HS := Sep.St.tailOpen (m := [arq_Arq.at bt3_0 t3]) (r := [R]) HS
  refine W.rd (X.assign rfl) rfl rfl rfl ?_
  refine W.nil ?_
  refine At.next ?_
  refine V.seq ?_
  refine V.seq ?_
  refine V.region ?_
  refine W.rd (X.move rfl) rfl rfl rfl ?_
  refine W.rd (X.eqP Try.underlying26 rfl rfl) rfl rfl rfl ?_
  refine W.nil ?_
  refine At.next ?_
  refine V.condF rfl ?_
  refine V.skip ?_
  refine At.next ?_
  refine V.seq ?_
  refine V.region ?_
  refine W.rd (X.move rfl) rfl rfl rfl ?_
  obtain ⟨t6, A7, H⟩ := bind_s H
  refine W.ev (Y.call Try.func18 (by kernel_rfl) rfl (vs := [Value.pointer (some ⟨bt3_0, 0, none⟩)]) rfl (arq_Arq_Connect.calls k t3 _ w0 _ bt3_0 t6  A7 (Sep.St.tailJoin (m := [arq_Arq.at bt3_0 t3]) (r := [R]) HS))) rfl rfl rfl ?_
  rintro _ w ⟨rfl, HS⟩
  replace HS := Sep.St.tailOpen (m := [arq_Arq.at bt3_0 t6.2]) (r := [R]) HS
  refine W.rd (X.assign rfl) rfl rfl rfl ?_
  refine W.nil ?_
  refine At.next ?_
  refine V.seq ?_
  refine V.region ?_
  refine W.rd (X.move rfl) rfl rfl rfl ?_
  obtain ⟨t8, A9, H⟩ := bind_s H
  refine W.ev (Y.call Try.func20 (by kernel_rfl) rfl (vs := [Value.pointer (some ⟨bt3_0, 0, none⟩)]) rfl (arq_Arq_Output.calls t6.2 _ w0 _ bt3_0 t8  A9 (Sep.St.tailJoin (m := [arq_Arq.at bt3_0 t6.2]) (r := [R]) HS))) rfl rfl rfl ?_
  rintro _ w ⟨at8_0, ct8_0, dt8_0, rfl, HS⟩
  replace HS := Sep.St.tailOpen (m := [row 39 1 (.slice at8_0 t8.1.length ct8_0) t8.1.length dt8_0, tie (El.sl (El.int .u8)) dt8_0 t8.1, arq_Arq.at bt3_0 t8.2]) (r := [R]) HS
  refine W.rd (X.assign rfl) rfl rfl rfl ?_
  refine W.nil ?_
  refine At.next ?_
  refine V.seq ?_
  refine V.region ?_
  refine W.rd (X.move rfl) rfl rfl rfl ?_
  obtain ⟨t10, A11, H⟩ := bind_s H
  refine W.ev (Y.call Try.func35 (by kernel_rfl) rfl (vs := [Value.int .i64 t6.1]) rfl (signalmanlaw15_num.calls t6.1 _ w0 _  t10  A11 (Sep.St.tailJoin (m := []) (r := [row 39 1 (.slice at8_0 t8.1.length ct8_0) t8.1.length dt8_0, tie (El.sl (El.int .u8)) dt8_0 t8.1, arq_Arq.at bt3_0 t8.2, R]) HS))) rfl rfl rfl ?_
  rintro _ w ⟨rfl, HS⟩
  replace HS := Sep.St.tailOpen (m := []) (r := [row 39 1 (.slice at8_0 t8.1.length ct8_0) t8.1.length dt8_0, tie (El.sl (El.int .u8)) dt8_0 t8.1, arq_Arq.at bt3_0 t8.2, R]) HS
  refine W.rd (X.cmp (decide (t10 = 0)) rfl rfl rfl rfl) rfl rfl rfl ?_
  refine W.rd (X.move rfl) rfl rfl rfl ?_
  by_cases c12 : t10 = 0
  · replace H := ite_t c12 H
    refine W.want 15 rfl (sb (decide_eq_true c12)) ?_
    refine W.rd (X.move rfl) rfl rfl rfl ?_
    refine W.want 15 rfl (sb (decide_eq_true c12)) ?_
    replace HS := HS.front 2 rfl
    obtain ⟨b8_13, b9_13, b10_13, a11_13, c11_13, d11_13, a12_13, c12_13, hi14, HS⟩ := arq_Arq.open HS
    obtain ⟨t15, A16, H⟩ := bind_s H
    refine W.ev (Y.call Try.func22 (by kernel_rfl) rfl (vs := [Value.pointer (some ⟨bt3_0, 0, none⟩)]) rfl (arq_Arq_State.calls t8.2 _ w0 _ bt3_0 b8_13 b9_13 b10_13 a11_13 c11_13 d11_13 a12_13 c12_13 t15  A16 (Sep.St.tailJoin (m := [blk bt3_0 (#[Value.int .i64 t8.2.m, Value.int .i64 t8.2.t1, Value.int .i64 t8.2.n2, Value.int .i64 t8.2.size, Value.int .i64 t8.2.state, Value.int .i64 t8.2.tag, Value.int .i64 t8.2.tries, Value.bool t8.2.rejected, Value.pointer (some ⟨b8_13, 0, none⟩), Value.pointer (some ⟨b9_13, 0, none⟩), Value.pointer (some ⟨b10_13, 0, none⟩), Value.slice a11_13 t8.2.out.length c11_13, Value.slice a12_13 t8.2.inds.length c12_13, Value.int .i64 t8.2.sent, Value.int .i64 t8.2.acked, Value.int .i64 t8.2.lost]) 82, backlog_Log.at b8_13 t8.2.log, reorder_Order.at b9_13 t8.2.order, clock_Set.at b10_13 t8.2.timers, row 39 1 (.slice a11_13 t8.2.out.length c11_13) t8.2.out.length d11_13, tie (El.sl (El.int .u8)) d11_13 t8.2.out, row 3 1 (.slice a12_13 t8.2.inds.length c12_13) t8.2.inds.length (t8.2.inds.map (Value.int .i64))]) (r := [row 39 1 (.slice at8_0 t8.1.length ct8_0) t8.1.length dt8_0, tie (El.sl (El.int .u8)) dt8_0 t8.1, R]) HS))) rfl rfl rfl ?_
    rintro _ w ⟨rfl, HS⟩
    replace HS := Sep.St.tailOpen (m := [blk bt3_0 (#[Value.int .i64 t8.2.m, Value.int .i64 t8.2.t1, Value.int .i64 t8.2.n2, Value.int .i64 t8.2.size, Value.int .i64 t8.2.state, Value.int .i64 t8.2.tag, Value.int .i64 t8.2.tries, Value.bool t8.2.rejected, Value.pointer (some ⟨b8_13, 0, none⟩), Value.pointer (some ⟨b9_13, 0, none⟩), Value.pointer (some ⟨b10_13, 0, none⟩), Value.slice a11_13 t8.2.out.length c11_13, Value.slice a12_13 t8.2.inds.length c12_13, Value.int .i64 t8.2.sent, Value.int .i64 t8.2.acked, Value.int .i64 t8.2.lost]) 82, backlog_Log.at b8_13 t8.2.log, reorder_Order.at b9_13 t8.2.order, clock_Set.at b10_13 t8.2.timers, row 39 1 (.slice a11_13 t8.2.out.length c11_13) t8.2.out.length d11_13, tie (El.sl (El.int .u8)) d11_13 t8.2.out, row 3 1 (.slice a12_13 t8.2.inds.length c12_13) t8.2.inds.length (t8.2.inds.map (Value.int .i64))]) (r := [row 39 1 (.slice at8_0 t8.1.length ct8_0) t8.1.length dt8_0, tie (El.sl (El.int .u8)) dt8_0 t8.1, R]) HS
    refine W.want 15 rfl (sb (decide_eq_true c12)) ?_
    refine W.rd (X.cmp (decide (t15 = 1)) rfl rfl rfl rfl) rfl rfl rfl ?_
    refine W.rd (X.pickT (sb (decide_eq_true c12)) rfl) rfl rfl rfl ?_
    refine W.rd (X.move rfl) rfl rfl rfl ?_
    by_cases c17 : t15 = 1
    · replace H := ite_t c17 H
      refine W.want 20 rfl (sb (decide_eq_true c17)) ?_
      refine W.rd (X.move rfl) rfl rfl rfl ?_
      refine W.want 20 rfl (sb (decide_eq_true c17)) ?_
      refine W.rd (X.lenSl Try.underlying30 rfl) rfl rfl rfl ?_
      refine W.want 20 rfl (sb (decide_eq_true c17)) ?_
      refine W.rd (X.cmp (decide ((t8.1.length : Int) = 1)) rfl rfl rfl rfl) rfl rfl rfl ?_
      refine W.rd (X.pickT (sb (decide_eq_true c17)) rfl) rfl rfl rfl ?_
      refine W.rd (X.move rfl) rfl rfl rfl ?_
      by_cases c18 : (t8.1.length : Int) = 1
      · replace H := ite_t c18 H
        refine W.want 25 rfl (sb (decide_eq_true c18)) ?_
        refine W.rd (X.move rfl) rfl rfl rfl ?_
        refine W.want 25 rfl (sb (decide_eq_true c18)) ?_
        obtain ⟨c19, H⟩ := ite_n H
        obtain ⟨eb20, eo21, hh⟩ := (rdC.at 7 row_rd HS rfl).some (by decide) c19.1 c19.2; subst hh
        refine W.rd (X.indexSl Try.underlying30 inf39 rfl rfl c19.1 c19.2) rfl rfl rfl ?_
        refine W.want 25 rfl (sb (decide_eq_true c18)) ?_
        obtain ⟨ec22, hc23, HS⟩ := St.tie_at 8 HS rfl ([]) c19.1 c19.2
        obtain ⟨ea24, em25, he27, HN⟩ := St.sl_openF (Value.int .u8) (fun t => tie_int t) HS; clear HS; subst he27; have HS := HN
        refine W.rd (X.load Try.underlying39 rfl rfl ((rdC.at 8 row_rd HS rfl).cellEl0 (hc23 0 _ rfl))) rfl rfl rfl ?_
        refine W.want 25 rfl (sb (decide_eq_true c18)) ?_
        refine W.rd (X.bytesStr Try.underlying39 Try.underlying5 Try.underlying9 rfl (rdC.at 0 fsl.rd HS rfl)) rfl rfl rfl ?_
        refine W.want 25 rfl (sb (decide_eq_true c18)) ?_
        refine W.rd (X.eqStr (a := t8.1.getD (0 : Int).toNat []) (b := ([0, 1, 127] : List Int)) rfl rfl) rfl rfl rfl ?_
        refine W.rd (X.pickT (sb (decide_eq_true c18)) rfl) rfl rfl rfl ?_
        refine W.rd (X.assign rfl) rfl rfl rfl ?_
        refine W.nil ?_
        refine At.next ?_
        refine V.ret ?_
        replace HS := HS.sel [10] [0, 1, 2, 3, 4, 5, 6, 7, 8, 9] (by kernel_rfl)
        cases H
        exact At.ret1 rfl rfl ⟨_, rfl, rfl, HS⟩
      · replace H := ite_f c18 H
        refine W.pass 25 rfl (sb (decide_eq_false c18)) rfl rfl ?_
        refine W.pass 25 rfl (sb (decide_eq_false c18)) rfl rfl ?_
        refine W.pass 25 rfl (sb (decide_eq_false c18)) rfl rfl ?_
        refine W.pass 25 rfl (sb (decide_eq_false c18)) rfl rfl ?_
        refine W.pass 25 rfl (sb (decide_eq_false c18)) rfl rfl ?_
        refine W.rd (X.pickF (sb (decide_eq_false c18)) rfl) rfl rfl rfl ?_
        refine W.rd (X.assign rfl) rfl rfl rfl ?_
        refine W.nil ?_
        refine At.next ?_
        refine V.ret ?_
        replace HS := HS.sel [9] [0, 1, 2, 3, 4, 5, 6, 7, 8] (by kernel_rfl)
        cases H
        exact At.ret1 rfl rfl ⟨_, rfl, rfl, HS⟩
    · replace H := ite_f c17 H
      refine W.pass 20 rfl (sb (decide_eq_false c17)) rfl rfl ?_
      refine W.pass 20 rfl (sb (decide_eq_false c17)) rfl rfl ?_
      refine W.pass 20 rfl (sb (decide_eq_false c17)) rfl rfl ?_
      refine W.rd (X.pickF (sb (decide_eq_false c17)) rfl) rfl rfl rfl ?_
      refine W.rd (X.move rfl) rfl rfl rfl ?_
      refine W.pass 25 rfl rfl rfl rfl ?_
      refine W.pass 25 rfl rfl rfl rfl ?_
      refine W.pass 25 rfl rfl rfl rfl ?_
      refine W.pass 25 rfl rfl rfl rfl ?_
      refine W.pass 25 rfl rfl rfl rfl ?_
      refine W.rd (X.pickF rfl rfl) rfl rfl rfl ?_
      refine W.rd (X.assign rfl) rfl rfl rfl ?_
      refine W.nil ?_
      refine At.next ?_
      refine V.ret ?_
      replace HS := HS.sel [9] [0, 1, 2, 3, 4, 5, 6, 7, 8] (by kernel_rfl)
      cases H
      exact At.ret1 rfl rfl ⟨_, rfl, rfl, HS⟩
  · replace H := ite_f c12 H
    refine W.pass 15 rfl (sb (decide_eq_false c12)) rfl rfl ?_
    refine W.pass 15 rfl (sb (decide_eq_false c12)) rfl rfl ?_
    refine W.pass 15 rfl (sb (decide_eq_false c12)) rfl rfl ?_
    refine W.rd (X.pickF (sb (decide_eq_false c12)) rfl) rfl rfl rfl ?_
    refine W.rd (X.move rfl) rfl rfl rfl ?_
    refine W.pass 20 rfl rfl rfl rfl ?_
    refine W.pass 20 rfl rfl rfl rfl ?_
    refine W.pass 20 rfl rfl rfl rfl ?_
    refine W.rd (X.pickF rfl rfl) rfl rfl rfl ?_
    refine W.rd (X.move rfl) rfl rfl rfl ?_
    refine W.pass 25 rfl rfl rfl rfl ?_
    refine W.pass 25 rfl rfl rfl rfl ?_
    refine W.pass 25 rfl rfl rfl rfl ?_
    refine W.pass 25 rfl rfl rfl rfl ?_
    refine W.pass 25 rfl rfl rfl rfl ?_
    refine W.rd (X.pickF rfl rfl) rfl rfl rfl ?_
    refine W.rd (X.assign rfl) rfl rfl rfl ?_
    refine W.nil ?_
    refine At.next ?_
    refine V.ret ?_
    replace HS := HS.sel [3] [0, 1, 2] (by kernel_rfl)
    cases H
    exact At.ret1 rfl rfl ⟨_, rfl, rfl, HS⟩

/-! ### (*signalman/reorder.Order).Take: function 68 -/
def reorder_Order_Take.f (a0 : reorder_Order) : Option (List Int × Bool × reorder_Order) := (if (a0.ready.length : Int) = 0 then some (([] : List Int), false, a0) else (if 0 ≤ (0 : Int) ∧ (0 : Int) < (a0.ready.length : Int) then (if 0 ≤ (1 : Int) ∧ (1 : Int) ≤ (a0.ready.length : Int) ∧ (a0.ready.length : Int) ≤ (a0.ready.length : Int) then some (a0.ready.getD (0 : Int).toNat [], true, ({ m := a0.m, window := a0.window, next := a0.next, kept := a0.kept, ready := cut a0.ready (1 : Int) (a0.ready.length : Int) } : reorder_Order)) else none) else none))
set_option maxRecDepth 100000 in
set_option maxHeartbeats 4000000 in
theorem reorder_Order_Take.calls (a0 : reorder_Order) (R : As) (w0 w : World) (b0 : Nat) (r : List Int × Bool × reorder_Order)  (H : reorder_Order_Take.f a0 = some r) (HS : Sep.St [reorder_Order.at b0 a0, R] w0 w) : Calls Try.prog 68 #[Value.pointer (some ⟨b0, 0, none⟩)] w (Ret fun u w => ∃ (aq0 : Option Addr) (cq0 : Nat), u = Value.tuple #[Value.slice aq0 r.1.length cq0, Value.bool r.2.1] ∧ Sep.St [fsl 1 (.slice aq0 r.1.length cq0) r.1.length (r.1.map (Value.int .u8)), reorder_Order.at b0 r.2.2, R] w0 w) := by
  unfold reorder_Order_Take.f at H
  refine calls_enter Try.func68 rfl rfl ?_
  have H : _ = some r := H
  refine V.seq ?_
  refine V.region ?_
  refine W.rd (X.assign rfl) rfl rfl rfl ?_
  refine W.rd (X.assign rfl) rfl rfl rfl ?_
  refine W.nil ?_
  refine At.next ?_
  refine V.seq ?_
  refine V.seq ?_
  refine V.region ?_
  refine W.rd (X.move rfl) rfl rfl rfl ?_
  refine W.rd (X.nilCheck rfl) rfl rfl rfl ?_
  obtain ⟨b3_1, k3_1, a4_1, c4_1, d4_1, hi2, HS⟩ := reorder_Order.open HS
  refine W.rd (X.fieldAddr 4 fo106_4 rfl) rfl rfl rfl ?_
  refine W.rd (X.loadAt 0 HS rfl Try.underlying30 rfl rfl rfl) rfl rfl rfl ?_
  refine W.rd (X.lenSl Try.underlying30 rfl) rfl rfl rfl ?_
  refine W.rd (X.cmp (decide ((a0.ready.length : Int) = 0)) rfl rfl rfl rfl) rfl rfl rfl ?_
  refine W.nil ?_
  refine At.next ?_
  by_cases c3 : (a0.ready.length : Int) = 0
  · replace H := ite_t c3 H
    refine V.condT (sb (decide_eq_true c3)) ?_
    refine V.seq ?_
    refine V.region ?_
    refine W.rd (X.assign rfl) rfl rfl rfl ?_
    refine W.rd (X.assign rfl) rfl rfl rfl ?_
    refine W.nil ?_
    refine At.next ?_
    refine V.ret ?_
    refine At.thenRet ?_
    replace HS := row_nil' (e := 5) 1 none HS
    have HS : Sep.St [row 5 1 (.slice none ([] : List Int).length 0) ([] : List Int).length (([] : List Int).map (Value.int .u8)), blk b0 (#[Value.int .i64 a0.m, Value.int .i64 a0.window, Value.int .i64 a0.next, Value.map (some b3_1), Value.slice a4_1 a0.ready.length c4_1]) 106, mblk b3_1 k3_1, tieM (El.sl (El.int .u8)) k3_1 a0.kept, row 39 1 (.slice a4_1 a0.ready.length c4_1) a0.ready.length d4_1, tie (El.sl (El.int .u8)) d4_1 a0.ready, R] w0 w := HS
    replace HS := St.row_freeze HS
    replace HS := HS.re [1, 2, 3, 4, 5, 0, 6] (by kernel_rfl)
    replace HS := reorder_Order.close a0 trivial HS
    replace HS := HS.sel [1, 0, 2] [] (by kernel_rfl)
    cases H
    exact At.ret2 rfl rfl rfl ⟨_, rfl, none, 0, rfl, HS⟩
  · replace H := ite_f c3 H
    refine V.condF (sb (decide_eq_false c3)) ?_
    refine V.skip ?_
    refine At.next ?_
    refine V.seq ?_
    refine V.region ?_
    refine W.rd (X.move rfl) rfl rfl rfl ?_
    refine W.rd (X.nilCheck rfl) rfl rfl rfl ?_
    refine W.rd (X.fieldAddr 4 fo106_4 rfl) rfl rfl rfl ?_
    refine W.rd (X.loadAt 0 HS rfl Try.underlying30 rfl rfl rfl) rfl rfl rfl ?_
    obtain ⟨c4, H⟩ := ite_n H
    obtain ⟨eb5, eo6, hh⟩ := (rdC.at 3 row_rd HS rfl).some (by decide) c4.1 c4.2; subst hh
    refine W.rd (X.indexSl Try.underlying30 inf39 rfl rfl c4.1 c4.2) rfl rfl rfl ?_
    obtain ⟨ec7, hc8, HS⟩ := St.tie_at 4 HS rfl ([]) c4.1 c4.2
    obtain ⟨ea9, em10, he12, HN⟩ := St.sl_openF (Value.int .u8) (fun t => tie_int t) HS; clear HS; subst he12; have HS := HN
    refine W.rd (X.load Try.underlying39 rfl rfl ((rdC.at 4 row_rd HS rfl).cellEl0 (hc8 0 _ rfl))) rfl rfl rfl ?_
    refine W.rd (X.assign rfl) rfl rfl rfl ?_
    refine W.nil ?_
    refine At.next ?_
    refine V.seq ?_
    refine V.region ?_
    refine W.rd (X.move rfl) rfl rfl rfl ?_
    refine W.rd (X.move rfl) rfl rfl rfl ?_
    refine W.rd (X.nilCheck rfl) rfl rfl rfl ?_
    refine W.rd (X.fieldAddr 4 fo106_4 rfl) rfl rfl rfl ?_
    refine W.rd (X.loadAt 1 HS rfl Try.underlying30 rfl rfl rfl) rfl rfl rfl ?_
    obtain ⟨c13, H⟩ := ite_n H
    refine W.rd (X.slL Try.underlying30 inf39 rfl rfl c13) rfl rfl rfl ?_
    refine W.rd (X.nilCheck rfl) rfl rfl rfl ?_
    refine W.rd (X.fieldAddr 4 fo106_4 rfl) rfl rfl rfl ?_
    refine W.ev_none (Y.storeAt 1 HS rfl inf30 rfl rfl rfl rfl rfl rfl) rfl rfl ?_
    rintro _ w HS
    refine W.nil ?_
    refine At.next ?_
    refine V.seq ?_
    refine V.region ?_
    refine W.rd (X.move rfl) rfl rfl rfl ?_
    refine W.rd (X.assign rfl) rfl rfl rfl ?_
    refine W.rd (X.assign rfl) rfl rfl rfl ?_
    refine W.nil ?_
    refine At.next ?_
    refine V.ret ?_
    replace HS := HS.front 4 rfl
    replace HS := St.row_sub HS c13
    replace HS := HS.front 5 rfl
    replace HS := St.tie_cut (1 : Int) (a0.ready.length : Int) HS
    replace HS := HS.re [3, 4, 5, 1, 0, 2, 6] (by kernel_rfl)
    replace HS := reorder_Order.close (({ m := a0.m, window := a0.window, next := a0.next, kept := a0.kept, ready := cut a0.ready (1 : Int) (a0.ready.length : Int) } : reorder_Order)) trivial HS
    replace HS := HS.sel [1, 0, 2] [] (by kernel_rfl)
    cases H
    exact At.ret2 rfl rfl rfl ⟨_, rfl, ea9, em10, rfl, HS⟩

/-! ### (*signalman/arq.Arq).Recv: function 31 -/
def arq_Arq_Recv.f (a0 : arq_Arq) : Option (List Int × Bool × arq_Arq) := ((reorder_Order_Take.f a0.order).bind fun t3 => some (t3.1, t3.2.1, ({ m := a0.m, t1 := a0.t1, n2 := a0.n2, size := a0.size, state := a0.state, tag := a0.tag, tries := a0.tries, rejected := a0.rejected, log := a0.log, order := t3.2.2, timers := a0.timers, out := a0.out, inds := a0.inds, sent := a0.sent, acked := a0.acked, lost := a0.lost } : arq_Arq)))
set_option maxRecDepth 100000 in
set_option maxHeartbeats 4000000 in
theorem arq_Arq_Recv.calls (a0 : arq_Arq) (R : As) (w0 w : World) (b0 : Nat) (r : List Int × Bool × arq_Arq)  (H : arq_Arq_Recv.f a0 = some r) (HS : Sep.St [arq_Arq.at b0 a0, R] w0 w) : Calls Try.prog 31 #[Value.pointer (some ⟨b0, 0, none⟩)] w (Ret fun u w => ∃ (aq0 : Option Addr) (cq0 : Nat), u = Value.tuple #[Value.slice aq0 r.1.length cq0, Value.bool r.2.1] ∧ Sep.St [fsl 1 (.slice aq0 r.1.length cq0) r.1.length (r.1.map (Value.int .u8)), arq_Arq.at b0 r.2.2, R] w0 w) := by
  unfold arq_Arq_Recv.f at H
  refine calls_enter Try.func31 rfl rfl ?_
  have H : _ = some r := H
  refine V.seq ?_
  refine V.region ?_
  refine W.rd (X.assign rfl) rfl rfl rfl ?_
  refine W.rd (X.assign rfl) rfl rfl rfl ?_
  refine W.nil ?_
  refine At.next ?_
  refine V.seq ?_
  refine V.region ?_
  refine W.rd (X.move rfl) rfl rfl rfl ?_
  refine W.rd (X.nilCheck rfl) rfl rfl rfl ?_
  obtain ⟨b8_1, b9_1, b10_1, a11_1, c11_1, d11_1, a12_1, c12_1, hi2, HS⟩ := arq_Arq.open HS
  refine W.rd (X.fieldAddr 9 fo82_9 rfl) rfl rfl rfl ?_
  refine W.rd (X.loadAt 0 HS rfl Try.underlying76 rfl rfl rfl) rfl rfl rfl ?_
  obtain ⟨t3, A4, H⟩ := bind_s H
  replace HS := HS.re [2, 0, 1, 3, 4, 5, 6, 7] (by kernel_rfl)
  refine W.ev (Y.call Try.func68 (by kernel_rfl) rfl (vs := [Value.pointer (some ⟨b9_1, 0, none⟩)]) rfl (reorder_Order_Take.calls a0.order _ w0 _ b9_1 t3  A4 (Sep.St.tailJoin (m := [reorder_Order.at b9_1 a0.order]) (r := [blk b0 (#[Value.int .i64 a0.m, Value.int .i64 a0.t1, Value.int .i64 a0.n2, Value.int .i64 a0.size, Value.int .i64 a0.state, Value.int .i64 a0.tag, Value.int .i64 a0.tries, Value.bool a0.rejected, Value.pointer (some ⟨b8_1, 0, none⟩), Value.pointer (some ⟨b9_1, 0, none⟩), Value.pointer (some ⟨b10_1, 0, none⟩), Value.slice a11_1 a0.out.length c11_1, Value.slice a12_1 a0.inds.length c12_1, Value.int .i64 a0.sent, Value.int .i64 a0.acked, Value.int .i64 a0.lost]) 82, backlog_Log.at b8_1 a0.log, clock_Set.at b10_1 a0.timers, row 39 1 (.slice a11_1 a0.out.length c11_1) a0.out.length d11_1, tie (El.sl (El.int .u8)) d11_1 a0.out, row 3 1 (.slice a12_1 a0.inds.length c12_1) a0.inds.length (a0.inds.map (Value.int .i64)), R]) HS))) rfl rfl rfl ?_
  rintro _ w ⟨at3_0, ct3_0, rfl, HS⟩
  replace HS := Sep.St.tailOpen (m := [fsl 1 (.slice at3_0 t3.1.length ct3_0) t3.1.length (t3.1.map (Value.int .u8)), reorder_Order.at b9_1 t3.2.2]) (r := [blk b0 (#[Value.int .i64 a0.m, Value.int .i64 a0.t1, Value.int .i64 a0.n2, Value.int .i64 a0.size, Value.int .i64 a0.state, Value.int .i64 a0.tag, Value.int .i64 a0.tries, Value.bool a0.rejected, Value.pointer (some ⟨b8_1, 0, none⟩), Value.pointer (some ⟨b9_1, 0, none⟩), Value.pointer (some ⟨b10_1, 0, none⟩), Value.slice a11_1 a0.out.length c11_1, Value.slice a12_1 a0.inds.length c12_1, Value.int .i64 a0.sent, Value.int .i64 a0.acked, Value.int .i64 a0.lost]) 82, backlog_Log.at b8_1 a0.log, clock_Set.at b10_1 a0.timers, row 39 1 (.slice a11_1 a0.out.length c11_1) a0.out.length d11_1, tie (El.sl (El.int .u8)) d11_1 a0.out, row 3 1 (.slice a12_1 a0.inds.length c12_1) a0.inds.length (a0.inds.map (Value.int .i64)), R]) HS
  refine W.rd (X.extract rfl rfl) rfl rfl rfl ?_
  refine W.rd (X.extract rfl rfl) rfl rfl rfl ?_
  refine W.rd (X.assign rfl) rfl rfl rfl ?_
  refine W.rd (X.assign rfl) rfl rfl rfl ?_
  refine W.nil ?_
  refine At.next ?_
  refine V.ret ?_
  replace HS := HS.re [2, 3, 1, 4, 5, 6, 7, 0, 8] (by kernel_rfl)
  replace HS := arq_Arq.close ({ m := a0.m, t1 := a0.t1, n2 := a0.n2, size := a0.size, state := a0.state, tag := a0.tag, tries := a0.tries, rejected := a0.rejected, log := a0.log, order := t3.2.2, timers := a0.timers, out := a0.out, inds := a0.inds, sent := a0.sent, acked := a0.acked, lost := a0.lost } : arq_Arq) trivial HS
  replace HS := HS.sel [1, 0, 2] [] (by kernel_rfl)
  cases H
  exact At.ret2 rfl rfl rfl ⟨_, rfl, at3_0, ct3_0, rfl, HS⟩

/-! ### (*signalman/arq.Arq).Inds: function 23 -/
def arq_Arq_Inds.f (a0 : arq_Arq) : Option (List Int × arq_Arq) := some (a0.inds, ({ m := a0.m, t1 := a0.t1, n2 := a0.n2, size := a0.size, state := a0.state, tag := a0.tag, tries := a0.tries, rejected := a0.rejected, log := a0.log, order := a0.order, timers := a0.timers, out := a0.out, inds := ([] : List Int), sent := a0.sent, acked := a0.acked, lost := a0.lost } : arq_Arq))
set_option maxRecDepth 100000 in
set_option maxHeartbeats 4000000 in
theorem arq_Arq_Inds.calls (a0 : arq_Arq) (R : As) (w0 w : World) (b0 : Nat) (r : List Int × arq_Arq)  (H : arq_Arq_Inds.f a0 = some r) (HS : Sep.St [arq_Arq.at b0 a0, R] w0 w) : Calls Try.prog 23 #[Value.pointer (some ⟨b0, 0, none⟩)] w (Ret fun u w => ∃ (aq0 : Option Addr) (cq0 : Nat), u = Value.slice aq0 r.1.length cq0 ∧ Sep.St [row 3 1 (.slice aq0 r.1.length cq0) r.1.length (r.1.map (Value.int .i64)), arq_Arq.at b0 r.2, R] w0 w) := by
  unfold arq_Arq_Inds.f at H
  refine calls_enter Try.func23 rfl rfl ?_
  have H : _ = some r := H
  refine V.seq ?_
  refine V.region ?_
  refine W.rd (X.assign rfl) rfl rfl rfl ?_
  refine W.nil ?_
  refine At.next ?_
  refine V.seq ?_
  refine V.region ?_
  refine W.rd (X.move rfl) rfl rfl rfl ?_
  refine W.rd (X.nilCheck rfl) rfl rfl rfl ?_
  obtain ⟨b8_1, b9_1, b10_1, a11_1, c11_1, d11_1, a12_1, c12_1, hi2, HS⟩ := arq_Arq.open HS
  refine W.rd (X.fieldAddr 12 fo82_12 rfl) rfl rfl rfl ?_
  refine W.rd (X.loadAt 0 HS rfl Try.underlying34 rfl rfl rfl) rfl rfl rfl ?_
  refine W.rd (X.assign rfl) rfl rfl rfl ?_
  refine W.nil ?_
  refine At.next ?_
  refine V.seq ?_
  refine V.region ?_
  refine W.rd (X.move rfl) rfl rfl rfl ?_
  refine W.rd (X.nilCheck rfl) rfl rfl rfl ?_
  refine W.rd (X.fieldAddr 12 fo82_12 rfl) rfl rfl rfl ?_
  refine W.ev_none (Y.storeAt 0 HS rfl inf34 rfl rfl rfl rfl rfl rfl) rfl rfl ?_
  rintro _ w HS
  refine W.nil ?_
  refine At.next ?_
  refine V.seq ?_
  refine V.region ?_
  refine W.rd (X.move rfl) rfl rfl rfl ?_
  refine W.rd (X.assign rfl) rfl rfl rfl ?_
  refine W.nil ?_
  refine At.next ?_
  refine V.ret ?_
  replace HS := row_nil' (e := 3) 1 none HS
  have HS : Sep.St [row 3 1 (.slice none ([] : List Int).length 0) ([] : List Int).length (([] : List Int).map (Value.int .i64)), blk b0 (#[Value.int .i64 a0.m, Value.int .i64 a0.t1, Value.int .i64 a0.n2, Value.int .i64 a0.size, Value.int .i64 a0.state, Value.int .i64 a0.tag, Value.int .i64 a0.tries, Value.bool a0.rejected, Value.pointer (some ⟨b8_1, 0, none⟩), Value.pointer (some ⟨b9_1, 0, none⟩), Value.pointer (some ⟨b10_1, 0, none⟩), Value.slice a11_1 a0.out.length c11_1, Value.slice none 0 0, Value.int .i64 a0.sent, Value.int .i64 a0.acked, Value.int .i64 a0.lost]) 82, backlog_Log.at b8_1 a0.log, reorder_Order.at b9_1 a0.order, clock_Set.at b10_1 a0.timers, row 39 1 (.slice a11_1 a0.out.length c11_1) a0.out.length d11_1, tie (El.sl (El.int .u8)) d11_1 a0.out, row 3 1 (.slice a12_1 a0.inds.length c12_1) a0.inds.length (a0.inds.map (Value.int .i64)), R] w0 w := HS
  replace HS := HS.re [1, 2, 3, 4, 5, 6, 0, 7, 8] (by kernel_rfl)
  replace HS := arq_Arq.close (({ m := a0.m, t1 := a0.t1, n2 := a0.n2, size := a0.size, state := a0.state, tag := a0.tag, tries := a0.tries, rejected := a0.rejected, log := a0.log, order := a0.order, timers := a0.timers, out := a0.out, inds := ([] : List Int), sent := a0.sent, acked := a0.acked, lost := a0.lost } : arq_Arq)) trivial HS
  replace HS := HS.sel [1, 0, 2] [] (by kernel_rfl)
  cases H
  exact At.ret1 rfl rfl ⟨_, rfl, a12_1, c12_1, rfl, HS⟩

structure signalmanlaw15_pair where
  a : (arq_Arq × arq_Arq)
  way : (List (List Int) × List (List Int))
  heard : (List (List Int) × List (List Int))
  said : (List (List Int) × List (List Int))
  downs : Int
deriving DecidableEq, Inhabited

def signalmanlaw15_pair.at (b : Nat) (x : signalmanlaw15_pair) : As := fun h => True ∧ ∃ b0 : Nat, ∃ b1 : Nat, ∃ a2 : Option Addr, ∃ c2 : Nat, ∃ d2 : List Value, ∃ a3 : Option Addr, ∃ c3 : Nat, ∃ d3 : List Value, ∃ a4 : Option Addr, ∃ c4 : Nat, ∃ a5 : Option Addr, ∃ c5 : Nat, ∃ a6 : Option Addr, ∃ c6 : Nat, ∃ a7 : Option Addr, ∃ c7 : Nat, Sp [blk b (#[Value.pointer (some ⟨b0, 0, none⟩), Value.pointer (some ⟨b1, 0, none⟩), Value.slice a2 x.way.1.length c2, Value.slice a3 x.way.2.length c3, Value.slice a4 x.heard.1.length c4, Value.slice a5 x.heard.2.length c5, Value.slice a6 x.said.1.length c6, Value.slice a7 x.said.2.length c7, Value.int .i64 x.downs]) 59, arq_Arq.at b0 x.a.1, arq_Arq.at b1 x.a.2, row 39 1 (.slice a2 x.way.1.length c2) x.way.1.length d2, tie (El.sl (El.int .u8)) d2 x.way.1, row 39 1 (.slice a3 x.way.2.length c3) x.way.2.length d3, tie (El.sl (El.int .u8)) d3 x.way.2, row 9 1 (.slice a4 x.heard.1.length c4) x.heard.1.length (x.heard.1.map (fun x => Value.string (strOf x))), row 9 1 (.slice a5 x.heard.2.length c5) x.heard.2.length (x.heard.2.map (fun x => Value.string (strOf x))), row 9 1 (.slice a6 x.said.1.length c6) x.said.1.length (x.said.1.map (fun x => Value.string (strOf x))), row 9 1 (.slice a7 x.said.2.length c7) x.said.2.length (x.said.2.map (fun x => Value.string (strOf x)))] h
theorem signalmanlaw15_pair.open {b : Nat} {x : signalmanlaw15_pair} {L : List As} {w0 w : World} (hs : Sep.St (signalmanlaw15_pair.at b x :: L) w0 w) : ∃ b0 : Nat, ∃ b1 : Nat, ∃ a2 : Option Addr, ∃ c2 : Nat, ∃ d2 : List Value, ∃ a3 : Option Addr, ∃ c3 : Nat, ∃ d3 : List Value, ∃ a4 : Option Addr, ∃ c4 : Nat, ∃ a5 : Option Addr, ∃ c5 : Nat, ∃ a6 : Option Addr, ∃ c6 : Nat, ∃ a7 : Option Addr, ∃ c7 : Nat, True ∧ Sep.St (blk b (#[Value.pointer (some ⟨b0, 0, none⟩), Value.pointer (some ⟨b1, 0, none⟩), Value.slice a2 x.way.1.length c2, Value.slice a3 x.way.2.length c3, Value.slice a4 x.heard.1.length c4, Value.slice a5 x.heard.2.length c5, Value.slice a6 x.said.1.length c6, Value.slice a7 x.said.2.length c7, Value.int .i64 x.downs]) 59 :: arq_Arq.at b0 x.a.1 :: arq_Arq.at b1 x.a.2 :: row 39 1 (.slice a2 x.way.1.length c2) x.way.1.length d2 :: tie (El.sl (El.int .u8)) d2 x.way.1 :: row 39 1 (.slice a3 x.way.2.length c3) x.way.2.length d3 :: tie (El.sl (El.int .u8)) d3 x.way.2 :: row 9 1 (.slice a4 x.heard.1.length c4) x.heard.1.length (x.heard.1.map (fun x => Value.string (strOf x))) :: row 9 1 (.slice a5 x.heard.2.length c5) x.heard.2.length (x.heard.2.map (fun x => Value.string (strOf x))) :: row 9 1 (.slice a6 x.said.1.length c6) x.said.1.length (x.said.1.map (fun x => Value.string (strOf x))) :: row 9 1 (.slice a7 x.said.2.length c7) x.said.2.length (x.said.2.map (fun x => Value.string (strOf x))) :: L) w0 w := by
  have h1 := St.pure.1 (show St ((fun h => True ∧ (fun h => ∃ b0 : Nat, ∃ b1 : Nat, ∃ a2 : Option Addr, ∃ c2 : Nat, ∃ d2 : List Value, ∃ a3 : Option Addr, ∃ c3 : Nat, ∃ d3 : List Value, ∃ a4 : Option Addr, ∃ c4 : Nat, ∃ a5 : Option Addr, ∃ c5 : Nat, ∃ a6 : Option Addr, ∃ c6 : Nat, ∃ a7 : Option Addr, ∃ c7 : Nat, Sp [blk b (#[Value.pointer (some ⟨b0, 0, none⟩), Value.pointer (some ⟨b1, 0, none⟩), Value.slice a2 x.way.1.length c2, Value.slice a3 x.way.2.length c3, Value.slice a4 x.heard.1.length c4, Value.slice a5 x.heard.2.length c5, Value.slice a6 x.said.1.length c6, Value.slice a7 x.said.2.length c7, Value.int .i64 x.downs]) 59, arq_Arq.at b0 x.a.1, arq_Arq.at b1 x.a.2, row 39 1 (.slice a2 x.way.1.length c2) x.way.1.length d2, tie (El.sl (El.int .u8)) d2 x.way.1, row 39 1 (.slice a3 x.way.2.length c3) x.way.2.length d3, tie (El.sl (El.int .u8)) d3 x.way.2, row 9 1 (.slice a4 x.heard.1.length c4) x.heard.1.length (x.heard.1.map (fun x => Value.string (strOf x))), row 9 1 (.slice a5 x.heard.2.length c5) x.heard.2.length (x.heard.2.map (fun x => Value.string (strOf x))), row 9 1 (.slice a6 x.said.1.length c6) x.said.1.length (x.said.1.map (fun x => Value.string (strOf x))), row 9 1 (.slice a7 x.said.2.length c7) x.said.2.length (x.said.2.map (fun x => Value.string (strOf x)))] h) h) :: L) w0 w from hs)
  obtain ⟨hi, hs⟩ := h1
  obtain ⟨b0, hs⟩ := St.ex.1 (show St ((fun h => ∃ b0 : Nat, (fun h => ∃ b1 : Nat, ∃ a2 : Option Addr, ∃ c2 : Nat, ∃ d2 : List Value, ∃ a3 : Option Addr, ∃ c3 : Nat, ∃ d3 : List Value, ∃ a4 : Option Addr, ∃ c4 : Nat, ∃ a5 : Option Addr, ∃ c5 : Nat, ∃ a6 : Option Addr, ∃ c6 : Nat, ∃ a7 : Option Addr, ∃ c7 : Nat, Sp [blk b (#[Value.pointer (some ⟨b0, 0, none⟩), Value.pointer (some ⟨b1, 0, none⟩), Value.slice a2 x.way.1.length c2, Value.slice a3 x.way.2.length c3, Value.slice a4 x.heard.1.length c4, Value.slice a5 x.heard.2.length c5, Value.slice a6 x.said.1.length c6, Value.slice a7 x.said.2.length c7, Value.int .i64 x.downs]) 59, arq_Arq.at b0 x.a.1, arq_Arq.at b1 x.a.2, row 39 1 (.slice a2 x.way.1.length c2) x.way.1.length d2, tie (El.sl (El.int .u8)) d2 x.way.1, row 39 1 (.slice a3 x.way.2.length c3) x.way.2.length d3, tie (El.sl (El.int .u8)) d3 x.way.2, row 9 1 (.slice a4 x.heard.1.length c4) x.heard.1.length (x.heard.1.map (fun x => Value.string (strOf x))), row 9 1 (.slice a5 x.heard.2.length c5) x.heard.2.length (x.heard.2.map (fun x => Value.string (strOf x))), row 9 1 (.slice a6 x.said.1.length c6) x.said.1.length (x.said.1.map (fun x => Value.string (strOf x))), row 9 1 (.slice a7 x.said.2.length c7) x.said.2.length (x.said.2.map (fun x => Value.string (strOf x)))] h) h) :: L) w0 w from hs)
  obtain ⟨b1, hs⟩ := St.ex.1 (show St ((fun h => ∃ b1 : Nat, (fun h => ∃ a2 : Option Addr, ∃ c2 : Nat, ∃ d2 : List Value, ∃ a3 : Option Addr, ∃ c3 : Nat, ∃ d3 : List Value, ∃ a4 : Option Addr, ∃ c4 : Nat, ∃ a5 : Option Addr, ∃ c5 : Nat, ∃ a6 : Option Addr, ∃ c6 : Nat, ∃ a7 : Option Addr, ∃ c7 : Nat, Sp [blk b (#[Value.pointer (some ⟨b0, 0, none⟩), Value.pointer (some ⟨b1, 0, none⟩), Value.slice a2 x.way.1.length c2, Value.slice a3 x.way.2.length c3, Value.slice a4 x.heard.1.length c4, Value.slice a5 x.heard.2.length c5, Value.slice a6 x.said.1.length c6, Value.slice a7 x.said.2.length c7, Value.int .i64 x.downs]) 59, arq_Arq.at b0 x.a.1, arq_Arq.at b1 x.a.2, row 39 1 (.slice a2 x.way.1.length c2) x.way.1.length d2, tie (El.sl (El.int .u8)) d2 x.way.1, row 39 1 (.slice a3 x.way.2.length c3) x.way.2.length d3, tie (El.sl (El.int .u8)) d3 x.way.2, row 9 1 (.slice a4 x.heard.1.length c4) x.heard.1.length (x.heard.1.map (fun x => Value.string (strOf x))), row 9 1 (.slice a5 x.heard.2.length c5) x.heard.2.length (x.heard.2.map (fun x => Value.string (strOf x))), row 9 1 (.slice a6 x.said.1.length c6) x.said.1.length (x.said.1.map (fun x => Value.string (strOf x))), row 9 1 (.slice a7 x.said.2.length c7) x.said.2.length (x.said.2.map (fun x => Value.string (strOf x)))] h) h) :: L) w0 w from hs)
  obtain ⟨a2, hs⟩ := St.ex.1 (show St ((fun h => ∃ a2 : Option Addr, (fun h => ∃ c2 : Nat, ∃ d2 : List Value, ∃ a3 : Option Addr, ∃ c3 : Nat, ∃ d3 : List Value, ∃ a4 : Option Addr, ∃ c4 : Nat, ∃ a5 : Option Addr, ∃ c5 : Nat, ∃ a6 : Option Addr, ∃ c6 : Nat, ∃ a7 : Option Addr, ∃ c7 : Nat, Sp [blk b (#[Value.pointer (some ⟨b0, 0, none⟩), Value.pointer (some ⟨b1, 0, none⟩), Value.slice a2 x.way.1.length c2, Value.slice a3 x.way.2.length c3, Value.slice a4 x.heard.1.length c4, Value.slice a5 x.heard.2.length c5, Value.slice a6 x.said.1.length c6, Value.slice a7 x.said.2.length c7, Value.int .i64 x.downs]) 59, arq_Arq.at b0 x.a.1, arq_Arq.at b1 x.a.2, row 39 1 (.slice a2 x.way.1.length c2) x.way.1.length d2, tie (El.sl (El.int .u8)) d2 x.way.1, row 39 1 (.slice a3 x.way.2.length c3) x.way.2.length d3, tie (El.sl (El.int .u8)) d3 x.way.2, row 9 1 (.slice a4 x.heard.1.length c4) x.heard.1.length (x.heard.1.map (fun x => Value.string (strOf x))), row 9 1 (.slice a5 x.heard.2.length c5) x.heard.2.length (x.heard.2.map (fun x => Value.string (strOf x))), row 9 1 (.slice a6 x.said.1.length c6) x.said.1.length (x.said.1.map (fun x => Value.string (strOf x))), row 9 1 (.slice a7 x.said.2.length c7) x.said.2.length (x.said.2.map (fun x => Value.string (strOf x)))] h) h) :: L) w0 w from hs)
  obtain ⟨c2, hs⟩ := St.ex.1 (show St ((fun h => ∃ c2 : Nat, (fun h => ∃ d2 : List Value, ∃ a3 : Option Addr, ∃ c3 : Nat, ∃ d3 : List Value, ∃ a4 : Option Addr, ∃ c4 : Nat, ∃ a5 : Option Addr, ∃ c5 : Nat, ∃ a6 : Option Addr, ∃ c6 : Nat, ∃ a7 : Option Addr, ∃ c7 : Nat, Sp [blk b (#[Value.pointer (some ⟨b0, 0, none⟩), Value.pointer (some ⟨b1, 0, none⟩), Value.slice a2 x.way.1.length c2, Value.slice a3 x.way.2.length c3, Value.slice a4 x.heard.1.length c4, Value.slice a5 x.heard.2.length c5, Value.slice a6 x.said.1.length c6, Value.slice a7 x.said.2.length c7, Value.int .i64 x.downs]) 59, arq_Arq.at b0 x.a.1, arq_Arq.at b1 x.a.2, row 39 1 (.slice a2 x.way.1.length c2) x.way.1.length d2, tie (El.sl (El.int .u8)) d2 x.way.1, row 39 1 (.slice a3 x.way.2.length c3) x.way.2.length d3, tie (El.sl (El.int .u8)) d3 x.way.2, row 9 1 (.slice a4 x.heard.1.length c4) x.heard.1.length (x.heard.1.map (fun x => Value.string (strOf x))), row 9 1 (.slice a5 x.heard.2.length c5) x.heard.2.length (x.heard.2.map (fun x => Value.string (strOf x))), row 9 1 (.slice a6 x.said.1.length c6) x.said.1.length (x.said.1.map (fun x => Value.string (strOf x))), row 9 1 (.slice a7 x.said.2.length c7) x.said.2.length (x.said.2.map (fun x => Value.string (strOf x)))] h) h) :: L) w0 w from hs)
  obtain ⟨d2, hs⟩ := St.ex.1 (show St ((fun h => ∃ d2 : List Value, (fun h => ∃ a3 : Option Addr, ∃ c3 : Nat, ∃ d3 : List Value, ∃ a4 : Option Addr, ∃ c4 : Nat, ∃ a5 : Option Addr, ∃ c5 : Nat, ∃ a6 : Option Addr, ∃ c6 : Nat, ∃ a7 : Option Addr, ∃ c7 : Nat, Sp [blk b (#[Value.pointer (some ⟨b0, 0, none⟩), Value.pointer (some ⟨b1, 0, none⟩), Value.slice a2 x.way.1.length c2, Value.slice a3 x.way.2.length c3, Value.slice a4 x.heard.1.length c4, Value.slice a5 x.heard.2.length c5, Value.slice a6 x.said.1.length c6, Value.slice a7 x.said.2.length c7, Value.int .i64 x.downs]) 59, arq_Arq.at b0 x.a.1, arq_Arq.at b1 x.a.2, row 39 1 (.slice a2 x.way.1.length c2) x.way.1.length d2, tie (El.sl (El.int .u8)) d2 x.way.1, row 39 1 (.slice a3 x.way.2.length c3) x.way.2.length d3, tie (El.sl (El.int .u8)) d3 x.way.2, row 9 1 (.slice a4 x.heard.1.length c4) x.heard.1.length (x.heard.1.map (fun x => Value.string (strOf x))), row 9 1 (.slice a5 x.heard.2.length c5) x.heard.2.length (x.heard.2.map (fun x => Value.string (strOf x))), row 9 1 (.slice a6 x.said.1.length c6) x.said.1.length (x.said.1.map (fun x => Value.string (strOf x))), row 9 1 (.slice a7 x.said.2.length c7) x.said.2.length (x.said.2.map (fun x => Value.string (strOf x)))] h) h) :: L) w0 w from hs)
  obtain ⟨a3, hs⟩ := St.ex.1 (show St ((fun h => ∃ a3 : Option Addr, (fun h => ∃ c3 : Nat, ∃ d3 : List Value, ∃ a4 : Option Addr, ∃ c4 : Nat, ∃ a5 : Option Addr, ∃ c5 : Nat, ∃ a6 : Option Addr, ∃ c6 : Nat, ∃ a7 : Option Addr, ∃ c7 : Nat, Sp [blk b (#[Value.pointer (some ⟨b0, 0, none⟩), Value.pointer (some ⟨b1, 0, none⟩), Value.slice a2 x.way.1.length c2, Value.slice a3 x.way.2.length c3, Value.slice a4 x.heard.1.length c4, Value.slice a5 x.heard.2.length c5, Value.slice a6 x.said.1.length c6, Value.slice a7 x.said.2.length c7, Value.int .i64 x.downs]) 59, arq_Arq.at b0 x.a.1, arq_Arq.at b1 x.a.2, row 39 1 (.slice a2 x.way.1.length c2) x.way.1.length d2, tie (El.sl (El.int .u8)) d2 x.way.1, row 39 1 (.slice a3 x.way.2.length c3) x.way.2.length d3, tie (El.sl (El.int .u8)) d3 x.way.2, row 9 1 (.slice a4 x.heard.1.length c4) x.heard.1.length (x.heard.1.map (fun x => Value.string (strOf x))), row 9 1 (.slice a5 x.heard.2.length c5) x.heard.2.length (x.heard.2.map (fun x => Value.string (strOf x))), row 9 1 (.slice a6 x.said.1.length c6) x.said.1.length (x.said.1.map (fun x => Value.string (strOf x))), row 9 1 (.slice a7 x.said.2.length c7) x.said.2.length (x.said.2.map (fun x => Value.string (strOf x)))] h) h) :: L) w0 w from hs)
  obtain ⟨c3, hs⟩ := St.ex.1 (show St ((fun h => ∃ c3 : Nat, (fun h => ∃ d3 : List Value, ∃ a4 : Option Addr, ∃ c4 : Nat, ∃ a5 : Option Addr, ∃ c5 : Nat, ∃ a6 : Option Addr, ∃ c6 : Nat, ∃ a7 : Option Addr, ∃ c7 : Nat, Sp [blk b (#[Value.pointer (some ⟨b0, 0, none⟩), Value.pointer (some ⟨b1, 0, none⟩), Value.slice a2 x.way.1.length c2, Value.slice a3 x.way.2.length c3, Value.slice a4 x.heard.1.length c4, Value.slice a5 x.heard.2.length c5, Value.slice a6 x.said.1.length c6, Value.slice a7 x.said.2.length c7, Value.int .i64 x.downs]) 59, arq_Arq.at b0 x.a.1, arq_Arq.at b1 x.a.2, row 39 1 (.slice a2 x.way.1.length c2) x.way.1.length d2, tie (El.sl (El.int .u8)) d2 x.way.1, row 39 1 (.slice a3 x.way.2.length c3) x.way.2.length d3, tie (El.sl (El.int .u8)) d3 x.way.2, row 9 1 (.slice a4 x.heard.1.length c4) x.heard.1.length (x.heard.1.map (fun x => Value.string (strOf x))), row 9 1 (.slice a5 x.heard.2.length c5) x.heard.2.length (x.heard.2.map (fun x => Value.string (strOf x))), row 9 1 (.slice a6 x.said.1.length c6) x.said.1.length (x.said.1.map (fun x => Value.string (strOf x))), row 9 1 (.slice a7 x.said.2.length c7) x.said.2.length (x.said.2.map (fun x => Value.string (strOf x)))] h) h) :: L) w0 w from hs)
  obtain ⟨d3, hs⟩ := St.ex.1 (show St ((fun h => ∃ d3 : List Value, (fun h => ∃ a4 : Option Addr, ∃ c4 : Nat, ∃ a5 : Option Addr, ∃ c5 : Nat, ∃ a6 : Option Addr, ∃ c6 : Nat, ∃ a7 : Option Addr, ∃ c7 : Nat, Sp [blk b (#[Value.pointer (some ⟨b0, 0, none⟩), Value.pointer (some ⟨b1, 0, none⟩), Value.slice a2 x.way.1.length c2, Value.slice a3 x.way.2.length c3, Value.slice a4 x.heard.1.length c4, Value.slice a5 x.heard.2.length c5, Value.slice a6 x.said.1.length c6, Value.slice a7 x.said.2.length c7, Value.int .i64 x.downs]) 59, arq_Arq.at b0 x.a.1, arq_Arq.at b1 x.a.2, row 39 1 (.slice a2 x.way.1.length c2) x.way.1.length d2, tie (El.sl (El.int .u8)) d2 x.way.1, row 39 1 (.slice a3 x.way.2.length c3) x.way.2.length d3, tie (El.sl (El.int .u8)) d3 x.way.2, row 9 1 (.slice a4 x.heard.1.length c4) x.heard.1.length (x.heard.1.map (fun x => Value.string (strOf x))), row 9 1 (.slice a5 x.heard.2.length c5) x.heard.2.length (x.heard.2.map (fun x => Value.string (strOf x))), row 9 1 (.slice a6 x.said.1.length c6) x.said.1.length (x.said.1.map (fun x => Value.string (strOf x))), row 9 1 (.slice a7 x.said.2.length c7) x.said.2.length (x.said.2.map (fun x => Value.string (strOf x)))] h) h) :: L) w0 w from hs)
  obtain ⟨a4, hs⟩ := St.ex.1 (show St ((fun h => ∃ a4 : Option Addr, (fun h => ∃ c4 : Nat, ∃ a5 : Option Addr, ∃ c5 : Nat, ∃ a6 : Option Addr, ∃ c6 : Nat, ∃ a7 : Option Addr, ∃ c7 : Nat, Sp [blk b (#[Value.pointer (some ⟨b0, 0, none⟩), Value.pointer (some ⟨b1, 0, none⟩), Value.slice a2 x.way.1.length c2, Value.slice a3 x.way.2.length c3, Value.slice a4 x.heard.1.length c4, Value.slice a5 x.heard.2.length c5, Value.slice a6 x.said.1.length c6, Value.slice a7 x.said.2.length c7, Value.int .i64 x.downs]) 59, arq_Arq.at b0 x.a.1, arq_Arq.at b1 x.a.2, row 39 1 (.slice a2 x.way.1.length c2) x.way.1.length d2, tie (El.sl (El.int .u8)) d2 x.way.1, row 39 1 (.slice a3 x.way.2.length c3) x.way.2.length d3, tie (El.sl (El.int .u8)) d3 x.way.2, row 9 1 (.slice a4 x.heard.1.length c4) x.heard.1.length (x.heard.1.map (fun x => Value.string (strOf x))), row 9 1 (.slice a5 x.heard.2.length c5) x.heard.2.length (x.heard.2.map (fun x => Value.string (strOf x))), row 9 1 (.slice a6 x.said.1.length c6) x.said.1.length (x.said.1.map (fun x => Value.string (strOf x))), row 9 1 (.slice a7 x.said.2.length c7) x.said.2.length (x.said.2.map (fun x => Value.string (strOf x)))] h) h) :: L) w0 w from hs)
  obtain ⟨c4, hs⟩ := St.ex.1 (show St ((fun h => ∃ c4 : Nat, (fun h => ∃ a5 : Option Addr, ∃ c5 : Nat, ∃ a6 : Option Addr, ∃ c6 : Nat, ∃ a7 : Option Addr, ∃ c7 : Nat, Sp [blk b (#[Value.pointer (some ⟨b0, 0, none⟩), Value.pointer (some ⟨b1, 0, none⟩), Value.slice a2 x.way.1.length c2, Value.slice a3 x.way.2.length c3, Value.slice a4 x.heard.1.length c4, Value.slice a5 x.heard.2.length c5, Value.slice a6 x.said.1.length c6, Value.slice a7 x.said.2.length c7, Value.int .i64 x.downs]) 59, arq_Arq.at b0 x.a.1, arq_Arq.at b1 x.a.2, row 39 1 (.slice a2 x.way.1.length c2) x.way.1.length d2, tie (El.sl (El.int .u8)) d2 x.way.1, row 39 1 (.slice a3 x.way.2.length c3) x.way.2.length d3, tie (El.sl (El.int .u8)) d3 x.way.2, row 9 1 (.slice a4 x.heard.1.length c4) x.heard.1.length (x.heard.1.map (fun x => Value.string (strOf x))), row 9 1 (.slice a5 x.heard.2.length c5) x.heard.2.length (x.heard.2.map (fun x => Value.string (strOf x))), row 9 1 (.slice a6 x.said.1.length c6) x.said.1.length (x.said.1.map (fun x => Value.string (strOf x))), row 9 1 (.slice a7 x.said.2.length c7) x.said.2.length (x.said.2.map (fun x => Value.string (strOf x)))] h) h) :: L) w0 w from hs)
  obtain ⟨a5, hs⟩ := St.ex.1 (show St ((fun h => ∃ a5 : Option Addr, (fun h => ∃ c5 : Nat, ∃ a6 : Option Addr, ∃ c6 : Nat, ∃ a7 : Option Addr, ∃ c7 : Nat, Sp [blk b (#[Value.pointer (some ⟨b0, 0, none⟩), Value.pointer (some ⟨b1, 0, none⟩), Value.slice a2 x.way.1.length c2, Value.slice a3 x.way.2.length c3, Value.slice a4 x.heard.1.length c4, Value.slice a5 x.heard.2.length c5, Value.slice a6 x.said.1.length c6, Value.slice a7 x.said.2.length c7, Value.int .i64 x.downs]) 59, arq_Arq.at b0 x.a.1, arq_Arq.at b1 x.a.2, row 39 1 (.slice a2 x.way.1.length c2) x.way.1.length d2, tie (El.sl (El.int .u8)) d2 x.way.1, row 39 1 (.slice a3 x.way.2.length c3) x.way.2.length d3, tie (El.sl (El.int .u8)) d3 x.way.2, row 9 1 (.slice a4 x.heard.1.length c4) x.heard.1.length (x.heard.1.map (fun x => Value.string (strOf x))), row 9 1 (.slice a5 x.heard.2.length c5) x.heard.2.length (x.heard.2.map (fun x => Value.string (strOf x))), row 9 1 (.slice a6 x.said.1.length c6) x.said.1.length (x.said.1.map (fun x => Value.string (strOf x))), row 9 1 (.slice a7 x.said.2.length c7) x.said.2.length (x.said.2.map (fun x => Value.string (strOf x)))] h) h) :: L) w0 w from hs)
  obtain ⟨c5, hs⟩ := St.ex.1 (show St ((fun h => ∃ c5 : Nat, (fun h => ∃ a6 : Option Addr, ∃ c6 : Nat, ∃ a7 : Option Addr, ∃ c7 : Nat, Sp [blk b (#[Value.pointer (some ⟨b0, 0, none⟩), Value.pointer (some ⟨b1, 0, none⟩), Value.slice a2 x.way.1.length c2, Value.slice a3 x.way.2.length c3, Value.slice a4 x.heard.1.length c4, Value.slice a5 x.heard.2.length c5, Value.slice a6 x.said.1.length c6, Value.slice a7 x.said.2.length c7, Value.int .i64 x.downs]) 59, arq_Arq.at b0 x.a.1, arq_Arq.at b1 x.a.2, row 39 1 (.slice a2 x.way.1.length c2) x.way.1.length d2, tie (El.sl (El.int .u8)) d2 x.way.1, row 39 1 (.slice a3 x.way.2.length c3) x.way.2.length d3, tie (El.sl (El.int .u8)) d3 x.way.2, row 9 1 (.slice a4 x.heard.1.length c4) x.heard.1.length (x.heard.1.map (fun x => Value.string (strOf x))), row 9 1 (.slice a5 x.heard.2.length c5) x.heard.2.length (x.heard.2.map (fun x => Value.string (strOf x))), row 9 1 (.slice a6 x.said.1.length c6) x.said.1.length (x.said.1.map (fun x => Value.string (strOf x))), row 9 1 (.slice a7 x.said.2.length c7) x.said.2.length (x.said.2.map (fun x => Value.string (strOf x)))] h) h) :: L) w0 w from hs)
  obtain ⟨a6, hs⟩ := St.ex.1 (show St ((fun h => ∃ a6 : Option Addr, (fun h => ∃ c6 : Nat, ∃ a7 : Option Addr, ∃ c7 : Nat, Sp [blk b (#[Value.pointer (some ⟨b0, 0, none⟩), Value.pointer (some ⟨b1, 0, none⟩), Value.slice a2 x.way.1.length c2, Value.slice a3 x.way.2.length c3, Value.slice a4 x.heard.1.length c4, Value.slice a5 x.heard.2.length c5, Value.slice a6 x.said.1.length c6, Value.slice a7 x.said.2.length c7, Value.int .i64 x.downs]) 59, arq_Arq.at b0 x.a.1, arq_Arq.at b1 x.a.2, row 39 1 (.slice a2 x.way.1.length c2) x.way.1.length d2, tie (El.sl (El.int .u8)) d2 x.way.1, row 39 1 (.slice a3 x.way.2.length c3) x.way.2.length d3, tie (El.sl (El.int .u8)) d3 x.way.2, row 9 1 (.slice a4 x.heard.1.length c4) x.heard.1.length (x.heard.1.map (fun x => Value.string (strOf x))), row 9 1 (.slice a5 x.heard.2.length c5) x.heard.2.length (x.heard.2.map (fun x => Value.string (strOf x))), row 9 1 (.slice a6 x.said.1.length c6) x.said.1.length (x.said.1.map (fun x => Value.string (strOf x))), row 9 1 (.slice a7 x.said.2.length c7) x.said.2.length (x.said.2.map (fun x => Value.string (strOf x)))] h) h) :: L) w0 w from hs)
  obtain ⟨c6, hs⟩ := St.ex.1 (show St ((fun h => ∃ c6 : Nat, (fun h => ∃ a7 : Option Addr, ∃ c7 : Nat, Sp [blk b (#[Value.pointer (some ⟨b0, 0, none⟩), Value.pointer (some ⟨b1, 0, none⟩), Value.slice a2 x.way.1.length c2, Value.slice a3 x.way.2.length c3, Value.slice a4 x.heard.1.length c4, Value.slice a5 x.heard.2.length c5, Value.slice a6 x.said.1.length c6, Value.slice a7 x.said.2.length c7, Value.int .i64 x.downs]) 59, arq_Arq.at b0 x.a.1, arq_Arq.at b1 x.a.2, row 39 1 (.slice a2 x.way.1.length c2) x.way.1.length d2, tie (El.sl (El.int .u8)) d2 x.way.1, row 39 1 (.slice a3 x.way.2.length c3) x.way.2.length d3, tie (El.sl (El.int .u8)) d3 x.way.2, row 9 1 (.slice a4 x.heard.1.length c4) x.heard.1.length (x.heard.1.map (fun x => Value.string (strOf x))), row 9 1 (.slice a5 x.heard.2.length c5) x.heard.2.length (x.heard.2.map (fun x => Value.string (strOf x))), row 9 1 (.slice a6 x.said.1.length c6) x.said.1.length (x.said.1.map (fun x => Value.string (strOf x))), row 9 1 (.slice a7 x.said.2.length c7) x.said.2.length (x.said.2.map (fun x => Value.string (strOf x)))] h) h) :: L) w0 w from hs)
  obtain ⟨a7, hs⟩ := St.ex.1 (show St ((fun h => ∃ a7 : Option Addr, (fun h => ∃ c7 : Nat, Sp [blk b (#[Value.pointer (some ⟨b0, 0, none⟩), Value.pointer (some ⟨b1, 0, none⟩), Value.slice a2 x.way.1.length c2, Value.slice a3 x.way.2.length c3, Value.slice a4 x.heard.1.length c4, Value.slice a5 x.heard.2.length c5, Value.slice a6 x.said.1.length c6, Value.slice a7 x.said.2.length c7, Value.int .i64 x.downs]) 59, arq_Arq.at b0 x.a.1, arq_Arq.at b1 x.a.2, row 39 1 (.slice a2 x.way.1.length c2) x.way.1.length d2, tie (El.sl (El.int .u8)) d2 x.way.1, row 39 1 (.slice a3 x.way.2.length c3) x.way.2.length d3, tie (El.sl (El.int .u8)) d3 x.way.2, row 9 1 (.slice a4 x.heard.1.length c4) x.heard.1.length (x.heard.1.map (fun x => Value.string (strOf x))), row 9 1 (.slice a5 x.heard.2.length c5) x.heard.2.length (x.heard.2.map (fun x => Value.string (strOf x))), row 9 1 (.slice a6 x.said.1.length c6) x.said.1.length (x.said.1.map (fun x => Value.string (strOf x))), row 9 1 (.slice a7 x.said.2.length c7) x.said.2.length (x.said.2.map (fun x => Value.string (strOf x)))] h) h) :: L) w0 w from hs)
  obtain ⟨c7, hs⟩ := St.ex.1 (show St ((fun h => ∃ c7 : Nat, (fun h => Sp [blk b (#[Value.pointer (some ⟨b0, 0, none⟩), Value.pointer (some ⟨b1, 0, none⟩), Value.slice a2 x.way.1.length c2, Value.slice a3 x.way.2.length c3, Value.slice a4 x.heard.1.length c4, Value.slice a5 x.heard.2.length c5, Value.slice a6 x.said.1.length c6, Value.slice a7 x.said.2.length c7, Value.int .i64 x.downs]) 59, arq_Arq.at b0 x.a.1, arq_Arq.at b1 x.a.2, row 39 1 (.slice a2 x.way.1.length c2) x.way.1.length d2, tie (El.sl (El.int .u8)) d2 x.way.1, row 39 1 (.slice a3 x.way.2.length c3) x.way.2.length d3, tie (El.sl (El.int .u8)) d3 x.way.2, row 9 1 (.slice a4 x.heard.1.length c4) x.heard.1.length (x.heard.1.map (fun x => Value.string (strOf x))), row 9 1 (.slice a5 x.heard.2.length c5) x.heard.2.length (x.heard.2.map (fun x => Value.string (strOf x))), row 9 1 (.slice a6 x.said.1.length c6) x.said.1.length (x.said.1.map (fun x => Value.string (strOf x))), row 9 1 (.slice a7 x.said.2.length c7) x.said.2.length (x.said.2.map (fun x => Value.string (strOf x)))] h) h) :: L) w0 w from hs)
  exact ⟨b0, b1, a2, c2, d2, a3, c3, d3, a4, c4, a5, c5, a6, c6, a7, c7, hi, St.open (m := [blk b (#[Value.pointer (some ⟨b0, 0, none⟩), Value.pointer (some ⟨b1, 0, none⟩), Value.slice a2 x.way.1.length c2, Value.slice a3 x.way.2.length c3, Value.slice a4 x.heard.1.length c4, Value.slice a5 x.heard.2.length c5, Value.slice a6 x.said.1.length c6, Value.slice a7 x.said.2.length c7, Value.int .i64 x.downs]) 59, arq_Arq.at b0 x.a.1, arq_Arq.at b1 x.a.2, row 39 1 (.slice a2 x.way.1.length c2) x.way.1.length d2, tie (El.sl (El.int .u8)) d2 x.way.1, row 39 1 (.slice a3 x.way.2.length c3) x.way.2.length d3, tie (El.sl (El.int .u8)) d3 x.way.2, row 9 1 (.slice a4 x.heard.1.length c4) x.heard.1.length (x.heard.1.map (fun x => Value.string (strOf x))), row 9 1 (.slice a5 x.heard.2.length c5) x.heard.2.length (x.heard.2.map (fun x => Value.string (strOf x))), row 9 1 (.slice a6 x.said.1.length c6) x.said.1.length (x.said.1.map (fun x => Value.string (strOf x))), row 9 1 (.slice a7 x.said.2.length c7) x.said.2.length (x.said.2.map (fun x => Value.string (strOf x)))]) hs⟩
theorem signalmanlaw15_pair.close {b : Nat} (x : signalmanlaw15_pair) {b0 : Nat} {b1 : Nat} {a2 : Option Addr} {c2 : Nat} {d2 : List Value} {a3 : Option Addr} {c3 : Nat} {d3 : List Value} {a4 : Option Addr} {c4 : Nat} {a5 : Option Addr} {c5 : Nat} {a6 : Option Addr} {c6 : Nat} {a7 : Option Addr} {c7 : Nat} {L : List As} {w0 w : World} (hi : True) (hs : Sep.St (blk b (#[Value.pointer (some ⟨b0, 0, none⟩), Value.pointer (some ⟨b1, 0, none⟩), Value.slice a2 x.way.1.length c2, Value.slice a3 x.way.2.length c3, Value.slice a4 x.heard.1.length c4, Value.slice a5 x.heard.2.length c5, Value.slice a6 x.said.1.length c6, Value.slice a7 x.said.2.length c7, Value.int .i64 x.downs]) 59 :: arq_Arq.at b0 x.a.1 :: arq_Arq.at b1 x.a.2 :: row 39 1 (.slice a2 x.way.1.length c2) x.way.1.length d2 :: tie (El.sl (El.int .u8)) d2 x.way.1 :: row 39 1 (.slice a3 x.way.2.length c3) x.way.2.length d3 :: tie (El.sl (El.int .u8)) d3 x.way.2 :: row 9 1 (.slice a4 x.heard.1.length c4) x.heard.1.length (x.heard.1.map (fun x => Value.string (strOf x))) :: row 9 1 (.slice a5 x.heard.2.length c5) x.heard.2.length (x.heard.2.map (fun x => Value.string (strOf x))) :: row 9 1 (.slice a6 x.said.1.length c6) x.said.1.length (x.said.1.map (fun x => Value.string (strOf x))) :: row 9 1 (.slice a7 x.said.2.length c7) x.said.2.length (x.said.2.map (fun x => Value.string (strOf x))) :: L) w0 w) : Sep.St (signalmanlaw15_pair.at b x :: L) w0 w := by
  have h2 := St.join (m := [blk b (#[Value.pointer (some ⟨b0, 0, none⟩), Value.pointer (some ⟨b1, 0, none⟩), Value.slice a2 x.way.1.length c2, Value.slice a3 x.way.2.length c3, Value.slice a4 x.heard.1.length c4, Value.slice a5 x.heard.2.length c5, Value.slice a6 x.said.1.length c6, Value.slice a7 x.said.2.length c7, Value.int .i64 x.downs]) 59, arq_Arq.at b0 x.a.1, arq_Arq.at b1 x.a.2, row 39 1 (.slice a2 x.way.1.length c2) x.way.1.length d2, tie (El.sl (El.int .u8)) d2 x.way.1, row 39 1 (.slice a3 x.way.2.length c3) x.way.2.length d3, tie (El.sl (El.int .u8)) d3 x.way.2, row 9 1 (.slice a4 x.heard.1.length c4) x.heard.1.length (x.heard.1.map (fun x => Value.string (strOf x))), row 9 1 (.slice a5 x.heard.2.length c5) x.heard.2.length (x.heard.2.map (fun x => Value.string (strOf x))), row 9 1 (.slice a6 x.said.1.length c6) x.said.1.length (x.said.1.map (fun x => Value.string (strOf x))), row 9 1 (.slice a7 x.said.2.length c7) x.said.2.length (x.said.2.map (fun x => Value.string (strOf x)))]) hs
  exact h2.mono fun h hh => ⟨hi, _, _, _, _, _, _, _, _, _, _, _, _, _, _, _, _, hh⟩

/-! ### (*signalman/signalmanlaw15.pair).collect: function 32 -/
mutual
def signalmanlaw15_pair_collect.l0 : Nat → Int → signalmanlaw15_pair → Option signalmanlaw15_pair
  | 0, _, _ => none
  | k + 1, x2, x3 => (if x2 < 2 then (if 0 ≤ x2 ∧ x2 < 2 then (if x2 = 0 then ((arq_Arq_Output.f x3.a.1).bind fun t80 => (if (x3.way.1.length : Int) + t80.1.length ≤ 1099511627776 then (signalmanlaw15_pair_collect.j1 k x2 (signalmanlaw15_pair_collect.l0 k) ({ a := (t80.2, x3.a.2), way := (x3.way.1 ++ t80.1, x3.way.2), heard := (x3.heard.1, x3.heard.2), said := (x3.said.1, x3.said.2), downs := x3.downs } : signalmanlaw15_pair)) else none)) else ((arq_Arq_Output.f x3.a.2).bind fun t86 => (if (x3.way.2.length : Int) + t86.1.length ≤ 1099511627776 then (signalmanlaw15_pair_collect.j1 k x2 (signalmanlaw15_pair_collect.l0 k) ({ a := (x3.a.1, t86.2), way := (x3.way.1, x3.way.2 ++ t86.1), heard := (x3.heard.1, x3.heard.2), said := (x3.said.1, x3.said.2), downs := x3.downs } : signalmanlaw15_pair)) else none))) else none) else some x3)
def signalmanlaw15_pair_collect.l2 : Nat → Int → (Int → signalmanlaw15_pair → Option signalmanlaw15_pair) → signalmanlaw15_pair → Option signalmanlaw15_pair
  | 0, _, _, _ => none
  | k + 1, x2, Lq9, x10 => (if 0 ≤ x2 ∧ x2 < 2 then (if x2 = 0 then ((arq_Arq_Recv.f x10.a.1).bind fun t71 => (signalmanlaw15_pair_collect.j3 k x2 Lq9 (signalmanlaw15_pair_collect.l2 k x2 Lq9) ({ a := (t71.2.2, x10.a.2), way := (x10.way.1, x10.way.2), heard := (x10.heard.1, x10.heard.2), said := (x10.said.1, x10.said.2), downs := x10.downs } : signalmanlaw15_pair) t71.1 t71.2.1)) else ((arq_Arq_Recv.f x10.a.2).bind fun t74 => (signalmanlaw15_pair_collect.j3 k x2 Lq9 (signalmanlaw15_pair_collect.l2 k x2 Lq9) ({ a := (x10.a.1, t74.2.2), way := (x10.way.1, x10.way.2), heard := (x10.heard.1, x10.heard.2), said := (x10.said.1, x10.said.2), downs := x10.downs } : signalmanlaw15_pair) t74.1 t74.2.1))) else none)
def signalmanlaw15_pair_collect.l5 : Nat → Int → (Int → signalmanlaw15_pair → Option signalmanlaw15_pair) → (List Int) → Int → signalmanlaw15_pair → Option signalmanlaw15_pair
  | 0, _, _, _, _, _ => none
  | k + 1, x2, Lq45, x43, x47, x48 => (if x47 < (x43.length : Int) then (if 0 ≤ x47 ∧ x47 < (x43.length : Int) then (if (x43.getD x47.toNat 0) = 1 then (signalmanlaw15_pair_collect.l5 k x2 Lq45 x43 (w64 (x47 + 1)) x48) else (signalmanlaw15_pair_collect.l5 k x2 Lq45 x43 (w64 (x47 + 1)) ({ a := (x48.a.1, x48.a.2), way := (x48.way.1, x48.way.2), heard := (x48.heard.1, x48.heard.2), said := (x48.said.1, x48.said.2), downs := w64 (x48.downs + 1) } : signalmanlaw15_pair))) else none) else (Lq45 (w64 (x2 + 1)) x48))
def signalmanlaw15_pair_collect.j4 (k : Nat) (x2 : Int) (Lq45 : Int → signalmanlaw15_pair → Option signalmanlaw15_pair) (x40 : signalmanlaw15_pair) (x43 : List Int) : Option signalmanlaw15_pair := (signalmanlaw15_pair_collect.l5 k x2 Lq45 x43 0 x40)
def signalmanlaw15_pair_collect.j3 (k : Nat) (x2 : Int) (Lq19 : Int → signalmanlaw15_pair → Option signalmanlaw15_pair) (Lq20 : signalmanlaw15_pair → Option signalmanlaw15_pair) (x13 : signalmanlaw15_pair) (x16 : List Int) (x17 : Bool) : Option signalmanlaw15_pair := (if x17 = true then (if 0 ≤ x2 ∧ x2 < 2 then (if x2 = 0 then (if (x13.heard.1.length : Int) + (([x16] : List (List Int))).length ≤ 1099511627776 then (Lq20 ({ a := (x13.a.1, x13.a.2), way := (x13.way.1, x13.way.2), heard := (x13.heard.1 ++ ([x16] : List (List Int)), x13.heard.2), said := (x13.said.1, x13.said.2), downs := x13.downs } : signalmanlaw15_pair)) else none) else (if (x13.heard.2.length : Int) + (([x16] : List (List Int))).length ≤ 1099511627776 then (Lq20 ({ a := (x13.a.1, x13.a.2), way := (x13.way.1, x13.way.2), heard := (x13.heard.1, x13.heard.2 ++ ([x16] : List (List Int))), said := (x13.said.1, x13.said.2), downs := x13.downs } : signalmanlaw15_pair)) else none)) else none) else (if 0 ≤ x2 ∧ x2 < 2 then (if x2 = 0 then ((arq_Arq_Inds.f x13.a.1).bind fun t62 => (signalmanlaw15_pair_collect.j4 k x2 Lq19 ({ a := (t62.2, x13.a.2), way := (x13.way.1, x13.way.2), heard := (x13.heard.1, x13.heard.2), said := (x13.said.1, x13.said.2), downs := x13.downs } : signalmanlaw15_pair) t62.1)) else ((arq_Arq_Inds.f x13.a.2).bind fun t65 => (signalmanlaw15_pair_collect.j4 k x2 Lq19 ({ a := (x13.a.1, t65.2), way := (x13.way.1, x13.way.2), heard := (x13.heard.1, x13.heard.2), said := (x13.said.1, x13.said.2), downs := x13.downs } : signalmanlaw15_pair) t65.1))) else none))
def signalmanlaw15_pair_collect.j1 (k : Nat) (x2 : Int) (Lq9 : Int → signalmanlaw15_pair → Option signalmanlaw15_pair) (x7 : signalmanlaw15_pair) : Option signalmanlaw15_pair := (signalmanlaw15_pair_collect.l2 k x2 Lq9 x7)
end
def signalmanlaw15_pair_collect.f (k : Nat) (a0 : signalmanlaw15_pair) : Option signalmanlaw15_pair := (signalmanlaw15_pair_collect.l0 k 0 a0)
set_option maxRecDepth 100000 in
set_option maxHeartbeats 4000000 in
theorem signalmanlaw15_pair_collect.calls (k : Nat) (a0 : signalmanlaw15_pair) (R : As) (w0 w : World) (b0 : Nat) (r : signalmanlaw15_pair)  (H : signalmanlaw15_pair_collect.f k a0 = some r) (HS : Sep.St [signalmanlaw15_pair.at b0 a0, R] w0 w) : Calls Try.prog 32 #[Value.pointer (some ⟨b0, 0, none⟩)] w (Ret fun u w => u = Value.tuple #[] ∧ Sep.St [signalmanlaw15_pair.at b0 r, R] w0 w) := by
  unfold signalmanlaw15_pair_collect.f at H
  refine calls_enter Try.func32 rfl rfl ?_
  have H : _ = some r := H
  refine V.seq ?_
  refine V.region ?_
  refine W.rd (X.assign rfl) rfl rfl rfl ?_
  refine W.nil ?_
  refine At.next ?_
  refine V.block ?_
  refine V.loop (σ := Int × signalmanlaw15_pair) (fun kq (st : Int × signalmanlaw15_pair) w => match st with | (x2, x3) => Sep.St [signalmanlaw15_pair.at b0 x3, R] w0 w ∧ signalmanlaw15_pair_collect.l0 kq x2 x3 = some r ∧ kq ≤ k) (fun st => match st with | (x2, x3) => [(0, Value.pointer (some ⟨b0, 0, none⟩)), (2, Value.int .i64 x2)]) k (0, a0) ⟨rfl, rfl, trivial⟩ ⟨HS, H, Nat.le_refl _⟩ ?_
  rintro kq4 ⟨x2, x3⟩ w ⟨HS, H, hk5⟩
  cases kq4 with
  | zero => exact absurd H (by simp [signalmanlaw15_pair_collect.l0])
  | succ kq4 =>
    simp only [signalmanlaw15_pair_collect.l0] at H
    refine V.seq ?_
    refine V.seq ?_
    refine V.region ?_
    refine W.rd (X.move rfl) rfl rfl rfl ?_
    refine W.rd (X.cmp (decide (x2 < 2)) rfl rfl rfl rfl) rfl rfl rfl ?_
    refine W.nil ?_
    refine At.next ?_
    by_cases c6 : x2 < 2
    · replace H := ite_t c6 H
      refine V.condT (sb (decide_eq_true c6)) ?_
      refine V.skip ?_
      refine At.next ?_
      refine V.seq ?_
      refine V.block ?_
      refine V.meet (σ := signalmanlaw15_pair) (fun st w => match st with | x7 => Sep.St [signalmanlaw15_pair.at b0 x7, R] w0 w ∧ ∃ kf8, kf8 ≤ kq4 ∧ signalmanlaw15_pair_collect.j1 kf8 x2 (signalmanlaw15_pair_collect.l0 kf8) x7 = some r) (fun st => match st with | x7 => [(0, Value.pointer (some ⟨b0, 0, none⟩)), (2, Value.int .i64 x2)]) ?_ ?_
      · obtain ⟨b0_76, b1_76, a2_76, c2_76, d2_76, a3_76, c3_76, d3_76, a4_76, c4_76, a5_76, c5_76, a6_76, c6_76, a7_76, c7_76, hi77, HS⟩ := signalmanlaw15_pair.open HS
        obtain ⟨c78, H⟩ := ite_n H
        by_cases c79 : x2 = 0
        · replace H := ite_t c79 H
          refine V.draw (es := [14, 15, 19]) (bl := [18]) (f := [(11, Value.pointer (some ⟨b0, 0, none⟩)), (12, Value.int .i64 x2), (13, Value.pointer (some ⟨b0, 0, none⟩)), (14, Value.int .i64 x2), (15, Value.pointer (some ⟨b0, 0, none⟩)), (16, Value.pointer (some ⟨b0, 0 + 2, none⟩)), (17, Value.pointer (some ⟨b0, 0 + 2 + 0 * 1, none⟩)), (18, Value.slice a2_76 x3.way.1.length c2_76), (19, Value.pointer (some ⟨b0, 0, none⟩)), (20, Value.int .i64 x2), (21, Value.pointer (some ⟨b0, 0, none⟩)), (22, Value.pointer (some ⟨b0, 0 + 0, none⟩)), (23, Value.pointer (some ⟨b0, 0 + 0 + 0 * 1, none⟩)), (24, Value.pointer (some ⟨b0_76, 0, none⟩)), (27, Value.pointer (some ⟨b0, 0, none⟩)), (28, Value.pointer (some ⟨b0, 0 + 2, none⟩))]) (fun w => Sep.St [blk b0 (#[Value.pointer (some ⟨b0_76, 0, none⟩), Value.pointer (some ⟨b1_76, 0, none⟩), Value.slice a2_76 x3.way.1.length c2_76, Value.slice a3_76 x3.way.2.length c3_76, Value.slice a4_76 x3.heard.1.length c4_76, Value.slice a5_76 x3.heard.2.length c5_76, Value.slice a6_76 x3.said.1.length c6_76, Value.slice a7_76 x3.said.2.length c7_76, Value.int .i64 x3.downs]) 59, arq_Arq.at b0_76 x3.a.1, arq_Arq.at b1_76 x3.a.2, row 39 1 (.slice a2_76 x3.way.1.length c2_76) x3.way.1.length d2_76, tie (El.sl (El.int .u8)) d2_76 x3.way.1, row 39 1 (.slice a3_76 x3.way.2.length c3_76) x3.way.2.length d3_76, tie (El.sl (El.int .u8)) d3_76 x3.way.2, row 9 1 (.slice a4_76 x3.heard.1.length c4_76) x3.heard.1.length (x3.heard.1.map (fun x => Value.string (strOf x))), row 9 1 (.slice a5_76 x3.heard.2.length c5_76) x3.heard.2.length (x3.heard.2.map (fun x => Value.string (strOf x))), row 9 1 (.slice a6_76 x3.said.1.length c6_76) x3.said.1.length (x3.said.1.map (fun x => Value.string (strOf x))), row 9 1 (.slice a7_76 x3.said.2.length c7_76) x3.said.2.length (x3.said.2.map (fun x => Value.string (strOf x))), R] w0 w) mo HS.drew rfl ?_
          refine T.event _ [(24, Value.pointer (some ⟨b0_76, 0, none⟩))] rfl rfl ⟨.m1 0 rfl (.l rfl rfl) (fun w HS => X.move rfl) rfl rfl rfl rfl rfl, .m1 2 rfl (.l rfl rfl) (fun w HS => X.move rfl) rfl rfl rfl rfl rfl, .m1 0 rfl (.l rfl rfl) (fun w HS => X.move rfl) rfl rfl rfl rfl rfl, .m1 2 rfl (.l rfl rfl) (fun w HS => X.move rfl) rfl rfl rfl rfl rfl, .m1 13 rfl (.r rfl rfl) (fun w HS => X.nilCheck rfl) rfl rfl rfl rfl rfl, .m1 15 rfl (.r rfl rfl) (fun w HS => X.fieldAddr 2 fo59_1 rfl) rfl rfl rfl rfl rfl, .m2 14 16 rfl (.r rfl rfl) (.r rfl rfl) (fun w HS => X.indexArK 0 c79 Try.underlying55 inf30 rfl rfl c78.1 c78.2) rfl rfl rfl rfl rfl, .m1 17 rfl (.r rfl rfl) (fun w HS => X.loadAt 0 HS rfl Try.underlying30 rfl rfl rfl) rfl rfl rfl rfl rfl, .m1 0 rfl (.l rfl rfl) (fun w HS => X.move rfl) rfl rfl rfl rfl rfl, .m1 2 rfl (.l rfl rfl) (fun w HS => X.move rfl) rfl rfl rfl rfl rfl, .m1 19 rfl (.r rfl rfl) (fun w HS => X.nilCheck rfl) rfl rfl rfl rfl rfl, .m1 21 rfl (.r rfl rfl) (fun w HS => X.fieldAddr 0 fo59_0 rfl) rfl rfl rfl rfl rfl, .m2 20 22 rfl (.r rfl rfl) (.r rfl rfl) (fun w HS => X.indexArK 0 c79 Try.underlying54 inf26 rfl rfl c78.1 c78.2) rfl rfl rfl rfl rfl, .m1 23 rfl (.r rfl rfl) (fun w HS => X.loadAt 0 HS rfl Try.underlying26 rfl rfl rfl) rfl rfl rfl rfl rfl, .m1 11 rfl (.r rfl rfl) (fun w HS => X.nilCheck rfl) rfl rfl rfl rfl rfl, .m1 27 rfl (.r rfl rfl) (fun w HS => X.fieldAddr 2 fo59_1 rfl) rfl rfl rfl rfl rfl, trivial⟩ rfl ⟨.inr ⟨rfl, rfl⟩, trivial⟩ (Or.inl rfl) (by intro d hd; cases hd; exact ⟨by decide, rfl, rfl⟩) [18] [8, 9, 10, 11, 12, 13] rfl rfl (fun w HS => ?_)
          obtain ⟨t80, A81, H⟩ := bind_s H
          replace HS := HS.re [1, 0, 2, 3, 4, 5, 6, 7, 8, 9, 10, 11] (by kernel_rfl)
          refine ⟨_, Y.call Try.func20 (by kernel_rfl) rfl (vs := [Value.pointer (some ⟨b0_76, 0, none⟩)]) rfl (arq_Arq_Output.calls x3.a.1 _ w0 _ b0_76 t80  A81 (Sep.St.tailJoin (m := [arq_Arq.at b0_76 x3.a.1]) (r := [blk b0 (#[Value.pointer (some ⟨b0_76, 0, none⟩), Value.pointer (some ⟨b1_76, 0, none⟩), Value.slice a2_76 x3.way.1.length c2_76, Value.slice a3_76 x3.way.2.length c3_76, Value.slice a4_76 x3.heard.1.length c4_76, Value.slice a5_76 x3.heard.2.length c5_76, Value.slice a6_76 x3.said.1.length c6_76, Value.slice a7_76 x3.said.2.length c7_76, Value.int .i64 x3.downs]) 59, arq_Arq.at b1_76 x3.a.2, row 39 1 (.slice a2_76 x3.way.1.length c2_76) x3.way.1.length d2_76, tie (El.sl (El.int .u8)) d2_76 x3.way.1, row 39 1 (.slice a3_76 x3.way.2.length c3_76) x3.way.2.length d3_76, tie (El.sl (El.int .u8)) d3_76 x3.way.2, row 9 1 (.slice a4_76 x3.heard.1.length c4_76) x3.heard.1.length (x3.heard.1.map (fun x => Value.string (strOf x))), row 9 1 (.slice a5_76 x3.heard.2.length c5_76) x3.heard.2.length (x3.heard.2.map (fun x => Value.string (strOf x))), row 9 1 (.slice a6_76 x3.said.1.length c6_76) x3.said.1.length (x3.said.1.map (fun x => Value.string (strOf x))), row 9 1 (.slice a7_76 x3.said.2.length c7_76) x3.said.2.length (x3.said.2.map (fun x => Value.string (strOf x))), R]) HS)), ?_⟩
          rintro _ w ⟨at80_0, ct80_0, dt80_0, rfl, HS⟩
          replace HS := Sep.St.tailOpen (m := [row 39 1 (.slice at80_0 t80.1.length ct80_0) t80.1.length dt80_0, tie (El.sl (El.int .u8)) dt80_0 t80.1, arq_Arq.at b0_76 t80.2]) (r := [blk b0 (#[Value.pointer (some ⟨b0_76, 0, none⟩), Value.pointer (some ⟨b1_76, 0, none⟩), Value.slice a2_76 x3.way.1.length c2_76, Value.slice a3_76 x3.way.2.length c3_76, Value.slice a4_76 x3.heard.1.length c4_76, Value.slice a5_76 x3.heard.2.length c5_76, Value.slice a6_76 x3.said.1.length c6_76, Value.slice a7_76 x3.said.2.length c7_76, Value.int .i64 x3.downs]) 59, arq_Arq.at b1_76 x3.a.2, row 39 1 (.slice a2_76 x3.way.1.length c2_76) x3.way.1.length d2_76, tie (El.sl (El.int .u8)) d2_76 x3.way.1, row 39 1 (.slice a3_76 x3.way.2.length c3_76) x3.way.2.length d3_76, tie (El.sl (El.int .u8)) d3_76 x3.way.2, row 9 1 (.slice a4_76 x3.heard.1.length c4_76) x3.heard.1.length (x3.heard.1.map (fun x => Value.string (strOf x))), row 9 1 (.slice a5_76 x3.heard.2.length c5_76) x3.heard.2.length (x3.heard.2.map (fun x => Value.string (strOf x))), row 9 1 (.slice a6_76 x3.said.1.length c6_76) x3.said.1.length (x3.said.1.map (fun x => Value.string (strOf x))), row 9 1 (.slice a7_76 x3.said.2.length c7_76) x3.said.2.length (x3.said.2.map (fun x => Value.string (strOf x))), R]) HS
          refine ⟨[(25, Value.slice at80_0 t80.1.length ct80_0)], _, ⟨.inl ⟨rfl, rfl⟩, trivial⟩, ?_, HS⟩
          refine T.event _ [(18, Value.slice a2_76 x3.way.1.length c2_76), (25, Value.slice at80_0 t80.1.length ct80_0)] rfl rfl ⟨.m1 0 rfl (.l rfl rfl) (fun w HS => X.move rfl) rfl rfl rfl rfl rfl, .m1 2 rfl (.l rfl rfl) (fun w HS => X.move rfl) rfl rfl rfl rfl rfl, .m1 0 rfl (.l rfl rfl) (fun w HS => X.move rfl) rfl rfl rfl rfl rfl, .m1 2 rfl (.l rfl rfl) (fun w HS => X.move rfl) rfl rfl rfl rfl rfl, .m1 13 rfl (.r rfl rfl) (fun w HS => X.nilCheck rfl) rfl rfl rfl rfl rfl, .m1 15 rfl (.r rfl rfl) (fun w HS => X.fieldAddr 2 fo59_1 rfl) rfl rfl rfl rfl rfl, .m2 14 16 rfl (.r rfl rfl) (.r rfl rfl) (fun w HS => X.indexArK 0 c79 Try.underlying55 inf30 rfl rfl c78.1 c78.2) rfl rfl rfl rfl rfl, .m1 17 rfl (.r rfl rfl) (fun w HS => X.loadAt 3 HS rfl Try.underlying30 rfl rfl rfl) rfl rfl rfl rfl rfl, .m1 11 rfl (.r rfl rfl) (fun w HS => X.nilCheck rfl) rfl rfl rfl rfl rfl, .m1 27 rfl (.r rfl rfl) (fun w HS => X.fieldAddr 2 fo59_1 rfl) rfl rfl rfl rfl rfl, trivial⟩ rfl ⟨.inr ⟨rfl, rfl⟩, ⟨.inr ⟨rfl, rfl⟩, trivial⟩⟩ (Or.inl rfl) (by intro d hd; cases hd; exact ⟨by decide, rfl, rfl⟩) [] [2, 3, 4, 5, 6, 7] rfl rfl (fun w HS => ?_)
          obtain ⟨c82, H⟩ := ite_n H
          refine ⟨_, Y.app (xs := x3.way.1) (ys := t80.1) 5 Try.underlying30 ap39 rfl (by decide) HS rfl rfl rfl (rdC.at 0 row_rd HS rfl) (St.tie_one 1 HS rfl) (by omega) (by omega), ?_⟩
          rintro _ w ⟨ra83, rc84, rfl, HS⟩
          replace HS := HS.front 6 rfl
          replace HS := St.tie_app 2 HS rfl
          refine ⟨[(26, Value.slice ra83 (x3.way.1 ++ t80.1).length rc84), (29, Value.pointer (some ⟨b0, 0 + 2 + 0 * 1, none⟩))], _, ⟨.inl ⟨rfl, rfl⟩, ⟨.inr ⟨by decide, rfl⟩, trivial⟩⟩, ?_, HS⟩
          refine T.event _ [(26, Value.slice ra83 (x3.way.1 ++ t80.1).length rc84), (29, Value.pointer (some ⟨b0, 0 + 2 + 0 * 1, none⟩))] rfl rfl ⟨.m1 0 rfl (.l rfl rfl) (fun w HS => X.move rfl) rfl rfl rfl rfl rfl, .m1 2 rfl (.l rfl rfl) (fun w HS => X.move rfl) rfl rfl rfl rfl rfl, .m1 11 rfl (.r rfl rfl) (fun w HS => X.nilCheck rfl) rfl rfl rfl rfl rfl, .m1 27 rfl (.r rfl rfl) (fun w HS => X.fieldAddr 2 fo59_1 rfl) rfl rfl rfl rfl rfl, .m2 12 28 rfl (.r rfl rfl) (.r rfl rfl) (fun w HS => X.indexArK 0 c79 Try.underlying55 inf30 rfl rfl c78.1 c78.2) rfl rfl rfl rfl rfl, trivial⟩ rfl ⟨.inr ⟨rfl, rfl⟩, ⟨.inr ⟨rfl, rfl⟩, trivial⟩⟩ (Or.inl rfl) (by intro d hd; cases hd) [] [0, 1, 16, 17, 18] rfl rfl (fun w HS => ?_)
          refine ⟨_, Y.storeAt 4 HS rfl inf30 rfl rfl rfl rfl rfl rfl, ?_⟩
          rintro _ w HS
          refine ⟨[], _, trivial, ?_, HS⟩
          refine T.fin [(0, Value.pointer (some ⟨b0, 0, none⟩)), (2, Value.int .i64 x2)] rfl trivial ⟨.inl ⟨rfl, rfl⟩, ⟨.inl ⟨rfl, rfl⟩, trivial⟩⟩ (fun w HS => ?_)
          replace HS := HS.re [4, 3, 5, 6, 0, 7, 8, 9, 10, 11, 12, 1, 2, 13] (by kernel_rfl)
          replace HS := signalmanlaw15_pair.close (({ a := (t80.2, x3.a.2), way := (x3.way.1 ++ t80.1, x3.way.2), heard := (x3.heard.1, x3.heard.2), said := (x3.said.1, x3.said.2), downs := x3.downs } : signalmanlaw15_pair)) trivial HS
          replace HS := HS.sel [0, 3] [1, 2] (by kernel_rfl)
          exact At.meet (({ a := (t80.2, x3.a.2), way := (x3.way.1 ++ t80.1, x3.way.2), heard := (x3.heard.1, x3.heard.2), said := (x3.said.1, x3.said.2), downs := x3.downs } : signalmanlaw15_pair)) ⟨rfl, rfl, trivial⟩ ⟨HS, kq4, by omega, H⟩
        · replace H := ite_f c79 H
          have hk85 : x2 = 1 := by omega
          refine V.draw (es := [14, 15, 19]) (bl := [18]) (f := [(11, Value.pointer (some ⟨b0, 0, none⟩)), (12, Value.int .i64 x2), (13, Value.pointer (some ⟨b0, 0, none⟩)), (14, Value.int .i64 x2), (15, Value.pointer (some ⟨b0, 0, none⟩)), (16, Value.pointer (some ⟨b0, 0 + 2, none⟩)), (17, Value.pointer (some ⟨b0, 0 + 2 + 1 * 1, none⟩)), (18, Value.slice a3_76 x3.way.2.length c3_76), (19, Value.pointer (some ⟨b0, 0, none⟩)), (20, Value.int .i64 x2), (21, Value.pointer (some ⟨b0, 0, none⟩)), (22, Value.pointer (some ⟨b0, 0 + 0, none⟩)), (23, Value.pointer (some ⟨b0, 0 + 0 + 1 * 1, none⟩)), (24, Value.pointer (some ⟨b1_76, 0, none⟩)), (27, Value.pointer (some ⟨b0, 0, none⟩)), (28, Value.pointer (some ⟨b0, 0 + 2, none⟩))]) (fun w => Sep.St [blk b0 (#[Value.pointer (some ⟨b0_76, 0, none⟩), Value.pointer (some ⟨b1_76, 0, none⟩), Value.slice a2_76 x3.way.1.length c2_76, Value.slice a3_76 x3.way.2.length c3_76, Value.slice a4_76 x3.heard.1.length c4_76, Value.slice a5_76 x3.heard.2.length c5_76, Value.slice a6_76 x3.said.1.length c6_76, Value.slice a7_76 x3.said.2.length c7_76, Value.int .i64 x3.downs]) 59, arq_Arq.at b0_76 x3.a.1, arq_Arq.at b1_76 x3.a.2, row 39 1 (.slice a2_76 x3.way.1.length c2_76) x3.way.1.length d2_76, tie (El.sl (El.int .u8)) d2_76 x3.way.1, row 39 1 (.slice a3_76 x3.way.2.length c3_76) x3.way.2.length d3_76, tie (El.sl (El.int .u8)) d3_76 x3.way.2, row 9 1 (.slice a4_76 x3.heard.1.length c4_76) x3.heard.1.length (x3.heard.1.map (fun x => Value.string (strOf x))), row 9 1 (.slice a5_76 x3.heard.2.length c5_76) x3.heard.2.length (x3.heard.2.map (fun x => Value.string (strOf x))), row 9 1 (.slice a6_76 x3.said.1.length c6_76) x3.said.1.length (x3.said.1.map (fun x => Value.string (strOf x))), row 9 1 (.slice a7_76 x3.said.2.length c7_76) x3.said.2.length (x3.said.2.map (fun x => Value.string (strOf x))), R] w0 w) mo HS.drew rfl ?_
          refine T.event _ [(24, Value.pointer (some ⟨b1_76, 0, none⟩))] rfl rfl ⟨.m1 0 rfl (.l rfl rfl) (fun w HS => X.move rfl) rfl rfl rfl rfl rfl, .m1 2 rfl (.l rfl rfl) (fun w HS => X.move rfl) rfl rfl rfl rfl rfl, .m1 0 rfl (.l rfl rfl) (fun w HS => X.move rfl) rfl rfl rfl rfl rfl, .m1 2 rfl (.l rfl rfl) (fun w HS => X.move rfl) rfl rfl rfl rfl rfl, .m1 13 rfl (.r rfl rfl) (fun w HS => X.nilCheck rfl) rfl rfl rfl rfl rfl, .m1 15 rfl (.r rfl rfl) (fun w HS => X.fieldAddr 2 fo59_1 rfl) rfl rfl rfl rfl rfl, .m2 14 16 rfl (.r rfl rfl) (.r rfl rfl) (fun w HS => X.indexArK 1 hk85 Try.underlying55 inf30 rfl rfl c78.1 c78.2) rfl rfl rfl rfl rfl, .m1 17 rfl (.r rfl rfl) (fun w HS => X.loadAt 0 HS rfl Try.underlying30 rfl rfl rfl) rfl rfl rfl rfl rfl, .m1 0 rfl (.l rfl rfl) (fun w HS => X.move rfl) rfl rfl rfl rfl rfl, .m1 2 rfl (.l rfl rfl) (fun w HS => X.move rfl) rfl rfl rfl rfl rfl, .m1 19 rfl (.r rfl rfl) (fun w HS => X.nilCheck rfl) rfl rfl rfl rfl rfl, .m1 21 rfl (.r rfl rfl) (fun w HS => X.fieldAddr 0 fo59_0 rfl) rfl rfl rfl rfl rfl, .m2 20 22 rfl (.r rfl rfl) (.r rfl rfl) (fun w HS => X.indexArK 1 hk85 Try.underlying54 inf26 rfl rfl c78.1 c78.2) rfl rfl rfl rfl rfl, .m1 23 rfl (.r rfl rfl) (fun w HS => X.loadAt 0 HS rfl Try.underlying26 rfl rfl rfl) rfl rfl rfl rfl rfl, .m1 11 rfl (.r rfl rfl) (fun w HS => X.nilCheck rfl) rfl rfl rfl rfl rfl, .m1 27 rfl (.r rfl rfl) (fun w HS => X.fieldAddr 2 fo59_1 rfl) rfl rfl rfl rfl rfl, trivial⟩ rfl ⟨.inr ⟨rfl, rfl⟩, trivial⟩ (Or.inl rfl) (by intro d hd; cases hd; exact ⟨by decide, rfl, rfl⟩) [18] [8, 9, 10, 11, 12, 13] rfl rfl (fun w HS => ?_)
          obtain ⟨t86, A87, H⟩ := bind_s H
          replace HS := HS.re [2, 0, 1, 3, 4, 5, 6, 7, 8, 9, 10, 11] (by kernel_rfl)
          refine ⟨_, Y.call Try.func20 (by kernel_rfl) rfl (vs := [Value.pointer (some ⟨b1_76, 0, none⟩)]) rfl (arq_Arq_Output.calls x3.a.2 _ w0 _ b1_76 t86  A87 (Sep.St.tailJoin (m := [arq_Arq.at b1_76 x3.a.2]) (r := [blk b0 (#[Value.pointer (some ⟨b0_76, 0, none⟩), Value.pointer (some ⟨b1_76, 0, none⟩), Value.slice a2_76 x3.way.1.length c2_76, Value.slice a3_76 x3.way.2.length c3_76, Value.slice a4_76 x3.heard.1.length c4_76, Value.slice a5_76 x3.heard.2.length c5_76, Value.slice a6_76 x3.said.1.length c6_76, Value.slice a7_76 x3.said.2.length c7_76, Value.int .i64 x3.downs]) 59, arq_Arq.at b0_76 x3.a.1, row 39 1 (.slice a2_76 x3.way.1.length c2_76) x3.way.1.length d2_76, tie (El.sl (El.int .u8)) d2_76 x3.way.1, row 39 1 (.slice a3_76 x3.way.2.length c3_76) x3.way.2.length d3_76, tie (El.sl (El.int .u8)) d3_76 x3.way.2, row 9 1 (.slice a4_76 x3.heard.1.length c4_76) x3.heard.1.length (x3.heard.1.map (fun x => Value.string (strOf x))), row 9 1 (.slice a5_76 x3.heard.2.length c5_76) x3.heard.2.length (x3.heard.2.map (fun x => Value.string (strOf x))), row 9 1 (.slice a6_76 x3.said.1.length c6_76) x3.said.1.length (x3.said.1.map (fun x => Value.string (strOf x))), row 9 1 (.slice a7_76 x3.said.2.length c7_76) x3.said.2.length (x3.said.2.map (fun x => Value.string (strOf x))), R]) HS)), ?_⟩
          rintro _ w ⟨at86_0, ct86_0, dt86_0, rfl, HS⟩
          replace HS := Sep.St.tailOpen (m := [row 39 1 (.slice at86_0 t86.1.length ct86_0) t86.1.length dt86_0, tie (El.sl (El.int .u8)) dt86_0 t86.1, arq_Arq.at b1_76 t86.2]) (r := [blk b0 (#[Value.pointer (some ⟨b0_76, 0, none⟩), Value.pointer (some ⟨b1_76, 0, none⟩), Value.slice a2_76 x3.way.1.length c2_76, Value.slice a3_76 x3.way.2.length c3_76, Value.slice a4_76 x3.heard.1.length c4_76, Value.slice a5_76 x3.heard.2.length c5_76, Value.slice a6_76 x3.said.1.length c6_76, Value.slice a7_76 x3.said.2.length c7_76, Value.int .i64 x3.downs]) 59, arq_Arq.at b0_76 x3.a.1, row 39 1 (.slice a2_76 x3.way.1.length c2_76) x3.way.1.length d2_76, tie (El.sl (El.int .u8)) d2_76 x3.way.1, row 39 1 (.slice a3_76 x3.way.2.length c3_76) x3.way.2.length d3_76, tie (El.sl (El.int .u8)) d3_76 x3.way.2, row 9 1 (.slice a4_76 x3.heard.1.length c4_76) x3.heard.1.length (x3.heard.1.map (fun x => Value.string (strOf x))), row 9 1 (.slice a5_76 x3.heard.2.length c5_76) x3.heard.2.length (x3.heard.2.map (fun x => Value.string (strOf x))), row 9 1 (.slice a6_76 x3.said.1.length c6_76) x3.said.1.length (x3.said.1.map (fun x => Value.string (strOf x))), row 9 1 (.slice a7_76 x3.said.2.length c7_76) x3.said.2.length (x3.said.2.map (fun x => Value.string (strOf x))), R]) HS
          refine ⟨[(25, Value.slice at86_0 t86.1.length ct86_0)], _, ⟨.inl ⟨rfl, rfl⟩, trivial⟩, ?_, HS⟩
          refine T.event _ [(18, Value.slice a3_76 x3.way.2.length c3_76), (25, Value.slice at86_0 t86.1.length ct86_0)] rfl rfl ⟨.m1 0 rfl (.l rfl rfl) (fun w HS => X.move rfl) rfl rfl rfl rfl rfl, .m1 2 rfl (.l rfl rfl) (fun w HS => X.move rfl) rfl rfl rfl rfl rfl, .m1 0 rfl (.l rfl rfl) (fun w HS => X.move rfl) rfl rfl rfl rfl rfl, .m1 2 rfl (.l rfl rfl) (fun w HS => X.move rfl) rfl rfl rfl rfl rfl, .m1 13 rfl (.r rfl rfl) (fun w HS => X.nilCheck rfl) rfl rfl rfl rfl rfl, .m1 15 rfl (.r rfl rfl) (fun w HS => X.fieldAddr 2 fo59_1 rfl) rfl rfl rfl rfl rfl, .m2 14 16 rfl (.r rfl rfl) (.r rfl rfl) (fun w HS => X.indexArK 1 hk85 Try.underlying55 inf30 rfl rfl c78.1 c78.2) rfl rfl rfl rfl rfl, .m1 17 rfl (.r rfl rfl) (fun w HS => X.loadAt 3 HS rfl Try.underlying30 rfl rfl rfl) rfl rfl rfl rfl rfl, .m1 11 rfl (.r rfl rfl) (fun w HS => X.nilCheck rfl) rfl rfl rfl rfl rfl, .m1 27 rfl (.r rfl rfl) (fun w HS => X.fieldAddr 2 fo59_1 rfl) rfl rfl rfl rfl rfl, trivial⟩ rfl ⟨.inr ⟨rfl, rfl⟩, ⟨.inr ⟨rfl, rfl⟩, trivial⟩⟩ (Or.inl rfl) (by intro d hd; cases hd; exact ⟨by decide, rfl, rfl⟩) [] [2, 3, 4, 5, 6, 7] rfl rfl (fun w HS => ?_)
          obtain ⟨c88, H⟩ := ite_n H
          refine ⟨_, Y.app (xs := x3.way.2) (ys := t86.1) 7 Try.underlying30 ap39 rfl (by decide) HS rfl rfl rfl (rdC.at 0 row_rd HS rfl) (St.tie_one 1 HS rfl) (by omega) (by omega), ?_⟩
          rintro _ w ⟨ra89, rc90, rfl, HS⟩
          replace HS := HS.front 8 rfl
          replace HS := St.tie_app 2 HS rfl
          refine ⟨[(26, Value.slice ra89 (x3.way.2 ++ t86.1).length rc90), (29, Value.pointer (some ⟨b0, 0 + 2 + 1 * 1, none⟩))], _, ⟨.inl ⟨rfl, rfl⟩, ⟨.inr ⟨by decide, rfl⟩, trivial⟩⟩, ?_, HS⟩
          refine T.event _ [(26, Value.slice ra89 (x3.way.2 ++ t86.1).length rc90), (29, Value.pointer (some ⟨b0, 0 + 2 + 1 * 1, none⟩))] rfl rfl ⟨.m1 0 rfl (.l rfl rfl) (fun w HS => X.move rfl) rfl rfl rfl rfl rfl, .m1 2 rfl (.l rfl rfl) (fun w HS => X.move rfl) rfl rfl rfl rfl rfl, .m1 11 rfl (.r rfl rfl) (fun w HS => X.nilCheck rfl) rfl rfl rfl rfl rfl, .m1 27 rfl (.r rfl rfl) (fun w HS => X.fieldAddr 2 fo59_1 rfl) rfl rfl rfl rfl rfl, .m2 12 28 rfl (.r rfl rfl) (.r rfl rfl) (fun w HS => X.indexArK 1 hk85 Try.underlying55 inf30 rfl rfl c78.1 c78.2) rfl rfl rfl rfl rfl, trivial⟩ rfl ⟨.inr ⟨rfl, rfl⟩, ⟨.inr ⟨rfl, rfl⟩, trivial⟩⟩ (Or.inl rfl) (by intro d hd; cases hd) [] [0, 1, 16, 17, 18] rfl rfl (fun w HS => ?_)
          refine ⟨_, Y.storeAt 4 HS rfl inf30 rfl rfl rfl rfl rfl rfl, ?_⟩
          rintro _ w HS
          refine ⟨[], _, trivial, ?_, HS⟩
          refine T.fin [(0, Value.pointer (some ⟨b0, 0, none⟩)), (2, Value.int .i64 x2)] rfl trivial ⟨.inl ⟨rfl, rfl⟩, ⟨.inl ⟨rfl, rfl⟩, trivial⟩⟩ (fun w HS => ?_)
          replace HS := HS.re [4, 5, 3, 6, 7, 8, 0, 9, 10, 11, 12, 1, 2, 13] (by kernel_rfl)
          replace HS := signalmanlaw15_pair.close (({ a := (x3.a.1, t86.2), way := (x3.way.1, x3.way.2 ++ t86.1), heard := (x3.heard.1, x3.heard.2), said := (x3.said.1, x3.said.2), downs := x3.downs } : signalmanlaw15_pair)) trivial HS
          replace HS := HS.sel [0, 3] [1, 2] (by kernel_rfl)
          exact At.meet (({ a := (x3.a.1, t86.2), way := (x3.way.1, x3.way.2 ++ t86.1), heard := (x3.heard.1, x3.heard.2), said := (x3.said.1, x3.said.2), downs := x3.downs } : signalmanlaw15_pair)) ⟨rfl, rfl, trivial⟩ ⟨HS, kq4, by omega, H⟩
      · rintro x7 w ⟨HS, kf8, hkkf8, H⟩
        unfold signalmanlaw15_pair_collect.j1 at H
        refine V.seq ?_
        refine V.block ?_
        refine V.loop (σ := signalmanlaw15_pair) (fun kq (st : signalmanlaw15_pair) w => match st with | x10 => Sep.St [signalmanlaw15_pair.at b0 x10, R] w0 w ∧ signalmanlaw15_pair_collect.l2 kq x2 (signalmanlaw15_pair_collect.l0 kf8) x10 = some r ∧ kq ≤ kf8) (fun st => match st with | x10 => [(0, Value.pointer (some ⟨b0, 0, none⟩)), (2, Value.int .i64 x2)]) kf8 x7 ⟨rfl, rfl, trivial⟩ ⟨HS, H, Nat.le_refl _⟩ ?_
        rintro kq11 x10 w ⟨HS, H, hk12⟩
        cases kq11 with
        | zero => exact absurd H (by simp [signalmanlaw15_pair_collect.l2])
        | succ kq11 =>
          simp only [signalmanlaw15_pair_collect.l2] at H
          refine V.block ?_
          refine V.meet (σ := signalmanlaw15_pair × Option Addr × Nat × List Int × Bool) (fun st w => match st with | (x13, ra14, rc15, x16, x17) => Sep.St [fsl 1 (.slice ra14 x16.length rc15) x16.length (x16.map (Value.int .u8)), signalmanlaw15_pair.at b0 x13, R] w0 w ∧ ∃ kf18, kf18 ≤ kq11 ∧ signalmanlaw15_pair_collect.j3 kf18 x2 (signalmanlaw15_pair_collect.l0 kf8) (signalmanlaw15_pair_collect.l2 kf18 x2 (signalmanlaw15_pair_collect.l0 kf8)) x13 x16 x17 = some r) (fun st => match st with | (x13, ra14, rc15, x16, x17) => [(0, Value.pointer (some ⟨b0, 0, none⟩)), (2, Value.int .i64 x2), (3, Value.slice ra14 x16.length rc15), (4, Value.bool x17)]) ?_ ?_
          · refine V.region ?_
            refine W.rd (X.move rfl) rfl rfl rfl ?_
            refine W.rd (X.move rfl) rfl rfl rfl ?_
            refine W.rd (X.nilCheck rfl) rfl rfl rfl ?_
            obtain ⟨b0_67, b1_67, a2_67, c2_67, d2_67, a3_67, c3_67, d3_67, a4_67, c4_67, a5_67, c5_67, a6_67, c6_67, a7_67, c7_67, hi68, HS⟩ := signalmanlaw15_pair.open HS
            refine W.rd (X.fieldAddr 0 fo59_0 rfl) rfl rfl rfl ?_
            obtain ⟨c69, H⟩ := ite_n H
            by_cases c70 : x2 = 0
            · replace H := ite_t c70 H
              refine W.rd (X.indexArK 0 c70 Try.underlying54 inf26 rfl rfl c69.1 c69.2) rfl rfl rfl ?_
              refine W.rd (X.loadAt 0 HS rfl Try.underlying26 rfl rfl rfl) rfl rfl rfl ?_
              obtain ⟨t71, A72, H⟩ := bind_s H
              replace HS := HS.re [1, 0, 2, 3, 4, 5, 6, 7, 8, 9, 10, 11] (by kernel_rfl)
              refine W.ev (Y.call Try.func31 (by kernel_rfl) rfl (vs := [Value.pointer (some ⟨b0_67, 0, none⟩)]) rfl (arq_Arq_Recv.calls x10.a.1 _ w0 _ b0_67 t71  A72 (Sep.St.tailJoin (m := [arq_Arq.at b0_67 x10.a.1]) (r := [blk b0 (#[Value.pointer (some ⟨b0_67, 0, none⟩), Value.pointer (some ⟨b1_67, 0, none⟩), Value.slice a2_67 x10.way.1.length c2_67, Value.slice a3_67 x10.way.2.length c3_67, Value.slice a4_67 x10.heard.1.length c4_67, Value.slice a5_67 x10.heard.2.length c5_67, Value.slice a6_67 x10.said.1.length c6_67, Value.slice a7_67 x10.said.2.length c7_67, Value.int .i64 x10.downs]) 59, arq_Arq.at b1_67 x10.a.2, row 39 1 (.slice a2_67 x10.way.1.length c2_67) x10.way.1.length d2_67, tie (El.sl (El.int .u8)) d2_67 x10.way.1, row 39 1 (.slice a3_67 x10.way.2.length c3_67) x10.way.2.length d3_67, tie (El.sl (El.int .u8)) d3_67 x10.way.2, row 9 1 (.slice a4_67 x10.heard.1.length c4_67) x10.heard.1.length (x10.heard.1.map (fun x => Value.string (strOf x))), row 9 1 (.slice a5_67 x10.heard.2.length c5_67) x10.heard.2.length (x10.heard.2.map (fun x => Value.string (strOf x))), row 9 1 (.slice a6_67 x10.said.1.length c6_67) x10.said.1.length (x10.said.1.map (fun x => Value.string (strOf x))), row 9 1 (.slice a7_67 x10.said.2.length c7_67) x10.said.2.length (x10.said.2.map (fun x => Value.string (strOf x))), R]) HS))) rfl rfl rfl ?_
              rintro _ w ⟨at71_0, ct71_0, rfl, HS⟩
              replace HS := Sep.St.tailOpen (m := [fsl 1 (.slice at71_0 t71.1.length ct71_0) t71.1.length (t71.1.map (Value.int .u8)), arq_Arq.at b0_67 t71.2.2]) (r := [blk b0 (#[Value.pointer (some ⟨b0_67, 0, none⟩), Value.pointer (some ⟨b1_67, 0, none⟩), Value.slice a2_67 x10.way.1.length c2_67, Value.slice a3_67 x10.way.2.length c3_67, Value.slice a4_67 x10.heard.1.length c4_67, Value.slice a5_67 x10.heard.2.length c5_67, Value.slice a6_67 x10.said.1.length c6_67, Value.slice a7_67 x10.said.2.length c7_67, Value.int .i64 x10.downs]) 59, arq_Arq.at b1_67 x10.a.2, row 39 1 (.slice a2_67 x10.way.1.length c2_67) x10.way.1.length d2_67, tie (El.sl (El.int .u8)) d2_67 x10.way.1, row 39 1 (.slice a3_67 x10.way.2.length c3_67) x10.way.2.length d3_67, tie (El.sl (El.int .u8)) d3_67 x10.way.2, row 9 1 (.slice a4_67 x10.heard.1.length c4_67) x10.heard.1.length (x10.heard.1.map (fun x => Value.string (strOf x))), row 9 1 (.slice a5_67 x10.heard.2.length c5_67) x10.heard.2.length (x10.heard.2.map (fun x => Value.string (strOf x))), row 9 1 (.slice a6_67 x10.said.1.length c6_67) x10.said.1.length (x10.said.1.map (fun x => Value.string (strOf x))), row 9 1 (.slice a7_67 x10.said.2.length c7_67) x10.said.2.length (x10.said.2.map (fun x => Value.string (strOf x))), R]) HS
              refine W.rd (X.move rfl) rfl rfl rfl ?_
              refine W.rd (X.extract rfl rfl) rfl rfl rfl ?_
              refine W.rd (X.extract rfl rfl) rfl rfl rfl ?_
              refine W.rd (X.assign rfl) rfl rfl rfl ?_
              refine W.rd (X.assign rfl) rfl rfl rfl ?_
              refine W.nil ?_
              replace HS := HS.re [2, 1, 3, 4, 5, 6, 7, 8, 9, 10, 11, 0, 12] (by kernel_rfl)
              replace HS := signalmanlaw15_pair.close (({ a := (t71.2.2, x10.a.2), way := (x10.way.1, x10.way.2), heard := (x10.heard.1, x10.heard.2), said := (x10.said.1, x10.said.2), downs := x10.downs } : signalmanlaw15_pair)) trivial HS
              replace HS := HS.sel [1, 0, 2] [] (by kernel_rfl)
              exact At.meet (({ a := (t71.2.2, x10.a.2), way := (x10.way.1, x10.way.2), heard := (x10.heard.1, x10.heard.2), said := (x10.said.1, x10.said.2), downs := x10.downs } : signalmanlaw15_pair), at71_0, ct71_0, t71.1, t71.2.1) ⟨rfl, rfl, rfl, rfl, trivial⟩ ⟨HS, kq11, by omega, H⟩
            · replace H := ite_f c70 H
              have hk73 : x2 = 1 := by omega
              refine W.rd (X.indexArK 1 hk73 Try.underlying54 inf26 rfl rfl c69.1 c69.2) rfl rfl rfl ?_
              refine W.rd (X.loadAt 0 HS rfl Try.underlying26 rfl rfl rfl) rfl rfl rfl ?_
              obtain ⟨t74, A75, H⟩ := bind_s H
              replace HS := HS.re [2, 0, 1, 3, 4, 5, 6, 7, 8, 9, 10, 11] (by kernel_rfl)
              refine W.ev (Y.call Try.func31 (by kernel_rfl) rfl (vs := [Value.pointer (some ⟨b1_67, 0, none⟩)]) rfl (arq_Arq_Recv.calls x10.a.2 _ w0 _ b1_67 t74  A75 (Sep.St.tailJoin (m := [arq_Arq.at b1_67 x10.a.2]) (r := [blk b0 (#[Value.pointer (some ⟨b0_67, 0, none⟩), Value.pointer (some ⟨b1_67, 0, none⟩), Value.slice a2_67 x10.way.1.length c2_67, Value.slice a3_67 x10.way.2.length c3_67, Value.slice a4_67 x10.heard.1.length c4_67, Value.slice a5_67 x10.heard.2.length c5_67, Value.slice a6_67 x10.said.1.length c6_67, Value.slice a7_67 x10.said.2.length c7_67, Value.int .i64 x10.downs]) 59, arq_Arq.at b0_67 x10.a.1, row 39 1 (.slice a2_67 x10.way.1.length c2_67) x10.way.1.length d2_67, tie (El.sl (El.int .u8)) d2_67 x10.way.1, row 39 1 (.slice a3_67 x10.way.2.length c3_67) x10.way.2.length d3_67, tie (El.sl (El.int .u8)) d3_67 x10.way.2, row 9 1 (.slice a4_67 x10.heard.1.length c4_67) x10.heard.1.length (x10.heard.1.map (fun x => Value.string (strOf x))), row 9 1 (.slice a5_67 x10.heard.2.length c5_67) x10.heard.2.length (x10.heard.2.map (fun x => Value.string (strOf x))), row 9 1 (.slice a6_67 x10.said.1.length c6_67) x10.said.1.length (x10.said.1.map (fun x => Value.string (strOf x))), row 9 1 (.slice a7_67 x10.said.2.length c7_67) x10.said.2.length (x10.said.2.map (fun x => Value.string (strOf x))), R]) HS))) rfl rfl rfl ?_
              rintro _ w ⟨at74_0, ct74_0, rfl, HS⟩
              replace HS := Sep.St.tailOpen (m := [fsl 1 (.slice at74_0 t74.1.length ct74_0) t74.1.length (t74.1.map (Value.int .u8)), arq_Arq.at b1_67 t74.2.2]) (r := [blk b0 (#[Value.pointer (some ⟨b0_67, 0, none⟩), Value.pointer (some ⟨b1_67, 0, none⟩), Value.slice a2_67 x10.way.1.length c2_67, Value.slice a3_67 x10.way.2.length c3_67, Value.slice a4_67 x10.heard.1.length c4_67, Value.slice a5_67 x10.heard.2.length c5_67, Value.slice a6_67 x10.said.1.length c6_67, Value.slice a7_67 x10.said.2.length c7_67, Value.int .i64 x10.downs]) 59, arq_Arq.at b0_67 x10.a.1, row 39 1 (.slice a2_67 x10.way.1.length c2_67) x10.way.1.length d2_67, tie (El.sl (El.int .u8)) d2_67 x10.way.1, row 39 1 (.slice a3_67 x10.way.2.length c3_67) x10.way.2.length d3_67, tie (El.sl (El.int .u8)) d3_67 x10.way.2, row 9 1 (.slice a4_67 x10.heard.1.length c4_67) x10.heard.1.length (x10.heard.1.map (fun x => Value.string (strOf x))), row 9 1 (.slice a5_67 x10.heard.2.length c5_67) x10.heard.2.length (x10.heard.2.map (fun x => Value.string (strOf x))), row 9 1 (.slice a6_67 x10.said.1.length c6_67) x10.said.1.length (x10.said.1.map (fun x => Value.string (strOf x))), row 9 1 (.slice a7_67 x10.said.2.length c7_67) x10.said.2.length (x10.said.2.map (fun x => Value.string (strOf x))), R]) HS
              refine W.rd (X.move rfl) rfl rfl rfl ?_
              refine W.rd (X.extract rfl rfl) rfl rfl rfl ?_
              refine W.rd (X.extract rfl rfl) rfl rfl rfl ?_
              refine W.rd (X.assign rfl) rfl rfl rfl ?_
              refine W.rd (X.assign rfl) rfl rfl rfl ?_
              refine W.nil ?_
              replace HS := HS.re [2, 3, 1, 4, 5, 6, 7, 8, 9, 10, 11, 0, 12] (by kernel_rfl)
              replace HS := signalmanlaw15_pair.close (({ a := (x10.a.1, t74.2.2), way := (x10.way.1, x10.way.2), heard := (x10.heard.1, x10.heard.2), said := (x10.said.1, x10.said.2), downs := x10.downs } : signalmanlaw15_pair)) trivial HS
              replace HS := HS.sel [1, 0, 2] [] (by kernel_rfl)
              exact At.meet (({ a := (x10.a.1, t74.2.2), way := (x10.way.1, x10.way.2), heard := (x10.heard.1, x10.heard.2), said := (x10.said.1, x10.said.2), downs := x10.downs } : signalmanlaw15_pair), at74_0, ct74_0, t74.1, t74.2.1) ⟨rfl, rfl, rfl, rfl, trivial⟩ ⟨HS, kq11, by omega, H⟩
          · rintro ⟨x13, ra14, rc15, x16, x17⟩ w ⟨HS, kf18, hkkf18, H⟩
            unfold signalmanlaw15_pair_collect.j3 at H
            refine V.seq ?_
            refine V.seq ?_
            refine V.region ?_
            refine W.rd (X.move rfl) rfl rfl rfl ?_
            refine W.rd (X.not rfl) rfl rfl rfl ?_
            refine W.nil ?_
            refine At.next ?_
            by_cases c22 : x17 = true
            · replace H := ite_t c22 H
              refine V.condF (sb (n_t c22)) ?_
              refine V.skip ?_
              refine At.next ?_
              replace HS := HS.front 1 rfl
              obtain ⟨b0_23, b1_23, a2_23, c2_23, d2_23, a3_23, c3_23, d3_23, a4_23, c4_23, a5_23, c5_23, a6_23, c6_23, a7_23, c7_23, hi24, HS⟩ := signalmanlaw15_pair.open HS
              obtain ⟨c25, H⟩ := ite_n H
              by_cases c26 : x2 = 0
              · replace H := ite_t c26 H
                refine V.draw (es := [10, 11, 15]) (bl := [14]) (f := [(42, Value.pointer (some ⟨b0, 0, none⟩)), (43, Value.int .i64 x2), (44, Value.pointer (some ⟨b0, 0, none⟩)), (45, Value.int .i64 x2), (46, Value.pointer (some ⟨b0, 0, none⟩)), (47, Value.pointer (some ⟨b0, 0 + 4, none⟩)), (48, Value.pointer (some ⟨b0, 0 + 4 + 0 * 1, none⟩)), (49, Value.slice a4_23 x13.heard.1.length c4_23), (50, Value.slice ra14 x16.length rc15), (51, Value.string (strOf x16)), (54, Value.pointer (some ⟨b0, 0, none⟩)), (55, Value.pointer (some ⟨b0, 0 + 4, none⟩))]) (fun w => Sep.St [blk b0 (#[Value.pointer (some ⟨b0_23, 0, none⟩), Value.pointer (some ⟨b1_23, 0, none⟩), Value.slice a2_23 x13.way.1.length c2_23, Value.slice a3_23 x13.way.2.length c3_23, Value.slice a4_23 x13.heard.1.length c4_23, Value.slice a5_23 x13.heard.2.length c5_23, Value.slice a6_23 x13.said.1.length c6_23, Value.slice a7_23 x13.said.2.length c7_23, Value.int .i64 x13.downs]) 59, arq_Arq.at b0_23 x13.a.1, arq_Arq.at b1_23 x13.a.2, row 39 1 (.slice a2_23 x13.way.1.length c2_23) x13.way.1.length d2_23, tie (El.sl (El.int .u8)) d2_23 x13.way.1, row 39 1 (.slice a3_23 x13.way.2.length c3_23) x13.way.2.length d3_23, tie (El.sl (El.int .u8)) d3_23 x13.way.2, row 9 1 (.slice a4_23 x13.heard.1.length c4_23) x13.heard.1.length (x13.heard.1.map (fun x => Value.string (strOf x))), row 9 1 (.slice a5_23 x13.heard.2.length c5_23) x13.heard.2.length (x13.heard.2.map (fun x => Value.string (strOf x))), row 9 1 (.slice a6_23 x13.said.1.length c6_23) x13.said.1.length (x13.said.1.map (fun x => Value.string (strOf x))), row 9 1 (.slice a7_23 x13.said.2.length c7_23) x13.said.2.length (x13.said.2.map (fun x => Value.string (strOf x))), fsl 1 (.slice ra14 x16.length rc15) x16.length (x16.map (Value.int .u8)), R] w0 w) mo HS.drew rfl ?_
                refine T.event _ [(51, Value.string (strOf x16))] rfl rfl ⟨.m1 0 rfl (.l rfl rfl) (fun w HS => X.move rfl) rfl rfl rfl rfl rfl, .m1 2 rfl (.l rfl rfl) (fun w HS => X.move rfl) rfl rfl rfl rfl rfl, .m1 0 rfl (.l rfl rfl) (fun w HS => X.move rfl) rfl rfl rfl rfl rfl, .m1 2 rfl (.l rfl rfl) (fun w HS => X.move rfl) rfl rfl rfl rfl rfl, .m1 44 rfl (.r rfl rfl) (fun w HS => X.nilCheck rfl) rfl rfl rfl rfl rfl, .m1 46 rfl (.r rfl rfl) (fun w HS => X.fieldAddr 4 fo59_2 rfl) rfl rfl rfl rfl rfl, .m2 45 47 rfl (.r rfl rfl) (.r rfl rfl) (fun w HS => X.indexArK 0 c26 Try.underlying57 inf56 rfl rfl c25.1 c25.2) rfl rfl rfl rfl rfl, .m1 48 rfl (.r rfl rfl) (fun w HS => X.loadAt 0 HS rfl Try.underlying56 rfl rfl rfl) rfl rfl rfl rfl rfl, .m1 3 rfl (.l rfl rfl) (fun w HS => X.move rfl) rfl rfl rfl rfl rfl, .m1 50 rfl (.r rfl rfl) (fun w HS => X.bytesStr Try.underlying39 Try.underlying5 Try.underlying9 rfl (rdC.at 11 fsl.rd HS rfl)) rfl rfl rfl rfl rfl, .m1 42 rfl (.r rfl rfl) (fun w HS => X.nilCheck rfl) rfl rfl rfl rfl rfl, .m1 54 rfl (.r rfl rfl) (fun w HS => X.fieldAddr 4 fo59_2 rfl) rfl rfl rfl rfl rfl, trivial⟩ rfl ⟨.inr ⟨rfl, rfl⟩, trivial⟩ (Or.inl rfl) (by intro d hd; cases hd; exact ⟨by decide, rfl, rfl⟩) [14] [8, 9] rfl rfl (fun w HS => ?_)
                refine ⟨_, Y.litB (e := 9) (sz := 1) (vs := #[(0, Value.string (strOf x16))]) [Value.string (strOf x16)] HS (fun a ha => by simp only [List.map_toArray, List.map_cons, List.map_nil]; rw [ha.ev (x := .tmp 51) (v := Value.string (strOf x16)) rfl]; try rfl) rfl (by decide) (fun _ => by kernel_rfl), ?_⟩
                rintro _ w ⟨lb29, rfl, HS⟩
                have HS : Sep.St [row 9 1 (.slice (some ⟨lb29, 0, none⟩) (([x16] : List (List Int))).length 1) (([x16] : List (List Int))).length ((([x16] : List (List Int))).map (fun x => Value.string (strOf x))), blk b0 (#[Value.pointer (some ⟨b0_23, 0, none⟩), Value.pointer (some ⟨b1_23, 0, none⟩), Value.slice a2_23 x13.way.1.length c2_23, Value.slice a3_23 x13.way.2.length c3_23, Value.slice a4_23 x13.heard.1.length c4_23, Value.slice a5_23 x13.heard.2.length c5_23, Value.slice a6_23 x13.said.1.length c6_23, Value.slice a7_23 x13.said.2.length c7_23, Value.int .i64 x13.downs]) 59, arq_Arq.at b0_23 x13.a.1, arq_Arq.at b1_23 x13.a.2, row 39 1 (.slice a2_23 x13.way.1.length c2_23) x13.way.1.length d2_23, tie (El.sl (El.int .u8)) d2_23 x13.way.1, row 39 1 (.slice a3_23 x13.way.2.length c3_23) x13.way.2.length d3_23, tie (El.sl (El.int .u8)) d3_23 x13.way.2, row 9 1 (.slice a4_23 x13.heard.1.length c4_23) x13.heard.1.length (x13.heard.1.map (fun x => Value.string (strOf x))), row 9 1 (.slice a5_23 x13.heard.2.length c5_23) x13.heard.2.length (x13.heard.2.map (fun x => Value.string (strOf x))), row 9 1 (.slice a6_23 x13.said.1.length c6_23) x13.said.1.length (x13.said.1.map (fun x => Value.string (strOf x))), row 9 1 (.slice a7_23 x13.said.2.length c7_23) x13.said.2.length (x13.said.2.map (fun x => Value.string (strOf x))), fsl 1 (.slice ra14 x16.length rc15) x16.length (x16.map (Value.int .u8)), R] w0 w := HS
                refine ⟨[(52, Value.slice (some ⟨lb29, 0, none⟩) (([x16] : List (List Int))).length 1)], _, ⟨.inl ⟨rfl, rfl⟩, trivial⟩, ?_, HS⟩
                refine T.event _ [(49, Value.slice a4_23 x13.heard.1.length c4_23), (52, Value.slice (some ⟨lb29, 0, none⟩) (([x16] : List (List Int))).length 1)] rfl rfl ⟨.m1 0 rfl (.l rfl rfl) (fun w HS => X.move rfl) rfl rfl rfl rfl rfl, .m1 2 rfl (.l rfl rfl) (fun w HS => X.move rfl) rfl rfl rfl rfl rfl, .m1 0 rfl (.l rfl rfl) (fun w HS => X.move rfl) rfl rfl rfl rfl rfl, .m1 2 rfl (.l rfl rfl) (fun w HS => X.move rfl) rfl rfl rfl rfl rfl, .m1 44 rfl (.r rfl rfl) (fun w HS => X.nilCheck rfl) rfl rfl rfl rfl rfl, .m1 46 rfl (.r rfl rfl) (fun w HS => X.fieldAddr 4 fo59_2 rfl) rfl rfl rfl rfl rfl, .m2 45 47 rfl (.r rfl rfl) (.r rfl rfl) (fun w HS => X.indexArK 0 c26 Try.underlying57 inf56 rfl rfl c25.1 c25.2) rfl rfl rfl rfl rfl, .m1 48 rfl (.r rfl rfl) (fun w HS => X.loadAt 1 HS rfl Try.underlying56 rfl rfl rfl) rfl rfl rfl rfl rfl, .m1 42 rfl (.r rfl rfl) (fun w HS => X.nilCheck rfl) rfl rfl rfl rfl rfl, .m1 54 rfl (.r rfl rfl) (fun w HS => X.fieldAddr 4 fo59_2 rfl) rfl rfl rfl rfl rfl, trivial⟩ rfl ⟨.inr ⟨rfl, rfl⟩, ⟨.inr ⟨rfl, rfl⟩, trivial⟩⟩ (Or.inl rfl) (by intro d hd; cases hd; exact ⟨by decide, rfl, rfl⟩) [] [2, 3, 4, 5, 6, 7] rfl rfl (fun w HS => ?_)
                obtain ⟨c30, H⟩ := ite_n H
                refine ⟨_, Y.appF (fun x => Value.string (strOf x)) (fun _ => rfl) 8 Try.underlying56 ap9 rfl HS rfl rfl rfl (rdC.at 0 row_rd HS rfl) (by omega) (by omega), ?_⟩
                rintro _ w ⟨ra31, rc32, rfl, HS⟩
                refine ⟨[(53, Value.slice ra31 (x13.heard.1 ++ ([x16] : List (List Int))).length rc32), (56, Value.pointer (some ⟨b0, 0 + 4 + 0 * 1, none⟩))], _, ⟨.inl ⟨rfl, rfl⟩, ⟨.inr ⟨by decide, rfl⟩, trivial⟩⟩, ?_, HS⟩
                refine T.event _ [(53, Value.slice ra31 (x13.heard.1 ++ ([x16] : List (List Int))).length rc32), (56, Value.pointer (some ⟨b0, 0 + 4 + 0 * 1, none⟩))] rfl rfl ⟨.m1 0 rfl (.l rfl rfl) (fun w HS => X.move rfl) rfl rfl rfl rfl rfl, .m1 2 rfl (.l rfl rfl) (fun w HS => X.move rfl) rfl rfl rfl rfl rfl, .m1 42 rfl (.r rfl rfl) (fun w HS => X.nilCheck rfl) rfl rfl rfl rfl rfl, .m1 54 rfl (.r rfl rfl) (fun w HS => X.fieldAddr 4 fo59_2 rfl) rfl rfl rfl rfl rfl, .m2 43 55 rfl (.r rfl rfl) (.r rfl rfl) (fun w HS => X.indexArK 0 c26 Try.underlying57 inf56 rfl rfl c25.1 c25.2) rfl rfl rfl rfl rfl, trivial⟩ rfl ⟨.inr ⟨rfl, rfl⟩, ⟨.inr ⟨rfl, rfl⟩, trivial⟩⟩ (Or.inl rfl) (by intro d hd; cases hd) [] [0, 1, 12, 13, 14] rfl rfl (fun w HS => ?_)
                refine ⟨_, Y.storeAt 1 HS rfl inf56 rfl rfl rfl rfl rfl rfl, ?_⟩
                rintro _ w HS
                refine ⟨[], _, trivial, ?_, HS⟩
                refine T.fin [(0, Value.pointer (some ⟨b0, 0, none⟩)), (2, Value.int .i64 x2)] rfl trivial ⟨.inl ⟨rfl, rfl⟩, ⟨.inl ⟨rfl, rfl⟩, trivial⟩⟩ (fun w HS => ?_)
                refine At.blockEnd ?_
                replace HS := HS.re [1, 2, 3, 4, 5, 6, 7, 8, 9, 10, 11, 0, 12, 13] (by kernel_rfl)
                replace HS := signalmanlaw15_pair.close (({ a := (x13.a.1, x13.a.2), way := (x13.way.1, x13.way.2), heard := (x13.heard.1 ++ ([x16] : List (List Int)), x13.heard.2), said := (x13.said.1, x13.said.2), downs := x13.downs } : signalmanlaw15_pair)) trivial HS
                replace HS := HS.sel [0, 3] [1, 2] (by kernel_rfl)
                exact At.round kf18 (by omega) (({ a := (x13.a.1, x13.a.2), way := (x13.way.1, x13.way.2), heard := (x13.heard.1 ++ ([x16] : List (List Int)), x13.heard.2), said := (x13.said.1, x13.said.2), downs := x13.downs } : signalmanlaw15_pair)) ⟨rfl, rfl, trivial⟩ ⟨HS, H, by omega⟩
              · replace H := ite_f c26 H
                have hk33 : x2 = 1 := by omega
                refine V.draw (es := [10, 11, 15]) (bl := [14]) (f := [(42, Value.pointer (some ⟨b0, 0, none⟩)), (43, Value.int .i64 x2), (44, Value.pointer (some ⟨b0, 0, none⟩)), (45, Value.int .i64 x2), (46, Value.pointer (some ⟨b0, 0, none⟩)), (47, Value.pointer (some ⟨b0, 0 + 4, none⟩)), (48, Value.pointer (some ⟨b0, 0 + 4 + 1 * 1, none⟩)), (49, Value.slice a5_23 x13.heard.2.length c5_23), (50, Value.slice ra14 x16.length rc15), (51, Value.string (strOf x16)), (54, Value.pointer (some ⟨b0, 0, none⟩)), (55, Value.pointer (some ⟨b0, 0 + 4, none⟩))]) (fun w => Sep.St [blk b0 (#[Value.pointer (some ⟨b0_23, 0, none⟩), Value.pointer (some ⟨b1_23, 0, none⟩), Value.slice a2_23 x13.way.1.length c2_23, Value.slice a3_23 x13.way.2.length c3_23, Value.slice a4_23 x13.heard.1.length c4_23, Value.slice a5_23 x13.heard.2.length c5_23, Value.slice a6_23 x13.said.1.length c6_23, Value.slice a7_23 x13.said.2.length c7_23, Value.int .i64 x13.downs]) 59, arq_Arq.at b0_23 x13.a.1, arq_Arq.at b1_23 x13.a.2, row 39 1 (.slice a2_23 x13.way.1.length c2_23) x13.way.1.length d2_23, tie (El.sl (El.int .u8)) d2_23 x13.way.1, row 39 1 (.slice a3_23 x13.way.2.length c3_23) x13.way.2.length d3_23, tie (El.sl (El.int .u8)) d3_23 x13.way.2, row 9 1 (.slice a4_23 x13.heard.1.length c4_23) x13.heard.1.length (x13.heard.1.map (fun x => Value.string (strOf x))), row 9 1 (.slice a5_23 x13.heard.2.length c5_23) x13.heard.2.length (x13.heard.2.map (fun x => Value.string (strOf x))), row 9 1 (.slice a6_23 x13.said.1.length c6_23) x13.said.1.length (x13.said.1.map (fun x => Value.string (strOf x))), row 9 1 (.slice a7_23 x13.said.2.length c7_23) x13.said.2.length (x13.said.2.map (fun x => Value.string (strOf x))), fsl 1 (.slice ra14 x16.length rc15) x16.length (x16.map (Value.int .u8)), R] w0 w) mo HS.drew rfl ?_
                refine T.event _ [(51, Value.string (strOf x16))] rfl rfl ⟨.m1 0 rfl (.l rfl rfl) (fun w HS => X.move rfl) rfl rfl rfl rfl rfl, .m1 2 rfl (.l rfl rfl) (fun w HS => X.move rfl) rfl rfl rfl rfl rfl, .m1 0 rfl (.l rfl rfl) (fun w HS => X.move rfl) rfl rfl rfl rfl rfl, .m1 2 rfl (.l rfl rfl) (fun w HS => X.move rfl) rfl rfl rfl rfl rfl, .m1 44 rfl (.r rfl rfl) (fun w HS => X.nilCheck rfl) rfl rfl rfl rfl rfl, .m1 46 rfl (.r rfl rfl) (fun w HS => X.fieldAddr 4 fo59_2 rfl) rfl rfl rfl rfl rfl, .m2 45 47 rfl (.r rfl rfl) (.r rfl rfl) (fun w HS => X.indexArK 1 hk33 Try.underlying57 inf56 rfl rfl c25.1 c25.2) rfl rfl rfl rfl rfl, .m1 48 rfl (.r rfl rfl) (fun w HS => X.loadAt 0 HS rfl Try.underlying56 rfl rfl rfl) rfl rfl rfl rfl rfl, .m1 3 rfl (.l rfl rfl) (fun w HS => X.move rfl) rfl rfl rfl rfl rfl, .m1 50 rfl (.r rfl rfl) (fun w HS => X.bytesStr Try.underlying39 Try.underlying5 Try.underlying9 rfl (rdC.at 11 fsl.rd HS rfl)) rfl rfl rfl rfl rfl, .m1 42 rfl (.r rfl rfl) (fun w HS => X.nilCheck rfl) rfl rfl rfl rfl rfl, .m1 54 rfl (.r rfl rfl) (fun w HS => X.fieldAddr 4 fo59_2 rfl) rfl rfl rfl rfl rfl, trivial⟩ rfl ⟨.inr ⟨rfl, rfl⟩, trivial⟩ (Or.inl rfl) (by intro d hd; cases hd; exact ⟨by decide, rfl, rfl⟩) [14] [8, 9] rfl rfl (fun w HS => ?_)
                refine ⟨_, Y.litB (e := 9) (sz := 1) (vs := #[(0, Value.string (strOf x16))]) [Value.string (strOf x16)] HS (fun a ha => by simp only [List.map_toArray, List.map_cons, List.map_nil]; rw [ha.ev (x := .tmp 51) (v := Value.string (strOf x16)) rfl]; try rfl) rfl (by decide) (fun _ => by kernel_rfl), ?_⟩
                rintro _ w ⟨lb36, rfl, HS⟩
                have HS : Sep.St [row 9 1 (.slice (some ⟨lb36, 0, none⟩) (([x16] : List (List Int))).length 1) (([x16] : List (List Int))).length ((([x16] : List (List Int))).map (fun x => Value.string (strOf x))), blk b0 (#[Value.pointer (some ⟨b0_23, 0, none⟩), Value.pointer (some ⟨b1_23, 0, none⟩), Value.slice a2_23 x13.way.1.length c2_23, Value.slice a3_23 x13.way.2.length c3_23, Value.slice a4_23 x13.heard.1.length c4_23, Value.slice a5_23 x13.heard.2.length c5_23, Value.slice a6_23 x13.said.1.length c6_23, Value.slice a7_23 x13.said.2.length c7_23, Value.int .i64 x13.downs]) 59, arq_Arq.at b0_23 x13.a.1, arq_Arq.at b1_23 x13.a.2, row 39 1 (.slice a2_23 x13.way.1.length c2_23) x13.way.1.length d2_23, tie (El.sl (El.int .u8)) d2_23 x13.way.1, row 39 1 (.slice a3_23 x13.way.2.length c3_23) x13.way.2.length d3_23, tie (El.sl (El.int .u8)) d3_23 x13.way.2, row 9 1 (.slice a4_23 x13.heard.1.length c4_23) x13.heard.1.length (x13.heard.1.map (fun x => Value.string (strOf x))), row 9 1 (.slice a5_23 x13.heard.2.length c5_23) x13.heard.2.length (x13.heard.2.map (fun x => Value.string (strOf x))), row 9 1 (.slice a6_23 x13.said.1.length c6_23) x13.said.1.length (x13.said.1.map (fun x => Value.string (strOf x))), row 9 1 (.slice a7_23 x13.said.2.length c7_23) x13.said.2.length (x13.said.2.map (fun x => Value.string (strOf x))), fsl 1 (.slice ra14 x16.length rc15) x16.length (x16.map (Value.int .u8)), R] w0 w := HS
                refine ⟨[(52, Value.slice (some ⟨lb36, 0, none⟩) (([x16] : List (List Int))).length 1)], _, ⟨.inl ⟨rfl, rfl⟩, trivial⟩, ?_, HS⟩
                refine T.event _ [(49, Value.slice a5_23 x13.heard.2.length c5_23), (52, Value.slice (some ⟨lb36, 0, none⟩) (([x16] : List (List Int))).length 1)] rfl rfl ⟨.m1 0 rfl (.l rfl rfl) (fun w HS => X.move rfl) rfl rfl rfl rfl rfl, .m1 2 rfl (.l rfl rfl) (fun w HS => X.move rfl) rfl rfl rfl rfl rfl, .m1 0 rfl (.l rfl rfl) (fun w HS => X.move rfl) rfl rfl rfl rfl rfl, .m1 2 rfl (.l rfl rfl) (fun w HS => X.move rfl) rfl rfl rfl rfl rfl, .m1 44 rfl (.r rfl rfl) (fun w HS => X.nilCheck rfl) rfl rfl rfl rfl rfl, .m1 46 rfl (.r rfl rfl) (fun w HS => X.fieldAddr 4 fo59_2 rfl) rfl rfl rfl rfl rfl, .m2 45 47 rfl (.r rfl rfl) (.r rfl rfl) (fun w HS => X.indexArK 1 hk33 Try.underlying57 inf56 rfl rfl c25.1 c25.2) rfl rfl rfl rfl rfl, .m1 48 rfl (.r rfl rfl) (fun w HS => X.loadAt 1 HS rfl Try.underlying56 rfl rfl rfl) rfl rfl rfl rfl rfl, .m1 42 rfl (.r rfl rfl) (fun w HS => X.nilCheck rfl) rfl rfl rfl rfl rfl, .m1 54 rfl (.r rfl rfl) (fun w HS => X.fieldAddr 4 fo59_2 rfl) rfl rfl rfl rfl rfl, trivial⟩ rfl ⟨.inr ⟨rfl, rfl⟩, ⟨.inr ⟨rfl, rfl⟩, trivial⟩⟩ (Or.inl rfl) (by intro d hd; cases hd; exact ⟨by decide, rfl, rfl⟩) [] [2, 3, 4, 5, 6, 7] rfl rfl (fun w HS => ?_)
                obtain ⟨c37, H⟩ := ite_n H
                refine ⟨_, Y.appF (fun x => Value.string (strOf x)) (fun _ => rfl) 9 Try.underlying56 ap9 rfl HS rfl rfl rfl (rdC.at 0 row_rd HS rfl) (by omega) (by omega), ?_⟩
                rintro _ w ⟨ra38, rc39, rfl, HS⟩
                refine ⟨[(53, Value.slice ra38 (x13.heard.2 ++ ([x16] : List (List Int))).length rc39), (56, Value.pointer (some ⟨b0, 0 + 4 + 1 * 1, none⟩))], _, ⟨.inl ⟨rfl, rfl⟩, ⟨.inr ⟨by decide, rfl⟩, trivial⟩⟩, ?_, HS⟩
                refine T.event _ [(53, Value.slice ra38 (x13.heard.2 ++ ([x16] : List (List Int))).length rc39), (56, Value.pointer (some ⟨b0, 0 + 4 + 1 * 1, none⟩))] rfl rfl ⟨.m1 0 rfl (.l rfl rfl) (fun w HS => X.move rfl) rfl rfl rfl rfl rfl, .m1 2 rfl (.l rfl rfl) (fun w HS => X.move rfl) rfl rfl rfl rfl rfl, .m1 42 rfl (.r rfl rfl) (fun w HS => X.nilCheck rfl) rfl rfl rfl rfl rfl, .m1 54 rfl (.r rfl rfl) (fun w HS => X.fieldAddr 4 fo59_2 rfl) rfl rfl rfl rfl rfl, .m2 43 55 rfl (.r rfl rfl) (.r rfl rfl) (fun w HS => X.indexArK 1 hk33 Try.underlying57 inf56 rfl rfl c25.1 c25.2) rfl rfl rfl rfl rfl, trivial⟩ rfl ⟨.inr ⟨rfl, rfl⟩, ⟨.inr ⟨rfl, rfl⟩, trivial⟩⟩ (Or.inl rfl) (by intro d hd; cases hd) [] [0, 1, 12, 13, 14] rfl rfl (fun w HS => ?_)
                refine ⟨_, Y.storeAt 1 HS rfl inf56 rfl rfl rfl rfl rfl rfl, ?_⟩
                rintro _ w HS
                refine ⟨[], _, trivial, ?_, HS⟩
                refine T.fin [(0, Value.pointer (some ⟨b0, 0, none⟩)), (2, Value.int .i64 x2)] rfl trivial ⟨.inl ⟨rfl, rfl⟩, ⟨.inl ⟨rfl, rfl⟩, trivial⟩⟩ (fun w HS => ?_)
                refine At.blockEnd ?_
                replace HS := HS.re [1, 2, 3, 4, 5, 6, 7, 8, 9, 10, 11, 0, 12, 13] (by kernel_rfl)
                replace HS := signalmanlaw15_pair.close (({ a := (x13.a.1, x13.a.2), way := (x13.way.1, x13.way.2), heard := (x13.heard.1, x13.heard.2 ++ ([x16] : List (List Int))), said := (x13.said.1, x13.said.2), downs := x13.downs } : signalmanlaw15_pair)) trivial HS
                replace HS := HS.sel [0, 3] [1, 2] (by kernel_rfl)
                exact At.round kf18 (by omega) (({ a := (x13.a.1, x13.a.2), way := (x13.way.1, x13.way.2), heard := (x13.heard.1, x13.heard.2 ++ ([x16] : List (List Int))), said := (x13.said.1, x13.said.2), downs := x13.downs } : signalmanlaw15_pair)) ⟨rfl, rfl, trivial⟩ ⟨HS, H, by omega⟩
            · replace H := ite_f c22 H
              refine V.condT (sb (n_f (b_f c22))) ?_
              refine V.exit ?_
              refine At.thenExit ?_
              refine At.blockPast rfl ?_
              refine At.thenExit ?_
              refine At.blockExit ?_
              refine At.next ?_
              refine V.meet (σ := signalmanlaw15_pair × Option Addr × Nat × List Int) (fun st w => match st with | (x40, ra41, rc42, x43) => Sep.St [row 3 1 (.slice ra41 x43.length rc42) x43.length (x43.map (Value.int .i64)), fsl 1 (.slice ra14 x16.length rc15) x16.length (x16.map (Value.int .u8)), signalmanlaw15_pair.at b0 x40, R] w0 w ∧ ∃ kf44, kf44 ≤ kf18 ∧ signalmanlaw15_pair_collect.j4 kf44 x2 (signalmanlaw15_pair_collect.l0 kf8) x40 x43 = some r) (fun st => match st with | (x40, ra41, rc42, x43) => [(0, Value.pointer (some ⟨b0, 0, none⟩)), (2, Value.int .i64 x2), (5, Value.slice ra41 x43.length rc42)]) ?_ ?_
              · refine V.region ?_
                refine W.rd (X.move rfl) rfl rfl rfl ?_
                refine W.rd (X.move rfl) rfl rfl rfl ?_
                refine W.rd (X.nilCheck rfl) rfl rfl rfl ?_
                replace HS := HS.front 1 rfl
                obtain ⟨b0_58, b1_58, a2_58, c2_58, d2_58, a3_58, c3_58, d3_58, a4_58, c4_58, a5_58, c5_58, a6_58, c6_58, a7_58, c7_58, hi59, HS⟩ := signalmanlaw15_pair.open HS
                refine W.rd (X.fieldAddr 0 fo59_0 rfl) rfl rfl rfl ?_
                obtain ⟨c60, H⟩ := ite_n H
                by_cases c61 : x2 = 0
                · replace H := ite_t c61 H
                  refine W.rd (X.indexArK 0 c61 Try.underlying54 inf26 rfl rfl c60.1 c60.2) rfl rfl rfl ?_
                  refine W.rd (X.loadAt 0 HS rfl Try.underlying26 rfl rfl rfl) rfl rfl rfl ?_
                  obtain ⟨t62, A63, H⟩ := bind_s H
                  replace HS := HS.re [1, 0, 2, 3, 4, 5, 6, 7, 8, 9, 10, 11, 12] (by kernel_rfl)
                  refine W.ev (Y.call Try.func23 (by kernel_rfl) rfl (vs := [Value.pointer (some ⟨b0_58, 0, none⟩)]) rfl (arq_Arq_Inds.calls x13.a.1 _ w0 _ b0_58 t62  A63 (Sep.St.tailJoin (m := [arq_Arq.at b0_58 x13.a.1]) (r := [blk b0 (#[Value.pointer (some ⟨b0_58, 0, none⟩), Value.pointer (some ⟨b1_58, 0, none⟩), Value.slice a2_58 x13.way.1.length c2_58, Value.slice a3_58 x13.way.2.length c3_58, Value.slice a4_58 x13.heard.1.length c4_58, Value.slice a5_58 x13.heard.2.length c5_58, Value.slice a6_58 x13.said.1.length c6_58, Value.slice a7_58 x13.said.2.length c7_58, Value.int .i64 x13.downs]) 59, arq_Arq.at b1_58 x13.a.2, row 39 1 (.slice a2_58 x13.way.1.length c2_58) x13.way.1.length d2_58, tie (El.sl (El.int .u8)) d2_58 x13.way.1, row 39 1 (.slice a3_58 x13.way.2.length c3_58) x13.way.2.length d3_58, tie (El.sl (El.int .u8)) d3_58 x13.way.2, row 9 1 (.slice a4_58 x13.heard.1.length c4_58) x13.heard.1.length (x13.heard.1.map (fun x => Value.string (strOf x))), row 9 1 (.slice a5_58 x13.heard.2.length c5_58) x13.heard.2.length (x13.heard.2.map (fun x => Value.string (strOf x))), row 9 1 (.slice a6_58 x13.said.1.length c6_58) x13.said.1.length (x13.said.1.map (fun x => Value.string (strOf x))), row 9 1 (.slice a7_58 x13.said.2.length c7_58) x13.said.2.length (x13.said.2.map (fun x => Value.string (strOf x))), fsl 1 (.slice ra14 x16.length rc15) x16.length (x16.map (Value.int .u8)), R]) HS))) rfl rfl rfl ?_
                  rintro _ w ⟨at62_0, ct62_0, rfl, HS⟩
                  replace HS := Sep.St.tailOpen (m := [row 3 1 (.slice at62_0 t62.1.length ct62_0) t62.1.length (t62.1.map (Value.int .i64)), arq_Arq.at b0_58 t62.2]) (r := [blk b0 (#[Value.pointer (some ⟨b0_58, 0, none⟩), Value.pointer (some ⟨b1_58, 0, none⟩), Value.slice a2_58 x13.way.1.length c2_58, Value.slice a3_58 x13.way.2.length c3_58, Value.slice a4_58 x13.heard.1.length c4_58, Value.slice a5_58 x13.heard.2.length c5_58, Value.slice a6_58 x13.said.1.length c6_58, Value.slice a7_58 x13.said.2.length c7_58, Value.int .i64 x13.downs]) 59, arq_Arq.at b1_58 x13.a.2, row 39 1 (.slice a2_58 x13.way.1.length c2_58) x13.way.1.length d2_58, tie (El.sl (El.int .u8)) d2_58 x13.way.1, row 39 1 (.slice a3_58 x13.way.2.length c3_58) x13.way.2.length d3_58, tie (El.sl (El.int .u8)) d3_58 x13.way.2, row 9 1 (.slice a4_58 x13.heard.1.length c4_58) x13.heard.1.length (x13.heard.1.map (fun x => Value.string (strOf x))), row 9 1 (.slice a5_58 x13.heard.2.length c5_58) x13.heard.2.length (x13.heard.2.map (fun x => Value.string (strOf x))), row 9 1 (.slice a6_58 x13.said.1.length c6_58) x13.said.1.length (x13.said.1.map (fun x => Value.string (strOf x))), row 9 1 (.slice a7_58 x13.said.2.length c7_58) x13.said.2.length (x13.said.2.map (fun x => Value.string (strOf x))), fsl 1 (.slice ra14 x16.length rc15) x16.length (x16.map (Value.int .u8)), R]) HS
                  refine W.rd (X.assign rfl) rfl rfl rfl ?_
                  refine W.nil ?_
                  replace HS := HS.re [2, 1, 3, 4, 5, 6, 7, 8, 9, 10, 11, 0, 12, 13] (by kernel_rfl)
                  replace HS := signalmanlaw15_pair.close (({ a := (t62.2, x13.a.2), way := (x13.way.1, x13.way.2), heard := (x13.heard.1, x13.heard.2), said := (x13.said.1, x13.said.2), downs := x13.downs } : signalmanlaw15_pair)) trivial HS
                  replace HS := HS.sel [1, 2, 0, 3] [] (by kernel_rfl)
                  exact At.meet (({ a := (t62.2, x13.a.2), way := (x13.way.1, x13.way.2), heard := (x13.heard.1, x13.heard.2), said := (x13.said.1, x13.said.2), downs := x13.downs } : signalmanlaw15_pair), at62_0, ct62_0, t62.1) ⟨rfl, rfl, rfl, trivial⟩ ⟨HS, kf18, by omega, H⟩
                · replace H := ite_f c61 H
                  have hk64 : x2 = 1 := by omega
                  refine W.rd (X.indexArK 1 hk64 Try.underlying54 inf26 rfl rfl c60.1 c60.2) rfl rfl rfl ?_
                  refine W.rd (X.loadAt 0 HS rfl Try.underlying26 rfl rfl rfl) rfl rfl rfl ?_
                  obtain ⟨t65, A66, H⟩ := bind_s H
                  replace HS := HS.re [2, 0, 1, 3, 4, 5, 6, 7, 8, 9, 10, 11, 12] (by kernel_rfl)
                  refine W.ev (Y.call Try.func23 (by kernel_rfl) rfl (vs := [Value.pointer (some ⟨b1_58, 0, none⟩)]) rfl (arq_Arq_Inds.calls x13.a.2 _ w0 _ b1_58 t65  A66 (Sep.St.tailJoin (m := [arq_Arq.at b1_58 x13.a.2]) (r := [blk b0 (#[Value.pointer (some ⟨b0_58, 0, none⟩), Value.pointer (some ⟨b1_58, 0, none⟩), Value.slice a2_58 x13.way.1.length c2_58, Value.slice a3_58 x13.way.2.length c3_58, Value.slice a4_58 x13.heard.1.length c4_58, Value.slice a5_58 x13.heard.2.length c5_58, Value.slice a6_58 x13.said.1.length c6_58, Value.slice a7_58 x13.said.2.length c7_58, Value.int .i64 x13.downs]) 59, arq_Arq.at b0_58 x13.a.1, row 39 1 (.slice a2_58 x13.way.1.length c2_58) x13.way.1.length d2_58, tie (El.sl (El.int .u8)) d2_58 x13.way.1, row 39 1 (.slice a3_58 x13.way.2.length c3_58) x13.way.2.length d3_58, tie (El.sl (El.int .u8)) d3_58 x13.way.2, row 9 1 (.slice a4_58 x13.heard.1.length c4_58) x13.heard.1.length (x13.heard.1.map (fun x => Value.string (strOf x))), row 9 1 (.slice a5_58 x13.heard.2.length c5_58) x13.heard.2.length (x13.heard.2.map (fun x => Value.string (strOf x))), row 9 1 (.slice a6_58 x13.said.1.length c6_58) x13.said.1.length (x13.said.1.map (fun x => Value.string (strOf x))), row 9 1 (.slice a7_58 x13.said.2.length c7_58) x13.said.2.length (x13.said.2.map (fun x => Value.string (strOf x))), fsl 1 (.slice ra14 x16.length rc15) x16.length (x16.map (Value.int .u8)), R]) HS))) rfl rfl rfl ?_
                  rintro _ w ⟨at65_0, ct65_0, rfl, HS⟩
                  replace HS := Sep.St.tailOpen (m := [row 3 1 (.slice at65_0 t65.1.length ct65_0) t65.1.length (t65.1.map (Value.int .i64)), arq_Arq.at b1_58 t65.2]) (r := [blk b0 (#[Value.pointer (some ⟨b0_58, 0, none⟩), Value.pointer (some ⟨b1_58, 0, none⟩), Value.slice a2_58 x13.way.1.length c2_58, Value.slice a3_58 x13.way.2.length c3_58, Value.slice a4_58 x13.heard.1.length c4_58, Value.slice a5_58 x13.heard.2.length c5_58, Value.slice a6_58 x13.said.1.length c6_58, Value.slice a7_58 x13.said.2.length c7_58, Value.int .i64 x13.downs]) 59, arq_Arq.at b0_58 x13.a.1, row 39 1 (.slice a2_58 x13.way.1.length c2_58) x13.way.1.length d2_58, tie (El.sl (El.int .u8)) d2_58 x13.way.1, row 39 1 (.slice a3_58 x13.way.2.length c3_58) x13.way.2.length d3_58, tie (El.sl (El.int .u8)) d3_58 x13.way.2, row 9 1 (.slice a4_58 x13.heard.1.length c4_58) x13.heard.1.length (x13.heard.1.map (fun x => Value.string (strOf x))), row 9 1 (.slice a5_58 x13.heard.2.length c5_58) x13.heard.2.length (x13.heard.2.map (fun x => Value.string (strOf x))), row 9 1 (.slice a6_58 x13.said.1.length c6_58) x13.said.1.length (x13.said.1.map (fun x => Value.string (strOf x))), row 9 1 (.slice a7_58 x13.said.2.length c7_58) x13.said.2.length (x13.said.2.map (fun x => Value.string (strOf x))), fsl 1 (.slice ra14 x16.length rc15) x16.length (x16.map (Value.int .u8)), R]) HS
                  refine W.rd (X.assign rfl) rfl rfl rfl ?_
                  refine W.nil ?_
                  replace HS := HS.re [2, 3, 1, 4, 5, 6, 7, 8, 9, 10, 11, 0, 12, 13] (by kernel_rfl)
                  replace HS := signalmanlaw15_pair.close (({ a := (x13.a.1, t65.2), way := (x13.way.1, x13.way.2), heard := (x13.heard.1, x13.heard.2), said := (x13.said.1, x13.said.2), downs := x13.downs } : signalmanlaw15_pair)) trivial HS
                  replace HS := HS.sel [1, 2, 0, 3] [] (by kernel_rfl)
                  exact At.meet (({ a := (x13.a.1, t65.2), way := (x13.way.1, x13.way.2), heard := (x13.heard.1, x13.heard.2), said := (x13.said.1, x13.said.2), downs := x13.downs } : signalmanlaw15_pair), at65_0, ct65_0, t65.1) ⟨rfl, rfl, rfl, trivial⟩ ⟨HS, kf18, by omega, H⟩
              · rintro ⟨x40, ra41, rc42, x43⟩ w ⟨HS, kf44, hkkf44, H⟩
                unfold signalmanlaw15_pair_collect.j4 at H
                refine V.seq ?_
                refine V.region ?_
                refine W.rd (X.assign rfl) rfl rfl rfl ?_
                refine W.nil ?_
                refine At.next ?_
                refine V.block ?_
                refine V.loop (σ := Int × signalmanlaw15_pair) (fun kq (st : Int × signalmanlaw15_pair) w => match st with | (x47, x48) => Sep.St [row 3 1 (.slice ra41 x43.length rc42) x43.length (x43.map (Value.int .i64)), fsl 1 (.slice ra14 x16.length rc15) x16.length (x16.map (Value.int .u8)), signalmanlaw15_pair.at b0 x48, R] w0 w ∧ signalmanlaw15_pair_collect.l5 kq x2 (signalmanlaw15_pair_collect.l0 kf8) x43 x47 x48 = some r ∧ kq ≤ kf44) (fun st => match st with | (x47, x48) => [(0, Value.pointer (some ⟨b0, 0, none⟩)), (2, Value.int .i64 x2), (5, Value.slice ra41 x43.length rc42), (6, Value.int .i64 x47)]) kf44 (0, x40) ⟨rfl, rfl, rfl, rfl, trivial⟩ ⟨HS, H, Nat.le_refl _⟩ ?_
                rintro kq49 ⟨x47, x48⟩ w ⟨HS, H, hk50⟩
                cases kq49 with
                | zero => exact absurd H (by simp [signalmanlaw15_pair_collect.l5])
                | succ kq49 =>
                  simp only [signalmanlaw15_pair_collect.l5] at H
                  refine V.seq ?_
                  refine V.seq ?_
                  refine V.region ?_
                  refine W.rd (X.move rfl) rfl rfl rfl ?_
                  refine W.rd (X.move rfl) rfl rfl rfl ?_
                  refine W.rd (X.lenSl Try.underlying34 rfl) rfl rfl rfl ?_
                  refine W.rd (X.cmp (decide (x47 < (x43.length : Int))) rfl rfl rfl rfl) rfl rfl rfl ?_
                  refine W.nil ?_
                  refine At.next ?_
                  by_cases c51 : x47 < (x43.length : Int)
                  · replace H := ite_t c51 H
                    refine V.condT (sb (decide_eq_true c51)) ?_
                    refine V.skip ?_
                    refine At.next ?_
                    refine V.seq ?_
                    refine V.block ?_
                    refine V.seq ?_
                    refine V.region ?_
                    refine W.rd (X.move rfl) rfl rfl rfl ?_
                    refine W.rd (X.move rfl) rfl rfl rfl ?_
                    obtain ⟨c52, H⟩ := ite_n H
                    obtain ⟨eb53, eo54, hh⟩ := (rdC.at 0 row_rd HS rfl).some (by decide) c52.1 c52.2; subst hh
                    refine W.rd (X.indexSl Try.underlying34 inf3 rfl rfl c52.1 c52.2) rfl rfl rfl ?_
                    refine W.rd (X.load Try.underlying3 rfl rfl ((rdC.at 0 row_rd HS rfl).cellI c52.1 c52.2)) rfl rfl rfl ?_
                    refine W.rd (X.cmp (!(decide ((x43.getD x47.toNat 0) = 1))) rfl rfl rfl rfl) rfl rfl rfl ?_
                    refine W.nil ?_
                    refine At.next ?_
                    by_cases c55 : (x43.getD x47.toNat 0) = 1
                    · replace H := ite_t c55 H
                      refine V.condF (sb (n_t (decide_eq_true c55))) ?_
                      refine V.skip ?_
                      refine At.blockEnd ?_
                      refine At.next ?_
                      refine V.region ?_
                      refine W.rd (X.move rfl) rfl rfl rfl ?_
                      refine W.rd (X.add rfl rfl) rfl rfl rfl ?_
                      refine W.rd (X.assign rfl) rfl rfl rfl ?_
                      refine W.nil ?_
                      exact At.round kq49 (by omega) (w64 (x47 + 1), x48) ⟨rfl, rfl, rfl, rfl, trivial⟩ ⟨HS, H, by omega⟩
                    · replace H := ite_f c55 H
                      refine V.condT (sb (n_f (decide_eq_false c55))) ?_
                      refine V.region ?_
                      refine W.rd (X.move rfl) rfl rfl rfl ?_
                      refine W.rd (X.nilCheck rfl) rfl rfl rfl ?_
                      replace HS := HS.front 2 rfl
                      obtain ⟨b0_56, b1_56, a2_56, c2_56, d2_56, a3_56, c3_56, d3_56, a4_56, c4_56, a5_56, c5_56, a6_56, c6_56, a7_56, c7_56, hi57, HS⟩ := signalmanlaw15_pair.open HS
                      refine W.rd (X.fieldAddr 8 fo59_4 rfl) rfl rfl rfl ?_
                      refine W.rd (X.loadAt 0 HS rfl Try.underlying3 rfl rfl rfl) rfl rfl rfl ?_
                      refine W.rd (X.add rfl rfl) rfl rfl rfl ?_
                      refine W.rd (X.nilCheck rfl) rfl rfl rfl ?_
                      refine W.rd (X.fieldAddr 8 fo59_4 rfl) rfl rfl rfl ?_
                      refine W.ev_none (Y.storeAt 0 HS rfl inf3 rfl rfl rfl rfl rfl rfl) rfl rfl ?_
                      rintro _ w HS
                      refine W.nil ?_
                      refine At.blockEnd ?_
                      refine At.next ?_
                      refine V.region ?_
                      refine W.rd (X.move rfl) rfl rfl rfl ?_
                      refine W.rd (X.add rfl rfl) rfl rfl rfl ?_
                      refine W.rd (X.assign rfl) rfl rfl rfl ?_
                      refine W.nil ?_
                      replace HS := signalmanlaw15_pair.close (({ a := (x48.a.1, x48.a.2), way := (x48.way.1, x48.way.2), heard := (x48.heard.1, x48.heard.2), said := (x48.said.1, x48.said.2), downs := w64 (x48.downs + 1) } : signalmanlaw15_pair)) trivial HS
                      replace HS := HS.sel [1, 2, 0, 3] [] (by kernel_rfl)
                      exact At.round kq49 (by omega) (w64 (x47 + 1), ({ a := (x48.a.1, x48.a.2), way := (x48.way.1, x48.way.2), heard := (x48.heard.1, x48.heard.2), said := (x48.said.1, x48.said.2), downs := w64 (x48.downs + 1) } : signalmanlaw15_pair)) ⟨rfl, rfl, rfl, rfl, trivial⟩ ⟨HS, H, by omega⟩
                  · replace H := ite_f c51 H
                    refine V.condF (sb (decide_eq_false c51)) ?_
                    refine V.exit ?_
                    refine At.thenExit ?_
                    refine At.thenExit ?_
                    refine At.blockExit ?_
                    refine At.blockEnd ?_
                    refine At.next ?_
                    refine V.region ?_
                    refine W.rd (X.move rfl) rfl rfl rfl ?_
                    refine W.rd (X.add rfl rfl) rfl rfl rfl ?_
                    refine W.rd (X.assign rfl) rfl rfl rfl ?_
                    refine W.nil ?_
                    replace HS := HS.sel [2, 3] [0, 1] (by kernel_rfl)
                    exact At.round kf8 (by omega) (w64 (x2 + 1), x48) ⟨rfl, rfl, trivial⟩ ⟨HS, H, by omega⟩
    · replace H := ite_f c6 H
      refine V.condF (sb (decide_eq_false c6)) ?_
      refine V.exit ?_
      refine At.thenExit ?_
      refine At.thenExit ?_
      refine At.blockExit ?_
      cases H
      exact At.end0 rfl ⟨_, rfl, rfl, HS⟩

/-! ### slices.Index[[]byte,byte]: function 85 -/
mutual
def slices_Index_Sbytebyte.l0 : Nat → (List Int) → Int → Int → Option Int
  | 0, _, _, _ => none
  | k + 1, a0, a1, x1 => (if x1 < (a0.length : Int) then (if 0 ≤ x1 ∧ x1 < (a0.length : Int) then (if a1 = (a0.getD x1.toNat 0) then some x1 else (slices_Index_Sbytebyte.l0 k a0 a1 (w64 (x1 + 1)))) else none) else some (-1))
end
def slices_Index_Sbytebyte.f (k : Nat) (a0 : List Int) (a1 : Int) : Option Int := (slices_Index_Sbytebyte.l0 k a0 a1 0)
set_option maxRecDepth 100000 in
set_option maxHeartbeats 4000000 in
theorem slices_Index_Sbytebyte.calls (k : Nat) (a0 : List Int) (a1 : Int) (R : As) (w0 w : World) (sa0 : Option Addr) (sc0 : Nat) (r : Int) (hr0 : rdC R 1 (.slice sa0 a0.length sc0) a0.length (a0.map (Value.int .u8))) (H : slices_Index_Sbytebyte.f k a0 a1 = some r) (HS : Sep.St [R] w0 w) : Calls Try.prog 85 #[Value.slice sa0 a0.length sc0, Value.int .u8 a1] w (Ret fun u w => u = Value.int .i64 r ∧ Sep.St [R] w0 w) := by
  unfold slices_Index_Sbytebyte.f at H
  refine calls_enter Try.func85 rfl rfl ?_
  have H : _ = some r := H
  refine V.seq ?_
  refine V.region ?_
  refine W.rd (X.assign rfl) rfl rfl rfl ?_
  refine W.nil ?_
  refine At.next ?_
  refine V.seq ?_
  refine V.seq ?_
  refine V.region ?_
  refine W.rd (X.move rfl) rfl rfl rfl ?_
  refine W.rd (X.lenSl Try.underlying39 rfl) rfl rfl rfl ?_
  refine W.rd (X.move rfl) rfl rfl rfl ?_
  refine W.nil ?_
  refine At.next ?_
  refine V.block ?_
  refine V.loop (σ := Int) (fun kq (st : Int) w => match st with | x1 => Sep.St [R] w0 w ∧ slices_Index_Sbytebyte.l0 kq a0 a1 x1 = some r ∧ kq ≤ k) (fun st => match st with | x1 => [(0, Value.slice sa0 a0.length sc0), (1, Value.int .u8 a1), (7, Value.int .i64 (a0.length : Int)), (8, Value.int .i64 x1)]) k (0) ⟨rfl, rfl, rfl, rfl, trivial⟩ ⟨HS, H, Nat.le_refl _⟩ ?_
  rintro kq2 x1 w ⟨HS, H, hk3⟩
  cases kq2 with
  | zero => exact absurd H (by simp [slices_Index_Sbytebyte.l0])
  | succ kq2 =>
    simp only [slices_Index_Sbytebyte.l0] at H
    refine V.seq ?_
    refine V.region ?_
    refine W.rd (X.cmp (decide (x1 < (a0.length : Int))) rfl rfl rfl rfl) rfl rfl rfl ?_
    refine W.nil ?_
    refine At.next ?_
    refine V.seq ?_
    by_cases c4 : x1 < (a0.length : Int)
    · replace H := ite_t c4 H
      refine V.condT (sb (decide_eq_true c4)) ?_
      refine V.skip ?_
      refine At.next ?_
      refine V.seq ?_
      refine V.block ?_
      refine V.seq ?_
      refine V.region ?_
      refine W.rd (X.move rfl) rfl rfl rfl ?_
      refine W.rd (X.assign rfl) rfl rfl rfl ?_
      refine W.nil ?_
      refine At.next ?_
      refine V.seq ?_
      refine V.region ?_
      refine W.rd (X.move rfl) rfl rfl rfl ?_
      refine W.rd (X.move rfl) rfl rfl rfl ?_
      refine W.rd (X.move rfl) rfl rfl rfl ?_
      obtain ⟨c5, H⟩ := ite_n H
      obtain ⟨eb6, eo7, hh⟩ := (rdC.at 0 hr0 HS rfl).some (by decide) c5.1 c5.2; subst hh
      refine W.rd (X.indexSl Try.underlying39 inf5 rfl rfl c5.1 c5.2) rfl rfl rfl ?_
      refine W.rd (X.load Try.underlying5 rfl rfl ((rdC.at 0 hr0 HS rfl).cellI c5.1 c5.2)) rfl rfl rfl ?_
      refine W.rd (X.cmp (decide (a1 = (a0.getD x1.toNat 0))) rfl rfl rfl rfl) rfl rfl rfl ?_
      refine W.nil ?_
      refine At.next ?_
      by_cases c8 : a1 = (a0.getD x1.toNat 0)
      · replace H := ite_t c8 H
        refine V.condT (sb (decide_eq_true c8)) ?_
        refine V.seq ?_
        refine V.region ?_
        refine W.rd (X.move rfl) rfl rfl rfl ?_
        refine W.rd (X.assign rfl) rfl rfl rfl ?_
        refine W.nil ?_
        refine At.next ?_
        refine V.ret ?_
        refine At.blockRet ?_
        refine At.thenRet ?_
        refine At.thenRet ?_
        refine At.blockRet ?_
        refine At.thenRet ?_
        cases H
        exact At.ret1 rfl rfl ⟨_, rfl, rfl, HS⟩
      · replace H := ite_f c8 H
        refine V.condF (sb (decide_eq_false c8)) ?_
        refine V.skip ?_
        refine At.blockEnd ?_
        refine At.next ?_
        refine V.region ?_
        refine W.rd (X.add rfl rfl) rfl rfl rfl ?_
        refine W.rd (X.move rfl) rfl rfl rfl ?_
        refine W.nil ?_
        exact At.round kq2 (by omega) (w64 (x1 + 1)) ⟨rfl, rfl, rfl, rfl, trivial⟩ ⟨HS, H, by omega⟩
    · replace H := ite_f c4 H
      refine V.condF (sb (decide_eq_false c4)) ?_
      refine V.exit ?_
      refine At.thenExit ?_
      refine At.thenExit ?_
      refine At.blockExit ?_
      refine At.next ?_
      refine V.seq ?_
      refine V.region ?_
      refine W.rd (X.assign rfl) rfl rfl rfl ?_
      refine W.nil ?_
      refine At.next ?_
      refine V.ret ?_
      cases H
      exact At.ret1 rfl rfl ⟨_, rfl, rfl, HS⟩

/-! ### signalman/control.number: function 88 -/
mutual
def control_number.l0 : Nat → (List Int) → Int → Int → Option Int
  | 0, _, _, _ => none
  | k + 1, a0, x1, x2 => (if x2 < (a0.length : Int) then (if 0 ≤ x2 ∧ x2 < (a0.length : Int) then (if ¬ (w64 (8 * x2) < 0) then (control_number.l0 k a0 (ior .i64 x1 (w64 ((w64 (a0.getD x2.toNat 0)) * 2 ^ (min (w64 (8 * x2)).toNat IntKind.i64.bits)))) (w64 (x2 + 1))) else none) else none) else some x1)
end
def control_number.f (k : Nat) (a0 : List Int) : Option Int := (control_number.l0 k a0 0 0)
set_option maxRecDepth 100000 in
set_option maxHeartbeats 4000000 in
theorem control_number.calls (k : Nat) (a0 : List Int) (R : As) (w0 w : World) (sa0 : Option Addr) (sc0 : Nat) (r : Int) (hr0 : rdC R 1 (.slice sa0 a0.length sc0) a0.length (a0.map (Value.int .u8))) (H : control_number.f k a0 = some r) (HS : Sep.St [R] w0 w) : Calls Try.prog 88 #[Value.slice sa0 a0.length sc0] w (Ret fun u w => u = Value.int .i64 r ∧ Sep.St [R] w0 w) := by
  unfold control_number.f at H
  refine calls_enter Try.func88 rfl rfl ?_
  have H : _ = some r := H
  refine V.seq ?_
  refine V.region ?_
  refine W.rd (X.assign rfl) rfl rfl rfl ?_
  refine W.nil ?_
  refine At.next ?_
  refine V.seq ?_
  refine V.region ?_
  refine W.rd (X.assign rfl) rfl rfl rfl ?_
  refine W.nil ?_
  refine At.next ?_
  refine V.seq ?_
  refine V.seq ?_
  refine V.region ?_
  refine W.rd (X.move rfl) rfl rfl rfl ?_
  refine W.rd (X.lenSl Try.underlying39 rfl) rfl rfl rfl ?_
  refine W.rd (X.move rfl) rfl rfl rfl ?_
  refine W.nil ?_
  refine At.next ?_
  refine V.block ?_
  refine V.loop (σ := Int × Int) (fun kq (st : Int × Int) w => match st with | (x1, x2) => Sep.St [R] w0 w ∧ control_number.l0 kq a0 x1 x2 = some r ∧ kq ≤ k) (fun st => match st with | (x1, x2) => [(3, Value.int .i64 x1), (6, Value.slice sa0 a0.length sc0), (7, Value.int .i64 (a0.length : Int)), (8, Value.int .i64 x2)]) k (0, 0) ⟨rfl, rfl, rfl, rfl, trivial⟩ ⟨HS, H, Nat.le_refl _⟩ ?_
  rintro kq3 ⟨x1, x2⟩ w ⟨HS, H, hk4⟩
  cases kq3 with
  | zero => exact absurd H (by simp [control_number.l0])
  | succ kq3 =>
    simp only [control_number.l0] at H
    refine V.seq ?_
    refine V.region ?_
    refine W.rd (X.cmp (decide (x2 < (a0.length : Int))) rfl rfl rfl rfl) rfl rfl rfl ?_
    refine W.nil ?_
    refine At.next ?_
    refine V.seq ?_
    by_cases c5 : x2 < (a0.length : Int)
    · replace H := ite_t c5 H
      refine V.condT (sb (decide_eq_true c5)) ?_
      refine V.skip ?_
      refine At.next ?_
      refine V.seq ?_
      refine V.block ?_
      refine V.seq ?_
      refine V.region ?_
      refine W.rd (X.move rfl) rfl rfl rfl ?_
      obtain ⟨c6, H⟩ := ite_n H
      obtain ⟨eb7, eo8, hh⟩ := (rdC.at 0 hr0 HS rfl).some (by decide) c6.1 c6.2; subst hh
      refine W.rd (X.indexSl Try.underlying39 inf5 rfl rfl c6.1 c6.2) rfl rfl rfl ?_
      refine W.rd (X.load Try.underlying5 rfl rfl ((rdC.at 0 hr0 HS rfl).cellI c6.1 c6.2)) rfl rfl rfl ?_
      refine W.rd (X.assign rfl) rfl rfl rfl ?_
      refine W.rd (X.assign rfl) rfl rfl rfl ?_
      refine W.nil ?_
      refine At.next ?_
      refine V.region ?_
      refine W.rd (X.move rfl) rfl rfl rfl ?_
      refine W.rd (X.move rfl) rfl rfl rfl ?_
      refine W.rd (X.conv Try.underlying5 Try.underlying3 rfl) rfl rfl rfl ?_
      refine W.rd (X.move rfl) rfl rfl rfl ?_
      refine W.rd (X.mul rfl rfl) rfl rfl rfl ?_
      obtain ⟨c9, H⟩ := ite_n H
      refine W.rd (X.shl rfl rfl c9) rfl rfl rfl ?_
      refine W.rd (X.or rfl rfl) rfl rfl rfl ?_
      refine W.rd (X.assign rfl) rfl rfl rfl ?_
      refine W.nil ?_
      refine At.blockEnd ?_
      refine At.next ?_
      refine V.region ?_
      refine W.rd (X.add rfl rfl) rfl rfl rfl ?_
      refine W.rd (X.move rfl) rfl rfl rfl ?_
      refine W.nil ?_
      exact At.round kq3 (by omega) (ior .i64 x1 (w64 ((w64 (a0.getD x2.toNat 0)) * 2 ^ (min (w64 (8 * x2)).toNat IntKind.i64.bits))), w64 (x2 + 1)) ⟨rfl, rfl, rfl, rfl, trivial⟩ ⟨HS, H, by omega⟩
    · replace H := ite_f c5 H
      refine V.condF (sb (decide_eq_false c5)) ?_
      refine V.exit ?_
      refine At.thenExit ?_
      refine At.thenExit ?_
      refine At.blockExit ?_
      refine At.next ?_
      refine V.seq ?_
      refine V.region ?_
      refine W.rd (X.move rfl) rfl rfl rfl ?_
      refine W.rd (X.assign rfl) rfl rfl rfl ?_
      refine W.nil ?_
      refine At.next ?_
      refine V.ret ?_
      cases H
      exact At.ret1 rfl rfl ⟨_, rfl, rfl, HS⟩

/-! ### signalman/control.Read: function 52 -/
mutual
def control_Read.j0 (k : Nat) (a0 : List Int) (a1 : Int) (x20 : api_Ctl) : Option (api_Ctl × Int × Int) := ((control_put.f ([] : List Int) 0 a1).bind fun t22 => (if (a0.length : Int) < (w64 (2 * (t22.length : Int))) then some (({ Kind := 0, Ns := 0, Nr := 0, Poll := false } : api_Ctl), 0, 3) else (if 0 ≤ (0 : Int) ∧ (0 : Int) ≤ (t22.length : Int) ∧ (t22.length : Int) ≤ (a0.length : Int) then (if 0 ≤ (t22.length : Int) ∧ (t22.length : Int) ≤ w64 (2 * (t22.length : Int)) ∧ w64 (2 * (t22.length : Int)) ≤ (a0.length : Int) then ((control_number.f k (cut a0 (0 : Int) (t22.length : Int))).bind fun t31 => ((control_number.f k (cut a0 (t22.length : Int) (w64 (2 * (t22.length : Int))))).bind fun t33 => (if x20.Kind = 0 then some (({ Kind := x20.Kind, Ns := w64 (t31.tdiv (2)), Nr := w64 (t33.tdiv (2)), Poll := decide ((iand .i64 t33 (1)) = 1) } : api_Ctl), w64 (2 * (t22.length : Int)), 0) else (if t31 = (w64 (a0.getD (0 : Int).toNat 0)) then some (({ Kind := x20.Kind, Ns := x20.Ns, Nr := w64 (t33.tdiv (2)), Poll := decide ((iand .i64 t33 (1)) = 1) } : api_Ctl), w64 (2 * (t22.length : Int)), 0) else some (({ Kind := 0, Ns := 0, Nr := 0, Poll := false } : api_Ctl), 0, 2))))) else none) else none)))
end
def control_Read.f (k : Nat) (a0 : List Int) (a1 : Int) : Option (api_Ctl × Int × Int) := ((control_modulus.f a1).bind fun t3 => (if t3 = true then (if (a0.length : Int) = 0 then some (({ Kind := 0, Ns := 0, Nr := 0, Poll := false } : api_Ctl), 0, 3) else (if 0 ≤ (0 : Int) ∧ (0 : Int) < (a0.length : Int) then ((control_plain.f ).bind fun t11 => ((slices_Index_Sbytebyte.f k t11 (iandn .u8 (a0.getD (0 : Int).toNat 0) (16))).bind fun t13 => (if t13 ≥ 0 then some (({ Kind := w64 (3 + t13), Ns := 0, Nr := 0, Poll := !(decide ((iand .u8 (a0.getD (0 : Int).toNat 0) (16)) = 0)) } : api_Ctl), 1, 0) else (if (a0.getD (0 : Int).toNat 0) = 1 then (control_Read.j0 k a0 a1 ({ Kind := 1, Ns := 0, Nr := 0, Poll := false } : api_Ctl)) else (if (a0.getD (0 : Int).toNat 0) = 9 then (control_Read.j0 k a0 a1 ({ Kind := 2, Ns := 0, Nr := 0, Poll := false } : api_Ctl)) else (if (iand .u8 (a0.getD (0 : Int).toNat 0) (1)) = 1 then some (({ Kind := 0, Ns := 0, Nr := 0, Poll := false } : api_Ctl), 0, 2) else (control_Read.j0 k a0 a1 ({ Kind := 0, Ns := 0, Nr := 0, Poll := false } : api_Ctl)))))))) else none)) else some (({ Kind := 0, Ns := 0, Nr := 0, Poll := false } : api_Ctl), 0, 1)))
set_option maxRecDepth 100000 in
set_option maxHeartbeats 4000000 in
theorem control_Read.calls (k : Nat) (a0 : List Int) (a1 : Int) (R : As) (w0 w : World) (sa0 : Option Addr) (sc0 : Nat) (r : api_Ctl × Int × Int) (hr0 : rdC R 1 (.slice sa0 a0.length sc0) a0.length (a0.map (Value.int .u8))) (H : control_Read.f k a0 a1 = some r) (HS : Sep.St [R] w0 w) : Calls Try.prog 52 #[Value.slice sa0 a0.length sc0, Value.int .i64 a1] w (Ret fun u w => u = Value.tuple #[Value.agg #[Value.int .i64 r.1.Kind, Value.int .i64 r.1.Ns, Value.int .i64 r.1.Nr, Value.bool r.1.Poll], Value.int .i64 r.2.1, Value.int .i64 r.2.2] ∧ Sep.St [R] w0 w) := by
  unfold control_Read.f at H
  refine calls_enter Try.func52 rfl rfl ?_
  have H : _ = some r := H
  refine V.seq ?_
  refine V.region ?_
  refine W.ev (Y.alloc (z := Value.agg (#[Value.int .i64 (0), Value.int .i64 (0), Value.int .i64 (0), Value.bool false])) HS ze42) rfl rfl rfl ?_
  rintro _ w ⟨nb1, rfl, HS⟩
  refine W.rd (X.assign rfl) rfl rfl rfl ?_
  refine W.rd (X.assign rfl) rfl rfl rfl ?_
  refine W.nil ?_
  refine At.next ?_
  refine V.seq ?_
  refine V.seq ?_
  refine V.region ?_
  refine W.rd (X.move rfl) rfl rfl rfl ?_
  obtain ⟨t3, A4, H⟩ := bind_s H
  refine W.ev (Y.call Try.func84 (by kernel_rfl) rfl (vs := [Value.int .i64 a1]) rfl (control_modulus.calls a1 _ w0 _  t3  A4 (Sep.St.tailJoin (m := []) (r := [blk nb1 (#[Value.int .i64 (0), Value.int .i64 (0), Value.int .i64 (0), Value.bool false]) 42, R]) HS))) rfl rfl rfl ?_
  rintro _ w ⟨rfl, HS⟩
  replace HS := Sep.St.tailOpen (m := []) (r := [blk nb1 (#[Value.int .i64 (0), Value.int .i64 (0), Value.int .i64 (0), Value.bool false]) 42, R]) HS
  refine W.rd (X.not rfl) rfl rfl rfl ?_
  refine W.nil ?_
  refine At.next ?_
  by_cases c5 : t3 = true
  · replace H := ite_t c5 H
    refine V.condF (sb (n_t c5)) ?_
    refine V.skip ?_
    refine At.next ?_
    refine V.seq ?_
    refine V.seq ?_
    refine V.region ?_
    refine W.rd (X.move rfl) rfl rfl rfl ?_
    refine W.rd (X.lenSl Try.underlying39 rfl) rfl rfl rfl ?_
    refine W.rd (X.cmp (decide ((a0.length : Int) = 0)) rfl rfl rfl rfl) rfl rfl rfl ?_
    refine W.nil ?_
    refine At.next ?_
    by_cases c6 : (a0.length : Int) = 0
    · replace H := ite_t c6 H
      refine V.condT (sb (decide_eq_true c6)) ?_
      refine V.seq ?_
      refine V.region ?_
      refine W.rd (X.build (vs := #[]) (v := Value.agg #[Value.int .i64 (0), Value.int .i64 (0), Value.int .i64 (0), Value.bool false]) (fun a ha => by simp only [List.map_toArray, List.map_cons, List.map_nil]; try rfl) (fun _ => by kernel_rfl)) rfl rfl rfl ?_
      refine W.ev_none (Y.storeSt (c' := #[Value.int .i64 (0), Value.int .i64 (0), Value.int .i64 (0), Value.bool false]) 0 [Value.int .i64 (0), Value.int .i64 (0), Value.int .i64 (0), Value.bool false] HS rfl inf42 rfl rfl rfl rfl rfl rfl) rfl rfl ?_
      rintro _ w HS
      refine W.rd (X.assign rfl) rfl rfl rfl ?_
      refine W.rd (X.assign rfl) rfl rfl rfl ?_
      refine W.nil ?_
      refine At.next ?_
      refine V.ret ?_
      refine At.thenRet ?_
      have hv7 := run_loadSt (P := Try.prog) (p := 0) 0 [Value.int .i64 (0), Value.int .i64 (0), Value.int .i64 (0), Value.bool false] HS rfl Try.underlying42 rfl inf42 rfl
      replace HS := HS.sel [1] [0] (by kernel_rfl)
      cases H
      exact At.retv3 rfl ⟨_, rfl, hv7⟩ rfl rfl ⟨_, rfl, rfl, HS⟩
    · replace H := ite_f c6 H
      refine V.condF (sb (decide_eq_false c6)) ?_
      refine V.skip ?_
      refine At.next ?_
      refine V.seq ?_
      refine V.seq ?_
      obtain ⟨c8, H⟩ := ite_n H
      obtain ⟨eb9, eo10, hh⟩ := (rdC.at 1 hr0 HS rfl).some (by decide) c8.1 c8.2; subst hh
      refine V.draw (es := [0, 5]) (bl := [6]) (f := [(21, Value.slice (some ⟨eb9, eo10, none⟩) a0.length sc0), (22, Value.pointer (some ⟨eb9, eo10 + (0 : Int).toNat * 1, none⟩)), (23, Value.int .u8 (a0.getD (0 : Int).toNat 0)), (24, Value.int .u8 (iandn .u8 (a0.getD (0 : Int).toNat 0) (16)))]) (fun w => Sep.St [blk nb1 (#[Value.int .i64 (0), Value.int .i64 (0), Value.int .i64 (0), Value.bool false]) 42, R] w0 w) mo HS.drew rfl ?_
      refine T.event _ [] rfl rfl ⟨.m1 0 rfl (.l rfl rfl) (fun w HS => X.move rfl) rfl rfl rfl rfl rfl, .m1 21 rfl (.r rfl rfl) (fun w HS => X.indexSl Try.underlying39 inf5 rfl rfl c8.1 c8.2) rfl rfl rfl rfl rfl, .m1 22 rfl (.r rfl rfl) (fun w HS => X.load Try.underlying5 rfl rfl ((rdC.at 1 hr0 HS rfl).cellI c8.1 c8.2)) rfl rfl rfl rfl rfl, .m1 23 rfl (.r rfl rfl) (fun w HS => X.andNot rfl rfl) rfl rfl rfl rfl rfl, trivial⟩ rfl trivial (Or.inl rfl) (by intro d hd; cases hd; exact ⟨by decide, rfl, rfl⟩) [6] [] rfl rfl (fun w HS => ?_)
      obtain ⟨t11, A12, H⟩ := bind_s H
      refine ⟨_, Y.call Try.func86 (by kernel_rfl) rfl (vs := []) rfl (control_plain.calls  _ w0 _  t11  A12 (Sep.St.tailJoin (m := []) (r := [blk nb1 (#[Value.int .i64 (0), Value.int .i64 (0), Value.int .i64 (0), Value.bool false]) 42, R]) HS)), ?_⟩
      rintro _ w ⟨at11_0, ct11_0, rfl, HS⟩
      replace HS := Sep.St.tailOpen (m := [row 5 1 (.slice at11_0 t11.length ct11_0) t11.length (t11.map (Value.int .u8))]) (r := [blk nb1 (#[Value.int .i64 (0), Value.int .i64 (0), Value.int .i64 (0), Value.bool false]) 42, R]) HS
      refine ⟨[(20, Value.slice at11_0 t11.length ct11_0)], _, ⟨.inl ⟨rfl, rfl⟩, trivial⟩, ?_, HS⟩
      refine T.event _ [(20, Value.slice at11_0 t11.length ct11_0), (24, Value.int .u8 (iandn .u8 (a0.getD (0 : Int).toNat 0) (16)))] rfl rfl ⟨.m1 0 rfl (.l rfl rfl) (fun w HS => X.move rfl) rfl rfl rfl rfl rfl, .m1 21 rfl (.r rfl rfl) (fun w HS => X.indexSl Try.underlying39 inf5 rfl rfl c8.1 c8.2) rfl rfl rfl rfl rfl, .m1 22 rfl (.r rfl rfl) (fun w HS => X.load Try.underlying5 rfl rfl ((rdC.at 2 hr0 HS rfl).cellI c8.1 c8.2)) rfl rfl rfl rfl rfl, .m1 23 rfl (.r rfl rfl) (fun w HS => X.andNot rfl rfl) rfl rfl rfl rfl rfl, trivial⟩ rfl ⟨.inr ⟨rfl, rfl⟩, ⟨.inr ⟨rfl, rfl⟩, trivial⟩⟩ (Or.inl rfl) (by intro d hd; cases hd; exact ⟨by decide, rfl, rfl⟩) [] [1, 2, 3, 4] rfl rfl (fun w HS => ?_)
      obtain ⟨t13, A14, H⟩ := bind_s H
      refine ⟨_, Y.call Try.func85 (by kernel_rfl) rfl (vs := [Value.slice at11_0 t11.length ct11_0, Value.int .u8 (iandn .u8 (a0.getD (0 : Int).toNat 0) (16))]) rfl (slices_Index_Sbytebyte.calls k t11 (iandn .u8 (a0.getD (0 : Int).toNat 0) (16)) _ w0 _ at11_0 ct11_0 t13 (rdC.part 0 row_rd rfl) A14 (Sep.St.tailJoin (m := []) (r := [row 5 1 (.slice at11_0 t11.length ct11_0) t11.length (t11.map (Value.int .u8)), blk nb1 (#[Value.int .i64 (0), Value.int .i64 (0), Value.int .i64 (0), Value.bool false]) 42, R]) HS)), ?_⟩
      rintro _ w ⟨rfl, HS⟩
      replace HS := Sep.St.tailOpen (m := []) (r := [row 5 1 (.slice at11_0 t11.length ct11_0) t11.length (t11.map (Value.int .u8)), blk nb1 (#[Value.int .i64 (0), Value.int .i64 (0), Value.int .i64 (0), Value.bool false]) 42, R]) HS
      refine ⟨[(25, Value.int .i64 t13), (7, Value.int .i64 t13)], _, ⟨.inl ⟨rfl, rfl⟩, ⟨.inr ⟨by decide, rfl⟩, trivial⟩⟩, ?_, HS⟩
      refine T.fin [(0, Value.slice (some ⟨eb9, eo10, none⟩) a0.length sc0), (1, Value.int .i64 a1), (4, Value.pointer (some ⟨nb1, 0, none⟩)), (7, Value.int .i64 t13)] rfl ⟨.m1 25 rfl (.r rfl rfl) (fun w HS => X.assign rfl) rfl rfl rfl rfl rfl, trivial⟩ ⟨.inl ⟨rfl, rfl⟩, ⟨.inl ⟨rfl, rfl⟩, ⟨.inl ⟨rfl, rfl⟩, ⟨.inr ⟨rfl, rfl⟩, trivial⟩⟩⟩⟩ (fun w HS => ?_)
      refine At.next ?_
      refine V.seq ?_
      refine V.region ?_
      refine W.rd (X.move rfl) rfl rfl rfl ?_
      refine W.rd (X.cmp (decide (t13 ≥ 0)) rfl rfl rfl rfl) rfl rfl rfl ?_
      refine W.nil ?_
      refine At.next ?_
      by_cases c15 : t13 ≥ 0
      · replace H := ite_t c15 H
        refine V.condT (sb (decide_eq_true c15)) ?_
        refine V.seq ?_
        refine V.region ?_
        refine W.rd (X.move rfl) rfl rfl rfl ?_
        refine W.rd (X.add rfl rfl) rfl rfl rfl ?_
        refine W.rd (X.move rfl) rfl rfl rfl ?_
        refine W.rd (X.indexSl Try.underlying39 inf5 rfl rfl c8.1 c8.2) rfl rfl rfl ?_
        refine W.rd (X.load Try.underlying5 rfl rfl ((rdC.at 2 hr0 HS rfl).cellI c8.1 c8.2)) rfl rfl rfl ?_
        refine W.rd (X.and rfl rfl) rfl rfl rfl ?_
        refine W.rd (X.cmp (!(decide ((iand .u8 (a0.getD (0 : Int).toNat 0) (16)) = 0))) rfl rfl rfl rfl) rfl rfl rfl ?_
        refine W.rd (X.build (vs := #[(0, Value.int .i64 (w64 (3 + t13))), (3, Value.bool (!(decide ((iand .u8 (a0.getD (0 : Int).toNat 0) (16)) = 0))))]) (v := Value.agg #[Value.int .i64 (w64 (3 + t13)), Value.int .i64 (0), Value.int .i64 (0), Value.bool (!(decide ((iand .u8 (a0.getD (0 : Int).toNat 0) (16)) = 0)))]) (fun a ha => by simp only [List.map_toArray, List.map_cons, List.map_nil]; rw [ha.ev (x := .tmp 29) (v := Value.int .i64 (w64 (3 + t13))) rfl]; rw [ha.ev (x := .tmp 34) (v := Value.bool (!(decide ((iand .u8 (a0.getD (0 : Int).toNat 0) (16)) = 0)))) rfl]; try rfl) (fun _ => by kernel_rfl)) rfl rfl rfl ?_
        refine W.ev_none (Y.storeSt (c' := #[Value.int .i64 (w64 (3 + t13)), Value.int .i64 (0), Value.int .i64 (0), Value.bool (!(decide ((iand .u8 (a0.getD (0 : Int).toNat 0) (16)) = 0)))]) 1 [Value.int .i64 (w64 (3 + t13)), Value.int .i64 (0), Value.int .i64 (0), Value.bool (!(decide ((iand .u8 (a0.getD (0 : Int).toNat 0) (16)) = 0)))] HS rfl inf42 rfl rfl rfl rfl rfl rfl) rfl rfl ?_
        rintro _ w HS
        refine W.rd (X.assign rfl) rfl rfl rfl ?_
        refine W.rd (X.assign rfl) rfl rfl rfl ?_
        refine W.nil ?_
        refine At.next ?_
        refine V.ret ?_
        refine At.thenRet ?_
        have hv16 := run_loadSt (P := Try.prog) (p := 0) 1 [Value.int .i64 (w64 (3 + t13)), Value.int .i64 (0), Value.int .i64 (0), Value.bool (!(decide ((iand .u8 (a0.getD (0 : Int).toNat 0) (16)) = 0)))] HS rfl Try.underlying42 rfl inf42 rfl
        replace HS := HS.sel [2] [0, 1] (by kernel_rfl)
        cases H
        exact At.retv3 rfl ⟨_, rfl, hv16⟩ rfl rfl ⟨_, rfl, rfl, HS⟩
      · replace H := ite_f c15 H
        refine V.condF (sb (decide_eq_false c15)) ?_
        refine V.skip ?_
        refine At.next ?_
        refine V.seq ?_
        refine V.region ?_
        refine W.rd (X.build (vs := #[(0, Value.int .i64 (0))]) (v := Value.agg #[Value.int .i64 (0), Value.int .i64 (0), Value.int .i64 (0), Value.bool false]) (fun a ha => by simp only [List.map_toArray, List.map_cons, List.map_nil]; try rfl) (fun _ => by kernel_rfl)) rfl rfl rfl ?_
        refine W.ev (Y.alloc (z := Value.agg (#[Value.int .i64 (0), Value.int .i64 (0), Value.int .i64 (0), Value.bool false])) HS ze42) rfl rfl rfl ?_
        rintro _ w ⟨nb17, rfl, HS⟩
        refine W.ev_none (Y.storeSt (c' := #[Value.int .i64 (0), Value.int .i64 (0), Value.int .i64 (0), Value.bool false]) 0 [Value.int .i64 (0), Value.int .i64 (0), Value.int .i64 (0), Value.bool false] HS rfl inf42 rfl rfl rfl rfl rfl rfl) rfl rfl ?_
        rintro _ w HS
        refine W.nil ?_
        refine At.next ?_
        refine V.meet (σ := api_Ctl) (fun st w => match st with | x20 => Sep.St [api_Ctl.at nb1 ({ Kind := 0, Ns := 0, Nr := 0, Poll := false } : api_Ctl), api_Ctl.at nb17 x20, row 5 1 (.slice at11_0 t11.length ct11_0) t11.length (t11.map (Value.int .u8)), R] w0 w ∧ ∃ kf21, kf21 ≤ k ∧ control_Read.j0 kf21 a0 a1 x20 = some r) (fun st => match st with | x20 => [(0, Value.slice (some ⟨eb9, eo10, none⟩) a0.length sc0), (1, Value.int .i64 a1), (4, Value.pointer (some ⟨nb1, 0, none⟩)), (8, Value.pointer (some ⟨nb17, 0, none⟩))]) ?_ ?_
        · refine V.block ?_
          refine V.seq ?_
          refine V.region ?_
          refine W.rd (X.move rfl) rfl rfl rfl ?_
          refine W.rd (X.indexSl Try.underlying39 inf5 rfl rfl c8.1 c8.2) rfl rfl rfl ?_
          refine W.rd (X.load Try.underlying5 rfl rfl ((rdC.at 3 hr0 HS rfl).cellI c8.1 c8.2)) rfl rfl rfl ?_
          refine W.rd (X.cmp (decide ((a0.getD (0 : Int).toNat 0) = 1)) rfl rfl rfl rfl) rfl rfl rfl ?_
          refine W.rd (X.assign rfl) rfl rfl rfl ?_
          refine W.nil ?_
          refine At.next ?_
          by_cases c48 : (a0.getD (0 : Int).toNat 0) = 1
          · replace H := ite_t c48 H
            refine V.condT (sb (decide_eq_true c48)) ?_
            refine V.region ?_
            refine W.rd (X.fieldAddr 0 fo42_0 rfl) rfl rfl rfl ?_
            refine W.ev_none (Y.storeAt 0 HS rfl inf3 rfl rfl rfl rfl rfl rfl) rfl rfl ?_
            rintro _ w HS
            refine W.nil ?_
            refine At.blockEnd ?_
            replace HS := HS.re [2, 0, 1, 3] (by kernel_rfl)
            replace HS := api_Ctl.close ({ Kind := 0, Ns := 0, Nr := 0, Poll := false } : api_Ctl) trivial HS
            replace HS := HS.re [1, 0, 2, 3] (by kernel_rfl)
            replace HS := api_Ctl.close ({ Kind := 1, Ns := 0, Nr := 0, Poll := false } : api_Ctl) trivial HS
            replace HS := HS.sel [1, 0, 2, 3] [] (by kernel_rfl)
            exact At.meet ({ Kind := 1, Ns := 0, Nr := 0, Poll := false } : api_Ctl) ⟨rfl, rfl, rfl, rfl, trivial⟩ ⟨HS, k, by omega, H⟩
          · replace H := ite_f c48 H
            refine V.condF (sb (decide_eq_false c48)) ?_
            refine V.seq ?_
            refine V.region ?_
            refine W.rd (X.move rfl) rfl rfl rfl ?_
            refine W.rd (X.indexSl Try.underlying39 inf5 rfl rfl c8.1 c8.2) rfl rfl rfl ?_
            refine W.rd (X.load Try.underlying5 rfl rfl ((rdC.at 3 hr0 HS rfl).cellI c8.1 c8.2)) rfl rfl rfl ?_
            refine W.rd (X.cmp (decide ((a0.getD (0 : Int).toNat 0) = 9)) rfl rfl rfl rfl) rfl rfl rfl ?_
            refine W.rd (X.assign rfl) rfl rfl rfl ?_
            refine W.nil ?_
            refine At.next ?_
            by_cases c49 : (a0.getD (0 : Int).toNat 0) = 9
            · replace H := ite_t c49 H
              refine V.condT (sb (decide_eq_true c49)) ?_
              refine V.region ?_
              refine W.rd (X.fieldAddr 0 fo42_0 rfl) rfl rfl rfl ?_
              refine W.ev_none (Y.storeAt 0 HS rfl inf3 rfl rfl rfl rfl rfl rfl) rfl rfl ?_
              rintro _ w HS
              refine W.nil ?_
              refine At.blockEnd ?_
              replace HS := HS.re [2, 0, 1, 3] (by kernel_rfl)
              replace HS := api_Ctl.close ({ Kind := 0, Ns := 0, Nr := 0, Poll := false } : api_Ctl) trivial HS
              replace HS := HS.re [1, 0, 2, 3] (by kernel_rfl)
              replace HS := api_Ctl.close ({ Kind := 2, Ns := 0, Nr := 0, Poll := false } : api_Ctl) trivial HS
              replace HS := HS.sel [1, 0, 2, 3] [] (by kernel_rfl)
              exact At.meet ({ Kind := 2, Ns := 0, Nr := 0, Poll := false } : api_Ctl) ⟨rfl, rfl, rfl, rfl, trivial⟩ ⟨HS, k, by omega, H⟩
            · replace H := ite_f c49 H
              refine V.condF (sb (decide_eq_false c49)) ?_
              refine V.seq ?_
              refine V.region ?_
              refine W.rd (X.move rfl) rfl rfl rfl ?_
              refine W.rd (X.indexSl Try.underlying39 inf5 rfl rfl c8.1 c8.2) rfl rfl rfl ?_
              refine W.rd (X.load Try.underlying5 rfl rfl ((rdC.at 3 hr0 HS rfl).cellI c8.1 c8.2)) rfl rfl rfl ?_
              refine W.rd (X.and rfl rfl) rfl rfl rfl ?_
              refine W.rd (X.cmp (decide ((iand .u8 (a0.getD (0 : Int).toNat 0) (1)) = 1)) rfl rfl rfl rfl) rfl rfl rfl ?_
              refine W.rd (X.assign rfl) rfl rfl rfl ?_
              refine W.nil ?_
              refine At.next ?_
              by_cases c50 : (iand .u8 (a0.getD (0 : Int).toNat 0) (1)) = 1
              · replace H := ite_t c50 H
                refine V.condT (sb (decide_eq_true c50)) ?_
                refine V.seq ?_
                refine V.region ?_
                refine W.rd (X.build (vs := #[]) (v := Value.agg #[Value.int .i64 (0), Value.int .i64 (0), Value.int .i64 (0), Value.bool false]) (fun a ha => by simp only [List.map_toArray, List.map_cons, List.map_nil]; try rfl) (fun _ => by kernel_rfl)) rfl rfl rfl ?_
                refine W.ev_none (Y.storeSt (c' := #[Value.int .i64 (0), Value.int .i64 (0), Value.int .i64 (0), Value.bool false]) 2 [Value.int .i64 (0), Value.int .i64 (0), Value.int .i64 (0), Value.bool false] HS rfl inf42 rfl rfl rfl rfl rfl rfl) rfl rfl ?_
                rintro _ w HS
                refine W.rd (X.assign rfl) rfl rfl rfl ?_
                refine W.rd (X.assign rfl) rfl rfl rfl ?_
                refine W.nil ?_
                refine At.next ?_
                refine V.ret ?_
                refine At.blockRet ?_
                refine At.thenRet ?_
                have hv51 := run_loadSt (P := Try.prog) (p := 0) 2 [Value.int .i64 (0), Value.int .i64 (0), Value.int .i64 (0), Value.bool false] HS rfl Try.underlying42 rfl inf42 rfl
                replace HS := HS.sel [3] [0, 1, 2] (by kernel_rfl)
                cases H
                exact At.retv3 rfl ⟨_, rfl, hv51⟩ rfl rfl ⟨_, rfl, rfl, HS⟩
              · replace H := ite_f c50 H
                refine V.condF (sb (decide_eq_false c50)) ?_
                refine V.skip ?_
                refine At.blockEnd ?_
                replace HS := HS.re [2, 0, 1, 3] (by kernel_rfl)
                replace HS := api_Ctl.close ({ Kind := 0, Ns := 0, Nr := 0, Poll := false } : api_Ctl) trivial HS
                replace HS := HS.re [1, 0, 2, 3] (by kernel_rfl)
                replace HS := api_Ctl.close ({ Kind := 0, Ns := 0, Nr := 0, Poll := false } : api_Ctl) trivial HS
                replace HS := HS.sel [1, 0, 2, 3] [] (by kernel_rfl)
                exact At.meet ({ Kind := 0, Ns := 0, Nr := 0, Poll := false } : api_Ctl) ⟨rfl, rfl, rfl, rfl, trivial⟩ ⟨HS, k, by omega, H⟩
        · rintro x20 w ⟨HS, kf21, hkkf21, H⟩
          unfold control_Read.j0 at H
          refine V.seq ?_
          refine V.region ?_
          refine W.rd (X.move rfl) rfl rfl rfl ?_
          replace HS := row_nil' (e := 5) 1 none HS
          have HS : Sep.St [row 5 1 (.slice none ([] : List Int).length 0) ([] : List Int).length (([] : List Int).map (Value.int .u8)), api_Ctl.at nb1 ({ Kind := 0, Ns := 0, Nr := 0, Poll := false } : api_Ctl), api_Ctl.at nb17 x20, row 5 1 (.slice at11_0 t11.length ct11_0) t11.length (t11.map (Value.int .u8)), R] w0 w := HS
          obtain ⟨t22, A23, H⟩ := bind_s H
          refine W.ev (Y.call Try.func87 (by kernel_rfl) rfl (vs := [Value.slice none ([] : List Int).length 0, Value.int .i64 (0), Value.int .i64 a1]) rfl (control_put.calls ([] : List Int) 0 a1 _ w0 _ none 0 t22  A23 (Sep.St.tailJoin (m := [row 5 1 (.slice none ([] : List Int).length 0) ([] : List Int).length (([] : List Int).map (Value.int .u8))]) (r := [api_Ctl.at nb1 ({ Kind := 0, Ns := 0, Nr := 0, Poll := false } : api_Ctl), api_Ctl.at nb17 x20, row 5 1 (.slice at11_0 t11.length ct11_0) t11.length (t11.map (Value.int .u8)), R]) HS))) rfl rfl rfl ?_
          rintro _ w ⟨at22_0, ct22_0, rfl, HS⟩
          replace HS := Sep.St.tailOpen (m := [row 5 1 (.slice at22_0 t22.length ct22_0) t22.length (t22.map (Value.int .u8))]) (r := [api_Ctl.at nb1 ({ Kind := 0, Ns := 0, Nr := 0, Poll := false } : api_Ctl), api_Ctl.at nb17 x20, row 5 1 (.slice at11_0 t11.length ct11_0) t11.length (t11.map (Value.int .u8)), R]) HS
          refine W.rd (X.lenSl Try.underlying39 rfl) rfl rfl rfl ?_
          refine W.rd (X.assign rfl) rfl rfl rfl ?_
          refine W.nil ?_
          refine At.next ?_
          refine V.seq ?_
          refine V.seq ?_
          refine V.region ?_
          refine W.rd (X.move rfl) rfl rfl rfl ?_
          refine W.rd (X.lenSl Try.underlying39 rfl) rfl rfl rfl ?_
          refine W.rd (X.move rfl) rfl rfl rfl ?_
          refine W.rd (X.mul rfl rfl) rfl rfl rfl ?_
          refine W.rd (X.cmp (decide ((a0.length : Int) < (w64 (2 * (t22.length : Int))))) rfl rfl rfl rfl) rfl rfl rfl ?_
          refine W.nil ?_
          refine At.next ?_
          by_cases c25 : (a0.length : Int) < (w64 (2 * (t22.length : Int)))
          · replace H := ite_t c25 H
            refine V.condT (sb (decide_eq_true c25)) ?_
            refine V.seq ?_
            refine V.region ?_
            refine W.rd (X.build (vs := #[]) (v := Value.agg #[Value.int .i64 (0), Value.int .i64 (0), Value.int .i64 (0), Value.bool false]) (fun a ha => by simp only [List.map_toArray, List.map_cons, List.map_nil]; try rfl) (fun _ => by kernel_rfl)) rfl rfl rfl ?_
            replace HS := HS.front 1 rfl
            obtain ⟨hi27, HS⟩ := api_Ctl.open HS
            refine W.ev_none (Y.storeSt (c' := #[Value.int .i64 (0), Value.int .i64 (0), Value.int .i64 (0), Value.bool false]) 0 [Value.int .i64 (0), Value.int .i64 (0), Value.int .i64 (0), Value.bool false] HS rfl inf42 rfl rfl rfl rfl rfl rfl) rfl rfl ?_
            rintro _ w HS
            refine W.rd (X.assign rfl) rfl rfl rfl ?_
            refine W.rd (X.assign rfl) rfl rfl rfl ?_
            refine W.nil ?_
            refine At.next ?_
            refine V.ret ?_
            refine At.thenRet ?_
            have hv28 := run_loadSt (P := Try.prog) (p := 0) 0 [Value.int .i64 (0), Value.int .i64 (0), Value.int .i64 (0), Value.bool false] HS rfl Try.underlying42 rfl inf42 rfl
            replace HS := HS.sel [4] [0, 1, 2, 3] (by kernel_rfl)
            cases H
            exact At.retv3 rfl ⟨_, rfl, hv28⟩ rfl rfl ⟨_, rfl, rfl, HS⟩
          · replace H := ite_f c25 H
            refine V.condF (sb (decide_eq_false c25)) ?_
            refine V.skip ?_
            refine At.next ?_
            refine V.seq ?_
            obtain ⟨c29, H⟩ := ite_n H
            obtain ⟨c30, H⟩ := ite_n H
            refine V.draw (es := [3, 9]) (bl := [10, 11]) (f := [(65, Value.slice (some ⟨eb9, eo10, none⟩) a0.length sc0), (66, Value.int .i64 (t22.length : Int)), (67, Value.slice (vaddr (some ⟨eb9, eo10, none⟩) sc0 (0 : Int).toNat 1) (cut a0 (0 : Int) (t22.length : Int)).length (sc0 - (0 : Int).toNat)), (69, Value.slice (some ⟨eb9, eo10, none⟩) a0.length sc0), (70, Value.int .i64 (t22.length : Int)), (71, Value.int .i64 (t22.length : Int)), (72, Value.int .i64 (w64 (2 * (t22.length : Int)))), (73, Value.slice (vaddr (some ⟨eb9, eo10, none⟩) sc0 (t22.length : Int).toNat 1) (cut a0 (t22.length : Int) (w64 (2 * (t22.length : Int)))).length (sc0 - (t22.length : Int).toNat))]) (fun w => Sep.St [row 5 1 (.slice at22_0 t22.length ct22_0) t22.length (t22.map (Value.int .u8)), api_Ctl.at nb1 ({ Kind := 0, Ns := 0, Nr := 0, Poll := false } : api_Ctl), api_Ctl.at nb17 x20, row 5 1 (.slice at11_0 t11.length ct11_0) t11.length (t11.map (Value.int .u8)), R] w0 w) mo HS.drew rfl ?_
            refine T.event _ [(67, Value.slice (vaddr (some ⟨eb9, eo10, none⟩) sc0 (0 : Int).toNat 1) (cut a0 (0 : Int) (t22.length : Int)).length (sc0 - (0 : Int).toNat))] rfl rfl ⟨.m1 0 rfl (.l rfl rfl) (fun w HS => X.move rfl) rfl rfl rfl rfl rfl, .m1 9 rfl (.l rfl rfl) (fun w HS => X.move rfl) rfl rfl rfl rfl rfl, .m2 65 66 rfl (.r rfl rfl) (.r rfl rfl) (fun w HS => X.slH Try.underlying39 inf5 rfl rfl c29 (rdC.at 4 hr0 HS rfl).cap) rfl rfl rfl rfl rfl, .m1 0 rfl (.l rfl rfl) (fun w HS => X.move rfl) rfl rfl rfl rfl rfl, .m1 9 rfl (.l rfl rfl) (fun w HS => X.move rfl) rfl rfl rfl rfl rfl, .m1 9 rfl (.l rfl rfl) (fun w HS => X.move rfl) rfl rfl rfl rfl rfl, .m1 71 rfl (.r rfl rfl) (fun w HS => X.mul rfl rfl) rfl rfl rfl rfl rfl, ⟨_, _, [(69, Value.slice (some ⟨eb9, eo10, none⟩) a0.length sc0), (70, Value.int .i64 (t22.length : Int)), (72, Value.int .i64 (w64 (2 * (t22.length : Int))))], 73, rfl, rfl, ⟨.inr ⟨rfl, rfl⟩, ⟨.inr ⟨rfl, rfl⟩, ⟨.inr ⟨rfl, rfl⟩, trivial⟩⟩⟩, .run rfl (fun w HS => X.slLH Try.underlying39 inf5 rfl rfl rfl c30 (rdC.at 4 hr0 HS rfl).cap), rfl, rfl, rfl⟩, trivial⟩ rfl ⟨.inr ⟨rfl, rfl⟩, trivial⟩ (Or.inl rfl) (by intro d hd; cases hd; exact ⟨by decide, rfl, rfl⟩) [10, 11] [0, 1, 2] rfl rfl (fun w HS => ?_)
            obtain ⟨t31, A32, H⟩ := bind_s H
            refine ⟨_, Y.call Try.func88 (by kernel_rfl) rfl (vs := [Value.slice (vaddr (some ⟨eb9, eo10, none⟩) sc0 (0 : Int).toNat 1) (cut a0 (0 : Int) (t22.length : Int)).length (sc0 - (0 : Int).toNat)]) rfl (control_number.calls kf21 (cut a0 (0 : Int) (t22.length : Int)) _ w0 _ (vaddr (some ⟨eb9, eo10, none⟩) sc0 (0 : Int).toNat 1) (sc0 - (0 : Int).toNat) t31 (rdC.part 4 (rdC.subM hr0 c29) rfl) A32 (Sep.St.tailJoin (m := []) (r := [row 5 1 (.slice at22_0 t22.length ct22_0) t22.length (t22.map (Value.int .u8)), api_Ctl.at nb1 ({ Kind := 0, Ns := 0, Nr := 0, Poll := false } : api_Ctl), api_Ctl.at nb17 x20, row 5 1 (.slice at11_0 t11.length ct11_0) t11.length (t11.map (Value.int .u8)), R]) HS)), ?_⟩
            rintro _ w ⟨rfl, HS⟩
            replace HS := Sep.St.tailOpen (m := []) (r := [row 5 1 (.slice at22_0 t22.length ct22_0) t22.length (t22.map (Value.int .u8)), api_Ctl.at nb1 ({ Kind := 0, Ns := 0, Nr := 0, Poll := false } : api_Ctl), api_Ctl.at nb17 x20, row 5 1 (.slice at11_0 t11.length ct11_0) t11.length (t11.map (Value.int .u8)), R]) HS
            refine ⟨[(68, Value.int .i64 t31)], _, ⟨.inl ⟨rfl, rfl⟩, trivial⟩, ?_, HS⟩
            refine T.event _ [(73, Value.slice (vaddr (some ⟨eb9, eo10, none⟩) sc0 (t22.length : Int).toNat 1) (cut a0 (t22.length : Int) (w64 (2 * (t22.length : Int)))).length (sc0 - (t22.length : Int).toNat))] rfl rfl ⟨.m1 0 rfl (.l rfl rfl) (fun w HS => X.move rfl) rfl rfl rfl rfl rfl, .m1 9 rfl (.l rfl rfl) (fun w HS => X.move rfl) rfl rfl rfl rfl rfl, .m1 9 rfl (.l rfl rfl) (fun w HS => X.move rfl) rfl rfl rfl rfl rfl, .m1 71 rfl (.r rfl rfl) (fun w HS => X.mul rfl rfl) rfl rfl rfl rfl rfl, ⟨_, _, [(69, Value.slice (some ⟨eb9, eo10, none⟩) a0.length sc0), (70, Value.int .i64 (t22.length : Int)), (72, Value.int .i64 (w64 (2 * (t22.length : Int))))], 73, rfl, rfl, ⟨.inr ⟨rfl, rfl⟩, ⟨.inr ⟨rfl, rfl⟩, ⟨.inr ⟨rfl, rfl⟩, trivial⟩⟩⟩, .run rfl (fun w HS => X.slLH Try.underlying39 inf5 rfl rfl rfl c30 (rdC.at 4 hr0 HS rfl).cap), rfl, rfl, rfl⟩, trivial⟩ rfl ⟨.inr ⟨rfl, rfl⟩, trivial⟩ (Or.inl rfl) (by intro d hd; cases hd; exact ⟨by decide, rfl, rfl⟩) [] [4, 5, 6, 7, 8] rfl rfl (fun w HS => ?_)
            obtain ⟨t33, A34, H⟩ := bind_s H
            refine ⟨_, Y.call Try.func88 (by kernel_rfl) rfl (vs := [Value.slice (vaddr (some ⟨eb9, eo10, none⟩) sc0 (t22.length : Int).toNat 1) (cut a0 (t22.length : Int) (w64 (2 * (t22.length : Int)))).length (sc0 - (t22.length : Int).toNat)]) rfl (control_number.calls kf21 (cut a0 (t22.length : Int) (w64 (2 * (t22.length : Int)))) _ w0 _ (vaddr (some ⟨eb9, eo10, none⟩) sc0 (t22.length : Int).toNat 1) (sc0 - (t22.length : Int).toNat) t33 (rdC.part 4 (rdC.subM hr0 c30) rfl) A34 (Sep.St.tailJoin (m := []) (r := [row 5 1 (.slice at22_0 t22.length ct22_0) t22.length (t22.map (Value.int .u8)), api_Ctl.at nb1 ({ Kind := 0, Ns := 0, Nr := 0, Poll := false } : api_Ctl), api_Ctl.at nb17 x20, row 5 1 (.slice at11_0 t11.length ct11_0) t11.length (t11.map (Value.int .u8)), R]) HS)), ?_⟩
            rintro _ w ⟨rfl, HS⟩
            replace HS := Sep.St.tailOpen (m := []) (r := [row 5 1 (.slice at22_0 t22.length ct22_0) t22.length (t22.map (Value.int .u8)), api_Ctl.at nb1 ({ Kind := 0, Ns := 0, Nr := 0, Poll := false } : api_Ctl), api_Ctl.at nb17 x20, row 5 1 (.slice at11_0 t11.length ct11_0) t11.length (t11.map (Value.int .u8)), R]) HS
            refine ⟨[(74, Value.int .i64 t33), (10, Value.int .i64 t31), (11, Value.int .i64 t33)], _, ⟨.inl ⟨rfl, rfl⟩, ⟨.inr ⟨by decide, rfl⟩, ⟨.inr ⟨by decide, rfl⟩, trivial⟩⟩⟩, ?_, HS⟩
            refine T.fin [(0, Value.slice (some ⟨eb9, eo10, none⟩) a0.length sc0), (4, Value.pointer (some ⟨nb1, 0, none⟩)), (8, Value.pointer (some ⟨nb17, 0, none⟩)), (9, Value.int .i64 (t22.length : Int)), (10, Value.int .i64 t31), (11, Value.int .i64 t33)] rfl ⟨.m1 68 rfl (.r rfl rfl) (fun w HS => X.assign rfl) rfl rfl rfl rfl rfl, .m1 74 rfl (.r rfl rfl) (fun w HS => X.assign rfl) rfl rfl rfl rfl rfl, trivial⟩ ⟨.inl ⟨rfl, rfl⟩, ⟨.inl ⟨rfl, rfl⟩, ⟨.inl ⟨rfl, rfl⟩, ⟨.inl ⟨rfl, rfl⟩, ⟨.inr ⟨rfl, rfl⟩, ⟨.inr ⟨rfl, rfl⟩, trivial⟩⟩⟩⟩⟩⟩ (fun w HS => ?_)
            refine At.next ?_
            refine V.seq ?_
            refine V.seq ?_
            refine V.region ?_
            replace HS := HS.front 2 rfl
            obtain ⟨hi36, HS⟩ := api_Ctl.open HS
            refine W.rd (X.fieldAddr 0 fo42_0 rfl) rfl rfl rfl ?_
            refine W.rd (X.loadAt 0 HS rfl Try.underlying3 rfl rfl rfl) rfl rfl rfl ?_
            refine W.rd (X.cmp (decide (x20.Kind = 0)) rfl rfl rfl rfl) rfl rfl rfl ?_
            refine W.nil ?_
            refine At.next ?_
            by_cases c37 : x20.Kind = 0
            · replace H := ite_t c37 H
              refine V.condT (sb (decide_eq_true c37)) ?_
              refine V.region ?_
              refine W.rd (X.move rfl) rfl rfl rfl ?_
              refine W.rd (X.quo rfl rfl (by decide)) rfl rfl rfl ?_
              refine W.rd (X.fieldAddr 1 fo42_1 rfl) rfl rfl rfl ?_
              refine W.ev_none (Y.storeAt 0 HS rfl inf3 rfl rfl rfl rfl rfl rfl) rfl rfl ?_
              rintro _ w HS
              refine W.nil ?_
              refine At.next ?_
              refine V.seq ?_
              refine V.region ?_
              refine W.rd (X.move rfl) rfl rfl rfl ?_
              refine W.rd (X.quo rfl rfl (by decide)) rfl rfl rfl ?_
              refine W.rd (X.move rfl) rfl rfl rfl ?_
              refine W.rd (X.and rfl rfl) rfl rfl rfl ?_
              refine W.rd (X.cmp (decide ((iand .i64 t33 (1)) = 1)) rfl rfl rfl rfl) rfl rfl rfl ?_
              refine W.rd (X.fieldAddr 2 fo42_2 rfl) rfl rfl rfl ?_
              refine W.ev_none (Y.storeAt 0 HS rfl inf3 rfl rfl rfl rfl rfl rfl) rfl rfl ?_
              rintro _ w HS
              refine W.rd (X.fieldAddr 3 fo42_3 rfl) rfl rfl rfl ?_
              refine W.ev_none (Y.storeAt 0 HS rfl inf4 rfl rfl rfl rfl rfl rfl) rfl rfl ?_
              rintro _ w HS
              refine W.nil ?_
              refine At.next ?_
              refine V.seq ?_
              refine V.region ?_
              refine W.rd (X.loadSt 0 [Value.int .i64 x20.Kind, Value.int .i64 (w64 (t31.tdiv (2))), Value.int .i64 (w64 (t33.tdiv (2))), Value.bool (decide ((iand .i64 t33 (1)) = 1))] HS rfl Try.underlying42 rfl inf42 rfl rfl) rfl rfl rfl ?_
              refine W.rd (X.move rfl) rfl rfl rfl ?_
              refine W.rd (X.mul rfl rfl) rfl rfl rfl ?_
              replace HS := HS.front 2 rfl
              obtain ⟨hi39, HS⟩ := api_Ctl.open HS
              refine W.ev_none (Y.storeSt (c' := #[Value.int .i64 x20.Kind, Value.int .i64 (w64 (t31.tdiv (2))), Value.int .i64 (w64 (t33.tdiv (2))), Value.bool (decide ((iand .i64 t33 (1)) = 1))]) 0 [Value.int .i64 x20.Kind, Value.int .i64 (w64 (t31.tdiv (2))), Value.int .i64 (w64 (t33.tdiv (2))), Value.bool (decide ((iand .i64 t33 (1)) = 1))] HS rfl inf42 rfl rfl rfl rfl rfl rfl) rfl rfl ?_
              rintro _ w HS
              refine W.rd (X.assign rfl) rfl rfl rfl ?_
              refine W.rd (X.assign rfl) rfl rfl rfl ?_
              refine W.nil ?_
              refine At.next ?_
              refine V.ret ?_
              have hv40 := run_loadSt (P := Try.prog) (p := 0) 0 [Value.int .i64 x20.Kind, Value.int .i64 (w64 (t31.tdiv (2))), Value.int .i64 (w64 (t33.tdiv (2))), Value.bool (decide ((iand .i64 t33 (1)) = 1))] HS rfl Try.underlying42 rfl inf42 rfl
              replace HS := HS.sel [4] [0, 1, 2, 3] (by kernel_rfl)
              cases H
              exact At.retv3 rfl ⟨_, rfl, hv40⟩ rfl rfl ⟨_, rfl, rfl, HS⟩
            · replace H := ite_f c37 H
              refine V.condF (sb (decide_eq_false c37)) ?_
              refine V.seq ?_
              refine V.region ?_
              refine W.rd (X.move rfl) rfl rfl rfl ?_
              refine W.rd (X.move rfl) rfl rfl rfl ?_
              refine W.rd (X.indexSl Try.underlying39 inf5 rfl rfl c8.1 c8.2) rfl rfl rfl ?_
              refine W.rd (X.load Try.underlying5 rfl rfl ((rdC.at 4 hr0 HS rfl).cellI c8.1 c8.2)) rfl rfl rfl ?_
              refine W.rd (X.conv Try.underlying5 Try.underlying3 rfl) rfl rfl rfl ?_
              refine W.rd (X.cmp (!(decide (t31 = (w64 (a0.getD (0 : Int).toNat 0))))) rfl rfl rfl rfl) rfl rfl rfl ?_
              refine W.nil ?_
              refine At.next ?_
              by_cases c41 : t31 = (w64 (a0.getD (0 : Int).toNat 0))
              · replace H := ite_t c41 H
                refine V.condF (sb (n_t (decide_eq_true c41))) ?_
                refine V.skip ?_
                refine At.next ?_
                refine V.seq ?_
                refine V.region ?_
                refine W.rd (X.move rfl) rfl rfl rfl ?_
                refine W.rd (X.quo rfl rfl (by decide)) rfl rfl rfl ?_
                refine W.rd (X.move rfl) rfl rfl rfl ?_
                refine W.rd (X.and rfl rfl) rfl rfl rfl ?_
                refine W.rd (X.cmp (decide ((iand .i64 t33 (1)) = 1)) rfl rfl rfl rfl) rfl rfl rfl ?_
                refine W.rd (X.fieldAddr 2 fo42_2 rfl) rfl rfl rfl ?_
                refine W.ev_none (Y.storeAt 0 HS rfl inf3 rfl rfl rfl rfl rfl rfl) rfl rfl ?_
                rintro _ w HS
                refine W.rd (X.fieldAddr 3 fo42_3 rfl) rfl rfl rfl ?_
                refine W.ev_none (Y.storeAt 0 HS rfl inf4 rfl rfl rfl rfl rfl rfl) rfl rfl ?_
                rintro _ w HS
                refine W.nil ?_
                refine At.next ?_
                refine V.seq ?_
                refine V.region ?_
                refine W.rd (X.loadSt 0 [Value.int .i64 x20.Kind, Value.int .i64 x20.Ns, Value.int .i64 (w64 (t33.tdiv (2))), Value.bool (decide ((iand .i64 t33 (1)) = 1))] HS rfl Try.underlying42 rfl inf42 rfl rfl) rfl rfl rfl ?_
                refine W.rd (X.move rfl) rfl rfl rfl ?_
                refine W.rd (X.mul rfl rfl) rfl rfl rfl ?_
                replace HS := HS.front 2 rfl
                obtain ⟨hi43, HS⟩ := api_Ctl.open HS
                refine W.ev_none (Y.storeSt (c' := #[Value.int .i64 x20.Kind, Value.int .i64 x20.Ns, Value.int .i64 (w64 (t33.tdiv (2))), Value.bool (decide ((iand .i64 t33 (1)) = 1))]) 0 [Value.int .i64 x20.Kind, Value.int .i64 x20.Ns, Value.int .i64 (w64 (t33.tdiv (2))), Value.bool (decide ((iand .i64 t33 (1)) = 1))] HS rfl inf42 rfl rfl rfl rfl rfl rfl) rfl rfl ?_
                rintro _ w HS
                refine W.rd (X.assign rfl) rfl rfl rfl ?_
                refine W.rd (X.assign rfl) rfl rfl rfl ?_
                refine W.nil ?_
                refine At.next ?_
                refine V.ret ?_
                have hv44 := run_loadSt (P := Try.prog) (p := 0) 0 [Value.int .i64 x20.Kind, Value.int .i64 x20.Ns, Value.int .i64 (w64 (t33.tdiv (2))), Value.bool (decide ((iand .i64 t33 (1)) = 1))] HS rfl Try.underlying42 rfl inf42 rfl
                replace HS := HS.sel [4] [0, 1, 2, 3] (by kernel_rfl)
                cases H
                exact At.retv3 rfl ⟨_, rfl, hv44⟩ rfl rfl ⟨_, rfl, rfl, HS⟩
              · replace H := ite_f c41 H
                refine V.condT (sb (n_f (decide_eq_false c41))) ?_
                refine V.seq ?_
                refine V.region ?_
                refine W.rd (X.build (vs := #[]) (v := Value.agg #[Value.int .i64 (0), Value.int .i64 (0), Value.int .i64 (0), Value.bool false]) (fun a ha => by simp only [List.map_toArray, List.map_cons, List.map_nil]; try rfl) (fun _ => by kernel_rfl)) rfl rfl rfl ?_
                replace HS := HS.front 2 rfl
                obtain ⟨hi46, HS⟩ := api_Ctl.open HS
                refine W.ev_none (Y.storeSt (c' := #[Value.int .i64 (0), Value.int .i64 (0), Value.int .i64 (0), Value.bool false]) 0 [Value.int .i64 (0), Value.int .i64 (0), Value.int .i64 (0), Value.bool false] HS rfl inf42 rfl rfl rfl rfl rfl rfl) rfl rfl ?_
                rintro _ w HS
                refine W.rd (X.assign rfl) rfl rfl rfl ?_
                refine W.rd (X.assign rfl) rfl rfl rfl ?_
                refine W.nil ?_
                refine At.next ?_
                refine V.ret ?_
                refine At.thenRet ?_
                have hv47 := run_loadSt (P := Try.prog) (p := 0) 0 [Value.int .i64 (0), Value.int .i64 (0), Value.int .i64 (0), Value.bool false] HS rfl Try.underlying42 rfl inf42 rfl
                replace HS := HS.sel [4] [0, 1, 2, 3] (by kernel_rfl)
                cases H
                exact At.retv3 rfl ⟨_, rfl, hv47⟩ rfl rfl ⟨_, rfl, rfl, HS⟩
  · replace H := ite_f c5 H
    refine V.condT (sb (n_f (b_f c5))) ?_
    refine V.seq ?_
    refine V.region ?_
    refine W.rd (X.build (vs := #[]) (v := Value.agg #[Value.int .i64 (0), Value.int .i64 (0), Value.int .i64 (0), Value.bool false]) (fun a ha => by simp only [List.map_toArray, List.map_cons, List.map_nil]; try rfl) (fun _ => by kernel_rfl)) rfl rfl rfl ?_
    refine W.ev_none (Y.storeSt (c' := #[Value.int .i64 (0), Value.int .i64 (0), Value.int .i64 (0), Value.bool false]) 0 [Value.int .i64 (0), Value.int .i64 (0), Value.int .i64 (0), Value.bool false] HS rfl inf42 rfl rfl rfl rfl rfl rfl) rfl rfl ?_
    rintro _ w HS
    refine W.rd (X.assign rfl) rfl rfl rfl ?_
    refine W.rd (X.assign rfl) rfl rfl rfl ?_
    refine W.nil ?_
    refine At.next ?_
    refine V.ret ?_
    refine At.thenRet ?_
    have hv52 := run_loadSt (P := Try.prog) (p := 0) 0 [Value.int .i64 (0), Value.int .i64 (0), Value.int .i64 (0), Value.bool false] HS rfl Try.underlying42 rfl inf42 rfl
    replace HS := HS.sel [1] [0] (by kernel_rfl)
    cases H
    exact At.retv3 rfl ⟨_, rfl, hv52⟩ rfl rfl ⟨_, rfl, rfl, HS⟩

/-! ### signalman/serial.Dist: function 100 -/
def serial_Dist.f (a0 : Int) (a1 : Int) (a2 : Int) : Option Int := ((serial_round.f a0 a2).bind fun t1 => ((serial_round.f a1 a2).bind fun t3 => ((serial_round.f (w64 (t3.1 - t1.1)) t3.2).bind fun t5 => some t5.1)))
set_option maxRecDepth 100000 in
set_option maxHeartbeats 4000000 in
theorem serial_Dist.calls (a0 : Int) (a1 : Int) (a2 : Int) (R : As) (w0 w : World)  (r : Int)  (H : serial_Dist.f a0 a1 a2 = some r) (HS : Sep.St [R] w0 w) : Calls Try.prog 100 #[Value.int .i64 a0, Value.int .i64 a1, Value.int .i64 a2] w (Ret fun u w => u = Value.int .i64 r ∧ Sep.St [R] w0 w) := by
  unfold serial_Dist.f at H
  refine calls_enter Try.func100 rfl rfl ?_
  have H : _ = some r := H
  refine V.seq ?_
  refine V.region ?_
  refine W.rd (X.assign rfl) rfl rfl rfl ?_
  refine W.nil ?_
  refine At.next ?_
  refine V.seq ?_
  refine V.region ?_
  refine W.rd (X.move rfl) rfl rfl rfl ?_
  refine W.rd (X.move rfl) rfl rfl rfl ?_
  obtain ⟨t1, A2, H⟩ := bind_s H
  refine W.ev (Y.call Try.func73 (by kernel_rfl) rfl (vs := [Value.int .i64 a0, Value.int .i64 a2]) rfl (serial_round.calls a0 a2 _ w0 _  t1  A2 (Sep.St.tailJoin (m := []) (r := [R]) HS))) rfl rfl rfl ?_
  rintro _ w ⟨rfl, HS⟩
  replace HS := Sep.St.tailOpen (m := []) (r := [R]) HS
  refine W.rd (X.move rfl) rfl rfl rfl ?_
  refine W.rd (X.extract rfl rfl) rfl rfl rfl ?_
  refine W.rd (X.extract rfl rfl) rfl rfl rfl ?_
  refine W.rd (X.assign rfl) rfl rfl rfl ?_
  refine W.nil ?_
  refine At.next ?_
  refine V.seq ?_
  refine V.region ?_
  refine W.rd (X.move rfl) rfl rfl rfl ?_
  refine W.rd (X.move rfl) rfl rfl rfl ?_
  obtain ⟨t3, A4, H⟩ := bind_s H
  refine W.ev (Y.call Try.func73 (by kernel_rfl) rfl (vs := [Value.int .i64 a1, Value.int .i64 a2]) rfl (serial_round.calls a1 a2 _ w0 _  t3  A4 (Sep.St.tailJoin (m := []) (r := [R]) HS))) rfl rfl rfl ?_
  rintro _ w ⟨rfl, HS⟩
  replace HS := Sep.St.tailOpen (m := []) (r := [R]) HS
  refine W.rd (X.move rfl) rfl rfl rfl ?_
  refine W.rd (X.extract rfl rfl) rfl rfl rfl ?_
  refine W.rd (X.extract rfl rfl) rfl rfl rfl ?_
  refine W.rd (X.assign rfl) rfl rfl rfl ?_
  refine W.rd (X.assign rfl) rfl rfl rfl ?_
  refine W.nil ?_
  refine At.next ?_
  refine V.seq ?_
  refine V.region ?_
  refine W.rd (X.move rfl) rfl rfl rfl ?_
  refine W.rd (X.move rfl) rfl rfl rfl ?_
  refine W.rd (X.sub rfl rfl) rfl rfl rfl ?_
  refine W.rd (X.move rfl) rfl rfl rfl ?_
  obtain ⟨t5, A6, H⟩ := bind_s H
  refine W.ev (Y.call Try.func73 (by kernel_rfl) rfl (vs := [Value.int .i64 (w64 (t3.1 - t1.1)), Value.int .i64 t3.2]) rfl (serial_round.calls (w64 (t3.1 - t1.1)) t3.2 _ w0 _  t5  A6 (Sep.St.tailJoin (m := []) (r := [R]) HS))) rfl rfl rfl ?_
  rintro _ w ⟨rfl, HS⟩
  replace HS := Sep.St.tailOpen (m := []) (r := [R]) HS
  refine W.rd (X.move rfl) rfl rfl rfl ?_
  refine W.rd (X.extract rfl rfl) rfl rfl rfl ?_
  refine W.rd (X.extract rfl rfl) rfl rfl rfl ?_
  refine W.rd (X.assign rfl) rfl rfl rfl ?_
  refine W.rd (X.assign rfl) rfl rfl rfl ?_
  refine W.nil ?_
  refine At.next ?_
  refine V.seq ?_
  refine V.region ?_
  refine W.rd (X.move rfl) rfl rfl rfl ?_
  refine W.rd (X.assign rfl) rfl rfl rfl ?_
  refine W.nil ?_
  refine At.next ?_
  refine V.ret ?_
  cases H
  exact At.ret1 rfl rfl ⟨_, rfl, rfl, HS⟩

/-! ### (*signalman/arq.Arq).ahead: function 89 -/
def arq_Arq_ahead.f (a0 : arq_Arq) (a1 : Int) : Option Bool := ((serial_Dist.f a0.tag a1 65536).bind fun t1 => (if t1 ≥ 1 then some (decide (t1 < 32768)) else some false))
set_option maxRecDepth 100000 in
set_option maxHeartbeats 4000000 in
theorem arq_Arq_ahead.calls (a0 : arq_Arq) (a1 : Int) (R : As) (w0 w : World) (b0 : Nat) (b8_p0 : Nat) (b9_p0 : Nat) (b10_p0 : Nat) (a11_p0 : Option Addr) (c11_p0 : Nat) (d11_p0 : List Value) (a12_p0 : Option Addr) (c12_p0 : Nat) (r : Bool)  (H : arq_Arq_ahead.f a0 a1 = some r) (HS : Sep.St [blk b0 (#[Value.int .i64 a0.m, Value.int .i64 a0.t1, Value.int .i64 a0.n2, Value.int .i64 a0.size, Value.int .i64 a0.state, Value.int .i64 a0.tag, Value.int .i64 a0.tries, Value.bool a0.rejected, Value.pointer (some ⟨b8_p0, 0, none⟩), Value.pointer (some ⟨b9_p0, 0, none⟩), Value.pointer (some ⟨b10_p0, 0, none⟩), Value.slice a11_p0 a0.out.length c11_p0, Value.slice a12_p0 a0.inds.length c12_p0, Value.int .i64 a0.sent, Value.int .i64 a0.acked, Value.int .i64 a0.lost]) 82, backlog_Log.at b8_p0 a0.log, reorder_Order.at b9_p0 a0.order, clock_Set.at b10_p0 a0.timers, row 39 1 (.slice a11_p0 a0.out.length c11_p0) a0.out.length d11_p0, tie (El.sl (El.int .u8)) d11_p0 a0.out, row 3 1 (.slice a12_p0 a0.inds.length c12_p0) a0.inds.length (a0.inds.map (Value.int .i64)), R] w0 w) : Calls Try.prog 89 #[Value.pointer (some ⟨b0, 0, none⟩), Value.int .i64 a1] w (Ret fun u w => u = Value.bool r ∧ Sep.St [blk b0 (#[Value.int .i64 a0.m, Value.int .i64 a0.t1, Value.int .i64 a0.n2, Value.int .i64 a0.size, Value.int .i64 a0.state, Value.int .i64 a0.tag, Value.int .i64 a0.tries, Value.bool a0.rejected, Value.pointer (some ⟨b8_p0, 0, none⟩), Value.pointer (some ⟨b9_p0, 0, none⟩), Value.pointer (some ⟨b10_p0, 0, none⟩), Value.slice a11_p0 a0.out.length c11_p0, Value.slice a12_p0 a0.inds.length c12_p0, Value.int .i64 a0.sent, Value.int .i64 a0.acked, Value.int .i64 a0.lost]) 82, backlog_Log.at b8_p0 a0.log, reorder_Order.at b9_p0 a0.order, clock_Set.at b10_p0 a0.timers, row 39 1 (.slice a11_p0 a0.out.length c11_p0) a0.out.length d11_p0, tie (El.sl (El.int .u8)) d11_p0 a0.out, row 3 1 (.slice a12_p0 a0.inds.length c12_p0) a0.inds.length (a0.inds.map (Value.int .i64)), R] w0 w) := by
  unfold arq_Arq_ahead.f at H
  refine calls_enter Try.func89 rfl rfl ?_
  have H : _ = some r := H
  refine V.seq ?_
  refine V.region ?_
  refine W.rd (X.assign rfl) rfl rfl rfl ?_
  refine W.nil ?_
  refine At.next ?_
  refine V.seq ?_
  refine V.region ?_
  refine W.rd (X.move rfl) rfl rfl rfl ?_
  refine W.rd (X.nilCheck rfl) rfl rfl rfl ?_
  refine W.rd (X.fieldAddr 5 fo82_5 rfl) rfl rfl rfl ?_
  refine W.rd (X.loadAt 0 HS rfl Try.underlying3 rfl rfl rfl) rfl rfl rfl ?_
  refine W.rd (X.move rfl) rfl rfl rfl ?_
  obtain ⟨t1, A2, H⟩ := bind_s H
  refine W.ev (Y.call Try.func100 (by kernel_rfl) rfl (vs := [Value.int .i64 a0.tag, Value.int .i64 a1, Value.int .i64 (65536)]) rfl (serial_Dist.calls a0.tag a1 65536 _ w0 _  t1  A2 (Sep.St.tailJoin (m := []) (r := [blk b0 (#[Value.int .i64 a0.m, Value.int .i64 a0.t1, Value.int .i64 a0.n2, Value.int .i64 a0.size, Value.int .i64 a0.state, Value.int .i64 a0.tag, Value.int .i64 a0.tries, Value.bool a0.rejected, Value.pointer (some ⟨b8_p0, 0, none⟩), Value.pointer (some ⟨b9_p0, 0, none⟩), Value.pointer (some ⟨b10_p0, 0, none⟩), Value.slice a11_p0 a0.out.length c11_p0, Value.slice a12_p0 a0.inds.length c12_p0, Value.int .i64 a0.sent, Value.int .i64 a0.acked, Value.int .i64 a0.lost]) 82, backlog_Log.at b8_p0 a0.log, reorder_Order.at b9_p0 a0.order, clock_Set.at b10_p0 a0.timers, row 39 1 (.slice a11_p0 a0.out.length c11_p0) a0.out.length d11_p0, tie (El.sl (El.int .u8)) d11_p0 a0.out, row 3 1 (.slice a12_p0 a0.inds.length c12_p0) a0.inds.length (a0.inds.map (Value.int .i64)), R]) HS))) rfl rfl rfl ?_
  rintro _ w ⟨rfl, HS⟩
  replace HS := Sep.St.tailOpen (m := []) (r := [blk b0 (#[Value.int .i64 a0.m, Value.int .i64 a0.t1, Value.int .i64 a0.n2, Value.int .i64 a0.size, Value.int .i64 a0.state, Value.int .i64 a0.tag, Value.int .i64 a0.tries, Value.bool a0.rejected, Value.pointer (some ⟨b8_p0, 0, none⟩), Value.pointer (some ⟨b9_p0, 0, none⟩), Value.pointer (some ⟨b10_p0, 0, none⟩), Value.slice a11_p0 a0.out.length c11_p0, Value.slice a12_p0 a0.inds.length c12_p0, Value.int .i64 a0.sent, Value.int .i64 a0.acked, Value.int .i64 a0.lost]) 82, backlog_Log.at b8_p0 a0.log, reorder_Order.at b9_p0 a0.order, clock_Set.at b10_p0 a0.timers, row 39 1 (.slice a11_p0 a0.out.length c11_p0) a0.out.length d11_p0, tie (El.sl (El.int .u8)) d11_p0 a0.out, row 3 1 (.slice a12_p0 a0.inds.length c12_p0) a0.inds.length (a0.inds.map (Value.int .i64)), R]) HS
  refine W.rd (X.assign rfl) rfl rfl rfl ?_
  refine W.nil ?_
  refine At.next ?_
  refine V.seq ?_
  refine V.region ?_
  refine W.rd (X.move rfl) rfl rfl rfl ?_
  refine W.rd (X.cmp (decide (t1 ≥ 1)) rfl rfl rfl rfl) rfl rfl rfl ?_
  refine W.rd (X.move rfl) rfl rfl rfl ?_
  by_cases c3 : t1 ≥ 1
  · replace H := ite_t c3 H
    refine W.want 14 rfl (sb (decide_eq_true c3)) ?_
    refine W.rd (X.move rfl) rfl rfl rfl ?_
    refine W.want 14 rfl (sb (decide_eq_true c3)) ?_
    refine W.rd (X.cmp (decide (t1 < 32768)) rfl rfl rfl rfl) rfl rfl rfl ?_
    refine W.rd (X.pickT (sb (decide_eq_true c3)) rfl) rfl rfl rfl ?_
    refine W.rd (X.assign rfl) rfl rfl rfl ?_
    refine W.nil ?_
    refine At.next ?_
    refine V.ret ?_
    cases H
    exact At.ret1 rfl rfl ⟨_, rfl, rfl, HS⟩
  · replace H := ite_f c3 H
    refine W.pass 14 rfl (sb (decide_eq_false c3)) rfl rfl ?_
    refine W.pass 14 rfl (sb (decide_eq_false c3)) rfl rfl ?_
    refine W.rd (X.pickF (sb (decide_eq_false c3)) rfl) rfl rfl rfl ?_
    refine W.rd (X.assign rfl) rfl rfl rfl ?_
    refine W.nil ?_
    refine At.next ?_
    refine V.ret ?_
    cases H
    exact At.ret1 rfl rfl ⟨_, rfl, rfl, HS⟩

/-! ### (*signalman/backlog.Log).Clear: function 76 -/
def backlog_Log_Clear.f (a0 : backlog_Log) : Option (Int × backlog_Log) := some ((a0.l.length : Int), ({ m := a0.m, window := a0.window, queue := a0.queue, first := 0, out := 0, l := ([] : List (List Int)) } : backlog_Log))
set_option maxRecDepth 100000 in
set_option maxHeartbeats 4000000 in
theorem backlog_Log_Clear.calls (a0 : backlog_Log) (R : As) (w0 w : World) (b0 : Nat) (r : Int × backlog_Log)  (H : backlog_Log_Clear.f a0 = some r) (HS : Sep.St [backlog_Log.at b0 a0, R] w0 w) : Calls Try.prog 76 #[Value.pointer (some ⟨b0, 0, none⟩)] w (Ret fun u w => u = Value.int .i64 r.1 ∧ Sep.St [backlog_Log.at b0 r.2, R] w0 w) := by
  unfold backlog_Log_Clear.f at H
  refine calls_enter Try.func76 rfl rfl ?_
  have H : _ = some r := H
  refine V.seq ?_
  refine V.region ?_
  refine W.rd (X.assign rfl) rfl rfl rfl ?_
  refine W.nil ?_
  refine At.next ?_
  refine V.seq ?_
  refine V.region ?_
  refine W.rd (X.move rfl) rfl rfl rfl ?_
  refine W.rd (X.nilCheck rfl) rfl rfl rfl ?_
  obtain ⟨a5_1, c5_1, d5_1, hi2, HS⟩ := backlog_Log.open HS
  refine W.rd (X.fieldAddr 5 fo103_5 rfl) rfl rfl rfl ?_
  refine W.rd (X.loadAt 0 HS rfl Try.underlying30 rfl rfl rfl) rfl rfl rfl ?_
  refine W.rd (X.lenSl Try.underlying30 rfl) rfl rfl rfl ?_
  refine W.rd (X.assign rfl) rfl rfl rfl ?_
  refine W.nil ?_
  refine At.next ?_
  refine V.seq ?_
  refine V.region ?_
  refine W.rd (X.move rfl) rfl rfl rfl ?_
  refine W.rd (X.move rfl) rfl rfl rfl ?_
  refine W.rd (X.move rfl) rfl rfl rfl ?_
  refine W.rd (X.nilCheck rfl) rfl rfl rfl ?_
  refine W.rd (X.fieldAddr 5 fo103_5 rfl) rfl rfl rfl ?_
  refine W.ev_none (Y.storeAt 0 HS rfl inf30 rfl rfl rfl rfl rfl rfl) rfl rfl ?_
  rintro _ w HS
  refine W.rd (X.nilCheck rfl) rfl rfl rfl ?_
  refine W.rd (X.fieldAddr 4 fo103_4 rfl) rfl rfl rfl ?_
  refine W.ev_none (Y.storeAt 0 HS rfl inf3 rfl rfl rfl rfl rfl rfl) rfl rfl ?_
  rintro _ w HS
  refine W.rd (X.nilCheck rfl) rfl rfl rfl ?_
  refine W.rd (X.fieldAddr 3 fo103_3 rfl) rfl rfl rfl ?_
  refine W.ev_none (Y.storeAt 0 HS rfl inf3 rfl rfl rfl rfl rfl rfl) rfl rfl ?_
  rintro _ w HS
  refine W.nil ?_
  refine At.next ?_
  refine V.seq ?_
  refine V.region ?_
  refine W.rd (X.move rfl) rfl rfl rfl ?_
  refine W.rd (X.assign rfl) rfl rfl rfl ?_
  refine W.nil ?_
  refine At.next ?_
  refine V.ret ?_
  replace HS := row_nil' (e := 39) 1 none (St.put (A := tie (El.sl (El.int .u8)) ([]) (([] : List (List Int)))) (fun _ => tie.nil) HS)
  have HS : Sep.St [row 39 1 (.slice none (([] : List (List Int))).length 0) (([] : List (List Int))).length ([]), tie (El.sl (El.int .u8)) ([]) (([] : List (List Int))), blk b0 (#[Value.int .i64 a0.m, Value.int .i64 a0.window, Value.int .i64 a0.queue, Value.int .i64 (0), Value.int .i64 (0), Value.slice none 0 0]) 103, row 39 1 (.slice a5_1 a0.l.length c5_1) a0.l.length d5_1, tie (El.sl (El.int .u8)) d5_1 a0.l, R] w0 w := HS
  replace HS := HS.re [2, 0, 1, 3, 4, 5] (by kernel_rfl)
  replace HS := backlog_Log.close (({ m := a0.m, window := a0.window, queue := a0.queue, first := 0, out := 0, l := ([] : List (List Int)) } : backlog_Log)) trivial HS
  replace HS := HS.sel [0, 3] [1, 2] (by kernel_rfl)
  cases H
  exact At.ret1 rfl rfl ⟨_, rfl, rfl, HS⟩

/-! ### (*signalman/reorder.Order).Clear: function 77 -/
def reorder_Order_Clear.f (a0 : reorder_Order) : Option reorder_Order := some (({ m := a0.m, window := a0.window, next := 0, kept := ([] : List (Int × (List Int))), ready := a0.ready } : reorder_Order))
set_option maxRecDepth 100000 in
set_option maxHeartbeats 4000000 in
theorem reorder_Order_Clear.calls (a0 : reorder_Order) (R : As) (w0 w : World) (b0 : Nat) (r : reorder_Order)  (H : reorder_Order_Clear.f a0 = some r) (HS : Sep.St [reorder_Order.at b0 a0, R] w0 w) : Calls Try.prog 77 #[Value.pointer (some ⟨b0, 0, none⟩)] w (Ret fun u w => u = Value.tuple #[] ∧ Sep.St [reorder_Order.at b0 r, R] w0 w) := by
  unfold reorder_Order_Clear.f at H
  refine calls_enter Try.func77 rfl rfl ?_
  have H : _ = some r := H
  refine V.seq ?_
  refine V.region ?_
  refine W.rd (X.move rfl) rfl rfl rfl ?_
  refine W.rd (X.nilCheck rfl) rfl rfl rfl ?_
  obtain ⟨b3_1, k3_1, a4_1, c4_1, d4_1, hi2, HS⟩ := reorder_Order.open HS
  refine W.rd (X.fieldAddr 3 fo106_3 rfl) rfl rfl rfl ?_
  refine W.rd (X.loadAt 0 HS rfl Try.underlying104 rfl rfl rfl) rfl rfl rfl ?_
  replace HS := HS.front 2 rfl
  replace HS := HS.mono (B := tieM (El.sl (El.int .u8)) [] ([] : List (Int × (List Int)))) fun _ _ => trivial
  refine W.ev_none (Y.clearMap 2 Try.underlying104 HS rfl rfl) rfl rfl ?_
  rintro _ w HS
  refine W.nil ?_
  refine At.next ?_
  refine V.region ?_
  refine W.rd (X.move rfl) rfl rfl rfl ?_
  refine W.rd (X.nilCheck rfl) rfl rfl rfl ?_
  refine W.rd (X.fieldAddr 2 fo106_2 rfl) rfl rfl rfl ?_
  refine W.ev_none (Y.storeAt 1 HS rfl inf3 rfl rfl rfl rfl rfl rfl) rfl rfl ?_
  rintro _ w HS
  refine W.nil ?_
  replace HS := HS.re [1, 2, 0, 3, 4, 5] (by kernel_rfl)
  replace HS := reorder_Order.close (({ m := a0.m, window := a0.window, next := 0, kept := ([] : List (Int × (List Int))), ready := a0.ready } : reorder_Order)) trivial HS
  cases H
  exact At.end0 rfl ⟨_, rfl, rfl, HS⟩

/-! ### (*signalman/clock.Set).Left: function 49 -/
def clock_Set_Left.f (a0 : clock_Set) (a1 : Int) : Option (Int × Bool) := ((clock_has.f a1).bind fun t1 => (if t1 = true then (if 0 ≤ a1 ∧ a1 < 32 then some (a0.left.getD a1.toNat 0, decide ((a0.left.getD a1.toNat 0) > 0)) else none) else some (0, false)))
set_option maxRecDepth 100000 in
set_option maxHeartbeats 4000000 in
theorem clock_Set_Left.calls (a0 : clock_Set) (a1 : Int) (R : As) (w0 w : World) (b0 : Nat) (r : Int × Bool) (hv0 : a0.left.length = 32) (H : clock_Set_Left.f a0 a1 = some r) (HS : Sep.St [blk b0 (([Value.int .u32 a0.now] ++ a0.left.map (Value.int .i64)).toArray) 109, R] w0 w) : Calls Try.prog 49 #[Value.pointer (some ⟨b0, 0, none⟩), Value.int .i64 a1] w (Ret fun u w => u = Value.tuple #[Value.int .i64 r.1, Value.bool r.2] ∧ Sep.St [blk b0 (([Value.int .u32 a0.now] ++ a0.left.map (Value.int .i64)).toArray) 109, R] w0 w) := by
  unfold clock_Set_Left.f at H
  refine calls_enter Try.func49 rfl rfl ?_
  have H : _ = some r := H
  refine V.seq ?_
  refine V.region ?_
  refine W.rd (X.assign rfl) rfl rfl rfl ?_
  refine W.rd (X.assign rfl) rfl rfl rfl ?_
  refine W.nil ?_
  refine At.next ?_
  refine V.seq ?_
  refine V.seq ?_
  refine V.region ?_
  refine W.rd (X.move rfl) rfl rfl rfl ?_
  obtain ⟨t1, A2, H⟩ := bind_s H
  refine W.ev (Y.call Try.func79 (by kernel_rfl) rfl (vs := [Value.int .i64 a1]) rfl (clock_has.calls a1 _ w0 _  t1  A2 (Sep.St.tailJoin (m := []) (r := [blk b0 (([Value.int .u32 a0.now] ++ a0.left.map (Value.int .i64)).toArray) 109, R]) HS))) rfl rfl rfl ?_
  rintro _ w ⟨rfl, HS⟩
  replace HS := Sep.St.tailOpen (m := []) (r := [blk b0 (([Value.int .u32 a0.now] ++ a0.left.map (Value.int .i64)).toArray) 109, R]) HS
  refine W.rd (X.not rfl) rfl rfl rfl ?_
  refine W.nil ?_
  refine At.next ?_
  by_cases c3 : t1 = true
  · replace H := ite_t c3 H
    refine V.condF (sb (n_t c3)) ?_
    refine V.skip ?_
    refine At.next ?_
    refine V.seq ?_
    obtain ⟨c4, H⟩ := ite_n H
    refine V.draw (es := []) (bl := []) (f := [(9, Value.pointer (some ⟨b0, 0, none⟩)), (10, Value.int .i64 a1), (11, Value.pointer (some ⟨b0, 0, none⟩)), (12, Value.pointer (some ⟨b0, 0 + 1, none⟩)), (13, Value.pointer (some ⟨b0, 0 + 1 + a1.toNat * 1, none⟩)), (14, Value.int .i64 (a0.left.getD a1.toNat 0)), (15, Value.pointer (some ⟨b0, 0, none⟩)), (16, Value.int .i64 a1), (17, Value.pointer (some ⟨b0, 0, none⟩)), (18, Value.pointer (some ⟨b0, 0 + 1, none⟩)), (19, Value.pointer (some ⟨b0, 0 + 1 + a1.toNat * 1, none⟩)), (20, Value.int .i64 (a0.left.getD a1.toNat 0)), (21, Value.bool (decide ((a0.left.getD a1.toNat 0) > 0))), (4, Value.int .i64 (a0.left.getD a1.toNat 0)), (5, Value.bool (decide ((a0.left.getD a1.toNat 0) > 0)))]) (fun w => Sep.St [blk b0 (([Value.int .u32 a0.now] ++ a0.left.map (Value.int .i64)).toArray) 109, R] w0 w) mo HS.drew rfl ?_
    refine T.fin [(4, Value.int .i64 (a0.left.getD a1.toNat 0)), (5, Value.bool (decide ((a0.left.getD a1.toNat 0) > 0)))] rfl ⟨.m1 0 rfl (.l rfl rfl) (fun w HS => X.move rfl) rfl rfl rfl rfl rfl, .m1 1 rfl (.l rfl rfl) (fun w HS => X.move rfl) rfl rfl rfl rfl rfl, .m1 9 rfl (.r rfl rfl) (fun w HS => X.nilCheck rfl) rfl rfl rfl rfl rfl, .m1 11 rfl (.r rfl rfl) (fun w HS => X.fieldAddr 1 fo109_1 rfl) rfl rfl rfl rfl rfl, .m2 10 12 rfl (.r rfl rfl) (.r rfl rfl) (fun w HS => X.indexAr Try.underlying107 inf3 rfl rfl c4.1 c4.2) rfl rfl rfl rfl rfl, .m1 13 rfl (.r rfl rfl) (fun w HS => X.load Try.underlying3 rfl rfl (cellArr 0 HS rfl rfl c4.1 c4.2 (by first | exact hv0 | (simp only [List.length_set]; exact hv0)))) rfl rfl rfl rfl rfl, .m1 0 rfl (.l rfl rfl) (fun w HS => X.move rfl) rfl rfl rfl rfl rfl, .m1 1 rfl (.l rfl rfl) (fun w HS => X.move rfl) rfl rfl rfl rfl rfl, .m1 15 rfl (.r rfl rfl) (fun w HS => X.nilCheck rfl) rfl rfl rfl rfl rfl, .m1 17 rfl (.r rfl rfl) (fun w HS => X.fieldAddr 1 fo109_1 rfl) rfl rfl rfl rfl rfl, .m2 16 18 rfl (.r rfl rfl) (.r rfl rfl) (fun w HS => X.indexAr Try.underlying107 inf3 rfl rfl c4.1 c4.2) rfl rfl rfl rfl rfl, .m1 19 rfl (.r rfl rfl) (fun w HS => X.load Try.underlying3 rfl rfl (cellArr 0 HS rfl rfl c4.1 c4.2 (by first | exact hv0 | (simp only [List.length_set]; exact hv0)))) rfl rfl rfl rfl rfl, .m1 20 rfl (.r rfl rfl) (fun w HS => X.cmp (decide ((a0.left.getD a1.toNat 0) > 0)) rfl rfl rfl rfl) rfl rfl rfl rfl rfl, .m1 14 rfl (.r rfl rfl) (fun w HS => X.assign rfl) rfl rfl rfl rfl rfl, .m1 21 rfl (.r rfl rfl) (fun w HS => X.assign rfl) rfl rfl rfl rfl rfl, trivial⟩ ⟨.inr ⟨rfl, rfl⟩, ⟨.inr ⟨rfl, rfl⟩, trivial⟩⟩ (fun w HS => ?_)
    refine At.next ?_
    refine V.ret ?_
    cases H
    exact At.ret2 rfl rfl rfl ⟨_, rfl, rfl, HS⟩
  · replace H := ite_f c3 H
    refine V.condT (sb (n_f (b_f c3))) ?_
    refine V.seq ?_
    refine V.region ?_
    refine W.rd (X.assign rfl) rfl rfl rfl ?_
    refine W.rd (X.assign rfl) rfl rfl rfl ?_
    refine W.nil ?_
    refine At.next ?_
    refine V.ret ?_
    refine At.thenRet ?_
    cases H
    exact At.ret2 rfl rfl rfl ⟨_, rfl, rfl, HS⟩

/-! ### (*signalman/clock.Set).Stop: function 78 -/
def clock_Set_Stop.f (a0 : clock_Set) (a1 : Int) : Option (Bool × clock_Set) := ((clock_Set_Left.f a0 a1).bind fun t3 => (if t3.2 = true then (if 0 ≤ a1 ∧ a1 < 32 then some (t3.2, ({ now := a0.now, left := a0.left.set a1.toNat (0) } : clock_Set)) else none) else some (t3.2, a0)))
set_option maxRecDepth 100000 in
set_option maxHeartbeats 4000000 in
theorem clock_Set_Stop.calls (a0 : clock_Set) (a1 : Int) (R : As) (w0 w : World) (b0 : Nat) (r : Bool × clock_Set)  (H : clock_Set_Stop.f a0 a1 = some r) (HS : Sep.St [clock_Set.at b0 a0, R] w0 w) : Calls Try.prog 78 #[Value.pointer (some ⟨b0, 0, none⟩), Value.int .i64 a1] w (Ret fun u w => u = Value.bool r.1 ∧ Sep.St [clock_Set.at b0 r.2, R] w0 w) := by
  unfold clock_Set_Stop.f at H
  refine calls_enter Try.func78 rfl rfl ?_
  have H : _ = some r := H
  refine V.seq ?_
  refine V.region ?_
  refine W.rd (X.assign rfl) rfl rfl rfl ?_
  refine W.nil ?_
  refine At.next ?_
  refine V.seq ?_
  refine V.region ?_
  refine W.rd (X.move rfl) rfl rfl rfl ?_
  refine W.rd (X.move rfl) rfl rfl rfl ?_
  obtain ⟨hi2, HS⟩ := clock_Set.open HS
  obtain ⟨t3, A4, H⟩ := bind_s H
  refine W.ev (Y.call Try.func49 (by kernel_rfl) rfl (vs := [Value.pointer (some ⟨b0, 0, none⟩), Value.int .i64 a1]) rfl (clock_Set_Left.calls a0 a1 _ w0 _ b0 t3 (by first | exact hi2 | (simp only [List.length_set]; exact hi2)) A4 (Sep.St.tailJoin (m := [blk b0 (([Value.int .u32 a0.now] ++ a0.left.map (Value.int .i64)).toArray) 109]) (r := [R]) HS))) rfl rfl rfl ?_
  rintro _ w ⟨rfl, HS⟩
  replace HS := Sep.St.tailOpen (m := [blk b0 (([Value.int .u32 a0.now] ++ a0.left.map (Value.int .i64)).toArray) 109]) (r := [R]) HS
  refine W.rd (X.move rfl) rfl rfl rfl ?_
  refine W.rd (X.extract rfl rfl) rfl rfl rfl ?_
  refine W.rd (X.extract rfl rfl) rfl rfl rfl ?_
  refine W.rd (X.assign rfl) rfl rfl rfl ?_
  refine W.rd (X.assign rfl) rfl rfl rfl ?_
  refine W.nil ?_
  refine At.next ?_
  refine V.seq ?_
  refine V.seq ?_
  refine V.region ?_
  refine W.rd (X.move rfl) rfl rfl rfl ?_
  refine W.nil ?_
  refine At.next ?_
  by_cases c5 : t3.2 = true
  · replace H := ite_t c5 H
    refine V.condT (sb c5) ?_
    refine V.region ?_
    refine W.rd (X.move rfl) rfl rfl rfl ?_
    refine W.rd (X.move rfl) rfl rfl rfl ?_
    refine W.rd (X.nilCheck rfl) rfl rfl rfl ?_
    refine W.rd (X.fieldAddr 1 fo109_1 rfl) rfl rfl rfl ?_
    obtain ⟨c6, H⟩ := ite_n H
    refine W.rd (X.indexAr Try.underlying107 inf3 rfl rfl c6.1 c6.2) rfl rfl rfl ?_
    refine W.ev_none (Y.storeArr 0 HS rfl rfl inf3 rfl rfl c6.1 c6.2 (by first | exact hi2 | (simp only [List.length_set]; exact hi2))) rfl rfl ?_
    rintro _ w HS
    refine W.nil ?_
    refine At.next ?_
    refine V.seq ?_
    refine V.region ?_
    refine W.rd (X.move rfl) rfl rfl rfl ?_
    refine W.rd (X.assign rfl) rfl rfl rfl ?_
    refine W.nil ?_
    refine At.next ?_
    refine V.ret ?_
    replace HS := clock_Set.close (({ now := a0.now, left := a0.left.set a1.toNat (0) } : clock_Set)) (by first | exact hi2 | (simp only [List.length_set]; exact hi2)) HS
    cases H
    exact At.ret1 rfl rfl ⟨_, rfl, rfl, HS⟩
  · replace H := ite_f c5 H
    refine V.condF (sb (b_f c5)) ?_
    refine V.skip ?_
    refine At.next ?_
    refine V.seq ?_
    refine V.region ?_
    refine W.rd (X.move rfl) rfl rfl rfl ?_
    refine W.rd (X.assign rfl) rfl rfl rfl ?_
    refine W.nil ?_
    refine At.next ?_
    refine V.ret ?_
    replace HS := clock_Set.close a0 (by first | exact hi2 | (simp only [List.length_set]; exact hi2)) HS
    cases H
    exact At.ret1 rfl rfl ⟨_, rfl, rfl, HS⟩

/-! ### (*signalman/arq.Arq).fresh: function 48 -/
def arq_Arq_fresh.f (a0 : arq_Arq) (a1 : Int) : Option arq_Arq := ((backlog_Log_Clear.f a0.log).bind fun t3 => ((reorder_Order_Clear.f a0.order).bind fun t5 => ((clock_Set_Stop.f a0.timers 0).bind fun t7 => some (({ m := a0.m, t1 := a0.t1, n2 := a0.n2, size := a0.size, state := a1, tag := a0.tag, tries := 0, rejected := false, log := t3.2, order := t5, timers := t7.2, out := a0.out, inds := a0.inds, sent := a0.sent, acked := a0.acked, lost := w64 (a0.lost + t3.1) } : arq_Arq)))))
set_option maxRecDepth 100000 in
set_option maxHeartbeats 4000000 in
theorem arq_Arq_fresh.calls (a0 : arq_Arq) (a1 : Int) (R : As) (w0 w : World) (b0 : Nat) (r : arq_Arq)  (H : arq_Arq_fresh.f a0 a1 = some r) (HS : Sep.St [arq_Arq.at b0 a0, R] w0 w) : Calls Try.prog 48 #[Value.pointer (some ⟨b0, 0, none⟩), Value.int .i64 a1] w (Ret fun u w => u = Value.tuple #[] ∧ Sep.St [arq_Arq.at b0 r, R] w0 w) := by
  unfold arq_Arq_fresh.f at H
  refine calls_enter Try.func48 rfl rfl ?_
  have H : _ = some r := H
  refine V.seq ?_
  refine V.region ?_
  refine W.rd (X.move rfl) rfl rfl rfl ?_
  refine W.rd (X.move rfl) rfl rfl rfl ?_
  refine W.rd (X.move rfl) rfl rfl rfl ?_
  refine W.rd (X.move rfl) rfl rfl rfl ?_
  refine W.rd (X.nilCheck rfl) rfl rfl rfl ?_
  obtain ⟨b8_1, b9_1, b10_1, a11_1, c11_1, d11_1, a12_1, c12_1, hi2, HS⟩ := arq_Arq.open HS
  refine W.rd (X.fieldAddr 4 fo82_4 rfl) rfl rfl rfl ?_
  refine W.ev_none (Y.storeAt 0 HS rfl inf3 rfl rfl rfl rfl rfl rfl) rfl rfl ?_
  rintro _ w HS
  refine W.rd (X.nilCheck rfl) rfl rfl rfl ?_
  refine W.rd (X.fieldAddr 6 fo82_6 rfl) rfl rfl rfl ?_
  refine W.ev_none (Y.storeAt 0 HS rfl inf3 rfl rfl rfl rfl rfl rfl) rfl rfl ?_
  rintro _ w HS
  refine W.rd (X.nilCheck rfl) rfl rfl rfl ?_
  refine W.rd (X.fieldAddr 7 fo82_7 rfl) rfl rfl rfl ?_
  refine W.ev_none (Y.storeAt 0 HS rfl inf4 rfl rfl rfl rfl rfl rfl) rfl rfl ?_
  rintro _ w HS
  refine W.nil ?_
  refine At.next ?_
  refine V.seq ?_
  refine V.draw (es := [8, 12]) (bl := [9, 10, 11]) (f := [(14, Value.pointer (some ⟨b0, 0, none⟩)), (15, Value.pointer (some ⟨b0, 0, none⟩)), (16, Value.pointer (some ⟨b0, 0 + 15, none⟩)), (17, Value.int .i64 a0.lost), (18, Value.pointer (some ⟨b0, 0, none⟩)), (19, Value.pointer (some ⟨b0, 0, none⟩)), (20, Value.pointer (some ⟨b0, 0 + 8, none⟩)), (21, Value.pointer (some ⟨b8_1, 0, none⟩))]) (fun w => Sep.St [blk b0 (#[Value.int .i64 a0.m, Value.int .i64 a0.t1, Value.int .i64 a0.n2, Value.int .i64 a0.size, Value.int .i64 a1, Value.int .i64 a0.tag, Value.int .i64 (0), Value.bool false, Value.pointer (some ⟨b8_1, 0, none⟩), Value.pointer (some ⟨b9_1, 0, none⟩), Value.pointer (some ⟨b10_1, 0, none⟩), Value.slice a11_1 a0.out.length c11_1, Value.slice a12_1 a0.inds.length c12_1, Value.int .i64 a0.sent, Value.int .i64 a0.acked, Value.int .i64 a0.lost]) 82, backlog_Log.at b8_1 a0.log, reorder_Order.at b9_1 a0.order, clock_Set.at b10_1 a0.timers, row 39 1 (.slice a11_1 a0.out.length c11_1) a0.out.length d11_1, tie (El.sl (El.int .u8)) d11_1 a0.out, row 3 1 (.slice a12_1 a0.inds.length c12_1) a0.inds.length (a0.inds.map (Value.int .i64)), R] w0 w) mo HS.drew rfl ?_
  refine T.event _ [(21, Value.pointer (some ⟨b8_1, 0, none⟩))] rfl rfl ⟨.m1 0 rfl (.l rfl rfl) (fun w HS => X.move rfl) rfl rfl rfl rfl rfl, .m1 14 rfl (.r rfl rfl) (fun w HS => X.nilCheck rfl) rfl rfl rfl rfl rfl, .m1 15 rfl (.r rfl rfl) (fun w HS => X.fieldAddr 15 fo82_15 rfl) rfl rfl rfl rfl rfl, .m1 16 rfl (.r rfl rfl) (fun w HS => X.loadAt 0 HS rfl Try.underlying3 rfl rfl rfl) rfl rfl rfl rfl rfl, .m1 0 rfl (.l rfl rfl) (fun w HS => X.move rfl) rfl rfl rfl rfl rfl, .m1 18 rfl (.r rfl rfl) (fun w HS => X.nilCheck rfl) rfl rfl rfl rfl rfl, .m1 19 rfl (.r rfl rfl) (fun w HS => X.fieldAddr 8 fo82_8 rfl) rfl rfl rfl rfl rfl, .m1 20 rfl (.r rfl rfl) (fun w HS => X.loadAt 0 HS rfl Try.underlying74 rfl rfl rfl) rfl rfl rfl rfl rfl, trivial⟩ rfl ⟨.inr ⟨rfl, rfl⟩, trivial⟩ (Or.inl rfl) (by intro d hd; cases hd; exact ⟨by decide, rfl, rfl⟩) [] [4, 5, 6, 7] rfl rfl (fun w HS => ?_)
  obtain ⟨t3, A4, H⟩ := bind_s H
  replace HS := HS.re [1, 0, 2, 3, 4, 5, 6, 7] (by kernel_rfl)
  refine ⟨_, Y.call Try.func76 (by kernel_rfl) rfl (vs := [Value.pointer (some ⟨b8_1, 0, none⟩)]) rfl (backlog_Log_Clear.calls a0.log _ w0 _ b8_1 t3  A4 (Sep.St.tailJoin (m := [backlog_Log.at b8_1 a0.log]) (r := [blk b0 (#[Value.int .i64 a0.m, Value.int .i64 a0.t1, Value.int .i64 a0.n2, Value.int .i64 a0.size, Value.int .i64 a1, Value.int .i64 a0.tag, Value.int .i64 (0), Value.bool false, Value.pointer (some ⟨b8_1, 0, none⟩), Value.pointer (some ⟨b9_1, 0, none⟩), Value.pointer (some ⟨b10_1, 0, none⟩), Value.slice a11_1 a0.out.length c11_1, Value.slice a12_1 a0.inds.length c12_1, Value.int .i64 a0.sent, Value.int .i64 a0.acked, Value.int .i64 a0.lost]) 82, reorder_Order.at b9_1 a0.order, clock_Set.at b10_1 a0.timers, row 39 1 (.slice a11_1 a0.out.length c11_1) a0.out.length d11_1, tie (El.sl (El.int .u8)) d11_1 a0.out, row 3 1 (.slice a12_1 a0.inds.length c12_1) a0.inds.length (a0.inds.map (Value.int .i64)), R]) HS)), ?_⟩
  rintro _ w ⟨rfl, HS⟩
  replace HS := Sep.St.tailOpen (m := [backlog_Log.at b8_1 t3.2]) (r := [blk b0 (#[Value.int .i64 a0.m, Value.int .i64 a0.t1, Value.int .i64 a0.n2, Value.int .i64 a0.size, Value.int .i64 a1, Value.int .i64 a0.tag, Value.int .i64 (0), Value.bool false, Value.pointer (some ⟨b8_1, 0, none⟩), Value.pointer (some ⟨b9_1, 0, none⟩), Value.pointer (some ⟨b10_1, 0, none⟩), Value.slice a11_1 a0.out.length c11_1, Value.slice a12_1 a0.inds.length c12_1, Value.int .i64 a0.sent, Value.int .i64 a0.acked, Value.int .i64 a0.lost]) 82, reorder_Order.at b9_1 a0.order, clock_Set.at b10_1 a0.timers, row 39 1 (.slice a11_1 a0.out.length c11_1) a0.out.length d11_1, tie (El.sl (El.int .u8)) d11_1 a0.out, row 3 1 (.slice a12_1 a0.inds.length c12_1) a0.inds.length (a0.inds.map (Value.int .i64)), R]) HS
  refine ⟨[(22, Value.int .i64 t3.1), (23, Value.int .i64 (w64 (a0.lost + t3.1))), (24, Value.pointer (some ⟨b0, 0, none⟩)), (25, Value.pointer (some ⟨b0, 0 + 15, none⟩))], _, ⟨.inl ⟨rfl, rfl⟩, ⟨.inr ⟨by decide, rfl⟩, ⟨.inr ⟨by decide, rfl⟩, ⟨.inr ⟨by decide, rfl⟩, trivial⟩⟩⟩⟩, ?_, HS⟩
  refine T.event _ [(23, Value.int .i64 (w64 (a0.lost + t3.1))), (25, Value.pointer (some ⟨b0, 0 + 15, none⟩))] rfl rfl ⟨.m1 0 rfl (.l rfl rfl) (fun w HS => X.move rfl) rfl rfl rfl rfl rfl, .m1 14 rfl (.r rfl rfl) (fun w HS => X.nilCheck rfl) rfl rfl rfl rfl rfl, .m1 15 rfl (.r rfl rfl) (fun w HS => X.fieldAddr 15 fo82_15 rfl) rfl rfl rfl rfl rfl, .m1 16 rfl (.r rfl rfl) (fun w HS => X.loadAt 1 HS rfl Try.underlying3 rfl rfl rfl) rfl rfl rfl rfl rfl, .m2 17 22 rfl (.r rfl rfl) (.r rfl rfl) (fun w HS => X.add rfl rfl) rfl rfl rfl rfl rfl, .m1 14 rfl (.r rfl rfl) (fun w HS => X.nilCheck rfl) rfl rfl rfl rfl rfl, .m1 24 rfl (.r rfl rfl) (fun w HS => X.fieldAddr 15 fo82_15 rfl) rfl rfl rfl rfl rfl, trivial⟩ rfl ⟨.inr ⟨rfl, rfl⟩, ⟨.inr ⟨rfl, rfl⟩, trivial⟩⟩ (Or.inl rfl) (by intro d hd; cases hd) [] [0, 1, 2, 3, 9, 10, 11] rfl rfl (fun w HS => ?_)
  refine ⟨_, Y.storeAt 1 HS rfl inf3 rfl rfl rfl rfl rfl rfl, ?_⟩
  rintro _ w HS
  refine ⟨[], _, trivial, ?_, HS⟩
  refine T.fin [(0, Value.pointer (some ⟨b0, 0, none⟩))] rfl trivial ⟨.inl ⟨rfl, rfl⟩, trivial⟩ (fun w HS => ?_)
  refine At.next ?_
  refine V.seq ?_
  refine V.region ?_
  refine W.rd (X.move rfl) rfl rfl rfl ?_
  refine W.rd (X.nilCheck rfl) rfl rfl rfl ?_
  refine W.rd (X.fieldAddr 9 fo82_9 rfl) rfl rfl rfl ?_
  refine W.rd (X.loadAt 1 HS rfl Try.underlying76 rfl rfl rfl) rfl rfl rfl ?_
  obtain ⟨t5, A6, H⟩ := bind_s H
  replace HS := HS.re [2, 0, 1, 3, 4, 5, 6, 7] (by kernel_rfl)
  refine W.ev (Y.call Try.func77 (by kernel_rfl) rfl (vs := [Value.pointer (some ⟨b9_1, 0, none⟩)]) rfl (reorder_Order_Clear.calls a0.order _ w0 _ b9_1 t5  A6 (Sep.St.tailJoin (m := [reorder_Order.at b9_1 a0.order]) (r := [backlog_Log.at b8_1 t3.2, blk b0 (#[Value.int .i64 a0.m, Value.int .i64 a0.t1, Value.int .i64 a0.n2, Value.int .i64 a0.size, Value.int .i64 a1, Value.int .i64 a0.tag, Value.int .i64 (0), Value.bool false, Value.pointer (some ⟨b8_1, 0, none⟩), Value.pointer (some ⟨b9_1, 0, none⟩), Value.pointer (some ⟨b10_1, 0, none⟩), Value.slice a11_1 a0.out.length c11_1, Value.slice a12_1 a0.inds.length c12_1, Value.int .i64 a0.sent, Value.int .i64 a0.acked, Value.int .i64 (w64 (a0.lost + t3.1))]) 82, clock_Set.at b10_1 a0.timers, row 39 1 (.slice a11_1 a0.out.length c11_1) a0.out.length d11_1, tie (El.sl (El.int .u8)) d11_1 a0.out, row 3 1 (.slice a12_1 a0.inds.length c12_1) a0.inds.length (a0.inds.map (Value.int .i64)), R]) HS))) rfl rfl rfl ?_
  rintro _ w ⟨rfl, HS⟩
  replace HS := Sep.St.tailOpen (m := [reorder_Order.at b9_1 t5]) (r := [backlog_Log.at b8_1 t3.2, blk b0 (#[Value.int .i64 a0.m, Value.int .i64 a0.t1, Value.int .i64 a0.n2, Value.int .i64 a0.size, Value.int .i64 a1, Value.int .i64 a0.tag, Value.int .i64 (0), Value.bool false, Value.pointer (some ⟨b8_1, 0, none⟩), Value.pointer (some ⟨b9_1, 0, none⟩), Value.pointer (some ⟨b10_1, 0, none⟩), Value.slice a11_1 a0.out.length c11_1, Value.slice a12_1 a0.inds.length c12_1, Value.int .i64 a0.sent, Value.int .i64 a0.acked, Value.int .i64 (w64 (a0.lost + t3.1))]) 82, clock_Set.at b10_1 a0.timers, row 39 1 (.slice a11_1 a0.out.length c11_1) a0.out.length d11_1, tie (El.sl (El.int .u8)) d11_1 a0.out, row 3 1 (.slice a12_1 a0.inds.length c12_1) a0.inds.length (a0.inds.map (Value.int .i64)), R]) HS
  refine W.nil ?_
  refine At.next ?_
  refine V.region ?_
  refine W.rd (X.move rfl) rfl rfl rfl ?_
  refine W.rd (X.nilCheck rfl) rfl rfl rfl ?_
  refine W.rd (X.fieldAddr 10 fo82_10 rfl) rfl rfl rfl ?_
  refine W.rd (X.loadAt 2 HS rfl Try.underlying78 rfl rfl rfl) rfl rfl rfl ?_
  obtain ⟨t7, A8, H⟩ := bind_s H
  replace HS := HS.re [3, 0, 1, 2, 4, 5, 6, 7] (by kernel_rfl)
  refine W.ev (Y.call Try.func78 (by kernel_rfl) rfl (vs := [Value.pointer (some ⟨b10_1, 0, none⟩), Value.int .i64 (0)]) rfl (clock_Set_Stop.calls a0.timers 0 _ w0 _ b10_1 t7  A8 (Sep.St.tailJoin (m := [clock_Set.at b10_1 a0.timers]) (r := [reorder_Order.at b9_1 t5, backlog_Log.at b8_1 t3.2, blk b0 (#[Value.int .i64 a0.m, Value.int .i64 a0.t1, Value.int .i64 a0.n2, Value.int .i64 a0.size, Value.int .i64 a1, Value.int .i64 a0.tag, Value.int .i64 (0), Value.bool false, Value.pointer (some ⟨b8_1, 0, none⟩), Value.pointer (some ⟨b9_1, 0, none⟩), Value.pointer (some ⟨b10_1, 0, none⟩), Value.slice a11_1 a0.out.length c11_1, Value.slice a12_1 a0.inds.length c12_1, Value.int .i64 a0.sent, Value.int .i64 a0.acked, Value.int .i64 (w64 (a0.lost + t3.1))]) 82, row 39 1 (.slice a11_1 a0.out.length c11_1) a0.out.length d11_1, tie (El.sl (El.int .u8)) d11_1 a0.out, row 3 1 (.slice a12_1 a0.inds.length c12_1) a0.inds.length (a0.inds.map (Value.int .i64)), R]) HS))) rfl rfl rfl ?_
  rintro _ w ⟨rfl, HS⟩
  replace HS := Sep.St.tailOpen (m := [clock_Set.at b10_1 t7.2]) (r := [reorder_Order.at b9_1 t5, backlog_Log.at b8_1 t3.2, blk b0 (#[Value.int .i64 a0.m, Value.int .i64 a0.t1, Value.int .i64 a0.n2, Value.int .i64 a0.size, Value.int .i64 a1, Value.int .i64 a0.tag, Value.int .i64 (0), Value.bool false, Value.pointer (some ⟨b8_1, 0, none⟩), Value.pointer (some ⟨b9_1, 0, none⟩), Value.pointer (some ⟨b10_1, 0, none⟩), Value.slice a11_1 a0.out.length c11_1, Value.slice a12_1 a0.inds.length c12_1, Value.int .i64 a0.sent, Value.int .i64 a0.acked, Value.int .i64 (w64 (a0.lost + t3.1))]) 82, row 39 1 (.slice a11_1 a0.out.length c11_1) a0.out.length d11_1, tie (El.sl (El.int .u8)) d11_1 a0.out, row 3 1 (.slice a12_1 a0.inds.length c12_1) a0.inds.length (a0.inds.map (Value.int .i64)), R]) HS
  refine W.nil ?_
  replace HS := HS.re [3, 2, 1, 0, 4, 5, 6, 7] (by kernel_rfl)
  replace HS := arq_Arq.close (({ m := a0.m, t1 := a0.t1, n2 := a0.n2, size := a0.size, state := a1, tag := a0.tag, tries := 0, rejected := false, log := t3.2, order := t5, timers := t7.2, out := a0.out, inds := a0.inds, sent := a0.sent, acked := a0.acked, lost := w64 (a0.lost + t3.1) } : arq_Arq)) trivial HS
  cases H
  exact At.end0 rfl ⟨_, rfl, rfl, HS⟩
end Go.Proofs.Ytnlcafmkmfnobaa

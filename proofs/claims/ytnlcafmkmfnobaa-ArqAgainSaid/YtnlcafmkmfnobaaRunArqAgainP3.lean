/- ArqAgain: the functions that its law reaches, as plain functions, and that the machine's calls come to what these say. Conditions: those that stand at each. -/
import Derived.Test.YtnlcafmkmfnobaaRunArqAgainP2
set_option linter.all false
namespace Go.Proofs.Ytnlcafmkmfnobaa
open Go.RowKit Go.Proofs.Ytnlcafmkmfnobaa.Sep Go.Proofs.Ytnlcafmkmfnobaa.Walk
/-! ### (*signalman/arq.Arq).asked: function 53 -/
mutual
def arq_Arq_asked.j0  (x10 : arq_Arq) : Option arq_Arq := some x10
def arq_Arq_asked.j2 (k : Nat) (a0 : arq_Arq) (a1 : Int) (a2 : Bool) (x18 : Bool) : Option arq_Arq := (if x18 = true then ((arq_Arq_fresh.f a0 2).bind fun t21 => ((arq_Arq_tell.f k ({ m := t21.m, t1 := t21.t1, n2 := t21.n2, size := t21.size, state := t21.state, tag := a1, tries := t21.tries, rejected := t21.rejected, log := t21.log, order := t21.order, timers := t21.timers, out := t21.out, inds := t21.inds, sent := t21.sent, acked := t21.acked, lost := t21.lost } : arq_Arq) ({ Kind := 4, Ns := 0, Nr := 0, Poll := a2 } : api_Ctl)).bind fun t25 => (if a0.state = 2 then (if (t25.inds.length : Int) + ([3] : List Int).length ≤ 1099511627776 then some (({ m := t25.m, t1 := t25.t1, n2 := t25.n2, size := t25.size, state := t25.state, tag := t25.tag, tries := t25.tries, rejected := t25.rejected, log := t25.log, order := t25.order, timers := t25.timers, out := t25.out, inds := t25.inds ++ ([3] : List Int), sent := t25.sent, acked := t25.acked, lost := t25.lost } : arq_Arq)) else none) else (if (t25.inds.length : Int) + ([1] : List Int).length ≤ 1099511627776 then some (({ m := t25.m, t1 := t25.t1, n2 := t25.n2, size := t25.size, state := t25.state, tag := t25.tag, tries := t25.tries, rejected := t25.rejected, log := t25.log, order := t25.order, timers := t25.timers, out := t25.out, inds := t25.inds ++ ([1] : List Int), sent := t25.sent, acked := t25.acked, lost := t25.lost } : arq_Arq)) else none)))) else (if a0.state = 0 then ((arq_Arq_tell.f k a0 ({ Kind := 6, Ns := 0, Nr := 0, Poll := false } : api_Ctl)).bind fun t47 => (arq_Arq_asked.j0 t47)) else (arq_Arq_asked.j0 a0)))
def arq_Arq_asked.j1 (k : Nat) (a0 : arq_Arq) (a1 : Int) (a2 : Bool) (x13 : Bool) : Option arq_Arq := (if x13 = true then ((arq_Arq_tell.f k a0 ({ Kind := 4, Ns := 0, Nr := 0, Poll := a2 } : api_Ctl)).bind fun t16 => some t16) else ((arq_Arq_ahead.f a0 a1).bind fun t51 => (if t51 = true then (arq_Arq_asked.j2 k a0 a1 a2 true) else (if a0.state = 1 then (arq_Arq_asked.j2 k a0 a1 a2 (decide (a1 = a0.tag))) else (arq_Arq_asked.j2 k a0 a1 a2 false)))))
end
def arq_Arq_asked.f (k : Nat) (a0 : arq_Arq) (a1 : Int) (a2 : Bool) : Option arq_Arq := (if a0.state = 3 then some a0 else (if a0.state = 2 then (arq_Arq_asked.j1 k a0 a1 a2 (decide (a1 = a0.tag))) else (arq_Arq_asked.j1 k a0 a1 a2 false)))
set_option maxRecDepth 100000 in
set_option maxHeartbeats 4000000 in
theorem arq_Arq_asked.calls (k : Nat) (a0 : arq_Arq) (a1 : Int) (a2 : Bool) (R : As) (w0 w : World) (b0 : Nat) (r : arq_Arq)  (H : arq_Arq_asked.f k a0 a1 a2 = some r) (HS : Sep.St [arq_Arq.at b0 a0, R] w0 w) : Calls Try.prog 53 #[Value.pointer (some ⟨b0, 0, none⟩), Value.int .i64 a1, Value.bool a2] w (Ret fun u w => u = Value.tuple #[] ∧ Sep.St [arq_Arq.at b0 r, R] w0 w) := by
  unfold arq_Arq_asked.f at H
  refine calls_enter Try.func53 rfl rfl ?_
  have H : _ = some r := H
  refine V.scope 1 ?_
  refine V.seq ?_
  refine V.region ?_
  refine W.rd (X.move rfl) rfl rfl rfl ?_
  refine W.rd (X.nilCheck rfl) rfl rfl rfl ?_
  obtain ⟨b8_1, b9_1, b10_1, a11_1, c11_1, d11_1, a12_1, c12_1, hi2, HS⟩ := arq_Arq.open HS
  refine W.rd (X.fieldAddr 4 fo82_4 rfl) rfl rfl rfl ?_
  refine W.rd (X.loadAt 0 HS rfl Try.underlying3 rfl rfl rfl) rfl rfl rfl ?_
  refine W.rd (X.cmp (decide (a0.state = 2)) rfl rfl rfl rfl) rfl rfl rfl ?_
  refine W.rd (X.assign rfl) rfl rfl rfl ?_
  refine W.nil ?_
  refine At.next ?_
  refine V.meet (σ := arq_Arq) (fun st w => match st with | x10 => Sep.St [arq_Arq.at b0 x10, R] w0 w ∧ arq_Arq_asked.j0 x10 = some r) (fun st => match st with | x10 => []) ?_ ?_
  · refine V.block ?_
    refine V.seq ?_
    refine V.region ?_
    refine W.rd (X.move rfl) rfl rfl rfl ?_
    refine W.rd (X.nilCheck rfl) rfl rfl rfl ?_
    refine W.rd (X.fieldAddr 4 fo82_4 rfl) rfl rfl rfl ?_
    refine W.rd (X.loadAt 0 HS rfl Try.underlying3 rfl rfl rfl) rfl rfl rfl ?_
    refine W.rd (X.cmp (decide (a0.state = 3)) rfl rfl rfl rfl) rfl rfl rfl ?_
    refine W.rd (X.assign rfl) rfl rfl rfl ?_
    refine W.nil ?_
    refine At.next ?_
    by_cases c12 : a0.state = 3
    · replace H := ite_t c12 H
      refine V.condT (sb (decide_eq_true c12)) ?_
      refine V.ret ?_
      refine At.blockRet ?_
      refine At.thenRet ?_
      refine At.scopeRet ?_
      replace HS := arq_Arq.close a0 trivial HS
      cases H
      exact At.ret0 rfl ⟨_, rfl, rfl, HS⟩
    · replace H := ite_f c12 H
      refine V.condF (sb (decide_eq_false c12)) ?_
      refine V.meet (σ := Bool) (fun st w => match st with | x13 => Sep.St [arq_Arq.at b0 a0, R] w0 w ∧ ∃ kf14, kf14 ≤ k ∧ arq_Arq_asked.j1 kf14 a0 a1 a2 x13 = some r) (fun st => match st with | x13 => [(0, Value.pointer (some ⟨b0, 0, none⟩)), (1, Value.int .i64 a1), (2, Value.bool a2), (6, Value.bool (decide (a0.state = 2))), (18, Value.bool x13)]) ?_ ?_
      · refine V.region ?_
        refine W.rd (X.move rfl) rfl rfl rfl ?_
        refine W.rd (X.move rfl) rfl rfl rfl ?_
        by_cases c55 : a0.state = 2
        · replace H := ite_t c55 H
          refine W.want 20 rfl (sb (decide_eq_true c55)) ?_
          refine W.rd (X.move rfl) rfl rfl rfl ?_
          refine W.want 20 rfl (sb (decide_eq_true c55)) ?_
          refine W.rd (X.move rfl) rfl rfl rfl ?_
          refine W.want 20 rfl (sb (decide_eq_true c55)) ?_
          refine W.rd (X.nilCheck rfl) rfl rfl rfl ?_
          refine W.want 20 rfl (sb (decide_eq_true c55)) ?_
          refine W.rd (X.fieldAddr 5 fo82_5 rfl) rfl rfl rfl ?_
          refine W.want 20 rfl (sb (decide_eq_true c55)) ?_
          refine W.rd (X.loadAt 0 HS rfl Try.underlying3 rfl rfl rfl) rfl rfl rfl ?_
          refine W.want 20 rfl (sb (decide_eq_true c55)) ?_
          refine W.rd (X.cmp (decide (a1 = a0.tag)) rfl rfl rfl rfl) rfl rfl rfl ?_
          refine W.rd (X.pickT (sb (decide_eq_true c55)) rfl) rfl rfl rfl ?_
          refine W.rd (X.assign rfl) rfl rfl rfl ?_
          refine W.nil ?_
          replace HS := arq_Arq.close a0 trivial HS
          exact At.meet (decide (a1 = a0.tag)) ⟨rfl, rfl, rfl, rfl, rfl, trivial⟩ ⟨HS, k, by omega, H⟩
        · replace H := ite_f c55 H
          refine W.pass 20 rfl (sb (decide_eq_false c55)) rfl rfl ?_
          refine W.pass 20 rfl (sb (decide_eq_false c55)) rfl rfl ?_
          refine W.pass 20 rfl (sb (decide_eq_false c55)) rfl rfl ?_
          refine W.pass 20 rfl (sb (decide_eq_false c55)) rfl rfl ?_
          refine W.pass 20 rfl (sb (decide_eq_false c55)) rfl rfl ?_
          refine W.pass 20 rfl (sb (decide_eq_false c55)) rfl rfl ?_
          refine W.rd (X.pickF (sb (decide_eq_false c55)) rfl) rfl rfl rfl ?_
          refine W.rd (X.assign rfl) rfl rfl rfl ?_
          refine W.nil ?_
          replace HS := arq_Arq.close a0 trivial HS
          exact At.meet false ⟨rfl, rfl, rfl, rfl, rfl, trivial⟩ ⟨HS, k, by omega, H⟩
      · rintro x13 w ⟨HS, kf14, hkkf14, H⟩
        unfold arq_Arq_asked.j1 at H
        by_cases c15 : x13 = true
        · replace H := ite_t c15 H
          refine V.condT (sb c15) ?_
          refine V.seq ?_
          refine V.region ?_
          refine W.rd (X.move rfl) rfl rfl rfl ?_
          refine W.rd (X.move rfl) rfl rfl rfl ?_
          refine W.rd (X.build (vs := #[(0, Value.int .i64 (4)), (3, Value.bool a2)]) (v := Value.agg #[Value.int .i64 (4), Value.int .i64 (0), Value.int .i64 (0), Value.bool a2]) (fun a ha => by simp only [List.map_toArray, List.map_cons, List.map_nil]; rw [ha.ev (x := .tmp 29) (v := Value.bool a2) rfl]; try rfl) (fun _ => by kernel_rfl)) rfl rfl rfl ?_
          obtain ⟨t16, A17, H⟩ := bind_s H
          refine W.ev (Y.call Try.func46 (by kernel_rfl) rfl (vs := [Value.pointer (some ⟨b0, 0, none⟩), Value.agg #[Value.int .i64 (4), Value.int .i64 (0), Value.int .i64 (0), Value.bool a2]]) rfl (arq_Arq_tell.calls kf14 a0 ({ Kind := 4, Ns := 0, Nr := 0, Poll := a2 } : api_Ctl) _ w0 _ b0 t16  A17 (Sep.St.tailJoin (m := [arq_Arq.at b0 a0]) (r := [R]) HS))) rfl rfl rfl ?_
          rintro _ w ⟨rfl, HS⟩
          replace HS := Sep.St.tailOpen (m := [arq_Arq.at b0 t16]) (r := [R]) HS
          refine W.nil ?_
          refine At.next ?_
          refine V.ret ?_
          refine At.blockRet ?_
          refine At.thenRet ?_
          refine At.scopeRet ?_
          cases H
          exact At.ret0 rfl ⟨_, rfl, rfl, HS⟩
        · replace H := ite_f c15 H
          refine V.condF (sb (b_f c15)) ?_
          refine V.meet (σ := Bool) (fun st w => match st with | x18 => Sep.St [arq_Arq.at b0 a0, R] w0 w ∧ ∃ kf19, kf19 ≤ kf14 ∧ arq_Arq_asked.j2 kf19 a0 a1 a2 x18 = some r) (fun st => match st with | x18 => [(0, Value.pointer (some ⟨b0, 0, none⟩)), (1, Value.int .i64 a1), (2, Value.bool a2), (6, Value.bool (decide (a0.state = 2))), (32, Value.bool x18)]) ?_ ?_
          · refine V.region ?_
            refine W.rd (X.move rfl) rfl rfl rfl ?_
            refine W.rd (X.move rfl) rfl rfl rfl ?_
            obtain ⟨b8_49, b9_49, b10_49, a11_49, c11_49, d11_49, a12_49, c12_49, hi50, HS⟩ := arq_Arq.open HS
            obtain ⟨t51, A52, H⟩ := bind_s H
            refine W.ev (Y.call Try.func89 (by kernel_rfl) rfl (vs := [Value.pointer (some ⟨b0, 0, none⟩), Value.int .i64 a1]) rfl (arq_Arq_ahead.calls a0 a1 _ w0 _ b0 b8_49 b9_49 b10_49 a11_49 c11_49 d11_49 a12_49 c12_49 t51  A52 (Sep.St.tailJoin (m := [blk b0 (#[Value.int .i64 a0.m, Value.int .i64 a0.t1, Value.int .i64 a0.n2, Value.int .i64 a0.size, Value.int .i64 a0.state, Value.int .i64 a0.tag, Value.int .i64 a0.tries, Value.bool a0.rejected, Value.pointer (some ⟨b8_49, 0, none⟩), Value.pointer (some ⟨b9_49, 0, none⟩), Value.pointer (some ⟨b10_49, 0, none⟩), Value.slice a11_49 a0.out.length c11_49, Value.slice a12_49 a0.inds.length c12_49, Value.int .i64 a0.sent, Value.int .i64 a0.acked, Value.int .i64 a0.lost]) 82, backlog_Log.at b8_49 a0.log, reorder_Order.at b9_49 a0.order, clock_Set.at b10_49 a0.timers, row 39 1 (.slice a11_49 a0.out.length c11_49) a0.out.length d11_49, tie (El.sl (El.int .u8)) d11_49 a0.out, row 3 1 (.slice a12_49 a0.inds.length c12_49) a0.inds.length (a0.inds.map (Value.int .i64))]) (r := [R]) HS))) rfl rfl rfl ?_
            rintro _ w ⟨rfl, HS⟩
            replace HS := Sep.St.tailOpen (m := [blk b0 (#[Value.int .i64 a0.m, Value.int .i64 a0.t1, Value.int .i64 a0.n2, Value.int .i64 a0.size, Value.int .i64 a0.state, Value.int .i64 a0.tag, Value.int .i64 a0.tries, Value.bool a0.rejected, Value.pointer (some ⟨b8_49, 0, none⟩), Value.pointer (some ⟨b9_49, 0, none⟩), Value.pointer (some ⟨b10_49, 0, none⟩), Value.slice a11_49 a0.out.length c11_49, Value.slice a12_49 a0.inds.length c12_49, Value.int .i64 a0.sent, Value.int .i64 a0.acked, Value.int .i64 a0.lost]) 82, backlog_Log.at b8_49 a0.log, reorder_Order.at b9_49 a0.order, clock_Set.at b10_49 a0.timers, row 39 1 (.slice a11_49 a0.out.length c11_49) a0.out.length d11_49, tie (El.sl (El.int .u8)) d11_49 a0.out, row 3 1 (.slice a12_49 a0.inds.length c12_49) a0.inds.length (a0.inds.map (Value.int .i64))]) (r := [R]) HS
            refine W.rd (X.move rfl) rfl rfl rfl ?_
            by_cases c53 : t51 = true
            · replace H := ite_t c53 H
              refine W.pass 36 rfl (sb c53) rfl rfl ?_
              refine W.pass 36 rfl (sb c53) rfl rfl ?_
              refine W.pass 36 rfl (sb c53) rfl rfl ?_
              refine W.pass 36 rfl (sb c53) rfl rfl ?_
              refine W.pass 36 rfl (sb c53) rfl rfl ?_
              refine W.pass 36 rfl (sb c53) rfl rfl ?_
              refine W.passU 42 rfl rfl rfl ?_
              refine W.passU 42 rfl rfl rfl ?_
              refine W.passU 42 rfl rfl rfl ?_
              refine W.passU 42 rfl rfl rfl ?_
              refine W.passU 42 rfl rfl rfl ?_
              refine W.passU 42 rfl rfl rfl ?_
              refine W.pass 36 rfl (sb c53) rfl rfl ?_
              refine W.rd (X.pickT (sb c53) rfl) rfl rfl rfl ?_
              refine W.rd (X.assign rfl) rfl rfl rfl ?_
              refine W.nil ?_
              replace HS := arq_Arq.close a0 trivial HS
              exact At.meet true ⟨rfl, rfl, rfl, rfl, rfl, trivial⟩ ⟨HS, kf14, by omega, H⟩
            · replace H := ite_f c53 H
              refine W.want 36 rfl (sb (b_f c53)) ?_
              refine W.rd (X.move rfl) rfl rfl rfl ?_
              refine W.want 36 rfl (sb (b_f c53)) ?_
              refine W.rd (X.nilCheck rfl) rfl rfl rfl ?_
              refine W.want 36 rfl (sb (b_f c53)) ?_
              refine W.rd (X.fieldAddr 4 fo82_4 rfl) rfl rfl rfl ?_
              refine W.want 36 rfl (sb (b_f c53)) ?_
              refine W.rd (X.loadAt 0 HS rfl Try.underlying3 rfl rfl rfl) rfl rfl rfl ?_
              refine W.want 36 rfl (sb (b_f c53)) ?_
              refine W.rd (X.cmp (decide (a0.state = 1)) rfl rfl rfl rfl) rfl rfl rfl ?_
              refine W.want 36 rfl (sb (b_f c53)) ?_
              refine W.rd (X.move rfl) rfl rfl rfl ?_
              by_cases c54 : a0.state = 1
              · replace H := ite_t c54 H
                refine W.want 42 rfl (sb (decide_eq_true c54)) ?_
                refine W.rd (X.move rfl) rfl rfl rfl ?_
                refine W.want 42 rfl (sb (decide_eq_true c54)) ?_
                refine W.rd (X.move rfl) rfl rfl rfl ?_
                refine W.want 42 rfl (sb (decide_eq_true c54)) ?_
                refine W.rd (X.nilCheck rfl) rfl rfl rfl ?_
                refine W.want 42 rfl (sb (decide_eq_true c54)) ?_
                refine W.rd (X.fieldAddr 5 fo82_5 rfl) rfl rfl rfl ?_
                refine W.want 42 rfl (sb (decide_eq_true c54)) ?_
                refine W.rd (X.loadAt 0 HS rfl Try.underlying3 rfl rfl rfl) rfl rfl rfl ?_
                refine W.want 42 rfl (sb (decide_eq_true c54)) ?_
                refine W.rd (X.cmp (decide (a1 = a0.tag)) rfl rfl rfl rfl) rfl rfl rfl ?_
                refine W.want 36 rfl (sb (b_f c53)) ?_
                refine W.rd (X.pickT (sb (decide_eq_true c54)) rfl) rfl rfl rfl ?_
                refine W.rd (X.pickF (sb (b_f c53)) rfl) rfl rfl rfl ?_
                refine W.rd (X.assign rfl) rfl rfl rfl ?_
                refine W.nil ?_
                replace HS := arq_Arq.close a0 trivial HS
                exact At.meet (decide (a1 = a0.tag)) ⟨rfl, rfl, rfl, rfl, rfl, trivial⟩ ⟨HS, kf14, by omega, H⟩
              · replace H := ite_f c54 H
                refine W.pass 42 rfl (sb (decide_eq_false c54)) rfl rfl ?_
                refine W.pass 42 rfl (sb (decide_eq_false c54)) rfl rfl ?_
                refine W.pass 42 rfl (sb (decide_eq_false c54)) rfl rfl ?_
                refine W.pass 42 rfl (sb (decide_eq_false c54)) rfl rfl ?_
                refine W.pass 42 rfl (sb (decide_eq_false c54)) rfl rfl ?_
                refine W.pass 42 rfl (sb (decide_eq_false c54)) rfl rfl ?_
                refine W.want 36 rfl (sb (b_f c53)) ?_
                refine W.rd (X.pickF (sb (decide_eq_false c54)) rfl) rfl rfl rfl ?_
                refine W.rd (X.pickF (sb (b_f c53)) rfl) rfl rfl rfl ?_
                refine W.rd (X.assign rfl) rfl rfl rfl ?_
                refine W.nil ?_
                replace HS := arq_Arq.close a0 trivial HS
                exact At.meet false ⟨rfl, rfl, rfl, rfl, rfl, trivial⟩ ⟨HS, kf14, by omega, H⟩
          · rintro x18 w ⟨HS, kf19, hkkf19, H⟩
            unfold arq_Arq_asked.j2 at H
            by_cases c20 : x18 = true
            · replace H := ite_t c20 H
              refine V.condT (sb c20) ?_
              refine V.goto ?_
              refine At.blockGoto ?_
              refine At.thenGoto ?_
              refine At.jump rfl ?_
              refine V.seq ?_
              refine V.skip ?_
              refine At.next ?_
              refine V.seq ?_
              refine V.region ?_
              refine W.rd (X.move rfl) rfl rfl rfl ?_
              obtain ⟨t21, A22, H⟩ := bind_s H
              refine W.ev (Y.call Try.func48 (by kernel_rfl) rfl (vs := [Value.pointer (some ⟨b0, 0, none⟩), Value.int .i64 (2)]) rfl (arq_Arq_fresh.calls a0 2 _ w0 _ b0 t21  A22 (Sep.St.tailJoin (m := [arq_Arq.at b0 a0]) (r := [R]) HS))) rfl rfl rfl ?_
              rintro _ w ⟨rfl, HS⟩
              replace HS := Sep.St.tailOpen (m := [arq_Arq.at b0 t21]) (r := [R]) HS
              refine W.nil ?_
              refine At.next ?_
              refine V.seq ?_
              refine V.region ?_
              refine W.rd (X.move rfl) rfl rfl rfl ?_
              refine W.rd (X.move rfl) rfl rfl rfl ?_
              refine W.rd (X.nilCheck rfl) rfl rfl rfl ?_
              obtain ⟨b8_23, b9_23, b10_23, a11_23, c11_23, d11_23, a12_23, c12_23, hi24, HS⟩ := arq_Arq.open HS
              refine W.rd (X.fieldAddr 5 fo82_5 rfl) rfl rfl rfl ?_
              refine W.ev_none (Y.storeAt 0 HS rfl inf3 rfl rfl rfl rfl rfl rfl) rfl rfl ?_
              rintro _ w HS
              refine W.nil ?_
              refine At.next ?_
              refine V.seq ?_
              refine V.region ?_
              refine W.rd (X.move rfl) rfl rfl rfl ?_
              refine W.rd (X.move rfl) rfl rfl rfl ?_
              refine W.rd (X.build (vs := #[(0, Value.int .i64 (4)), (3, Value.bool a2)]) (v := Value.agg #[Value.int .i64 (4), Value.int .i64 (0), Value.int .i64 (0), Value.bool a2]) (fun a ha => by simp only [List.map_toArray, List.map_cons, List.map_nil]; rw [ha.ev (x := .tmp 67) (v := Value.bool a2) rfl]; try rfl) (fun _ => by kernel_rfl)) rfl rfl rfl ?_
              replace HS := arq_Arq.close ({ m := t21.m, t1 := t21.t1, n2 := t21.n2, size := t21.size, state := t21.state, tag := a1, tries := t21.tries, rejected := t21.rejected, log := t21.log, order := t21.order, timers := t21.timers, out := t21.out, inds := t21.inds, sent := t21.sent, acked := t21.acked, lost := t21.lost } : arq_Arq) trivial HS
              obtain ⟨t25, A26, H⟩ := bind_s H
              refine W.ev (Y.call Try.func46 (by kernel_rfl) rfl (vs := [Value.pointer (some ⟨b0, 0, none⟩), Value.agg #[Value.int .i64 (4), Value.int .i64 (0), Value.int .i64 (0), Value.bool a2]]) rfl (arq_Arq_tell.calls kf19 ({ m := t21.m, t1 := t21.t1, n2 := t21.n2, size := t21.size, state := t21.state, tag := a1, tries := t21.tries, rejected := t21.rejected, log := t21.log, order := t21.order, timers := t21.timers, out := t21.out, inds := t21.inds, sent := t21.sent, acked := t21.acked, lost := t21.lost } : arq_Arq) ({ Kind := 4, Ns := 0, Nr := 0, Poll := a2 } : api_Ctl) _ w0 _ b0 t25  A26 (Sep.St.tailJoin (m := [arq_Arq.at b0 ({ m := t21.m, t1 := t21.t1, n2 := t21.n2, size := t21.size, state := t21.state, tag := a1, tries := t21.tries, rejected := t21.rejected, log := t21.log, order := t21.order, timers := t21.timers, out := t21.out, inds := t21.inds, sent := t21.sent, acked := t21.acked, lost := t21.lost } : arq_Arq)]) (r := [R]) HS))) rfl rfl rfl ?_
              rintro _ w ⟨rfl, HS⟩
              replace HS := Sep.St.tailOpen (m := [arq_Arq.at b0 t25]) (r := [R]) HS
              refine W.nil ?_
              refine At.next ?_
              refine V.seq ?_
              refine V.region ?_
              refine W.rd (X.move rfl) rfl rfl rfl ?_
              refine W.nil ?_
              refine At.next ?_
              by_cases c27 : a0.state = 2
              · replace H := ite_t c27 H
                refine V.condT (sb (decide_eq_true c27)) ?_
                refine V.region ?_
                refine W.rd (X.move rfl) rfl rfl rfl ?_
                refine W.rd (X.move rfl) rfl rfl rfl ?_
                refine W.rd (X.nilCheck rfl) rfl rfl rfl ?_
                obtain ⟨b8_28, b9_28, b10_28, a11_28, c11_28, d11_28, a12_28, c12_28, hi29, HS⟩ := arq_Arq.open HS
                refine W.rd (X.fieldAddr 12 fo82_12 rfl) rfl rfl rfl ?_
                refine W.rd (X.loadAt 0 HS rfl Try.underlying34 rfl rfl rfl) rfl rfl rfl ?_
                refine W.ev (Y.litB (e := 3) (sz := 1) (vs := #[(0, Value.int .i64 (3))]) [Value.int .i64 (3)] HS (fun a ha => by simp only [List.map_toArray, List.map_cons, List.map_nil]; try rfl) rfl (by decide) (fun _ => by kernel_rfl)) rfl rfl rfl ?_
                rintro _ w ⟨lb32, rfl, HS⟩
                have HS : Sep.St [row 3 1 (.slice (some ⟨lb32, 0, none⟩) ([3] : List Int).length 1) ([3] : List Int).length (([3] : List Int).map (Value.int .i64)), blk b0 (#[Value.int .i64 t25.m, Value.int .i64 t25.t1, Value.int .i64 t25.n2, Value.int .i64 t25.size, Value.int .i64 t25.state, Value.int .i64 t25.tag, Value.int .i64 t25.tries, Value.bool t25.rejected, Value.pointer (some ⟨b8_28, 0, none⟩), Value.pointer (some ⟨b9_28, 0, none⟩), Value.pointer (some ⟨b10_28, 0, none⟩), Value.slice a11_28 t25.out.length c11_28, Value.slice a12_28 t25.inds.length c12_28, Value.int .i64 t25.sent, Value.int .i64 t25.acked, Value.int .i64 t25.lost]) 82, backlog_Log.at b8_28 t25.log, reorder_Order.at b9_28 t25.order, clock_Set.at b10_28 t25.timers, row 39 1 (.slice a11_28 t25.out.length c11_28) t25.out.length d11_28, tie (El.sl (El.int .u8)) d11_28 t25.out, row 3 1 (.slice a12_28 t25.inds.length c12_28) t25.inds.length (t25.inds.map (Value.int .i64)), R] w0 w := HS
                obtain ⟨c33, H⟩ := ite_n H
                refine W.ev (Y.appF (Value.int .i64) (fun _ => rfl) 7 Try.underlying34 ap3 rfl HS rfl rfl rfl (rdC.at 0 row_rd HS rfl) (by omega) (by omega)) rfl rfl rfl ?_
                rintro _ w ⟨ra34, rc35, rfl, HS⟩
                refine W.rd (X.nilCheck rfl) rfl rfl rfl ?_
                refine W.rd (X.fieldAddr 12 fo82_12 rfl) rfl rfl rfl ?_
                refine W.ev_none (Y.storeAt 1 HS rfl inf34 rfl rfl rfl rfl rfl rfl) rfl rfl ?_
                rintro _ w HS
                refine W.nil ?_
                refine At.scopeEnd ?_
                replace HS := HS.re [1, 2, 3, 4, 5, 6, 7, 0, 8] (by kernel_rfl)
                replace HS := arq_Arq.close (({ m := t25.m, t1 := t25.t1, n2 := t25.n2, size := t25.size, state := t25.state, tag := t25.tag, tries := t25.tries, rejected := t25.rejected, log := t25.log, order := t25.order, timers := t25.timers, out := t25.out, inds := t25.inds ++ ([3] : List Int), sent := t25.sent, acked := t25.acked, lost := t25.lost } : arq_Arq)) trivial HS
                replace HS := HS.sel [0, 2] [1] (by kernel_rfl)
                cases H
                exact At.end0 rfl ⟨_, rfl, rfl, HS⟩
              · replace H := ite_f c27 H
                refine V.condF (sb (decide_eq_false c27)) ?_
                refine V.region ?_
                refine W.rd (X.move rfl) rfl rfl rfl ?_
                refine W.rd (X.move rfl) rfl rfl rfl ?_
                refine W.rd (X.nilCheck rfl) rfl rfl rfl ?_
                obtain ⟨b8_36, b9_36, b10_36, a11_36, c11_36, d11_36, a12_36, c12_36, hi37, HS⟩ := arq_Arq.open HS
                refine W.rd (X.fieldAddr 12 fo82_12 rfl) rfl rfl rfl ?_
                refine W.rd (X.loadAt 0 HS rfl Try.underlying34 rfl rfl rfl) rfl rfl rfl ?_
                refine W.ev (Y.litB (e := 3) (sz := 1) (vs := #[(0, Value.int .i64 (1))]) [Value.int .i64 (1)] HS (fun a ha => by simp only [List.map_toArray, List.map_cons, List.map_nil]; try rfl) rfl (by decide) (fun _ => by kernel_rfl)) rfl rfl rfl ?_
                rintro _ w ⟨lb40, rfl, HS⟩
                have HS : Sep.St [row 3 1 (.slice (some ⟨lb40, 0, none⟩) ([1] : List Int).length 1) ([1] : List Int).length (([1] : List Int).map (Value.int .i64)), blk b0 (#[Value.int .i64 t25.m, Value.int .i64 t25.t1, Value.int .i64 t25.n2, Value.int .i64 t25.size, Value.int .i64 t25.state, Value.int .i64 t25.tag, Value.int .i64 t25.tries, Value.bool t25.rejected, Value.pointer (some ⟨b8_36, 0, none⟩), Value.pointer (some ⟨b9_36, 0, none⟩), Value.pointer (some ⟨b10_36, 0, none⟩), Value.slice a11_36 t25.out.length c11_36, Value.slice a12_36 t25.inds.length c12_36, Value.int .i64 t25.sent, Value.int .i64 t25.acked, Value.int .i64 t25.lost]) 82, backlog_Log.at b8_36 t25.log, reorder_Order.at b9_36 t25.order, clock_Set.at b10_36 t25.timers, row 39 1 (.slice a11_36 t25.out.length c11_36) t25.out.length d11_36, tie (El.sl (El.int .u8)) d11_36 t25.out, row 3 1 (.slice a12_36 t25.inds.length c12_36) t25.inds.length (t25.inds.map (Value.int .i64)), R] w0 w := HS
                obtain ⟨c41, H⟩ := ite_n H
                refine W.ev (Y.appF (Value.int .i64) (fun _ => rfl) 7 Try.underlying34 ap3 rfl HS rfl rfl rfl (rdC.at 0 row_rd HS rfl) (by omega) (by omega)) rfl rfl rfl ?_
                rintro _ w ⟨ra42, rc43, rfl, HS⟩
                refine W.rd (X.nilCheck rfl) rfl rfl rfl ?_
                refine W.rd (X.fieldAddr 12 fo82_12 rfl) rfl rfl rfl ?_
                refine W.ev_none (Y.storeAt 1 HS rfl inf34 rfl rfl rfl rfl rfl rfl) rfl rfl ?_
                rintro _ w HS
                refine W.nil ?_
                refine At.scopeEnd ?_
                replace HS := HS.re [1, 2, 3, 4, 5, 6, 7, 0, 8] (by kernel_rfl)
                replace HS := arq_Arq.close (({ m := t25.m, t1 := t25.t1, n2 := t25.n2, size := t25.size, state := t25.state, tag := t25.tag, tries := t25.tries, rejected := t25.rejected, log := t25.log, order := t25.order, timers := t25.timers, out := t25.out, inds := t25.inds ++ ([1] : List Int), sent := t25.sent, acked := t25.acked, lost := t25.lost } : arq_Arq)) trivial HS
                replace HS := HS.sel [0, 2] [1] (by kernel_rfl)
                cases H
                exact At.end0 rfl ⟨_, rfl, rfl, HS⟩
            · replace H := ite_f c20 H
              refine V.condF (sb (b_f c20)) ?_
              refine V.seq ?_
              refine V.region ?_
              refine W.rd (X.move rfl) rfl rfl rfl ?_
              refine W.rd (X.nilCheck rfl) rfl rfl rfl ?_
              obtain ⟨b8_44, b9_44, b10_44, a11_44, c11_44, d11_44, a12_44, c12_44, hi45, HS⟩ := arq_Arq.open HS
              refine W.rd (X.fieldAddr 4 fo82_4 rfl) rfl rfl rfl ?_
              refine W.rd (X.loadAt 0 HS rfl Try.underlying3 rfl rfl rfl) rfl rfl rfl ?_
              refine W.rd (X.cmp (decide (a0.state = 0)) rfl rfl rfl rfl) rfl rfl rfl ?_
              refine W.rd (X.assign rfl) rfl rfl rfl ?_
              refine W.nil ?_
              refine At.next ?_
              by_cases c46 : a0.state = 0
              · replace H := ite_t c46 H
                refine V.condT (sb (decide_eq_true c46)) ?_
                refine V.region ?_
                refine W.rd (X.move rfl) rfl rfl rfl ?_
                refine W.rd (X.build (vs := #[(0, Value.int .i64 (6))]) (v := Value.agg #[Value.int .i64 (6), Value.int .i64 (0), Value.int .i64 (0), Value.bool false]) (fun a ha => by simp only [List.map_toArray, List.map_cons, List.map_nil]; try rfl) (fun _ => by kernel_rfl)) rfl rfl rfl ?_
                replace HS := arq_Arq.close a0 trivial HS
                obtain ⟨t47, A48, H⟩ := bind_s H
                refine W.ev (Y.call Try.func46 (by kernel_rfl) rfl (vs := [Value.pointer (some ⟨b0, 0, none⟩), Value.agg #[Value.int .i64 (6), Value.int .i64 (0), Value.int .i64 (0), Value.bool false]]) rfl (arq_Arq_tell.calls kf19 a0 ({ Kind := 6, Ns := 0, Nr := 0, Poll := false } : api_Ctl) _ w0 _ b0 t47  A48 (Sep.St.tailJoin (m := [arq_Arq.at b0 a0]) (r := [R]) HS))) rfl rfl rfl ?_
                rintro _ w ⟨rfl, HS⟩
                replace HS := Sep.St.tailOpen (m := [arq_Arq.at b0 t47]) (r := [R]) HS
                refine W.nil ?_
                refine At.blockEnd ?_
                exact At.meet t47 trivial ⟨HS, H⟩
              · replace H := ite_f c46 H
                refine V.condF (sb (decide_eq_false c46)) ?_
                refine V.skip ?_
                refine At.blockEnd ?_
                replace HS := arq_Arq.close a0 trivial HS
                exact At.meet a0 trivial ⟨HS, H⟩
  · rintro x10 w ⟨HS, H⟩
    unfold arq_Arq_asked.j0 at H
    refine V.seq ?_
    refine V.ret ?_
    refine At.thenRet ?_
    refine At.scopeRet ?_
    cases H
    exact At.ret0 rfl ⟨_, rfl, rfl, HS⟩

/-! ### (*signalman/backlog.Log).number: function 98 -/
def backlog_Log_number.f (a0 : backlog_Log) (a1 : Int) : Option Int := (if ¬ (a0.m = 0) then some ((w64 (a0.first + a1)).tmod a0.m) else none)
set_option maxRecDepth 100000 in
set_option maxHeartbeats 4000000 in
theorem backlog_Log_number.calls (a0 : backlog_Log) (a1 : Int) (R : As) (w0 w : World) (b0 : Nat) (a5_p0 : Option Addr) (c5_p0 : Nat) (d5_p0 : List Value) (r : Int)  (H : backlog_Log_number.f a0 a1 = some r) (HS : Sep.St [blk b0 (#[Value.int .i64 a0.m, Value.int .i64 a0.window, Value.int .i64 a0.queue, Value.int .i64 a0.first, Value.int .i64 a0.out, Value.slice a5_p0 a0.l.length c5_p0]) 103, row 39 1 (.slice a5_p0 a0.l.length c5_p0) a0.l.length d5_p0, tie (El.sl (El.int .u8)) d5_p0 a0.l, R] w0 w) : Calls Try.prog 98 #[Value.pointer (some ⟨b0, 0, none⟩), Value.int .i64 a1] w (Ret fun u w => u = Value.int .i64 r ∧ Sep.St [blk b0 (#[Value.int .i64 a0.m, Value.int .i64 a0.window, Value.int .i64 a0.queue, Value.int .i64 a0.first, Value.int .i64 a0.out, Value.slice a5_p0 a0.l.length c5_p0]) 103, row 39 1 (.slice a5_p0 a0.l.length c5_p0) a0.l.length d5_p0, tie (El.sl (El.int .u8)) d5_p0 a0.l, R] w0 w) := by
  unfold backlog_Log_number.f at H
  refine calls_enter Try.func98 rfl rfl ?_
  have H : _ = some r := H
  refine V.seq ?_
  refine V.region ?_
  refine W.rd (X.assign rfl) rfl rfl rfl ?_
  refine W.nil ?_
  refine At.next ?_
  refine V.seq ?_
  obtain ⟨c1, H⟩ := ite_n H
  refine V.draw (es := []) (bl := []) (f := [(5, Value.pointer (some ⟨b0, 0, none⟩)), (6, Value.pointer (some ⟨b0, 0, none⟩)), (7, Value.pointer (some ⟨b0, 0 + 3, none⟩)), (8, Value.int .i64 a0.first), (9, Value.int .i64 a1), (10, Value.int .i64 (w64 (a0.first + a1))), (11, Value.pointer (some ⟨b0, 0, none⟩)), (12, Value.pointer (some ⟨b0, 0, none⟩)), (13, Value.pointer (some ⟨b0, 0 + 0, none⟩)), (14, Value.int .i64 a0.m), (15, Value.int .i64 ((w64 (a0.first + a1)).tmod a0.m)), (4, Value.int .i64 ((w64 (a0.first + a1)).tmod a0.m))]) (fun w => Sep.St [blk b0 (#[Value.int .i64 a0.m, Value.int .i64 a0.window, Value.int .i64 a0.queue, Value.int .i64 a0.first, Value.int .i64 a0.out, Value.slice a5_p0 a0.l.length c5_p0]) 103, row 39 1 (.slice a5_p0 a0.l.length c5_p0) a0.l.length d5_p0, tie (El.sl (El.int .u8)) d5_p0 a0.l, R] w0 w) mo HS.drew rfl ?_
  refine T.fin [(4, Value.int .i64 ((w64 (a0.first + a1)).tmod a0.m))] rfl ⟨.m1 0 rfl (.l rfl rfl) (fun w HS => X.move rfl) rfl rfl rfl rfl rfl, .m1 5 rfl (.r rfl rfl) (fun w HS => X.nilCheck rfl) rfl rfl rfl rfl rfl, .m1 6 rfl (.r rfl rfl) (fun w HS => X.fieldAddr 3 fo103_3 rfl) rfl rfl rfl rfl rfl, .m1 7 rfl (.r rfl rfl) (fun w HS => X.loadAt 0 HS rfl Try.underlying3 rfl rfl rfl) rfl rfl rfl rfl rfl, .m1 1 rfl (.l rfl rfl) (fun w HS => X.move rfl) rfl rfl rfl rfl rfl, .m2 8 9 rfl (.r rfl rfl) (.r rfl rfl) (fun w HS => X.add rfl rfl) rfl rfl rfl rfl rfl, .m1 0 rfl (.l rfl rfl) (fun w HS => X.move rfl) rfl rfl rfl rfl rfl, .m1 11 rfl (.r rfl rfl) (fun w HS => X.nilCheck rfl) rfl rfl rfl rfl rfl, .m1 12 rfl (.r rfl rfl) (fun w HS => X.fieldAddr 0 fo103_0 rfl) rfl rfl rfl rfl rfl, .m1 13 rfl (.r rfl rfl) (fun w HS => X.loadAt 0 HS rfl Try.underlying3 rfl rfl rfl) rfl rfl rfl rfl rfl, .m2 10 14 rfl (.r rfl rfl) (.r rfl rfl) (fun w HS => X.rem rfl rfl c1) rfl rfl rfl rfl rfl, .m1 15 rfl (.r rfl rfl) (fun w HS => X.assign rfl) rfl rfl rfl rfl rfl, trivial⟩ ⟨.inr ⟨rfl, rfl⟩, trivial⟩ (fun w HS => ?_)
  refine At.next ?_
  refine V.ret ?_
  cases H
  exact At.ret1 rfl rfl ⟨_, rfl, rfl, HS⟩

/-! ### slices.Clone[[]byte,byte]: function 93 -/
def slices_Clone_Sbytebyte.f (a0 : List Int) : Option (List Int) := (if (([] : List Int).length : Int) + a0.length ≤ 1099511627776 then some (([] : List Int) ++ a0) else none)
set_option maxRecDepth 100000 in
set_option maxHeartbeats 4000000 in
theorem slices_Clone_Sbytebyte.calls (a0 : List Int) (R : As) (w0 w : World) (sa0 : Option Addr) (sc0 : Nat) (r : List Int) (hr0 : rdC R 1 (.slice sa0 a0.length sc0) a0.length (a0.map (Value.int .u8))) (H : slices_Clone_Sbytebyte.f a0 = some r) (HS : Sep.St [R] w0 w) : Calls Try.prog 93 #[Value.slice sa0 a0.length sc0] w (Ret fun u w => ∃ (aq0 : Option Addr) (cq0 : Nat), u = Value.slice aq0 r.length cq0 ∧ Sep.St [row 5 1 (.slice aq0 r.length cq0) r.length (r.map (Value.int .u8)), R] w0 w) := by
  unfold slices_Clone_Sbytebyte.f at H
  refine calls_enter Try.func93 rfl rfl ?_
  have H : _ = some r := H
  refine V.seq ?_
  refine V.region ?_
  refine W.rd (X.assign rfl) rfl rfl rfl ?_
  refine W.nil ?_
  refine At.next ?_
  refine V.seq ?_
  refine V.seq ?_
  refine V.region ?_
  refine W.rd (X.move rfl) rfl rfl rfl ?_
  refine W.rd (X.eqSl Try.underlying39 rfl rfl) rfl rfl rfl ?_
  refine W.nil ?_
  refine At.next ?_
  by_cases cg1 : sa0.isNone = false
  · refine V.condF (sb cg1) ?_
    refine V.skip ?_
    refine At.next ?_
    refine V.seq ?_
    refine V.region ?_
    refine W.ev (Y.lit (e := 5) (sz := 1) (vs := #[]) [] HS (fun a ha => by simp only [List.map_toArray, List.map_cons, List.map_nil]; try rfl) rfl (by decide) (fun _ => by kernel_rfl)) rfl rfl rfl ?_
    rintro _ w ⟨ra4, rc5, rfl, HS⟩
    have HS : Sep.St [row 5 1 (.slice ra4 ([] : List Int).length rc5) ([] : List Int).length (([] : List Int).map (Value.int .u8)), R] w0 w := HS
    refine W.rd (X.move rfl) rfl rfl rfl ?_
    obtain ⟨c7, H⟩ := ite_n H
    refine W.ev (Y.appF (Value.int .u8) (fun _ => rfl) 0 Try.underlying39 ap5 rfl HS rfl rfl rfl (rdC.at 1 hr0 HS rfl) (by omega) (by omega)) rfl rfl rfl ?_
    rintro _ w ⟨ra8, rc9, rfl, HS⟩
    refine W.rd (X.assign rfl) rfl rfl rfl ?_
    refine W.nil ?_
    refine At.next ?_
    refine V.ret ?_
    cases H
    exact At.ret1 rfl rfl ⟨_, rfl, ra8, rc9, rfl, HS⟩
  · have hN2 : sa0.isNone = true := by simpa using cg1
    have hz3 : a0 = [] := List.eq_nil_of_length_eq_zero ((rdC.at 0 hr0 HS rfl).nil (Option.isNone_iff_eq_none.1 hN2)).1
    have H : some ([] : List Int) = some r := by simpa [hz3] using H
    refine V.condT (sb hN2) ?_
    refine V.seq ?_
    refine V.region ?_
    refine W.rd (X.assign rfl) rfl rfl rfl ?_
    refine W.nil ?_
    refine At.next ?_
    refine V.ret ?_
    refine At.thenRet ?_
    replace HS := row_nil' (e := 5) 1 none HS
    have HS : Sep.St [row 5 1 (.slice none ([] : List Int).length 0) ([] : List Int).length (([] : List Int).map (Value.int .u8)), R] w0 w := HS
    cases H
    exact At.ret1 rfl rfl ⟨_, rfl, none, 0, rfl, HS⟩

/-! ### (*signalman/backlog.Log).Next: function 94 -/
mutual
def backlog_Log_Next.j0 (a0 : backlog_Log) (x2 : Bool) : Option (Int × List Int × Bool × backlog_Log) := (if x2 = true then some (0, ([] : List Int), false, a0) else (if 0 ≤ a0.out ∧ a0.out < (a0.l.length : Int) then ((backlog_Log_number.f ({ m := a0.m, window := a0.window, queue := a0.queue, first := a0.first, out := w64 (a0.out + 1), l := a0.l } : backlog_Log) a0.out).bind fun t16 => ((slices_Clone_Sbytebyte.f (a0.l.getD a0.out.toNat [])).bind fun t18 => some (t16, t18, true, ({ m := a0.m, window := a0.window, queue := a0.queue, first := a0.first, out := w64 (a0.out + 1), l := a0.l } : backlog_Log)))) else none))
end
def backlog_Log_Next.f (a0 : backlog_Log) : Option (Int × List Int × Bool × backlog_Log) := (if a0.out = (a0.l.length : Int) then (backlog_Log_Next.j0 a0 true) else (backlog_Log_Next.j0 a0 (decide (a0.out = a0.window))))
set_option maxRecDepth 100000 in
set_option maxHeartbeats 4000000 in
theorem backlog_Log_Next.calls (a0 : backlog_Log) (R : As) (w0 w : World) (b0 : Nat) (r : Int × List Int × Bool × backlog_Log)  (H : backlog_Log_Next.f a0 = some r) (HS : Sep.St [backlog_Log.at b0 a0, R] w0 w) : Calls Try.prog 94 #[Value.pointer (some ⟨b0, 0, none⟩)] w (Ret fun u w => ∃ (aq1 : Option Addr) (cq1 : Nat), u = Value.tuple #[Value.int .i64 r.1, Value.slice aq1 r.2.1.length cq1, Value.bool r.2.2.1] ∧ Sep.St [row 5 1 (.slice aq1 r.2.1.length cq1) r.2.1.length (r.2.1.map (Value.int .u8)), backlog_Log.at b0 r.2.2.2, R] w0 w) := by
  unfold backlog_Log_Next.f at H
  refine calls_enter Try.func94 rfl rfl ?_
  have H : _ = some r := H
  refine V.seq ?_
  refine V.region ?_
  refine W.rd (X.assign rfl) rfl rfl rfl ?_
  refine W.rd (X.assign rfl) rfl rfl rfl ?_
  refine W.rd (X.assign rfl) rfl rfl rfl ?_
  refine W.nil ?_
  refine At.next ?_
  refine V.seq ?_
  refine V.meet (σ := Bool) (fun st w => match st with | x2 => Sep.St [backlog_Log.at b0 a0, R] w0 w ∧ backlog_Log_Next.j0 a0 x2 = some r) (fun st => match st with | x2 => [(0, Value.pointer (some ⟨b0, 0, none⟩)), (26, Value.bool x2)]) ?_ ?_
  · obtain ⟨a5_20, c5_20, d5_20, hi21, HS⟩ := backlog_Log.open HS
    by_cases c22 : a0.out = (a0.l.length : Int)
    · replace H := ite_t c22 H
      refine V.draw (es := []) (bl := []) (f := [(6, Value.pointer (some ⟨b0, 0, none⟩)), (7, Value.pointer (some ⟨b0, 0, none⟩)), (8, Value.pointer (some ⟨b0, 0 + 4, none⟩)), (9, Value.int .i64 a0.out), (10, Value.pointer (some ⟨b0, 0, none⟩)), (11, Value.pointer (some ⟨b0, 0, none⟩)), (12, Value.pointer (some ⟨b0, 0 + 5, none⟩)), (13, Value.slice a5_20 a0.l.length c5_20), (14, Value.int .i64 (a0.l.length : Int)), (15, Value.bool (decide (a0.out = (a0.l.length : Int)))), (16, Value.bool (decide (a0.out = (a0.l.length : Int)))), (17, undef), (18, undef), (19, undef), (20, undef), (21, undef), (22, undef), (23, undef), (24, undef), (25, undef), (26, Value.bool true)]) (fun w => Sep.St [blk b0 (#[Value.int .i64 a0.m, Value.int .i64 a0.window, Value.int .i64 a0.queue, Value.int .i64 a0.first, Value.int .i64 a0.out, Value.slice a5_20 a0.l.length c5_20]) 103, row 39 1 (.slice a5_20 a0.l.length c5_20) a0.l.length d5_20, tie (El.sl (El.int .u8)) d5_20 a0.l, R] w0 w) mo HS.drew rfl ?_
      refine T.fin [(0, Value.pointer (some ⟨b0, 0, none⟩)), (26, Value.bool true)] rfl ⟨.m1 0 rfl (.l rfl rfl) (fun w HS => X.move rfl) rfl rfl rfl rfl rfl, .m1 6 rfl (.r rfl rfl) (fun w HS => X.nilCheck rfl) rfl rfl rfl rfl rfl, .m1 7 rfl (.r rfl rfl) (fun w HS => X.fieldAddr 4 fo103_4 rfl) rfl rfl rfl rfl rfl, .m1 8 rfl (.r rfl rfl) (fun w HS => X.loadAt 0 HS rfl Try.underlying3 rfl rfl rfl) rfl rfl rfl rfl rfl, .m1 0 rfl (.l rfl rfl) (fun w HS => X.move rfl) rfl rfl rfl rfl rfl, .m1 10 rfl (.r rfl rfl) (fun w HS => X.nilCheck rfl) rfl rfl rfl rfl rfl, .m1 11 rfl (.r rfl rfl) (fun w HS => X.fieldAddr 5 fo103_5 rfl) rfl rfl rfl rfl rfl, .m1 12 rfl (.r rfl rfl) (fun w HS => X.loadAt 0 HS rfl Try.underlying30 rfl rfl rfl) rfl rfl rfl rfl rfl, .m1 13 rfl (.r rfl rfl) (fun w HS => X.lenSl Try.underlying30 rfl) rfl rfl rfl rfl rfl, .m2 9 14 rfl (.r rfl rfl) (.r rfl rfl) (fun w HS => X.cmp (decide (a0.out = (a0.l.length : Int))) rfl rfl rfl rfl) rfl rfl rfl rfl rfl, .m1 15 rfl (.r rfl rfl) (fun w HS => X.move rfl) rfl rfl rfl rfl rfl, ⟨_, undef, [(16, Value.bool (decide (a0.out = (a0.l.length : Int))))], 17, rfl, rfl, ⟨.inr ⟨rfl, rfl⟩, trivial⟩, .pass 10 false true 16 rfl rfl (sb (decide_eq_true c22)) rfl rfl, rfl, rfl, rfl⟩, ⟨_, undef, [(16, Value.bool (decide (a0.out = (a0.l.length : Int))))], 18, rfl, rfl, ⟨.inr ⟨rfl, rfl⟩, trivial⟩, .pass 10 false true 16 rfl rfl (sb (decide_eq_true c22)) rfl rfl, rfl, rfl, rfl⟩, ⟨_, undef, [(16, Value.bool (decide (a0.out = (a0.l.length : Int))))], 19, rfl, rfl, ⟨.inr ⟨rfl, rfl⟩, trivial⟩, .pass 10 false true 16 rfl rfl (sb (decide_eq_true c22)) rfl rfl, rfl, rfl, rfl⟩, ⟨_, undef, [(16, Value.bool (decide (a0.out = (a0.l.length : Int))))], 20, rfl, rfl, ⟨.inr ⟨rfl, rfl⟩, trivial⟩, .pass 10 false true 16 rfl rfl (sb (decide_eq_true c22)) rfl rfl, rfl, rfl, rfl⟩, ⟨_, undef, [(16, Value.bool (decide (a0.out = (a0.l.length : Int))))], 21, rfl, rfl, ⟨.inr ⟨rfl, rfl⟩, trivial⟩, .pass 10 false true 16 rfl rfl (sb (decide_eq_true c22)) rfl rfl, rfl, rfl, rfl⟩, ⟨_, undef, [(16, Value.bool (decide (a0.out = (a0.l.length : Int))))], 22, rfl, rfl, ⟨.inr ⟨rfl, rfl⟩, trivial⟩, .pass 10 false true 16 rfl rfl (sb (decide_eq_true c22)) rfl rfl, rfl, rfl, rfl⟩, ⟨_, undef, [(16, Value.bool (decide (a0.out = (a0.l.length : Int))))], 23, rfl, rfl, ⟨.inr ⟨rfl, rfl⟩, trivial⟩, .pass 10 false true 16 rfl rfl (sb (decide_eq_true c22)) rfl rfl, rfl, rfl, rfl⟩, ⟨_, undef, [(16, Value.bool (decide (a0.out = (a0.l.length : Int))))], 24, rfl, rfl, ⟨.inr ⟨rfl, rfl⟩, trivial⟩, .pass 10 false true 16 rfl rfl (sb (decide_eq_true c22)) rfl rfl, rfl, rfl, rfl⟩, ⟨_, undef, [(16, Value.bool (decide (a0.out = (a0.l.length : Int))))], 25, rfl, rfl, ⟨.inr ⟨rfl, rfl⟩, trivial⟩, .pass 10 false true 16 rfl rfl (sb (decide_eq_true c22)) rfl rfl, rfl, rfl, rfl⟩, .m2 16 25 rfl (.r rfl rfl) (.r rfl rfl) (fun w HS => X.pickT (sb (decide_eq_true c22)) rfl) rfl rfl rfl rfl rfl, trivial⟩ ⟨.inl ⟨rfl, rfl⟩, ⟨.inr ⟨rfl, rfl⟩, trivial⟩⟩ (fun w HS => ?_)
      replace HS := backlog_Log.close a0 trivial HS
      exact At.meet true ⟨rfl, rfl, trivial⟩ ⟨HS, H⟩
    · replace H := ite_f c22 H
      refine V.draw (es := []) (bl := []) (f := [(6, Value.pointer (some ⟨b0, 0, none⟩)), (7, Value.pointer (some ⟨b0, 0, none⟩)), (8, Value.pointer (some ⟨b0, 0 + 4, none⟩)), (9, Value.int .i64 a0.out), (10, Value.pointer (some ⟨b0, 0, none⟩)), (11, Value.pointer (some ⟨b0, 0, none⟩)), (12, Value.pointer (some ⟨b0, 0 + 5, none⟩)), (13, Value.slice a5_20 a0.l.length c5_20), (14, Value.int .i64 (a0.l.length : Int)), (15, Value.bool (decide (a0.out = (a0.l.length : Int)))), (16, Value.bool (decide (a0.out = (a0.l.length : Int)))), (17, Value.pointer (some ⟨b0, 0, none⟩)), (18, Value.pointer (some ⟨b0, 0, none⟩)), (19, Value.pointer (some ⟨b0, 0 + 4, none⟩)), (20, Value.int .i64 a0.out), (21, Value.pointer (some ⟨b0, 0, none⟩)), (22, Value.pointer (some ⟨b0, 0, none⟩)), (23, Value.pointer (some ⟨b0, 0 + 1, none⟩)), (24, Value.int .i64 a0.window), (25, Value.bool (decide (a0.out = a0.window))), (26, Value.bool (decide (a0.out = a0.window)))]) (fun w => Sep.St [blk b0 (#[Value.int .i64 a0.m, Value.int .i64 a0.window, Value.int .i64 a0.queue, Value.int .i64 a0.first, Value.int .i64 a0.out, Value.slice a5_20 a0.l.length c5_20]) 103, row 39 1 (.slice a5_20 a0.l.length c5_20) a0.l.length d5_20, tie (El.sl (El.int .u8)) d5_20 a0.l, R] w0 w) mo HS.drew rfl ?_
      refine T.fin [(0, Value.pointer (some ⟨b0, 0, none⟩)), (26, Value.bool (decide (a0.out = a0.window)))] rfl ⟨.m1 0 rfl (.l rfl rfl) (fun w HS => X.move rfl) rfl rfl rfl rfl rfl, .m1 6 rfl (.r rfl rfl) (fun w HS => X.nilCheck rfl) rfl rfl rfl rfl rfl, .m1 7 rfl (.r rfl rfl) (fun w HS => X.fieldAddr 4 fo103_4 rfl) rfl rfl rfl rfl rfl, .m1 8 rfl (.r rfl rfl) (fun w HS => X.loadAt 0 HS rfl Try.underlying3 rfl rfl rfl) rfl rfl rfl rfl rfl, .m1 0 rfl (.l rfl rfl) (fun w HS => X.move rfl) rfl rfl rfl rfl rfl, .m1 10 rfl (.r rfl rfl) (fun w HS => X.nilCheck rfl) rfl rfl rfl rfl rfl, .m1 11 rfl (.r rfl rfl) (fun w HS => X.fieldAddr 5 fo103_5 rfl) rfl rfl rfl rfl rfl, .m1 12 rfl (.r rfl rfl) (fun w HS => X.loadAt 0 HS rfl Try.underlying30 rfl rfl rfl) rfl rfl rfl rfl rfl, .m1 13 rfl (.r rfl rfl) (fun w HS => X.lenSl Try.underlying30 rfl) rfl rfl rfl rfl rfl, .m2 9 14 rfl (.r rfl rfl) (.r rfl rfl) (fun w HS => X.cmp (decide (a0.out = (a0.l.length : Int))) rfl rfl rfl rfl) rfl rfl rfl rfl rfl, .m1 15 rfl (.r rfl rfl) (fun w HS => X.move rfl) rfl rfl rfl rfl rfl, ⟨_, Value.pointer (some ⟨b0, 0, none⟩), [(0, Value.pointer (some ⟨b0, 0, none⟩)), (16, Value.bool (decide (a0.out = (a0.l.length : Int))))], 17, rfl, rfl, ⟨.inl ⟨rfl, rfl⟩, ⟨.inr ⟨rfl, rfl⟩, trivial⟩⟩, .want 10 false 16 rfl rfl (sb (decide_eq_false c22)) (fun w HS => X.move rfl), rfl, rfl, rfl⟩, ⟨_, Value.pointer (some ⟨b0, 0, none⟩), [(17, Value.pointer (some ⟨b0, 0, none⟩)), (16, Value.bool (decide (a0.out = (a0.l.length : Int))))], 18, rfl, rfl, ⟨.inr ⟨rfl, rfl⟩, ⟨.inr ⟨rfl, rfl⟩, trivial⟩⟩, .want 10 false 16 rfl rfl (sb (decide_eq_false c22)) (fun w HS => X.nilCheck rfl), rfl, rfl, rfl⟩, ⟨_, Value.pointer (some ⟨b0, 0 + 4, none⟩), [(18, Value.pointer (some ⟨b0, 0, none⟩)), (16, Value.bool (decide (a0.out = (a0.l.length : Int))))], 19, rfl, rfl, ⟨.inr ⟨rfl, rfl⟩, ⟨.inr ⟨rfl, rfl⟩, trivial⟩⟩, .want 10 false 16 rfl rfl (sb (decide_eq_false c22)) (fun w HS => X.fieldAddr 4 fo103_4 rfl), rfl, rfl, rfl⟩, ⟨_, Value.int .i64 a0.out, [(19, Value.pointer (some ⟨b0, 0 + 4, none⟩)), (16, Value.bool (decide (a0.out = (a0.l.length : Int))))], 20, rfl, rfl, ⟨.inr ⟨rfl, rfl⟩, ⟨.inr ⟨rfl, rfl⟩, trivial⟩⟩, .want 10 false 16 rfl rfl (sb (decide_eq_false c22)) (fun w HS => X.loadAt 0 HS rfl Try.underlying3 rfl rfl rfl), rfl, rfl, rfl⟩, ⟨_, Value.pointer (some ⟨b0, 0, none⟩), [(0, Value.pointer (some ⟨b0, 0, none⟩)), (16, Value.bool (decide (a0.out = (a0.l.length : Int))))], 21, rfl, rfl, ⟨.inl ⟨rfl, rfl⟩, ⟨.inr ⟨rfl, rfl⟩, trivial⟩⟩, .want 10 false 16 rfl rfl (sb (decide_eq_false c22)) (fun w HS => X.move rfl), rfl, rfl, rfl⟩, ⟨_, Value.pointer (some ⟨b0, 0, none⟩), [(21, Value.pointer (some ⟨b0, 0, none⟩)), (16, Value.bool (decide (a0.out = (a0.l.length : Int))))], 22, rfl, rfl, ⟨.inr ⟨rfl, rfl⟩, ⟨.inr ⟨rfl, rfl⟩, trivial⟩⟩, .want 10 false 16 rfl rfl (sb (decide_eq_false c22)) (fun w HS => X.nilCheck rfl), rfl, rfl, rfl⟩, ⟨_, Value.pointer (some ⟨b0, 0 + 1, none⟩), [(22, Value.pointer (some ⟨b0, 0, none⟩)), (16, Value.bool (decide (a0.out = (a0.l.length : Int))))], 23, rfl, rfl, ⟨.inr ⟨rfl, rfl⟩, ⟨.inr ⟨rfl, rfl⟩, trivial⟩⟩, .want 10 false 16 rfl rfl (sb (decide_eq_false c22)) (fun w HS => X.fieldAddr 1 fo103_1 rfl), rfl, rfl, rfl⟩, ⟨_, Value.int .i64 a0.window, [(23, Value.pointer (some ⟨b0, 0 + 1, none⟩)), (16, Value.bool (decide (a0.out = (a0.l.length : Int))))], 24, rfl, rfl, ⟨.inr ⟨rfl, rfl⟩, ⟨.inr ⟨rfl, rfl⟩, trivial⟩⟩, .want 10 false 16 rfl rfl (sb (decide_eq_false c22)) (fun w HS => X.loadAt 0 HS rfl Try.underlying3 rfl rfl rfl), rfl, rfl, rfl⟩, ⟨_, Value.bool (decide (a0.out = a0.window)), [(20, Value.int .i64 a0.out), (24, Value.int .i64 a0.window), (16, Value.bool (decide (a0.out = (a0.l.length : Int))))], 25, rfl, rfl, ⟨.inr ⟨rfl, rfl⟩, ⟨.inr ⟨rfl, rfl⟩, ⟨.inr ⟨rfl, rfl⟩, trivial⟩⟩⟩, .want 10 false 16 rfl rfl (sb (decide_eq_false c22)) (fun w HS => X.cmp (decide (a0.out = a0.window)) rfl rfl rfl rfl), rfl, rfl, rfl⟩, .m2 16 25 rfl (.r rfl rfl) (.r rfl rfl) (fun w HS => X.pickF (sb (decide_eq_false c22)) rfl) rfl rfl rfl rfl rfl, trivial⟩ ⟨.inl ⟨rfl, rfl⟩, ⟨.inr ⟨rfl, rfl⟩, trivial⟩⟩ (fun w HS => ?_)
      replace HS := backlog_Log.close a0 trivial HS
      exact At.meet (decide (a0.out = a0.window)) ⟨rfl, rfl, trivial⟩ ⟨HS, H⟩
  · rintro x2 w ⟨HS, H⟩
    unfold backlog_Log_Next.j0 at H
    by_cases c4 : x2 = true
    · replace H := ite_t c4 H
      refine V.condT (sb c4) ?_
      refine V.seq ?_
      refine V.region ?_
      refine W.rd (X.assign rfl) rfl rfl rfl ?_
      refine W.rd (X.assign rfl) rfl rfl rfl ?_
      refine W.rd (X.assign rfl) rfl rfl rfl ?_
      refine W.nil ?_
      refine At.next ?_
      refine V.ret ?_
      refine At.thenRet ?_
      replace HS := row_nil' (e := 5) 1 none HS
      have HS : Sep.St [row 5 1 (.slice none ([] : List Int).length 0) ([] : List Int).length (([] : List Int).map (Value.int .u8)), backlog_Log.at b0 a0, R] w0 w := HS
      cases H
      exact At.ret3 rfl rfl rfl rfl ⟨_, rfl, none, 0, rfl, HS⟩
    · replace H := ite_f c4 H
      refine V.condF (sb (b_f c4)) ?_
      refine V.skip ?_
      refine At.next ?_
      refine V.seq ?_
      refine V.region ?_
      refine W.rd (X.move rfl) rfl rfl rfl ?_
      refine W.rd (X.nilCheck rfl) rfl rfl rfl ?_
      obtain ⟨a5_5, c5_5, d5_5, hi6, HS⟩ := backlog_Log.open HS
      refine W.rd (X.fieldAddr 4 fo103_4 rfl) rfl rfl rfl ?_
      refine W.rd (X.loadAt 0 HS rfl Try.underlying3 rfl rfl rfl) rfl rfl rfl ?_
      refine W.rd (X.assign rfl) rfl rfl rfl ?_
      refine W.nil ?_
      refine At.next ?_
      refine V.seq ?_
      refine V.region ?_
      refine W.rd (X.move rfl) rfl rfl rfl ?_
      refine W.rd (X.nilCheck rfl) rfl rfl rfl ?_
      refine W.rd (X.fieldAddr 4 fo103_4 rfl) rfl rfl rfl ?_
      refine W.rd (X.loadAt 0 HS rfl Try.underlying3 rfl rfl rfl) rfl rfl rfl ?_
      refine W.rd (X.add rfl rfl) rfl rfl rfl ?_
      refine W.rd (X.nilCheck rfl) rfl rfl rfl ?_
      refine W.rd (X.fieldAddr 4 fo103_4 rfl) rfl rfl rfl ?_
      refine W.ev_none (Y.storeAt 0 HS rfl inf3 rfl rfl rfl rfl rfl rfl) rfl rfl ?_
      rintro _ w HS
      refine W.nil ?_
      refine At.next ?_
      refine V.seq ?_
      obtain ⟨c7, H⟩ := ite_n H
      obtain ⟨eb8, eo9, hh⟩ := (rdC.at 1 row_rd HS rfl).some (by decide) c7.1 c7.2; subst hh
      obtain ⟨ec10, hc11, HS⟩ := St.tie_at 2 HS rfl ([]) c7.1 c7.2
      obtain ⟨ea12, em13, he15, HN⟩ := St.sl_openF (Value.int .u8) (fun t => tie_int t) HS; clear HS; subst he15; have HS := HN
      refine V.draw (es := [2, 10]) (bl := [11, 12, 13]) (f := [(38, Value.pointer (some ⟨b0, 0, none⟩)), (39, Value.int .i64 a0.out), (41, Value.pointer (some ⟨b0, 0, none⟩)), (42, Value.pointer (some ⟨b0, 0, none⟩)), (43, Value.pointer (some ⟨b0, 0 + 5, none⟩)), (44, Value.slice (some ⟨eb8, eo9, none⟩) a0.l.length c5_5), (45, Value.int .i64 a0.out), (46, Value.pointer (some ⟨eb8, eo9 + a0.out.toNat * 1, none⟩)), (47, Value.slice ea12 (a0.l.getD a0.out.toNat []).length em13)]) (fun w => Sep.St [fsl 1 (.slice ea12 (a0.l.getD a0.out.toNat []).length em13) (a0.l.getD a0.out.toNat []).length ((a0.l.getD a0.out.toNat []).map (Value.int .u8)), blk b0 (#[Value.int .i64 a0.m, Value.int .i64 a0.window, Value.int .i64 a0.queue, Value.int .i64 a0.first, Value.int .i64 (w64 (a0.out + 1)), Value.slice (some ⟨eb8, eo9, none⟩) a0.l.length c5_5]) 103, row 39 1 (.slice (some ⟨eb8, eo9, none⟩) a0.l.length c5_5) a0.l.length d5_5, tie (El.sl (El.int .u8)) d5_5 a0.l, R] w0 w) mo HS.drew rfl ?_
      refine T.event _ [(38, Value.pointer (some ⟨b0, 0, none⟩)), (39, Value.int .i64 a0.out)] rfl rfl ⟨.m1 0 rfl (.l rfl rfl) (fun w HS => X.move rfl) rfl rfl rfl rfl rfl, .m1 5 rfl (.l rfl rfl) (fun w HS => X.move rfl) rfl rfl rfl rfl rfl, .m1 0 rfl (.l rfl rfl) (fun w HS => X.move rfl) rfl rfl rfl rfl rfl, .m1 41 rfl (.r rfl rfl) (fun w HS => X.nilCheck rfl) rfl rfl rfl rfl rfl, .m1 42 rfl (.r rfl rfl) (fun w HS => X.fieldAddr 5 fo103_5 rfl) rfl rfl rfl rfl rfl, .m1 43 rfl (.r rfl rfl) (fun w HS => X.loadAt 1 HS rfl Try.underlying30 rfl rfl rfl) rfl rfl rfl rfl rfl, .m1 5 rfl (.l rfl rfl) (fun w HS => X.move rfl) rfl rfl rfl rfl rfl, .m2 44 45 rfl (.r rfl rfl) (.r rfl rfl) (fun w HS => X.indexSl Try.underlying30 inf39 rfl rfl c7.1 c7.2) rfl rfl rfl rfl rfl, .m1 46 rfl (.r rfl rfl) (fun w HS => X.load Try.underlying39 rfl rfl ((rdC.at 2 row_rd HS rfl).cellEl0 (hc11 0 _ rfl))) rfl rfl rfl rfl rfl, trivial⟩ rfl ⟨.inr ⟨rfl, rfl⟩, ⟨.inr ⟨rfl, rfl⟩, trivial⟩⟩ (Or.inl rfl) (by intro d hd; cases hd; exact ⟨by decide, rfl, rfl⟩) [11, 12, 13] [0, 1] rfl rfl (fun w HS => ?_)
      obtain ⟨t16, A17, H⟩ := bind_s H
      replace HS := HS.re [1, 2, 3, 0, 4] (by kernel_rfl)
      refine ⟨_, Y.call Try.func98 (by kernel_rfl) rfl (vs := [Value.pointer (some ⟨b0, 0, none⟩), Value.int .i64 a0.out]) rfl (backlog_Log_number.calls ({ m := a0.m, window := a0.window, queue := a0.queue, first := a0.first, out := w64 (a0.out + 1), l := a0.l } : backlog_Log) a0.out _ w0 _ b0 (some ⟨eb8, eo9, none⟩) c5_5 d5_5 t16  A17 (Sep.St.tailJoin (m := [blk b0 (#[Value.int .i64 a0.m, Value.int .i64 a0.window, Value.int .i64 a0.queue, Value.int .i64 a0.first, Value.int .i64 (w64 (a0.out + 1)), Value.slice (some ⟨eb8, eo9, none⟩) a0.l.length c5_5]) 103, row 39 1 (.slice (some ⟨eb8, eo9, none⟩) a0.l.length c5_5) a0.l.length d5_5, tie (El.sl (El.int .u8)) d5_5 a0.l]) (r := [fsl 1 (.slice ea12 (a0.l.getD a0.out.toNat []).length em13) (a0.l.getD a0.out.toNat []).length ((a0.l.getD a0.out.toNat []).map (Value.int .u8)), R]) HS)), ?_⟩
      rintro _ w ⟨rfl, HS⟩
      replace HS := Sep.St.tailOpen (m := [blk b0 (#[Value.int .i64 a0.m, Value.int .i64 a0.window, Value.int .i64 a0.queue, Value.int .i64 a0.first, Value.int .i64 (w64 (a0.out + 1)), Value.slice (some ⟨eb8, eo9, none⟩) a0.l.length c5_5]) 103, row 39 1 (.slice (some ⟨eb8, eo9, none⟩) a0.l.length c5_5) a0.l.length d5_5, tie (El.sl (El.int .u8)) d5_5 a0.l]) (r := [fsl 1 (.slice ea12 (a0.l.getD a0.out.toNat []).length em13) (a0.l.getD a0.out.toNat []).length ((a0.l.getD a0.out.toNat []).map (Value.int .u8)), R]) HS
      refine ⟨[(40, Value.int .i64 t16)], _, ⟨.inl ⟨rfl, rfl⟩, trivial⟩, ?_, HS⟩
      refine T.event _ [(47, Value.slice ea12 (a0.l.getD a0.out.toNat []).length em13)] rfl rfl ⟨.m1 0 rfl (.l rfl rfl) (fun w HS => X.move rfl) rfl rfl rfl rfl rfl, .m1 41 rfl (.r rfl rfl) (fun w HS => X.nilCheck rfl) rfl rfl rfl rfl rfl, .m1 42 rfl (.r rfl rfl) (fun w HS => X.fieldAddr 5 fo103_5 rfl) rfl rfl rfl rfl rfl, .m1 43 rfl (.r rfl rfl) (fun w HS => X.loadAt 0 HS rfl Try.underlying30 rfl rfl rfl) rfl rfl rfl rfl rfl, .m1 5 rfl (.l rfl rfl) (fun w HS => X.move rfl) rfl rfl rfl rfl rfl, .m2 44 45 rfl (.r rfl rfl) (.r rfl rfl) (fun w HS => X.indexSl Try.underlying30 inf39 rfl rfl c7.1 c7.2) rfl rfl rfl rfl rfl, .m1 46 rfl (.r rfl rfl) (fun w HS => X.load Try.underlying39 rfl rfl ((rdC.at 1 row_rd HS rfl).cellEl0 (hc11 0 _ rfl))) rfl rfl rfl rfl rfl, trivial⟩ rfl ⟨.inr ⟨rfl, rfl⟩, trivial⟩ (Or.inl rfl) (by intro d hd; cases hd; exact ⟨by decide, rfl, rfl⟩) [] [3, 4, 5, 6, 7, 8, 9] rfl rfl (fun w HS => ?_)
      obtain ⟨t18, A19, H⟩ := bind_s H
      refine ⟨_, Y.call Try.func93 (by kernel_rfl) rfl (vs := [Value.slice ea12 (a0.l.getD a0.out.toNat []).length em13]) rfl (slices_Clone_Sbytebyte.calls (a0.l.getD a0.out.toNat []) _ w0 _ ea12 em13 t18 (rdC.part 3 fsl.rd rfl) A19 (Sep.St.tailJoin (m := []) (r := [blk b0 (#[Value.int .i64 a0.m, Value.int .i64 a0.window, Value.int .i64 a0.queue, Value.int .i64 a0.first, Value.int .i64 (w64 (a0.out + 1)), Value.slice (some ⟨eb8, eo9, none⟩) a0.l.length c5_5]) 103, row 39 1 (.slice (some ⟨eb8, eo9, none⟩) a0.l.length c5_5) a0.l.length d5_5, tie (El.sl (El.int .u8)) d5_5 a0.l, fsl 1 (.slice ea12 (a0.l.getD a0.out.toNat []).length em13) (a0.l.getD a0.out.toNat []).length ((a0.l.getD a0.out.toNat []).map (Value.int .u8)), R]) HS)), ?_⟩
      rintro _ w ⟨at18_0, ct18_0, rfl, HS⟩
      replace HS := Sep.St.tailOpen (m := [row 5 1 (.slice at18_0 t18.length ct18_0) t18.length (t18.map (Value.int .u8))]) (r := [blk b0 (#[Value.int .i64 a0.m, Value.int .i64 a0.window, Value.int .i64 a0.queue, Value.int .i64 a0.first, Value.int .i64 (w64 (a0.out + 1)), Value.slice (some ⟨eb8, eo9, none⟩) a0.l.length c5_5]) 103, row 39 1 (.slice (some ⟨eb8, eo9, none⟩) a0.l.length c5_5) a0.l.length d5_5, tie (El.sl (El.int .u8)) d5_5 a0.l, fsl 1 (.slice ea12 (a0.l.getD a0.out.toNat []).length em13) (a0.l.getD a0.out.toNat []).length ((a0.l.getD a0.out.toNat []).map (Value.int .u8)), R]) HS
      refine ⟨[(48, Value.slice at18_0 t18.length ct18_0), (2, Value.int .i64 t16), (3, Value.slice at18_0 t18.length ct18_0), (4, Value.bool true)], _, ⟨.inl ⟨rfl, rfl⟩, ⟨.inr ⟨by decide, rfl⟩, ⟨.inr ⟨by decide, rfl⟩, ⟨.inr ⟨by decide, rfl⟩, trivial⟩⟩⟩⟩, ?_, HS⟩
      refine T.fin [(2, Value.int .i64 t16), (3, Value.slice at18_0 t18.length ct18_0), (4, Value.bool true)] rfl ⟨.m1 40 rfl (.r rfl rfl) (fun w HS => X.assign rfl) rfl rfl rfl rfl rfl, .m1 48 rfl (.r rfl rfl) (fun w HS => X.assign rfl) rfl rfl rfl rfl rfl, .m0 rfl (fun w HS => X.assign rfl) rfl rfl rfl rfl rfl, trivial⟩ ⟨.inr ⟨rfl, rfl⟩, ⟨.inr ⟨rfl, rfl⟩, ⟨.inr ⟨rfl, rfl⟩, trivial⟩⟩⟩ (fun w HS => ?_)
      refine At.next ?_
      refine V.ret ?_
      replace HS := HS.re [1, 2, 3, 0, 4, 5] (by kernel_rfl)
      replace HS := backlog_Log.close (({ m := a0.m, window := a0.window, queue := a0.queue, first := a0.first, out := w64 (a0.out + 1), l := a0.l } : backlog_Log)) trivial HS
      replace HS := HS.sel [1, 0, 3] [2] (by kernel_rfl)
      cases H
      exact At.ret3 rfl rfl rfl rfl ⟨_, rfl, at18_0, ct18_0, rfl, HS⟩

/-! ### (*signalman/reorder.Order).Next: function 103 -/
def reorder_Order_Next.f (a0 : reorder_Order) : Option Int := some a0.next
set_option maxRecDepth 100000 in
set_option maxHeartbeats 4000000 in
theorem reorder_Order_Next.calls (a0 : reorder_Order) (R : As) (w0 w : World) (b0 : Nat) (b3_p0 : Nat) (k3_p0 : List (Int × Value)) (a4_p0 : Option Addr) (c4_p0 : Nat) (d4_p0 : List Value) (r : Int)  (H : reorder_Order_Next.f a0 = some r) (HS : Sep.St [blk b0 (#[Value.int .i64 a0.m, Value.int .i64 a0.window, Value.int .i64 a0.next, Value.map (some b3_p0), Value.slice a4_p0 a0.ready.length c4_p0]) 106, mblk b3_p0 k3_p0, tieM (El.sl (El.int .u8)) k3_p0 a0.kept, row 39 1 (.slice a4_p0 a0.ready.length c4_p0) a0.ready.length d4_p0, tie (El.sl (El.int .u8)) d4_p0 a0.ready, R] w0 w) : Calls Try.prog 103 #[Value.pointer (some ⟨b0, 0, none⟩)] w (Ret fun u w => u = Value.int .i64 r ∧ Sep.St [blk b0 (#[Value.int .i64 a0.m, Value.int .i64 a0.window, Value.int .i64 a0.next, Value.map (some b3_p0), Value.slice a4_p0 a0.ready.length c4_p0]) 106, mblk b3_p0 k3_p0, tieM (El.sl (El.int .u8)) k3_p0 a0.kept, row 39 1 (.slice a4_p0 a0.ready.length c4_p0) a0.ready.length d4_p0, tie (El.sl (El.int .u8)) d4_p0 a0.ready, R] w0 w) := by
  unfold reorder_Order_Next.f at H
  refine calls_enter Try.func103 rfl rfl ?_
  have H : _ = some r := H
  refine V.seq ?_
  refine V.region ?_
  refine W.rd (X.assign rfl) rfl rfl rfl ?_
  refine W.nil ?_
  refine At.next ?_
  refine V.seq ?_
  refine V.region ?_
  refine W.rd (X.move rfl) rfl rfl rfl ?_
  refine W.rd (X.nilCheck rfl) rfl rfl rfl ?_
  refine W.rd (X.fieldAddr 2 fo106_2 rfl) rfl rfl rfl ?_
  refine W.rd (X.loadAt 0 HS rfl Try.underlying3 rfl rfl rfl) rfl rfl rfl ?_
  refine W.rd (X.assign rfl) rfl rfl rfl ?_
  refine W.nil ?_
  refine At.next ?_
  refine V.ret ?_
  cases H
  exact At.ret1 rfl rfl ⟨_, rfl, rfl, HS⟩

/-! ### (*signalman/arq.Arq).message: function 95 -/
def arq_Arq_message.f (k : Nat) (a0 : arq_Arq) (a1 : Int) (a2 : List Int) (a3 : Bool) : Option arq_Arq := ((reorder_Order_Next.f a0.order).bind fun t5 => ((arq_Arq_put.f k a0 a0.tag ({ Kind := 0, Ns := a1, Nr := t5, Poll := a3 } : api_Ctl) a2).bind fun t7 => some t7))
set_option maxRecDepth 100000 in
set_option maxHeartbeats 4000000 in
theorem arq_Arq_message.calls (k : Nat) (a0 : arq_Arq) (a1 : Int) (a2 : List Int) (a3 : Bool) (R : As) (w0 w : World) (b0 : Nat) (sa2 : Option Addr) (sc2 : Nat) (r : arq_Arq)  (H : arq_Arq_message.f k a0 a1 a2 a3 = some r) (HS : Sep.St [arq_Arq.at b0 a0, fsl 1 (.slice sa2 a2.length sc2) a2.length (a2.map (Value.int .u8)), R] w0 w) : Calls Try.prog 95 #[Value.pointer (some ⟨b0, 0, none⟩), Value.int .i64 a1, Value.slice sa2 a2.length sc2, Value.bool a3] w (Ret fun u w => u = Value.tuple #[] ∧ Sep.St [arq_Arq.at b0 r, R] w0 w) := by
  unfold arq_Arq_message.f at H
  refine calls_enter Try.func95 rfl rfl ?_
  have H : _ = some r := H
  obtain ⟨b8_1, b9_1, b10_1, a11_1, c11_1, d11_1, a12_1, c12_1, hi2, HS⟩ := arq_Arq.open HS
  refine V.draw (es := [10, 14]) (bl := [12]) (f := [(8, Value.pointer (some ⟨b0, 0, none⟩)), (9, Value.pointer (some ⟨b0, 0, none⟩)), (10, Value.pointer (some ⟨b0, 0, none⟩)), (11, Value.pointer (some ⟨b0, 0 + 5, none⟩)), (12, Value.int .i64 a0.tag), (13, Value.int .i64 a1), (14, Value.pointer (some ⟨b0, 0, none⟩)), (15, Value.pointer (some ⟨b0, 0, none⟩)), (16, Value.pointer (some ⟨b0, 0 + 9, none⟩)), (17, Value.pointer (some ⟨b9_1, 0, none⟩)), (19, Value.bool a3), (21, Value.slice sa2 a2.length sc2)]) (fun w => Sep.St [blk b0 (#[Value.int .i64 a0.m, Value.int .i64 a0.t1, Value.int .i64 a0.n2, Value.int .i64 a0.size, Value.int .i64 a0.state, Value.int .i64 a0.tag, Value.int .i64 a0.tries, Value.bool a0.rejected, Value.pointer (some ⟨b8_1, 0, none⟩), Value.pointer (some ⟨b9_1, 0, none⟩), Value.pointer (some ⟨b10_1, 0, none⟩), Value.slice a11_1 a0.out.length c11_1, Value.slice a12_1 a0.inds.length c12_1, Value.int .i64 a0.sent, Value.int .i64 a0.acked, Value.int .i64 a0.lost]) 82, backlog_Log.at b8_1 a0.log, reorder_Order.at b9_1 a0.order, clock_Set.at b10_1 a0.timers, row 39 1 (.slice a11_1 a0.out.length c11_1) a0.out.length d11_1, tie (El.sl (El.int .u8)) d11_1 a0.out, row 3 1 (.slice a12_1 a0.inds.length c12_1) a0.inds.length (a0.inds.map (Value.int .i64)), fsl 1 (.slice sa2 a2.length sc2) a2.length (a2.map (Value.int .u8)), R] w0 w) mo HS.drew rfl ?_
  refine T.event _ [(17, Value.pointer (some ⟨b9_1, 0, none⟩))] rfl rfl ⟨.m1 0 rfl (.l rfl rfl) (fun w HS => X.move rfl) rfl rfl rfl rfl rfl, .m1 0 rfl (.l rfl rfl) (fun w HS => X.move rfl) rfl rfl rfl rfl rfl, .m1 9 rfl (.r rfl rfl) (fun w HS => X.nilCheck rfl) rfl rfl rfl rfl rfl, .m1 10 rfl (.r rfl rfl) (fun w HS => X.fieldAddr 5 fo82_5 rfl) rfl rfl rfl rfl rfl, .m1 11 rfl (.r rfl rfl) (fun w HS => X.loadAt 0 HS rfl Try.underlying3 rfl rfl rfl) rfl rfl rfl rfl rfl, .m1 1 rfl (.l rfl rfl) (fun w HS => X.move rfl) rfl rfl rfl rfl rfl, .m1 0 rfl (.l rfl rfl) (fun w HS => X.move rfl) rfl rfl rfl rfl rfl, .m1 14 rfl (.r rfl rfl) (fun w HS => X.nilCheck rfl) rfl rfl rfl rfl rfl, .m1 15 rfl (.r rfl rfl) (fun w HS => X.fieldAddr 9 fo82_9 rfl) rfl rfl rfl rfl rfl, .m1 16 rfl (.r rfl rfl) (fun w HS => X.loadAt 0 HS rfl Try.underlying76 rfl rfl rfl) rfl rfl rfl rfl rfl, .m1 3 rfl (.l rfl rfl) (fun w HS => X.move rfl) rfl rfl rfl rfl rfl, .m1 2 rfl (.l rfl rfl) (fun w HS => X.move rfl) rfl rfl rfl rfl rfl, trivial⟩ rfl ⟨.inr ⟨rfl, rfl⟩, trivial⟩ (Or.inl rfl) (by intro d hd; cases hd; exact ⟨by decide, rfl, rfl⟩) [] [6, 7, 8, 9] rfl rfl (fun w HS => ?_)
  replace HS := HS.front 2 rfl
  obtain ⟨b3_3, k3_3, a4_3, c4_3, d4_3, hi4, HS⟩ := reorder_Order.open HS
  obtain ⟨t5, A6, H⟩ := bind_s H
  refine ⟨_, Y.call Try.func103 (by kernel_rfl) rfl (vs := [Value.pointer (some ⟨b9_1, 0, none⟩)]) rfl (reorder_Order_Next.calls a0.order _ w0 _ b9_1 b3_3 k3_3 a4_3 c4_3 d4_3 t5  A6 (Sep.St.tailJoin (m := [blk b9_1 (#[Value.int .i64 a0.order.m, Value.int .i64 a0.order.window, Value.int .i64 a0.order.next, Value.map (some b3_3), Value.slice a4_3 a0.order.ready.length c4_3]) 106, mblk b3_3 k3_3, tieM (El.sl (El.int .u8)) k3_3 a0.order.kept, row 39 1 (.slice a4_3 a0.order.ready.length c4_3) a0.order.ready.length d4_3, tie (El.sl (El.int .u8)) d4_3 a0.order.ready]) (r := [blk b0 (#[Value.int .i64 a0.m, Value.int .i64 a0.t1, Value.int .i64 a0.n2, Value.int .i64 a0.size, Value.int .i64 a0.state, Value.int .i64 a0.tag, Value.int .i64 a0.tries, Value.bool a0.rejected, Value.pointer (some ⟨b8_1, 0, none⟩), Value.pointer (some ⟨b9_1, 0, none⟩), Value.pointer (some ⟨b10_1, 0, none⟩), Value.slice a11_1 a0.out.length c11_1, Value.slice a12_1 a0.inds.length c12_1, Value.int .i64 a0.sent, Value.int .i64 a0.acked, Value.int .i64 a0.lost]) 82, backlog_Log.at b8_1 a0.log, clock_Set.at b10_1 a0.timers, row 39 1 (.slice a11_1 a0.out.length c11_1) a0.out.length d11_1, tie (El.sl (El.int .u8)) d11_1 a0.out, row 3 1 (.slice a12_1 a0.inds.length c12_1) a0.inds.length (a0.inds.map (Value.int .i64)), fsl 1 (.slice sa2 a2.length sc2) a2.length (a2.map (Value.int .u8)), R]) HS)), ?_⟩
  rintro _ w ⟨rfl, HS⟩
  replace HS := Sep.St.tailOpen (m := [blk b9_1 (#[Value.int .i64 a0.order.m, Value.int .i64 a0.order.window, Value.int .i64 a0.order.next, Value.map (some b3_3), Value.slice a4_3 a0.order.ready.length c4_3]) 106, mblk b3_3 k3_3, tieM (El.sl (El.int .u8)) k3_3 a0.order.kept, row 39 1 (.slice a4_3 a0.order.ready.length c4_3) a0.order.ready.length d4_3, tie (El.sl (El.int .u8)) d4_3 a0.order.ready]) (r := [blk b0 (#[Value.int .i64 a0.m, Value.int .i64 a0.t1, Value.int .i64 a0.n2, Value.int .i64 a0.size, Value.int .i64 a0.state, Value.int .i64 a0.tag, Value.int .i64 a0.tries, Value.bool a0.rejected, Value.pointer (some ⟨b8_1, 0, none⟩), Value.pointer (some ⟨b9_1, 0, none⟩), Value.pointer (some ⟨b10_1, 0, none⟩), Value.slice a11_1 a0.out.length c11_1, Value.slice a12_1 a0.inds.length c12_1, Value.int .i64 a0.sent, Value.int .i64 a0.acked, Value.int .i64 a0.lost]) 82, backlog_Log.at b8_1 a0.log, clock_Set.at b10_1 a0.timers, row 39 1 (.slice a11_1 a0.out.length c11_1) a0.out.length d11_1, tie (El.sl (El.int .u8)) d11_1 a0.out, row 3 1 (.slice a12_1 a0.inds.length c12_1) a0.inds.length (a0.inds.map (Value.int .i64)), fsl 1 (.slice sa2 a2.length sc2) a2.length (a2.map (Value.int .u8)), R]) HS
  refine ⟨[(18, Value.int .i64 t5), (20, Value.agg #[Value.int .i64 (0), Value.int .i64 a1, Value.int .i64 t5, Value.bool a3])], _, ⟨.inl ⟨rfl, rfl⟩, ⟨.inr ⟨by decide, rfl⟩, trivial⟩⟩, ?_, HS⟩
  refine T.event _ [(8, Value.pointer (some ⟨b0, 0, none⟩)), (12, Value.int .i64 a0.tag), (20, Value.agg #[Value.int .i64 (0), Value.int .i64 a1, Value.int .i64 t5, Value.bool a3]), (21, Value.slice sa2 a2.length sc2)] rfl rfl ⟨.m1 0 rfl (.l rfl rfl) (fun w HS => X.move rfl) rfl rfl rfl rfl rfl, .m1 0 rfl (.l rfl rfl) (fun w HS => X.move rfl) rfl rfl rfl rfl rfl, .m1 9 rfl (.r rfl rfl) (fun w HS => X.nilCheck rfl) rfl rfl rfl rfl rfl, .m1 10 rfl (.r rfl rfl) (fun w HS => X.fieldAddr 5 fo82_5 rfl) rfl rfl rfl rfl rfl, .m1 11 rfl (.r rfl rfl) (fun w HS => X.loadAt 5 HS rfl Try.underlying3 rfl rfl rfl) rfl rfl rfl rfl rfl, .m1 1 rfl (.l rfl rfl) (fun w HS => X.move rfl) rfl rfl rfl rfl rfl, .m1 3 rfl (.l rfl rfl) (fun w HS => X.move rfl) rfl rfl rfl rfl rfl, ⟨_, _, [(13, Value.int .i64 a1), (18, Value.int .i64 t5), (19, Value.bool a3)], 20, rfl, rfl, ⟨.inr ⟨rfl, rfl⟩, ⟨.inr ⟨rfl, rfl⟩, ⟨.inr ⟨rfl, rfl⟩, trivial⟩⟩⟩, .run rfl (fun w HS => X.build (vs := #[(0, Value.int .i64 (0)), (1, Value.int .i64 a1), (2, Value.int .i64 t5), (3, Value.bool a3)]) (v := Value.agg #[Value.int .i64 (0), Value.int .i64 a1, Value.int .i64 t5, Value.bool a3]) (fun a ha => by simp only [List.map_toArray, List.map_cons, List.map_nil]; rw [ha.ev (x := .tmp 13) (v := Value.int .i64 a1) rfl]; rw [ha.ev (x := .tmp 18) (v := Value.int .i64 t5) rfl]; rw [ha.ev (x := .tmp 19) (v := Value.bool a3) rfl]; try rfl) (fun _ => by kernel_rfl)), rfl, rfl, rfl⟩, .m1 2 rfl (.l rfl rfl) (fun w HS => X.move rfl) rfl rfl rfl rfl rfl, trivial⟩ rfl ⟨.inr ⟨rfl, rfl⟩, ⟨.inr ⟨rfl, rfl⟩, ⟨.inr ⟨rfl, rfl⟩, ⟨.inr ⟨rfl, rfl⟩, trivial⟩⟩⟩⟩ (Or.inl rfl) (by intro d hd; cases hd; exact ⟨by decide, rfl, rfl⟩) [] [0, 1, 2, 3, 4, 5, 11, 12, 13] rfl rfl (fun w HS => ?_)
  replace HS := reorder_Order.close a0.order trivial HS
  replace HS := HS.re [1, 2, 0, 3, 4, 5, 6, 7, 8] (by kernel_rfl)
  replace HS := arq_Arq.close a0 trivial HS
  obtain ⟨t7, A8, H⟩ := bind_s H
  refine ⟨_, Y.call Try.func74 (by kernel_rfl) rfl (vs := [Value.pointer (some ⟨b0, 0, none⟩), Value.int .i64 a0.tag, Value.agg #[Value.int .i64 (0), Value.int .i64 a1, Value.int .i64 t5, Value.bool a3], Value.slice sa2 a2.length sc2]) rfl (arq_Arq_put.calls k a0 a0.tag ({ Kind := 0, Ns := a1, Nr := t5, Poll := a3 } : api_Ctl) a2 _ w0 _ b0 sa2 sc2 t7  A8 (Sep.St.tailJoin (m := [arq_Arq.at b0 a0, fsl 1 (.slice sa2 a2.length sc2) a2.length (a2.map (Value.int .u8))]) (r := [R]) HS)), ?_⟩
  rintro _ w ⟨rfl, HS⟩
  replace HS := Sep.St.tailOpen (m := [arq_Arq.at b0 t7]) (r := [R]) HS
  refine ⟨[(22, Value.tuple #[])], _, ⟨.inl ⟨rfl, rfl⟩, trivial⟩, ?_, HS⟩
  refine T.fin [] rfl trivial trivial (fun w HS => ?_)
  cases H
  exact At.end0 rfl ⟨_, rfl, rfl, HS⟩

/-! ### (*signalman/arq.Arq).pump: function 70 -/
mutual
def arq_Arq_pump.l0 : Nat → Int → Bool → arq_Arq → (List Int) → Option arq_Arq
  | 0, _, _, _, _ => none
  | k + 1, x8, x9, x10, x13 => (if x9 = true then ((arq_Arq_message.f k x10 x8 x13 false).bind fun t24 => ((clock_Set_Left.f t24.timers 0).bind fun t30 => (if t30.2 = true then (arq_Arq_pump.j1 (arq_Arq_pump.l0 k) t24) else ((arq_Arq_start.f t24).bind fun t33 => (arq_Arq_pump.j1 (arq_Arq_pump.l0 k) t33))))) else some x10)
def arq_Arq_pump.j1 (Lq19 : Int → Bool → arq_Arq → (List Int) → Option arq_Arq) (x17 : arq_Arq) : Option arq_Arq := ((backlog_Log_Next.f x17.log).bind fun t22 => (Lq19 t22.1 t22.2.2.1 ({ m := x17.m, t1 := x17.t1, n2 := x17.n2, size := x17.size, state := x17.state, tag := x17.tag, tries := x17.tries, rejected := x17.rejected, log := t22.2.2.2, order := x17.order, timers := x17.timers, out := x17.out, inds := x17.inds, sent := x17.sent, acked := x17.acked, lost := x17.lost } : arq_Arq) t22.2.1))
end
def arq_Arq_pump.f (k : Nat) (a0 : arq_Arq) : Option arq_Arq := (if a0.state = 2 then ((backlog_Log_Next.f a0.log).bind fun t5 => (arq_Arq_pump.l0 k t5.1 t5.2.2.1 ({ m := a0.m, t1 := a0.t1, n2 := a0.n2, size := a0.size, state := a0.state, tag := a0.tag, tries := a0.tries, rejected := a0.rejected, log := t5.2.2.2, order := a0.order, timers := a0.timers, out := a0.out, inds := a0.inds, sent := a0.sent, acked := a0.acked, lost := a0.lost } : arq_Arq) t5.2.1)) else some a0)
set_option maxRecDepth 100000 in
set_option maxHeartbeats 4000000 in
theorem arq_Arq_pump.calls (k : Nat) (a0 : arq_Arq) (R : As) (w0 w : World) (b0 : Nat) (r : arq_Arq)  (H : arq_Arq_pump.f k a0 = some r) (HS : Sep.St [arq_Arq.at b0 a0, R] w0 w) : Calls Try.prog 70 #[Value.pointer (some ⟨b0, 0, none⟩)] w (Ret fun u w => u = Value.tuple #[] ∧ Sep.St [arq_Arq.at b0 r, R] w0 w) := by
  unfold arq_Arq_pump.f at H
  refine calls_enter Try.func70 rfl rfl ?_
  have H : _ = some r := H
  refine V.seq ?_
  refine V.seq ?_
  refine V.region ?_
  refine W.rd (X.move rfl) rfl rfl rfl ?_
  refine W.rd (X.nilCheck rfl) rfl rfl rfl ?_
  obtain ⟨b8_2, b9_2, b10_2, a11_2, c11_2, d11_2, a12_2, c12_2, hi3, HS⟩ := arq_Arq.open HS
  refine W.rd (X.fieldAddr 4 fo82_4 rfl) rfl rfl rfl ?_
  refine W.rd (X.loadAt 0 HS rfl Try.underlying3 rfl rfl rfl) rfl rfl rfl ?_
  refine W.rd (X.cmp (!(decide (a0.state = 2))) rfl rfl rfl rfl) rfl rfl rfl ?_
  refine W.nil ?_
  refine At.next ?_
  by_cases c4 : a0.state = 2
  · replace H := ite_t c4 H
    refine V.condF (sb (n_t (decide_eq_true c4))) ?_
    refine V.skip ?_
    refine At.next ?_
    refine V.seq ?_
    refine V.region ?_
    refine W.rd (X.move rfl) rfl rfl rfl ?_
    refine W.rd (X.nilCheck rfl) rfl rfl rfl ?_
    refine W.rd (X.fieldAddr 8 fo82_8 rfl) rfl rfl rfl ?_
    refine W.rd (X.loadAt 0 HS rfl Try.underlying74 rfl rfl rfl) rfl rfl rfl ?_
    obtain ⟨t5, A6, H⟩ := bind_s H
    replace HS := HS.re [1, 0, 2, 3, 4, 5, 6, 7] (by kernel_rfl)
    refine W.ev (Y.call Try.func94 (by kernel_rfl) rfl (vs := [Value.pointer (some ⟨b8_2, 0, none⟩)]) rfl (backlog_Log_Next.calls a0.log _ w0 _ b8_2 t5  A6 (Sep.St.tailJoin (m := [backlog_Log.at b8_2 a0.log]) (r := [blk b0 (#[Value.int .i64 a0.m, Value.int .i64 a0.t1, Value.int .i64 a0.n2, Value.int .i64 a0.size, Value.int .i64 a0.state, Value.int .i64 a0.tag, Value.int .i64 a0.tries, Value.bool a0.rejected, Value.pointer (some ⟨b8_2, 0, none⟩), Value.pointer (some ⟨b9_2, 0, none⟩), Value.pointer (some ⟨b10_2, 0, none⟩), Value.slice a11_2 a0.out.length c11_2, Value.slice a12_2 a0.inds.length c12_2, Value.int .i64 a0.sent, Value.int .i64 a0.acked, Value.int .i64 a0.lost]) 82, reorder_Order.at b9_2 a0.order, clock_Set.at b10_2 a0.timers, row 39 1 (.slice a11_2 a0.out.length c11_2) a0.out.length d11_2, tie (El.sl (El.int .u8)) d11_2 a0.out, row 3 1 (.slice a12_2 a0.inds.length c12_2) a0.inds.length (a0.inds.map (Value.int .i64)), R]) HS))) rfl rfl rfl ?_
    rintro _ w ⟨at5_1, ct5_1, rfl, HS⟩
    replace HS := Sep.St.tailOpen (m := [row 5 1 (.slice at5_1 t5.2.1.length ct5_1) t5.2.1.length (t5.2.1.map (Value.int .u8)), backlog_Log.at b8_2 t5.2.2.2]) (r := [blk b0 (#[Value.int .i64 a0.m, Value.int .i64 a0.t1, Value.int .i64 a0.n2, Value.int .i64 a0.size, Value.int .i64 a0.state, Value.int .i64 a0.tag, Value.int .i64 a0.tries, Value.bool a0.rejected, Value.pointer (some ⟨b8_2, 0, none⟩), Value.pointer (some ⟨b9_2, 0, none⟩), Value.pointer (some ⟨b10_2, 0, none⟩), Value.slice a11_2 a0.out.length c11_2, Value.slice a12_2 a0.inds.length c12_2, Value.int .i64 a0.sent, Value.int .i64 a0.acked, Value.int .i64 a0.lost]) 82, reorder_Order.at b9_2 a0.order, clock_Set.at b10_2 a0.timers, row 39 1 (.slice a11_2 a0.out.length c11_2) a0.out.length d11_2, tie (El.sl (El.int .u8)) d11_2 a0.out, row 3 1 (.slice a12_2 a0.inds.length c12_2) a0.inds.length (a0.inds.map (Value.int .i64)), R]) HS
    refine W.rd (X.move rfl) rfl rfl rfl ?_
    refine W.rd (X.extract rfl rfl) rfl rfl rfl ?_
    refine W.rd (X.extract rfl rfl) rfl rfl rfl ?_
    refine W.rd (X.extract rfl rfl) rfl rfl rfl ?_
    refine W.rd (X.assign rfl) rfl rfl rfl ?_
    refine W.rd (X.assign rfl) rfl rfl rfl ?_
    refine W.rd (X.assign rfl) rfl rfl rfl ?_
    refine W.nil ?_
    refine At.next ?_
    refine V.block ?_
    replace HS := HS.re [2, 1, 3, 4, 5, 6, 7, 0, 8] (by kernel_rfl)
    replace HS := arq_Arq.close ({ m := a0.m, t1 := a0.t1, n2 := a0.n2, size := a0.size, state := a0.state, tag := a0.tag, tries := a0.tries, rejected := a0.rejected, log := t5.2.2.2, order := a0.order, timers := a0.timers, out := a0.out, inds := a0.inds, sent := a0.sent, acked := a0.acked, lost := a0.lost } : arq_Arq) trivial HS
    refine V.loop (σ := Int × Bool × arq_Arq × Option Addr × Nat × List Int) (fun kq (st : Int × Bool × arq_Arq × Option Addr × Nat × List Int) w => match st with | (x8, x9, x10, ra11, rc12, x13) => Sep.St [arq_Arq.at b0 x10, row 5 1 (.slice ra11 x13.length rc12) x13.length (x13.map (Value.int .u8)), R] w0 w ∧ arq_Arq_pump.l0 kq x8 x9 x10 x13 = some r ∧ kq ≤ k) (fun st => match st with | (x8, x9, x10, ra11, rc12, x13) => [(0, Value.pointer (some ⟨b0, 0, none⟩)), (2, Value.int .i64 x8), (3, Value.slice ra11 x13.length rc12), (4, Value.bool x9)]) k (t5.1, t5.2.2.1, ({ m := a0.m, t1 := a0.t1, n2 := a0.n2, size := a0.size, state := a0.state, tag := a0.tag, tries := a0.tries, rejected := a0.rejected, log := t5.2.2.2, order := a0.order, timers := a0.timers, out := a0.out, inds := a0.inds, sent := a0.sent, acked := a0.acked, lost := a0.lost } : arq_Arq), at5_1, ct5_1, t5.2.1) ⟨rfl, rfl, rfl, rfl, trivial⟩ ⟨HS, H, Nat.le_refl _⟩ ?_
    rintro kq14 ⟨x8, x9, x10, ra11, rc12, x13⟩ w ⟨HS, H, hk15⟩
    cases kq14 with
    | zero => exact absurd H (by simp [arq_Arq_pump.l0])
    | succ kq14 =>
      simp only [arq_Arq_pump.l0] at H
      refine V.seq ?_
      refine V.seq ?_
      refine V.region ?_
      refine W.rd (X.move rfl) rfl rfl rfl ?_
      refine W.nil ?_
      refine At.next ?_
      by_cases c16 : x9 = true
      · replace H := ite_t c16 H
        refine V.condT (sb c16) ?_
        refine V.skip ?_
        refine At.next ?_
        refine V.meet (σ := arq_Arq) (fun st w => match st with | x17 => Sep.St [arq_Arq.at b0 x17, R] w0 w ∧ ∃ kf18, kf18 ≤ kq14 ∧ arq_Arq_pump.j1 (arq_Arq_pump.l0 kf18) x17 = some r) (fun st => match st with | x17 => [(0, Value.pointer (some ⟨b0, 0, none⟩))]) ?_ ?_
        · refine V.block ?_
          refine V.seq ?_
          refine V.region ?_
          refine W.rd (X.move rfl) rfl rfl rfl ?_
          refine W.rd (X.move rfl) rfl rfl rfl ?_
          refine W.rd (X.move rfl) rfl rfl rfl ?_
          replace HS := HS.front 1 rfl
          replace HS := St.row_freeze HS
          obtain ⟨t24, A25, H⟩ := bind_s H
          replace HS := HS.re [1, 0, 2] (by kernel_rfl)
          refine W.ev (Y.call Try.func95 (by kernel_rfl) rfl (vs := [Value.pointer (some ⟨b0, 0, none⟩), Value.int .i64 x8, Value.slice ra11 x13.length rc12, Value.bool false]) rfl (arq_Arq_message.calls kq14 x10 x8 x13 false _ w0 _ b0 ra11 rc12 t24  A25 (Sep.St.tailJoin (m := [arq_Arq.at b0 x10, fsl 1 (.slice ra11 x13.length rc12) x13.length (x13.map (Value.int .u8))]) (r := [R]) HS))) rfl rfl rfl ?_
          rintro _ w ⟨rfl, HS⟩
          replace HS := Sep.St.tailOpen (m := [arq_Arq.at b0 t24]) (r := [R]) HS
          refine W.nil ?_
          refine At.next ?_
          refine V.seq ?_
          refine V.region ?_
          refine W.rd (X.move rfl) rfl rfl rfl ?_
          refine W.rd (X.nilCheck rfl) rfl rfl rfl ?_
          obtain ⟨b8_26, b9_26, b10_26, a11_26, c11_26, d11_26, a12_26, c12_26, hi27, HS⟩ := arq_Arq.open HS
          refine W.rd (X.fieldAddr 10 fo82_10 rfl) rfl rfl rfl ?_
          refine W.rd (X.loadAt 0 HS rfl Try.underlying78 rfl rfl rfl) rfl rfl rfl ?_
          replace HS := HS.front 3 rfl
          obtain ⟨hi29, HS⟩ := clock_Set.open HS
          obtain ⟨t30, A31, H⟩ := bind_s H
          refine W.ev (Y.call Try.func49 (by kernel_rfl) rfl (vs := [Value.pointer (some ⟨b10_26, 0, none⟩), Value.int .i64 (0)]) rfl (clock_Set_Left.calls t24.timers 0 _ w0 _ b10_26 t30 (by first | exact hi29 | (simp only [List.length_set]; exact hi29)) A31 (Sep.St.tailJoin (m := [blk b10_26 (([Value.int .u32 t24.timers.now] ++ t24.timers.left.map (Value.int .i64)).toArray) 109]) (r := [blk b0 (#[Value.int .i64 t24.m, Value.int .i64 t24.t1, Value.int .i64 t24.n2, Value.int .i64 t24.size, Value.int .i64 t24.state, Value.int .i64 t24.tag, Value.int .i64 t24.tries, Value.bool t24.rejected, Value.pointer (some ⟨b8_26, 0, none⟩), Value.pointer (some ⟨b9_26, 0, none⟩), Value.pointer (some ⟨b10_26, 0, none⟩), Value.slice a11_26 t24.out.length c11_26, Value.slice a12_26 t24.inds.length c12_26, Value.int .i64 t24.sent, Value.int .i64 t24.acked, Value.int .i64 t24.lost]) 82, backlog_Log.at b8_26 t24.log, reorder_Order.at b9_26 t24.order, row 39 1 (.slice a11_26 t24.out.length c11_26) t24.out.length d11_26, tie (El.sl (El.int .u8)) d11_26 t24.out, row 3 1 (.slice a12_26 t24.inds.length c12_26) t24.inds.length (t24.inds.map (Value.int .i64)), R]) HS))) rfl rfl rfl ?_
          rintro _ w ⟨rfl, HS⟩
          replace HS := Sep.St.tailOpen (m := [blk b10_26 (([Value.int .u32 t24.timers.now] ++ t24.timers.left.map (Value.int .i64)).toArray) 109]) (r := [blk b0 (#[Value.int .i64 t24.m, Value.int .i64 t24.t1, Value.int .i64 t24.n2, Value.int .i64 t24.size, Value.int .i64 t24.state, Value.int .i64 t24.tag, Value.int .i64 t24.tries, Value.bool t24.rejected, Value.pointer (some ⟨b8_26, 0, none⟩), Value.pointer (some ⟨b9_26, 0, none⟩), Value.pointer (some ⟨b10_26, 0, none⟩), Value.slice a11_26 t24.out.length c11_26, Value.slice a12_26 t24.inds.length c12_26, Value.int .i64 t24.sent, Value.int .i64 t24.acked, Value.int .i64 t24.lost]) 82, backlog_Log.at b8_26 t24.log, reorder_Order.at b9_26 t24.order, row 39 1 (.slice a11_26 t24.out.length c11_26) t24.out.length d11_26, tie (El.sl (El.int .u8)) d11_26 t24.out, row 3 1 (.slice a12_26 t24.inds.length c12_26) t24.inds.length (t24.inds.map (Value.int .i64)), R]) HS
          refine W.rd (X.move rfl) rfl rfl rfl ?_
          refine W.rd (X.extract rfl rfl) rfl rfl rfl ?_
          refine W.rd (X.extract rfl rfl) rfl rfl rfl ?_
          refine W.rd (X.assign rfl) rfl rfl rfl ?_
          refine W.rd (X.assign rfl) rfl rfl rfl ?_
          refine W.nil ?_
          refine At.next ?_
          refine V.seq ?_
          refine V.region ?_
          refine W.rd (X.move rfl) rfl rfl rfl ?_
          refine W.rd (X.not rfl) rfl rfl rfl ?_
          refine W.nil ?_
          refine At.next ?_
          by_cases c32 : t30.2 = true
          · replace H := ite_t c32 H
            refine V.condF (sb (n_t c32)) ?_
            refine V.skip ?_
            refine At.blockEnd ?_
            replace HS := clock_Set.close t24.timers (by first | exact hi29 | (simp only [List.length_set]; exact hi29)) HS
            replace HS := HS.re [1, 2, 3, 0, 4, 5, 6, 7] (by kernel_rfl)
            replace HS := arq_Arq.close t24 trivial HS
            exact At.meet t24 ⟨rfl, trivial⟩ ⟨HS, kq14, by omega, H⟩
          · replace H := ite_f c32 H
            refine V.condT (sb (n_f (b_f c32))) ?_
            refine V.region ?_
            refine W.rd (X.move rfl) rfl rfl rfl ?_
            replace HS := clock_Set.close t24.timers (by first | exact hi29 | (simp only [List.length_set]; exact hi29)) HS
            replace HS := HS.re [1, 2, 3, 0, 4, 5, 6, 7] (by kernel_rfl)
            replace HS := arq_Arq.close t24 trivial HS
            obtain ⟨t33, A34, H⟩ := bind_s H
            refine W.ev (Y.call Try.func47 (by kernel_rfl) rfl (vs := [Value.pointer (some ⟨b0, 0, none⟩)]) rfl (arq_Arq_start.calls t24 _ w0 _ b0 t33  A34 (Sep.St.tailJoin (m := [arq_Arq.at b0 t24]) (r := [R]) HS))) rfl rfl rfl ?_
            rintro _ w ⟨rfl, HS⟩
            replace HS := Sep.St.tailOpen (m := [arq_Arq.at b0 t33]) (r := [R]) HS
            refine W.nil ?_
            refine At.blockEnd ?_
            exact At.meet t33 ⟨rfl, trivial⟩ ⟨HS, kq14, by omega, H⟩
        · rintro x17 w ⟨HS, kf18, hkkf18, H⟩
          unfold arq_Arq_pump.j1 at H
          refine V.region ?_
          refine W.rd (X.move rfl) rfl rfl rfl ?_
          refine W.rd (X.nilCheck rfl) rfl rfl rfl ?_
          obtain ⟨b8_20, b9_20, b10_20, a11_20, c11_20, d11_20, a12_20, c12_20, hi21, HS⟩ := arq_Arq.open HS
          refine W.rd (X.fieldAddr 8 fo82_8 rfl) rfl rfl rfl ?_
          refine W.rd (X.loadAt 0 HS rfl Try.underlying74 rfl rfl rfl) rfl rfl rfl ?_
          obtain ⟨t22, A23, H⟩ := bind_s H
          replace HS := HS.re [1, 0, 2, 3, 4, 5, 6, 7] (by kernel_rfl)
          refine W.ev (Y.call Try.func94 (by kernel_rfl) rfl (vs := [Value.pointer (some ⟨b8_20, 0, none⟩)]) rfl (backlog_Log_Next.calls x17.log _ w0 _ b8_20 t22  A23 (Sep.St.tailJoin (m := [backlog_Log.at b8_20 x17.log]) (r := [blk b0 (#[Value.int .i64 x17.m, Value.int .i64 x17.t1, Value.int .i64 x17.n2, Value.int .i64 x17.size, Value.int .i64 x17.state, Value.int .i64 x17.tag, Value.int .i64 x17.tries, Value.bool x17.rejected, Value.pointer (some ⟨b8_20, 0, none⟩), Value.pointer (some ⟨b9_20, 0, none⟩), Value.pointer (some ⟨b10_20, 0, none⟩), Value.slice a11_20 x17.out.length c11_20, Value.slice a12_20 x17.inds.length c12_20, Value.int .i64 x17.sent, Value.int .i64 x17.acked, Value.int .i64 x17.lost]) 82, reorder_Order.at b9_20 x17.order, clock_Set.at b10_20 x17.timers, row 39 1 (.slice a11_20 x17.out.length c11_20) x17.out.length d11_20, tie (El.sl (El.int .u8)) d11_20 x17.out, row 3 1 (.slice a12_20 x17.inds.length c12_20) x17.inds.length (x17.inds.map (Value.int .i64)), R]) HS))) rfl rfl rfl ?_
          rintro _ w ⟨at22_1, ct22_1, rfl, HS⟩
          replace HS := Sep.St.tailOpen (m := [row 5 1 (.slice at22_1 t22.2.1.length ct22_1) t22.2.1.length (t22.2.1.map (Value.int .u8)), backlog_Log.at b8_20 t22.2.2.2]) (r := [blk b0 (#[Value.int .i64 x17.m, Value.int .i64 x17.t1, Value.int .i64 x17.n2, Value.int .i64 x17.size, Value.int .i64 x17.state, Value.int .i64 x17.tag, Value.int .i64 x17.tries, Value.bool x17.rejected, Value.pointer (some ⟨b8_20, 0, none⟩), Value.pointer (some ⟨b9_20, 0, none⟩), Value.pointer (some ⟨b10_20, 0, none⟩), Value.slice a11_20 x17.out.length c11_20, Value.slice a12_20 x17.inds.length c12_20, Value.int .i64 x17.sent, Value.int .i64 x17.acked, Value.int .i64 x17.lost]) 82, reorder_Order.at b9_20 x17.order, clock_Set.at b10_20 x17.timers, row 39 1 (.slice a11_20 x17.out.length c11_20) x17.out.length d11_20, tie (El.sl (El.int .u8)) d11_20 x17.out, row 3 1 (.slice a12_20 x17.inds.length c12_20) x17.inds.length (x17.inds.map (Value.int .i64)), R]) HS
          refine W.rd (X.move rfl) rfl rfl rfl ?_
          refine W.rd (X.extract rfl rfl) rfl rfl rfl ?_
          refine W.rd (X.extract rfl rfl) rfl rfl rfl ?_
          refine W.rd (X.extract rfl rfl) rfl rfl rfl ?_
          refine W.rd (X.assign rfl) rfl rfl rfl ?_
          refine W.rd (X.assign rfl) rfl rfl rfl ?_
          refine W.rd (X.assign rfl) rfl rfl rfl ?_
          refine W.nil ?_
          replace HS := HS.re [2, 1, 3, 4, 5, 6, 7, 0, 8] (by kernel_rfl)
          replace HS := arq_Arq.close ({ m := x17.m, t1 := x17.t1, n2 := x17.n2, size := x17.size, state := x17.state, tag := x17.tag, tries := x17.tries, rejected := x17.rejected, log := t22.2.2.2, order := x17.order, timers := x17.timers, out := x17.out, inds := x17.inds, sent := x17.sent, acked := x17.acked, lost := x17.lost } : arq_Arq) trivial HS
          exact At.round kf18 (by omega) (t22.1, t22.2.2.1, ({ m := x17.m, t1 := x17.t1, n2 := x17.n2, size := x17.size, state := x17.state, tag := x17.tag, tries := x17.tries, rejected := x17.rejected, log := t22.2.2.2, order := x17.order, timers := x17.timers, out := x17.out, inds := x17.inds, sent := x17.sent, acked := x17.acked, lost := x17.lost } : arq_Arq), at22_1, ct22_1, t22.2.1) ⟨rfl, rfl, rfl, rfl, trivial⟩ ⟨HS, H, by omega⟩
      · replace H := ite_f c16 H
        refine V.condF (sb (b_f c16)) ?_
        refine V.exit ?_
        refine At.thenExit ?_
        refine At.thenExit ?_
        refine At.blockExit ?_
        replace HS := HS.sel [0, 2] [1] (by kernel_rfl)
        cases H
        exact At.end0 rfl ⟨_, rfl, rfl, HS⟩
  · replace H := ite_f c4 H
    refine V.condT (sb (n_f (decide_eq_false c4))) ?_
    refine V.ret ?_
    refine At.thenRet ?_
    replace HS := arq_Arq.close a0 trivial HS
    cases H
    exact At.ret0 rfl ⟨_, rfl, rfl, HS⟩

/-! ### (*signalman/arq.Arq).end: function 57 -/
def arq_Arq_end.f (a0 : arq_Arq) : Option arq_Arq := ((arq_Arq_fresh.f a0 0).bind fun t1 => (if (t1.inds.length : Int) + ([2] : List Int).length ≤ 1099511627776 then some (({ m := t1.m, t1 := t1.t1, n2 := t1.n2, size := t1.size, state := t1.state, tag := t1.tag, tries := t1.tries, rejected := t1.rejected, log := t1.log, order := t1.order, timers := t1.timers, out := t1.out, inds := t1.inds ++ ([2] : List Int), sent := t1.sent, acked := t1.acked, lost := t1.lost } : arq_Arq)) else none))
set_option maxRecDepth 100000 in
set_option maxHeartbeats 4000000 in
theorem arq_Arq_end.calls (a0 : arq_Arq) (R : As) (w0 w : World) (b0 : Nat) (r : arq_Arq)  (H : arq_Arq_end.f a0 = some r) (HS : Sep.St [arq_Arq.at b0 a0, R] w0 w) : Calls Try.prog 57 #[Value.pointer (some ⟨b0, 0, none⟩)] w (Ret fun u w => u = Value.tuple #[] ∧ Sep.St [arq_Arq.at b0 r, R] w0 w) := by
  unfold arq_Arq_end.f at H
  refine calls_enter Try.func57 rfl rfl ?_
  have H : _ = some r := H
  refine V.seq ?_
  refine V.region ?_
  refine W.rd (X.move rfl) rfl rfl rfl ?_
  obtain ⟨t1, A2, H⟩ := bind_s H
  refine W.ev (Y.call Try.func48 (by kernel_rfl) rfl (vs := [Value.pointer (some ⟨b0, 0, none⟩), Value.int .i64 (0)]) rfl (arq_Arq_fresh.calls a0 0 _ w0 _ b0 t1  A2 (Sep.St.tailJoin (m := [arq_Arq.at b0 a0]) (r := [R]) HS))) rfl rfl rfl ?_
  rintro _ w ⟨rfl, HS⟩
  replace HS := Sep.St.tailOpen (m := [arq_Arq.at b0 t1]) (r := [R]) HS
  refine W.nil ?_
  refine At.next ?_
  refine V.region ?_
  refine W.rd (X.move rfl) rfl rfl rfl ?_
  refine W.rd (X.move rfl) rfl rfl rfl ?_
  refine W.rd (X.nilCheck rfl) rfl rfl rfl ?_
  obtain ⟨b8_3, b9_3, b10_3, a11_3, c11_3, d11_3, a12_3, c12_3, hi4, HS⟩ := arq_Arq.open HS
  refine W.rd (X.fieldAddr 12 fo82_12 rfl) rfl rfl rfl ?_
  refine W.rd (X.loadAt 0 HS rfl Try.underlying34 rfl rfl rfl) rfl rfl rfl ?_
  refine W.ev (Y.litB (e := 3) (sz := 1) (vs := #[(0, Value.int .i64 (2))]) [Value.int .i64 (2)] HS (fun a ha => by simp only [List.map_toArray, List.map_cons, List.map_nil]; try rfl) rfl (by decide) (fun _ => by kernel_rfl)) rfl rfl rfl ?_
  rintro _ w ⟨lb7, rfl, HS⟩
  have HS : Sep.St [row 3 1 (.slice (some ⟨lb7, 0, none⟩) ([2] : List Int).length 1) ([2] : List Int).length (([2] : List Int).map (Value.int .i64)), blk b0 (#[Value.int .i64 t1.m, Value.int .i64 t1.t1, Value.int .i64 t1.n2, Value.int .i64 t1.size, Value.int .i64 t1.state, Value.int .i64 t1.tag, Value.int .i64 t1.tries, Value.bool t1.rejected, Value.pointer (some ⟨b8_3, 0, none⟩), Value.pointer (some ⟨b9_3, 0, none⟩), Value.pointer (some ⟨b10_3, 0, none⟩), Value.slice a11_3 t1.out.length c11_3, Value.slice a12_3 t1.inds.length c12_3, Value.int .i64 t1.sent, Value.int .i64 t1.acked, Value.int .i64 t1.lost]) 82, backlog_Log.at b8_3 t1.log, reorder_Order.at b9_3 t1.order, clock_Set.at b10_3 t1.timers, row 39 1 (.slice a11_3 t1.out.length c11_3) t1.out.length d11_3, tie (El.sl (El.int .u8)) d11_3 t1.out, row 3 1 (.slice a12_3 t1.inds.length c12_3) t1.inds.length (t1.inds.map (Value.int .i64)), R] w0 w := HS
  obtain ⟨c8, H⟩ := ite_n H
  refine W.ev (Y.appF (Value.int .i64) (fun _ => rfl) 7 Try.underlying34 ap3 rfl HS rfl rfl rfl (rdC.at 0 row_rd HS rfl) (by omega) (by omega)) rfl rfl rfl ?_
  rintro _ w ⟨ra9, rc10, rfl, HS⟩
  refine W.rd (X.nilCheck rfl) rfl rfl rfl ?_
  refine W.rd (X.fieldAddr 12 fo82_12 rfl) rfl rfl rfl ?_
  refine W.ev_none (Y.storeAt 1 HS rfl inf34 rfl rfl rfl rfl rfl rfl) rfl rfl ?_
  rintro _ w HS
  refine W.nil ?_
  replace HS := HS.re [1, 2, 3, 4, 5, 6, 7, 0, 8] (by kernel_rfl)
  replace HS := arq_Arq.close (({ m := t1.m, t1 := t1.t1, n2 := t1.n2, size := t1.size, state := t1.state, tag := t1.tag, tries := t1.tries, rejected := t1.rejected, log := t1.log, order := t1.order, timers := t1.timers, out := t1.out, inds := t1.inds ++ ([2] : List Int), sent := t1.sent, acked := t1.acked, lost := t1.lost } : arq_Arq)) trivial HS
  replace HS := HS.sel [0, 2] [1] (by kernel_rfl)
  cases H
  exact At.end0 rfl ⟨_, rfl, rfl, HS⟩

/-! ### (*signalman/arq.Arq).accepted: function 54 -/
def arq_Arq_accepted.f (k : Nat) (a0 : arq_Arq) : Option arq_Arq := (if a0.state = 1 then ((clock_Set_Stop.f a0.timers 0).bind fun t4 => (if (a0.inds.length : Int) + ([1] : List Int).length ≤ 1099511627776 then ((arq_Arq_pump.f k ({ m := a0.m, t1 := a0.t1, n2 := a0.n2, size := a0.size, state := 2, tag := a0.tag, tries := 0, rejected := a0.rejected, log := a0.log, order := a0.order, timers := t4.2, out := a0.out, inds := a0.inds ++ ([1] : List Int), sent := a0.sent, acked := a0.acked, lost := a0.lost } : arq_Arq)).bind fun t12 => some t12) else none)) else (if a0.state = 3 then ((arq_Arq_end.f a0).bind fun t15 => some t15) else some a0))
set_option maxRecDepth 100000 in
set_option maxHeartbeats 4000000 in
theorem arq_Arq_accepted.calls (k : Nat) (a0 : arq_Arq) (R : As) (w0 w : World) (b0 : Nat) (r : arq_Arq)  (H : arq_Arq_accepted.f k a0 = some r) (HS : Sep.St [arq_Arq.at b0 a0, R] w0 w) : Calls Try.prog 54 #[Value.pointer (some ⟨b0, 0, none⟩)] w (Ret fun u w => u = Value.tuple #[] ∧ Sep.St [arq_Arq.at b0 r, R] w0 w) := by
  unfold arq_Arq_accepted.f at H
  refine calls_enter Try.func54 rfl rfl ?_
  have H : _ = some r := H
  refine V.seq ?_
  refine V.region ?_
  refine W.rd (X.move rfl) rfl rfl rfl ?_
  refine W.rd (X.nilCheck rfl) rfl rfl rfl ?_
  obtain ⟨b8_1, b9_1, b10_1, a11_1, c11_1, d11_1, a12_1, c12_1, hi2, HS⟩ := arq_Arq.open HS
  refine W.rd (X.fieldAddr 4 fo82_4 rfl) rfl rfl rfl ?_
  refine W.rd (X.loadAt 0 HS rfl Try.underlying3 rfl rfl rfl) rfl rfl rfl ?_
  refine W.nil ?_
  refine At.next ?_
  refine V.block ?_
  refine V.seq ?_
  refine V.region ?_
  refine W.rd (X.cmp (decide (a0.state = 1)) rfl rfl rfl rfl) rfl rfl rfl ?_
  refine W.rd (X.assign rfl) rfl rfl rfl ?_
  refine W.nil ?_
  refine At.next ?_
  by_cases c3 : a0.state = 1
  · replace H := ite_t c3 H
    refine V.condT (sb (decide_eq_true c3)) ?_
    refine V.seq ?_
    refine V.region ?_
    refine W.rd (X.move rfl) rfl rfl rfl ?_
    refine W.rd (X.move rfl) rfl rfl rfl ?_
    refine W.rd (X.nilCheck rfl) rfl rfl rfl ?_
    refine W.rd (X.fieldAddr 4 fo82_4 rfl) rfl rfl rfl ?_
    refine W.ev_none (Y.storeAt 0 HS rfl inf3 rfl rfl rfl rfl rfl rfl) rfl rfl ?_
    rintro _ w HS
    refine W.rd (X.nilCheck rfl) rfl rfl rfl ?_
    refine W.rd (X.fieldAddr 6 fo82_6 rfl) rfl rfl rfl ?_
    refine W.ev_none (Y.storeAt 0 HS rfl inf3 rfl rfl rfl rfl rfl rfl) rfl rfl ?_
    rintro _ w HS
    refine W.nil ?_
    refine At.next ?_
    refine V.seq ?_
    refine V.region ?_
    refine W.rd (X.move rfl) rfl rfl rfl ?_
    refine W.rd (X.nilCheck rfl) rfl rfl rfl ?_
    refine W.rd (X.fieldAddr 10 fo82_10 rfl) rfl rfl rfl ?_
    refine W.rd (X.loadAt 0 HS rfl Try.underlying78 rfl rfl rfl) rfl rfl rfl ?_
    obtain ⟨t4, A5, H⟩ := bind_s H
    replace HS := HS.re [3, 0, 1, 2, 4, 5, 6, 7] (by kernel_rfl)
    refine W.ev (Y.call Try.func78 (by kernel_rfl) rfl (vs := [Value.pointer (some ⟨b10_1, 0, none⟩), Value.int .i64 (0)]) rfl (clock_Set_Stop.calls a0.timers 0 _ w0 _ b10_1 t4  A5 (Sep.St.tailJoin (m := [clock_Set.at b10_1 a0.timers]) (r := [blk b0 (#[Value.int .i64 a0.m, Value.int .i64 a0.t1, Value.int .i64 a0.n2, Value.int .i64 a0.size, Value.int .i64 (2), Value.int .i64 a0.tag, Value.int .i64 (0), Value.bool a0.rejected, Value.pointer (some ⟨b8_1, 0, none⟩), Value.pointer (some ⟨b9_1, 0, none⟩), Value.pointer (some ⟨b10_1, 0, none⟩), Value.slice a11_1 a0.out.length c11_1, Value.slice a12_1 a0.inds.length c12_1, Value.int .i64 a0.sent, Value.int .i64 a0.acked, Value.int .i64 a0.lost]) 82, backlog_Log.at b8_1 a0.log, reorder_Order.at b9_1 a0.order, row 39 1 (.slice a11_1 a0.out.length c11_1) a0.out.length d11_1, tie (El.sl (El.int .u8)) d11_1 a0.out, row 3 1 (.slice a12_1 a0.inds.length c12_1) a0.inds.length (a0.inds.map (Value.int .i64)), R]) HS))) rfl rfl rfl ?_
    rintro _ w ⟨rfl, HS⟩
    replace HS := Sep.St.tailOpen (m := [clock_Set.at b10_1 t4.2]) (r := [blk b0 (#[Value.int .i64 a0.m, Value.int .i64 a0.t1, Value.int .i64 a0.n2, Value.int .i64 a0.size, Value.int .i64 (2), Value.int .i64 a0.tag, Value.int .i64 (0), Value.bool a0.rejected, Value.pointer (some ⟨b8_1, 0, none⟩), Value.pointer (some ⟨b9_1, 0, none⟩), Value.pointer (some ⟨b10_1, 0, none⟩), Value.slice a11_1 a0.out.length c11_1, Value.slice a12_1 a0.inds.length c12_1, Value.int .i64 a0.sent, Value.int .i64 a0.acked, Value.int .i64 a0.lost]) 82, backlog_Log.at b8_1 a0.log, reorder_Order.at b9_1 a0.order, row 39 1 (.slice a11_1 a0.out.length c11_1) a0.out.length d11_1, tie (El.sl (El.int .u8)) d11_1 a0.out, row 3 1 (.slice a12_1 a0.inds.length c12_1) a0.inds.length (a0.inds.map (Value.int .i64)), R]) HS
    refine W.nil ?_
    refine At.next ?_
    refine V.seq ?_
    refine V.region ?_
    refine W.rd (X.move rfl) rfl rfl rfl ?_
    refine W.rd (X.move rfl) rfl rfl rfl ?_
    refine W.rd (X.nilCheck rfl) rfl rfl rfl ?_
    refine W.rd (X.fieldAddr 12 fo82_12 rfl) rfl rfl rfl ?_
    refine W.rd (X.loadAt 1 HS rfl Try.underlying34 rfl rfl rfl) rfl rfl rfl ?_
    refine W.ev (Y.litB (e := 3) (sz := 1) (vs := #[(0, Value.int .i64 (1))]) [Value.int .i64 (1)] HS (fun a ha => by simp only [List.map_toArray, List.map_cons, List.map_nil]; try rfl) rfl (by decide) (fun _ => by kernel_rfl)) rfl rfl rfl ?_
    rintro _ w ⟨lb8, rfl, HS⟩
    have HS : Sep.St [row 3 1 (.slice (some ⟨lb8, 0, none⟩) ([1] : List Int).length 1) ([1] : List Int).length (([1] : List Int).map (Value.int .i64)), clock_Set.at b10_1 t4.2, blk b0 (#[Value.int .i64 a0.m, Value.int .i64 a0.t1, Value.int .i64 a0.n2, Value.int .i64 a0.size, Value.int .i64 (2), Value.int .i64 a0.tag, Value.int .i64 (0), Value.bool a0.rejected, Value.pointer (some ⟨b8_1, 0, none⟩), Value.pointer (some ⟨b9_1, 0, none⟩), Value.pointer (some ⟨b10_1, 0, none⟩), Value.slice a11_1 a0.out.length c11_1, Value.slice a12_1 a0.inds.length c12_1, Value.int .i64 a0.sent, Value.int .i64 a0.acked, Value.int .i64 a0.lost]) 82, backlog_Log.at b8_1 a0.log, reorder_Order.at b9_1 a0.order, row 39 1 (.slice a11_1 a0.out.length c11_1) a0.out.length d11_1, tie (El.sl (El.int .u8)) d11_1 a0.out, row 3 1 (.slice a12_1 a0.inds.length c12_1) a0.inds.length (a0.inds.map (Value.int .i64)), R] w0 w := HS
    obtain ⟨c9, H⟩ := ite_n H
    refine W.ev (Y.appF (Value.int .i64) (fun _ => rfl) 7 Try.underlying34 ap3 rfl HS rfl rfl rfl (rdC.at 0 row_rd HS rfl) (by omega) (by omega)) rfl rfl rfl ?_
    rintro _ w ⟨ra10, rc11, rfl, HS⟩
    refine W.rd (X.nilCheck rfl) rfl rfl rfl ?_
    refine W.rd (X.fieldAddr 12 fo82_12 rfl) rfl rfl rfl ?_
    refine W.ev_none (Y.storeAt 2 HS rfl inf34 rfl rfl rfl rfl rfl rfl) rfl rfl ?_
    rintro _ w HS
    refine W.nil ?_
    refine At.next ?_
    refine V.region ?_
    refine W.rd (X.move rfl) rfl rfl rfl ?_
    replace HS := HS.re [2, 3, 4, 1, 5, 6, 7, 0, 8] (by kernel_rfl)
    replace HS := arq_Arq.close (({ m := a0.m, t1 := a0.t1, n2 := a0.n2, size := a0.size, state := 2, tag := a0.tag, tries := 0, rejected := a0.rejected, log := a0.log, order := a0.order, timers := t4.2, out := a0.out, inds := a0.inds ++ ([1] : List Int), sent := a0.sent, acked := a0.acked, lost := a0.lost } : arq_Arq)) trivial HS
    obtain ⟨t12, A13, H⟩ := bind_s H
    refine W.ev (Y.call Try.func70 (by kernel_rfl) rfl (vs := [Value.pointer (some ⟨b0, 0, none⟩)]) rfl (arq_Arq_pump.calls k ({ m := a0.m, t1 := a0.t1, n2 := a0.n2, size := a0.size, state := 2, tag := a0.tag, tries := 0, rejected := a0.rejected, log := a0.log, order := a0.order, timers := t4.2, out := a0.out, inds := a0.inds ++ ([1] : List Int), sent := a0.sent, acked := a0.acked, lost := a0.lost } : arq_Arq) _ w0 _ b0 t12  A13 (Sep.St.tailJoin (m := [arq_Arq.at b0 (({ m := a0.m, t1 := a0.t1, n2 := a0.n2, size := a0.size, state := 2, tag := a0.tag, tries := 0, rejected := a0.rejected, log := a0.log, order := a0.order, timers := t4.2, out := a0.out, inds := a0.inds ++ ([1] : List Int), sent := a0.sent, acked := a0.acked, lost := a0.lost } : arq_Arq))]) (r := [row 3 1 (.slice (some ⟨lb8, 0, none⟩) ([1] : List Int).length 1) ([1] : List Int).length (([1] : List Int).map (Value.int .i64)), R]) HS))) rfl rfl rfl ?_
    rintro _ w ⟨rfl, HS⟩
    replace HS := Sep.St.tailOpen (m := [arq_Arq.at b0 t12]) (r := [row 3 1 (.slice (some ⟨lb8, 0, none⟩) ([1] : List Int).length 1) ([1] : List Int).length (([1] : List Int).map (Value.int .i64)), R]) HS
    refine W.nil ?_
    refine At.blockEnd ?_
    replace HS := HS.sel [0, 2] [1] (by kernel_rfl)
    cases H
    exact At.end0 rfl ⟨_, rfl, rfl, HS⟩
  · replace H := ite_f c3 H
    refine V.condF (sb (decide_eq_false c3)) ?_
    refine V.seq ?_
    refine V.region ?_
    refine W.rd (X.cmp (decide (a0.state = 3)) rfl rfl rfl rfl) rfl rfl rfl ?_
    refine W.rd (X.assign rfl) rfl rfl rfl ?_
    refine W.nil ?_
    refine At.next ?_
    by_cases c14 : a0.state = 3
    · replace H := ite_t c14 H
      refine V.condT (sb (decide_eq_true c14)) ?_
      refine V.region ?_
      refine W.rd (X.move rfl) rfl rfl rfl ?_
      replace HS := arq_Arq.close a0 trivial HS
      obtain ⟨t15, A16, H⟩ := bind_s H
      refine W.ev (Y.call Try.func57 (by kernel_rfl) rfl (vs := [Value.pointer (some ⟨b0, 0, none⟩)]) rfl (arq_Arq_end.calls a0 _ w0 _ b0 t15  A16 (Sep.St.tailJoin (m := [arq_Arq.at b0 a0]) (r := [R]) HS))) rfl rfl rfl ?_
      rintro _ w ⟨rfl, HS⟩
      replace HS := Sep.St.tailOpen (m := [arq_Arq.at b0 t15]) (r := [R]) HS
      refine W.nil ?_
      refine At.blockEnd ?_
      cases H
      exact At.end0 rfl ⟨_, rfl, rfl, HS⟩
    · replace H := ite_f c14 H
      refine V.condF (sb (decide_eq_false c14)) ?_
      refine V.skip ?_
      refine At.blockEnd ?_
      replace HS := arq_Arq.close a0 trivial HS
      cases H
      exact At.end0 rfl ⟨_, rfl, rfl, HS⟩

/-! ### (*signalman/arq.Arq).closed: function 55 -/
mutual
def arq_Arq_closed.j0 (k : Nat) (a0 : arq_Arq) (a1 : Int) (x2 : Bool) (x3 : Bool) : Option arq_Arq := (if x3 = true then ((arq_Arq_put.f k a0 a1 ({ Kind := 6, Ns := 0, Nr := 0, Poll := false } : api_Ctl) ([] : List Int)).bind fun t6 => some t6) else ((arq_Arq_tell.f k a0 ({ Kind := 4, Ns := 0, Nr := 0, Poll := x2 } : api_Ctl)).bind fun t8 => ((arq_Arq_end.f t8).bind fun t10 => some t10)))
end
def arq_Arq_closed.f (k : Nat) (a0 : arq_Arq) (a1 : Int) (a2 : Bool) : Option arq_Arq := (if a1 = a0.tag then (if a0.state = 2 then (arq_Arq_closed.j0 k a0 a1 a2 false) else (arq_Arq_closed.j0 k a0 a1 a2 (!(decide (a0.state = 3))))) else (arq_Arq_closed.j0 k a0 a1 a2 true))
set_option maxRecDepth 100000 in
set_option maxHeartbeats 4000000 in
theorem arq_Arq_closed.calls (k : Nat) (a0 : arq_Arq) (a1 : Int) (a2 : Bool) (R : As) (w0 w : World) (b0 : Nat) (r : arq_Arq)  (H : arq_Arq_closed.f k a0 a1 a2 = some r) (HS : Sep.St [arq_Arq.at b0 a0, R] w0 w) : Calls Try.prog 55 #[Value.pointer (some ⟨b0, 0, none⟩), Value.int .i64 a1, Value.bool a2] w (Ret fun u w => u = Value.tuple #[] ∧ Sep.St [arq_Arq.at b0 r, R] w0 w) := by
  unfold arq_Arq_closed.f at H
  refine calls_enter Try.func55 rfl rfl ?_
  have H : _ = some r := H
  refine V.seq ?_
  refine V.meet (σ := Bool × Bool) (fun st w => match st with | (x2, x3) => Sep.St [arq_Arq.at b0 a0, R] w0 w ∧ ∃ kf4, kf4 ≤ k ∧ arq_Arq_closed.j0 kf4 a0 a1 x2 x3 = some r) (fun st => match st with | (x2, x3) => [(0, Value.pointer (some ⟨b0, 0, none⟩)), (1, Value.int .i64 a1), (2, Value.bool x2), (25, Value.bool x3)]) ?_ ?_
  · refine V.region ?_
    refine W.rd (X.move rfl) rfl rfl rfl ?_
    refine W.rd (X.move rfl) rfl rfl rfl ?_
    refine W.rd (X.nilCheck rfl) rfl rfl rfl ?_
    obtain ⟨b8_12, b9_12, b10_12, a11_12, c11_12, d11_12, a12_12, c12_12, hi13, HS⟩ := arq_Arq.open HS
    refine W.rd (X.fieldAddr 5 fo82_5 rfl) rfl rfl rfl ?_
    refine W.rd (X.loadAt 0 HS rfl Try.underlying3 rfl rfl rfl) rfl rfl rfl ?_
    refine W.rd (X.cmp (!(decide (a1 = a0.tag))) rfl rfl rfl rfl) rfl rfl rfl ?_
    refine W.rd (X.move rfl) rfl rfl rfl ?_
    by_cases c14 : a1 = a0.tag
    · replace H := ite_t c14 H
      refine W.want 12 rfl (sb (n_t (decide_eq_true c14))) ?_
      refine W.rd (X.move rfl) rfl rfl rfl ?_
      refine W.want 12 rfl (sb (n_t (decide_eq_true c14))) ?_
      refine W.rd (X.nilCheck rfl) rfl rfl rfl ?_
      refine W.want 12 rfl (sb (n_t (decide_eq_true c14))) ?_
      refine W.rd (X.fieldAddr 4 fo82_4 rfl) rfl rfl rfl ?_
      refine W.want 12 rfl (sb (n_t (decide_eq_true c14))) ?_
      refine W.rd (X.loadAt 0 HS rfl Try.underlying3 rfl rfl rfl) rfl rfl rfl ?_
      refine W.want 12 rfl (sb (n_t (decide_eq_true c14))) ?_
      refine W.rd (X.cmp (!(decide (a0.state = 2))) rfl rfl rfl rfl) rfl rfl rfl ?_
      refine W.want 12 rfl (sb (n_t (decide_eq_true c14))) ?_
      refine W.rd (X.move rfl) rfl rfl rfl ?_
      by_cases c15 : a0.state = 2
      · replace H := ite_t c15 H
        refine W.pass 18 rfl (sb (n_t (decide_eq_true c15))) rfl rfl ?_
        refine W.pass 18 rfl (sb (n_t (decide_eq_true c15))) rfl rfl ?_
        refine W.pass 18 rfl (sb (n_t (decide_eq_true c15))) rfl rfl ?_
        refine W.pass 18 rfl (sb (n_t (decide_eq_true c15))) rfl rfl ?_
        refine W.pass 18 rfl (sb (n_t (decide_eq_true c15))) rfl rfl ?_
        refine W.want 12 rfl (sb (n_t (decide_eq_true c14))) ?_
        refine W.rd (X.pickF (sb (n_t (decide_eq_true c15))) rfl) rfl rfl rfl ?_
        refine W.rd (X.pickF (sb (n_t (decide_eq_true c14))) rfl) rfl rfl rfl ?_
        refine W.nil ?_
        replace HS := arq_Arq.close a0 trivial HS
        exact At.meet (a2, false) ⟨rfl, rfl, rfl, rfl, trivial⟩ ⟨HS, k, by omega, H⟩
      · replace H := ite_f c15 H
        refine W.want 18 rfl (sb (n_f (decide_eq_false c15))) ?_
        refine W.rd (X.move rfl) rfl rfl rfl ?_
        refine W.want 18 rfl (sb (n_f (decide_eq_false c15))) ?_
        refine W.rd (X.nilCheck rfl) rfl rfl rfl ?_
        refine W.want 18 rfl (sb (n_f (decide_eq_false c15))) ?_
        refine W.rd (X.fieldAddr 4 fo82_4 rfl) rfl rfl rfl ?_
        refine W.want 18 rfl (sb (n_f (decide_eq_false c15))) ?_
        refine W.rd (X.loadAt 0 HS rfl Try.underlying3 rfl rfl rfl) rfl rfl rfl ?_
        refine W.want 18 rfl (sb (n_f (decide_eq_false c15))) ?_
        refine W.rd (X.cmp (!(decide (a0.state = 3))) rfl rfl rfl rfl) rfl rfl rfl ?_
        refine W.want 12 rfl (sb (n_t (decide_eq_true c14))) ?_
        refine W.rd (X.pickT (sb (n_f (decide_eq_false c15))) rfl) rfl rfl rfl ?_
        refine W.rd (X.pickF (sb (n_t (decide_eq_true c14))) rfl) rfl rfl rfl ?_
        refine W.nil ?_
        replace HS := arq_Arq.close a0 trivial HS
        exact At.meet (a2, !(decide (a0.state = 3))) ⟨rfl, rfl, rfl, rfl, trivial⟩ ⟨HS, k, by omega, H⟩
    · replace H := ite_f c14 H
      refine W.pass 12 rfl (sb (n_f (decide_eq_false c14))) rfl rfl ?_
      refine W.pass 12 rfl (sb (n_f (decide_eq_false c14))) rfl rfl ?_
      refine W.pass 12 rfl (sb (n_f (decide_eq_false c14))) rfl rfl ?_
      refine W.pass 12 rfl (sb (n_f (decide_eq_false c14))) rfl rfl ?_
      refine W.pass 12 rfl (sb (n_f (decide_eq_false c14))) rfl rfl ?_
      refine W.pass 12 rfl (sb (n_f (decide_eq_false c14))) rfl rfl ?_
      refine W.passU 18 rfl rfl rfl ?_
      refine W.passU 18 rfl rfl rfl ?_
      refine W.passU 18 rfl rfl rfl ?_
      refine W.passU 18 rfl rfl rfl ?_
      refine W.passU 18 rfl rfl rfl ?_
      refine W.pass 12 rfl (sb (n_f (decide_eq_false c14))) rfl rfl ?_
      refine W.rd (X.pickT (sb (n_f (decide_eq_false c14))) rfl) rfl rfl rfl ?_
      refine W.nil ?_
      replace HS := arq_Arq.close a0 trivial HS
      exact At.meet (a2, true) ⟨rfl, rfl, rfl, rfl, trivial⟩ ⟨HS, k, by omega, H⟩
  · rintro ⟨x2, x3⟩ w ⟨HS, kf4, hkkf4, H⟩
    unfold arq_Arq_closed.j0 at H
    by_cases c5 : x3 = true
    · replace H := ite_t c5 H
      refine V.condT (sb c5) ?_
      refine V.seq ?_
      refine V.region ?_
      refine W.rd (X.move rfl) rfl rfl rfl ?_
      refine W.rd (X.move rfl) rfl rfl rfl ?_
      refine W.rd (X.build (vs := #[(0, Value.int .i64 (6))]) (v := Value.agg #[Value.int .i64 (6), Value.int .i64 (0), Value.int .i64 (0), Value.bool false]) (fun a ha => by simp only [List.map_toArray, List.map_cons, List.map_nil]; try rfl) (fun _ => by kernel_rfl)) rfl rfl rfl ?_
      replace HS := row_nil' (e := 5) 1 none HS
      have HS : Sep.St [row 5 1 (.slice none ([] : List Int).length 0) ([] : List Int).length (([] : List Int).map (Value.int .u8)), arq_Arq.at b0 a0, R] w0 w := HS
      replace HS := St.row_freeze HS
      obtain ⟨t6, A7, H⟩ := bind_s H
      replace HS := HS.re [1, 0, 2] (by kernel_rfl)
      refine W.ev (Y.call Try.func74 (by kernel_rfl) rfl (vs := [Value.pointer (some ⟨b0, 0, none⟩), Value.int .i64 a1, Value.agg #[Value.int .i64 (6), Value.int .i64 (0), Value.int .i64 (0), Value.bool false], Value.slice none ([] : List Int).length 0]) rfl (arq_Arq_put.calls kf4 a0 a1 ({ Kind := 6, Ns := 0, Nr := 0, Poll := false } : api_Ctl) ([] : List Int) _ w0 _ b0 none 0 t6  A7 (Sep.St.tailJoin (m := [arq_Arq.at b0 a0, fsl 1 (.slice none ([] : List Int).length 0) ([] : List Int).length (([] : List Int).map (Value.int .u8))]) (r := [R]) HS))) rfl rfl rfl ?_
      rintro _ w ⟨rfl, HS⟩
      replace HS := Sep.St.tailOpen (m := [arq_Arq.at b0 t6]) (r := [R]) HS
      refine W.nil ?_
      refine At.next ?_
      refine V.ret ?_
      refine At.thenRet ?_
      cases H
      exact At.ret0 rfl ⟨_, rfl, rfl, HS⟩
    · replace H := ite_f c5 H
      refine V.condF (sb (b_f c5)) ?_
      refine V.skip ?_
      refine At.next ?_
      refine V.seq ?_
      refine V.region ?_
      refine W.rd (X.move rfl) rfl rfl rfl ?_
      refine W.rd (X.move rfl) rfl rfl rfl ?_
      refine W.rd (X.build (vs := #[(0, Value.int .i64 (4)), (3, Value.bool x2)]) (v := Value.agg #[Value.int .i64 (4), Value.int .i64 (0), Value.int .i64 (0), Value.bool x2]) (fun a ha => by simp only [List.map_toArray, List.map_cons, List.map_nil]; rw [ha.ev (x := .tmp 31) (v := Value.bool x2) rfl]; try rfl) (fun _ => by kernel_rfl)) rfl rfl rfl ?_
      obtain ⟨t8, A9, H⟩ := bind_s H
      refine W.ev (Y.call Try.func46 (by kernel_rfl) rfl (vs := [Value.pointer (some ⟨b0, 0, none⟩), Value.agg #[Value.int .i64 (4), Value.int .i64 (0), Value.int .i64 (0), Value.bool x2]]) rfl (arq_Arq_tell.calls kf4 a0 ({ Kind := 4, Ns := 0, Nr := 0, Poll := x2 } : api_Ctl) _ w0 _ b0 t8  A9 (Sep.St.tailJoin (m := [arq_Arq.at b0 a0]) (r := [R]) HS))) rfl rfl rfl ?_
      rintro _ w ⟨rfl, HS⟩
      replace HS := Sep.St.tailOpen (m := [arq_Arq.at b0 t8]) (r := [R]) HS
      refine W.nil ?_
      refine At.next ?_
      refine V.region ?_
      refine W.rd (X.move rfl) rfl rfl rfl ?_
      obtain ⟨t10, A11, H⟩ := bind_s H
      refine W.ev (Y.call Try.func57 (by kernel_rfl) rfl (vs := [Value.pointer (some ⟨b0, 0, none⟩)]) rfl (arq_Arq_end.calls t8 _ w0 _ b0 t10  A11 (Sep.St.tailJoin (m := [arq_Arq.at b0 t8]) (r := [R]) HS))) rfl rfl rfl ?_
      rintro _ w ⟨rfl, HS⟩
      replace HS := Sep.St.tailOpen (m := [arq_Arq.at b0 t10]) (r := [R]) HS
      refine W.nil ?_
      cases H
      exact At.end0 rfl ⟨_, rfl, rfl, HS⟩

/-! ### (*signalman/arq.Arq).refused: function 56 -/
mutual
def arq_Arq_refused.j1 (a0 : arq_Arq) (a1 : Int) (x7 : Bool) : Option arq_Arq := (if x7 = true then ((arq_Arq_end.f ({ m := a0.m, t1 := a0.t1, n2 := a0.n2, size := a0.size, state := a0.state, tag := a1, tries := a0.tries, rejected := a0.rejected, log := a0.log, order := a0.order, timers := a0.timers, out := a0.out, inds := a0.inds, sent := a0.sent, acked := a0.acked, lost := a0.lost } : arq_Arq)).bind fun t12 => some t12) else some a0)
def arq_Arq_refused.j0 (a0 : arq_Arq) (a1 : Int) (x2 : Bool) : Option arq_Arq := (if x2 = true then ((arq_Arq_end.f a0).bind fun t5 => some t5) else (if a0.state = 1 then ((arq_Arq_ahead.f a0 a1).bind fun t17 => (arq_Arq_refused.j1 a0 a1 t17)) else (arq_Arq_refused.j1 a0 a1 false)))
end
def arq_Arq_refused.f (a0 : arq_Arq) (a1 : Int) : Option arq_Arq := (if a1 = a0.tag then (arq_Arq_refused.j0 a0 a1 (!(decide (a0.state = 0)))) else (arq_Arq_refused.j0 a0 a1 false))
set_option maxRecDepth 100000 in
set_option maxHeartbeats 4000000 in
theorem arq_Arq_refused.calls (a0 : arq_Arq) (a1 : Int) (R : As) (w0 w : World) (b0 : Nat) (r : arq_Arq)  (H : arq_Arq_refused.f a0 a1 = some r) (HS : Sep.St [arq_Arq.at b0 a0, R] w0 w) : Calls Try.prog 56 #[Value.pointer (some ⟨b0, 0, none⟩), Value.int .i64 a1] w (Ret fun u w => u = Value.tuple #[] ∧ Sep.St [arq_Arq.at b0 r, R] w0 w) := by
  unfold arq_Arq_refused.f at H
  refine calls_enter Try.func56 rfl rfl ?_
  have H : _ = some r := H
  refine V.block ?_
  refine V.meet (σ := Bool) (fun st w => match st with | x2 => Sep.St [arq_Arq.at b0 a0, R] w0 w ∧ arq_Arq_refused.j0 a0 a1 x2 = some r) (fun st => match st with | x2 => [(0, Value.pointer (some ⟨b0, 0, none⟩)), (1, Value.int .i64 a1), (4, Value.bool x2)]) ?_ ?_
  · refine V.region ?_
    refine W.rd (X.move rfl) rfl rfl rfl ?_
    refine W.rd (X.move rfl) rfl rfl rfl ?_
    refine W.rd (X.nilCheck rfl) rfl rfl rfl ?_
    obtain ⟨b8_19, b9_19, b10_19, a11_19, c11_19, d11_19, a12_19, c12_19, hi20, HS⟩ := arq_Arq.open HS
    refine W.rd (X.fieldAddr 5 fo82_5 rfl) rfl rfl rfl ?_
    refine W.rd (X.loadAt 0 HS rfl Try.underlying3 rfl rfl rfl) rfl rfl rfl ?_
    refine W.rd (X.cmp (decide (a1 = a0.tag)) rfl rfl rfl rfl) rfl rfl rfl ?_
    refine W.rd (X.move rfl) rfl rfl rfl ?_
    by_cases c21 : a1 = a0.tag
    · replace H := ite_t c21 H
      refine W.want 11 rfl (sb (decide_eq_true c21)) ?_
      refine W.rd (X.move rfl) rfl rfl rfl ?_
      refine W.want 11 rfl (sb (decide_eq_true c21)) ?_
      refine W.rd (X.nilCheck rfl) rfl rfl rfl ?_
      refine W.want 11 rfl (sb (decide_eq_true c21)) ?_
      refine W.rd (X.fieldAddr 4 fo82_4 rfl) rfl rfl rfl ?_
      refine W.want 11 rfl (sb (decide_eq_true c21)) ?_
      refine W.rd (X.loadAt 0 HS rfl Try.underlying3 rfl rfl rfl) rfl rfl rfl ?_
      refine W.want 11 rfl (sb (decide_eq_true c21)) ?_
      refine W.rd (X.cmp (!(decide (a0.state = 0))) rfl rfl rfl rfl) rfl rfl rfl ?_
      refine W.rd (X.pickT (sb (decide_eq_true c21)) rfl) rfl rfl rfl ?_
      refine W.rd (X.assign rfl) rfl rfl rfl ?_
      refine W.nil ?_
      replace HS := arq_Arq.close a0 trivial HS
      exact At.meet (!(decide (a0.state = 0))) ⟨rfl, rfl, rfl, trivial⟩ ⟨HS, H⟩
    · replace H := ite_f c21 H
      refine W.pass 11 rfl (sb (decide_eq_false c21)) rfl rfl ?_
      refine W.pass 11 rfl (sb (decide_eq_false c21)) rfl rfl ?_
      refine W.pass 11 rfl (sb (decide_eq_false c21)) rfl rfl ?_
      refine W.pass 11 rfl (sb (decide_eq_false c21)) rfl rfl ?_
      refine W.pass 11 rfl (sb (decide_eq_false c21)) rfl rfl ?_
      refine W.rd (X.pickF (sb (decide_eq_false c21)) rfl) rfl rfl rfl ?_
      refine W.rd (X.assign rfl) rfl rfl rfl ?_
      refine W.nil ?_
      replace HS := arq_Arq.close a0 trivial HS
      exact At.meet false ⟨rfl, rfl, rfl, trivial⟩ ⟨HS, H⟩
  · rintro x2 w ⟨HS, H⟩
    unfold arq_Arq_refused.j0 at H
    by_cases c4 : x2 = true
    · replace H := ite_t c4 H
      refine V.condT (sb c4) ?_
      refine V.region ?_
      refine W.rd (X.move rfl) rfl rfl rfl ?_
      obtain ⟨t5, A6, H⟩ := bind_s H
      refine W.ev (Y.call Try.func57 (by kernel_rfl) rfl (vs := [Value.pointer (some ⟨b0, 0, none⟩)]) rfl (arq_Arq_end.calls a0 _ w0 _ b0 t5  A6 (Sep.St.tailJoin (m := [arq_Arq.at b0 a0]) (r := [R]) HS))) rfl rfl rfl ?_
      rintro _ w ⟨rfl, HS⟩
      replace HS := Sep.St.tailOpen (m := [arq_Arq.at b0 t5]) (r := [R]) HS
      refine W.nil ?_
      refine At.blockEnd ?_
      cases H
      exact At.end0 rfl ⟨_, rfl, rfl, HS⟩
    · replace H := ite_f c4 H
      refine V.condF (sb (b_f c4)) ?_
      refine V.meet (σ := Bool) (fun st w => match st with | x7 => Sep.St [arq_Arq.at b0 a0, R] w0 w ∧ arq_Arq_refused.j1 a0 a1 x7 = some r) (fun st => match st with | x7 => [(0, Value.pointer (some ⟨b0, 0, none⟩)), (1, Value.int .i64 a1), (20, Value.bool x7)]) ?_ ?_
      · refine V.region ?_
        refine W.rd (X.move rfl) rfl rfl rfl ?_
        refine W.rd (X.nilCheck rfl) rfl rfl rfl ?_
        obtain ⟨b8_14, b9_14, b10_14, a11_14, c11_14, d11_14, a12_14, c12_14, hi15, HS⟩ := arq_Arq.open HS
        refine W.rd (X.fieldAddr 4 fo82_4 rfl) rfl rfl rfl ?_
        refine W.rd (X.loadAt 0 HS rfl Try.underlying3 rfl rfl rfl) rfl rfl rfl ?_
        refine W.rd (X.cmp (decide (a0.state = 1)) rfl rfl rfl rfl) rfl rfl rfl ?_
        refine W.rd (X.move rfl) rfl rfl rfl ?_
        by_cases c16 : a0.state = 1
        · replace H := ite_t c16 H
          refine W.want 26 rfl (sb (decide_eq_true c16)) ?_
          refine W.rd (X.move rfl) rfl rfl rfl ?_
          refine W.want 26 rfl (sb (decide_eq_true c16)) ?_
          refine W.rd (X.move rfl) rfl rfl rfl ?_
          refine W.want 26 rfl (sb (decide_eq_true c16)) ?_
          obtain ⟨t17, A18, H⟩ := bind_s H
          refine W.ev (Y.call Try.func89 (by kernel_rfl) rfl (vs := [Value.pointer (some ⟨b0, 0, none⟩), Value.int .i64 a1]) rfl (arq_Arq_ahead.calls a0 a1 _ w0 _ b0 b8_14 b9_14 b10_14 a11_14 c11_14 d11_14 a12_14 c12_14 t17  A18 (Sep.St.tailJoin (m := [blk b0 (#[Value.int .i64 a0.m, Value.int .i64 a0.t1, Value.int .i64 a0.n2, Value.int .i64 a0.size, Value.int .i64 a0.state, Value.int .i64 a0.tag, Value.int .i64 a0.tries, Value.bool a0.rejected, Value.pointer (some ⟨b8_14, 0, none⟩), Value.pointer (some ⟨b9_14, 0, none⟩), Value.pointer (some ⟨b10_14, 0, none⟩), Value.slice a11_14 a0.out.length c11_14, Value.slice a12_14 a0.inds.length c12_14, Value.int .i64 a0.sent, Value.int .i64 a0.acked, Value.int .i64 a0.lost]) 82, backlog_Log.at b8_14 a0.log, reorder_Order.at b9_14 a0.order, clock_Set.at b10_14 a0.timers, row 39 1 (.slice a11_14 a0.out.length c11_14) a0.out.length d11_14, tie (El.sl (El.int .u8)) d11_14 a0.out, row 3 1 (.slice a12_14 a0.inds.length c12_14) a0.inds.length (a0.inds.map (Value.int .i64))]) (r := [R]) HS))) rfl rfl rfl ?_
          rintro _ w ⟨rfl, HS⟩
          replace HS := Sep.St.tailOpen (m := [blk b0 (#[Value.int .i64 a0.m, Value.int .i64 a0.t1, Value.int .i64 a0.n2, Value.int .i64 a0.size, Value.int .i64 a0.state, Value.int .i64 a0.tag, Value.int .i64 a0.tries, Value.bool a0.rejected, Value.pointer (some ⟨b8_14, 0, none⟩), Value.pointer (some ⟨b9_14, 0, none⟩), Value.pointer (some ⟨b10_14, 0, none⟩), Value.slice a11_14 a0.out.length c11_14, Value.slice a12_14 a0.inds.length c12_14, Value.int .i64 a0.sent, Value.int .i64 a0.acked, Value.int .i64 a0.lost]) 82, backlog_Log.at b8_14 a0.log, reorder_Order.at b9_14 a0.order, clock_Set.at b10_14 a0.timers, row 39 1 (.slice a11_14 a0.out.length c11_14) a0.out.length d11_14, tie (El.sl (El.int .u8)) d11_14 a0.out, row 3 1 (.slice a12_14 a0.inds.length c12_14) a0.inds.length (a0.inds.map (Value.int .i64))]) (r := [R]) HS
          refine W.rd (X.pickT (sb (decide_eq_true c16)) rfl) rfl rfl rfl ?_
          refine W.rd (X.assign rfl) rfl rfl rfl ?_
          refine W.nil ?_
          replace HS := arq_Arq.close a0 trivial HS
          exact At.meet t17 ⟨rfl, rfl, rfl, trivial⟩ ⟨HS, H⟩
        · replace H := ite_f c16 H
          refine W.pass 26 rfl (sb (decide_eq_false c16)) rfl rfl ?_
          refine W.pass 26 rfl (sb (decide_eq_false c16)) rfl rfl ?_
          refine W.pass 26 rfl (sb (decide_eq_false c16)) rfl rfl ?_
          refine W.rd (X.pickF (sb (decide_eq_false c16)) rfl) rfl rfl rfl ?_
          refine W.rd (X.assign rfl) rfl rfl rfl ?_
          refine W.nil ?_
          replace HS := arq_Arq.close a0 trivial HS
          exact At.meet false ⟨rfl, rfl, rfl, trivial⟩ ⟨HS, H⟩
      · rintro x7 w ⟨HS, H⟩
        unfold arq_Arq_refused.j1 at H
        by_cases c9 : x7 = true
        · replace H := ite_t c9 H
          refine V.condT (sb c9) ?_
          refine V.seq ?_
          refine V.region ?_
          refine W.rd (X.move rfl) rfl rfl rfl ?_
          refine W.rd (X.move rfl) rfl rfl rfl ?_
          refine W.rd (X.nilCheck rfl) rfl rfl rfl ?_
          obtain ⟨b8_10, b9_10, b10_10, a11_10, c11_10, d11_10, a12_10, c12_10, hi11, HS⟩ := arq_Arq.open HS
          refine W.rd (X.fieldAddr 5 fo82_5 rfl) rfl rfl rfl ?_
          refine W.ev_none (Y.storeAt 0 HS rfl inf3 rfl rfl rfl rfl rfl rfl) rfl rfl ?_
          rintro _ w HS
          refine W.nil ?_
          refine At.next ?_
          refine V.region ?_
          refine W.rd (X.move rfl) rfl rfl rfl ?_
          replace HS := arq_Arq.close ({ m := a0.m, t1 := a0.t1, n2 := a0.n2, size := a0.size, state := a0.state, tag := a1, tries := a0.tries, rejected := a0.rejected, log := a0.log, order := a0.order, timers := a0.timers, out := a0.out, inds := a0.inds, sent := a0.sent, acked := a0.acked, lost := a0.lost } : arq_Arq) trivial HS
          obtain ⟨t12, A13, H⟩ := bind_s H
          refine W.ev (Y.call Try.func57 (by kernel_rfl) rfl (vs := [Value.pointer (some ⟨b0, 0, none⟩)]) rfl (arq_Arq_end.calls ({ m := a0.m, t1 := a0.t1, n2 := a0.n2, size := a0.size, state := a0.state, tag := a1, tries := a0.tries, rejected := a0.rejected, log := a0.log, order := a0.order, timers := a0.timers, out := a0.out, inds := a0.inds, sent := a0.sent, acked := a0.acked, lost := a0.lost } : arq_Arq) _ w0 _ b0 t12  A13 (Sep.St.tailJoin (m := [arq_Arq.at b0 ({ m := a0.m, t1 := a0.t1, n2 := a0.n2, size := a0.size, state := a0.state, tag := a1, tries := a0.tries, rejected := a0.rejected, log := a0.log, order := a0.order, timers := a0.timers, out := a0.out, inds := a0.inds, sent := a0.sent, acked := a0.acked, lost := a0.lost } : arq_Arq)]) (r := [R]) HS))) rfl rfl rfl ?_
          rintro _ w ⟨rfl, HS⟩
          replace HS := Sep.St.tailOpen (m := [arq_Arq.at b0 t12]) (r := [R]) HS
          refine W.nil ?_
          refine At.blockEnd ?_
          cases H
          exact At.end0 rfl ⟨_, rfl, rfl, HS⟩
        · replace H := ite_f c9 H
          refine V.condF (sb (b_f c9)) ?_
          refine V.skip ?_
          refine At.blockEnd ?_
          cases H
          exact At.end0 rfl ⟨_, rfl, rfl, HS⟩

/-! ### slices.Delete[[][]byte,[]byte]: function 108 -/
def slices_Delete_SSbyteSbyte.f (a0 : List (List Int)) (a1 : Int) (a2 : Int) : Option (List (List Int)) := (if 0 ≤ a1 ∧ a1 ≤ a2 ∧ a2 ≤ (a0.length : Int) then (if a1 = a2 then some a0 else (if 0 ≤ (0 : Int) ∧ (0 : Int) ≤ a1 ∧ a1 ≤ (a0.length : Int) then (if 0 ≤ a2 ∧ a2 ≤ (a0.length : Int) ∧ (a0.length : Int) ≤ (a0.length : Int) then some ((cut a0 (0 : Int) a1) ++ (cut a0 a2 (a0.length : Int))) else none) else none)) else none)
set_option maxRecDepth 100000 in
set_option maxHeartbeats 4000000 in
theorem slices_Delete_SSbyteSbyte.calls (a0 : List (List Int)) (a1 : Int) (a2 : Int) (R : As) (w0 w : World) (sa0 : Option Addr) (sc0 : Nat) (sd0 : List Value) (r : List (List Int))  (H : slices_Delete_SSbyteSbyte.f a0 a1 a2 = some r) (HS : Sep.St [row 39 1 (.slice sa0 a0.length sc0) a0.length sd0, tie (El.sl (El.int .u8)) sd0 a0, R] w0 w) : Calls Try.prog 108 #[Value.slice sa0 a0.length sc0, Value.int .i64 a1, Value.int .i64 a2] w (Ret fun u w => ∃ (aq0 : Option Addr) (cq0 : Nat) (dq0 : List Value), u = Value.slice aq0 r.length cq0 ∧ Sep.St [row 39 1 (.slice aq0 r.length cq0) r.length dq0, tie (El.sl (El.int .u8)) dq0 r, R] w0 w) := by
  unfold slices_Delete_SSbyteSbyte.f at H
  refine calls_enter Try.func108 rfl rfl ?_
  have H : _ = some r := H
  refine V.seq ?_
  refine V.region ?_
  refine W.rd (X.assign rfl) rfl rfl rfl ?_
  refine W.nil ?_
  refine At.next ?_
  refine V.seq ?_
  refine V.region ?_
  refine W.rd (X.move rfl) rfl rfl rfl ?_
  refine W.rd (X.move rfl) rfl rfl rfl ?_
  refine W.rd (X.move rfl) rfl rfl rfl ?_
  refine W.rd (X.move rfl) rfl rfl rfl ?_
  refine W.rd (X.lenSl Try.underlying30 rfl) rfl rfl rfl ?_
  obtain ⟨c1, H⟩ := ite_n H
  refine W.rd (X.sl3 Try.underlying30 inf39 rfl rfl rfl rfl c1 (Int.ofNat_le.2 (rdC.at 0 row_rd HS rfl).cap)) rfl rfl rfl ?_
  refine W.nil ?_
  refine At.next ?_
  refine V.seq ?_
  refine V.seq ?_
  refine V.region ?_
  refine W.rd (X.move rfl) rfl rfl rfl ?_
  refine W.rd (X.move rfl) rfl rfl rfl ?_
  refine W.rd (X.cmp (decide (a1 = a2)) rfl rfl rfl rfl) rfl rfl rfl ?_
  refine W.nil ?_
  refine At.next ?_
  by_cases c4 : a1 = a2
  · replace H := ite_t c4 H
    refine V.condT (sb (decide_eq_true c4)) ?_
    refine V.seq ?_
    refine V.region ?_
    refine W.rd (X.move rfl) rfl rfl rfl ?_
    refine W.rd (X.assign rfl) rfl rfl rfl ?_
    refine W.nil ?_
    refine At.next ?_
    refine V.ret ?_
    refine At.thenRet ?_
    cases H
    exact At.ret1 rfl rfl ⟨_, rfl, sa0, sc0, sd0, rfl, HS⟩
  · replace H := ite_f c4 H
    refine V.condF (sb (decide_eq_false c4)) ?_
    refine V.skip ?_
    refine At.next ?_
    refine V.seq ?_
    refine V.region ?_
    refine W.rd (X.move rfl) rfl rfl rfl ?_
    refine W.rd (X.lenSl Try.underlying30 rfl) rfl rfl rfl ?_
    refine W.rd (X.assign rfl) rfl rfl rfl ?_
    refine W.nil ?_
    refine At.next ?_
    refine V.seq ?_
    obtain ⟨c5, H⟩ := ite_n H
    obtain ⟨c6, H⟩ := ite_n H
    refine V.draw (es := [6]) (bl := [7]) (f := [(20, Value.slice sa0 a0.length sc0), (21, Value.int .i64 a1), (22, Value.slice (vaddr sa0 sc0 (0 : Int).toNat 1) (cut a0 (0 : Int) a1).length (sc0 - (0 : Int).toNat)), (23, Value.slice sa0 a0.length sc0), (24, Value.int .i64 a2), (25, Value.slice (vaddr sa0 sc0 a2.toNat 1) (cut a0 a2 (a0.length : Int)).length (sc0 - a2.toNat))]) (fun w => Sep.St [row 39 1 (.slice sa0 a0.length sc0) a0.length sd0, tie (El.sl (El.int .u8)) sd0 a0, R] w0 w) mo HS.drew rfl ?_
    refine T.event _ [(22, Value.slice (vaddr sa0 sc0 (0 : Int).toNat 1) (cut a0 (0 : Int) a1).length (sc0 - (0 : Int).toNat)), (25, Value.slice (vaddr sa0 sc0 a2.toNat 1) (cut a0 a2 (a0.length : Int)).length (sc0 - a2.toNat))] rfl rfl ⟨.m1 0 rfl (.l rfl rfl) (fun w HS => X.move rfl) rfl rfl rfl rfl rfl, .m1 1 rfl (.l rfl rfl) (fun w HS => X.move rfl) rfl rfl rfl rfl rfl, .m2 20 21 rfl (.r rfl rfl) (.r rfl rfl) (fun w HS => X.slH Try.underlying30 inf39 rfl rfl c5 (rdC.at 0 row_rd HS rfl).cap) rfl rfl rfl rfl rfl, .m1 0 rfl (.l rfl rfl) (fun w HS => X.move rfl) rfl rfl rfl rfl rfl, .m1 2 rfl (.l rfl rfl) (fun w HS => X.move rfl) rfl rfl rfl rfl rfl, .m2 23 24 rfl (.r rfl rfl) (.r rfl rfl) (fun w HS => X.slL Try.underlying30 inf39 rfl rfl c6) rfl rfl rfl rfl rfl, trivial⟩ rfl ⟨.inr ⟨rfl, rfl⟩, ⟨.inr ⟨rfl, rfl⟩, trivial⟩⟩ (Or.inl rfl) (by intro d hd; cases hd; exact ⟨by decide, rfl, rfl⟩) [] [0, 1, 2, 3, 4, 5] rfl rfl (fun w HS => ?_)
    have hlt7 : a1 < a2 := by omega
    have hd8 : 0 ≤ a1 ∧ a1 < a2 ∧ a2 ≤ (a0.length : Int) := by omega
    have hc9 : (a0.length : Int) ≤ (sc0 : Int) := Int.ofNat_le.2 (rdC.at 0 row_rd HS rfl).cap
    have hl10 : (((cut a0 (0 : Int) a1) ++ (cut a0 a2 (a0.length : Int))).length : Int) ≤ (a0.length : Int) := by rw [List.length_append, cut_len ⟨by omega, by omega, by omega⟩, cut_len ⟨by omega, by omega, by omega⟩]; omega
    refine ⟨_, Y.appDel (xs := a0) 0 Try.underlying30 ap39 (by decide) HS rfl hd8 rfl rfl (St.tie_one 1 HS rfl), ?_⟩
    rintro _ w ⟨rfl, HS⟩
    replace HS := St.tie_cut2 1 a2 (a0.length : Int) HS rfl
    replace HS := HS.front 2 rfl
    replace HS := St.tie_cut (0 : Int) a1 HS
    replace HS := St.tie_app 1 HS rfl
    refine ⟨[(26, Value.slice sa0 ((cut a0 (0 : Int) a1) ++ (cut a0 a2 (a0.length : Int))).length sc0), (0, Value.slice sa0 ((cut a0 (0 : Int) a1) ++ (cut a0 a2 (a0.length : Int))).length sc0)], _, ⟨.inl ⟨rfl, rfl⟩, ⟨.inr ⟨by decide, rfl⟩, trivial⟩⟩, ?_, HS⟩
    refine T.fin [(0, Value.slice sa0 ((cut a0 (0 : Int) a1) ++ (cut a0 a2 (a0.length : Int))).length sc0), (7, Value.int .i64 (a0.length : Int))] rfl ⟨.m1 26 rfl (.r rfl rfl) (fun w HS => X.assign rfl) rfl rfl rfl rfl rfl, trivial⟩ ⟨.inr ⟨rfl, rfl⟩, ⟨.inl ⟨rfl, rfl⟩, trivial⟩⟩ (fun w HS => ?_)
    refine At.next ?_
    refine V.seq ?_
    refine V.region ?_
    refine W.rd (X.move rfl) rfl rfl rfl ?_
    refine W.rd (X.move rfl) rfl rfl rfl ?_
    refine W.rd (X.lenSl Try.underlying30 rfl) rfl rfl rfl ?_
    refine W.rd (X.move rfl) rfl rfl rfl ?_
    refine W.rd (X.slC Try.underlying30 inf39 rfl rfl rfl ⟨by omega, hl10⟩ hc9) rfl rfl rfl ?_
    refine W.ev_none (Y.clearTail (n0 := a0.length) 2 Try.underlying30 ap39 rfl rfl HS rfl (Int.ofNat_le.1 hl10) (Int.ofNat_le.1 hc9) rfl) rfl rfl ?_
    rintro _ w HS
    refine W.nil ?_
    refine At.next ?_
    refine V.seq ?_
    refine V.region ?_
    refine W.rd (X.move rfl) rfl rfl rfl ?_
    refine W.rd (X.assign rfl) rfl rfl rfl ?_
    refine W.nil ?_
    refine At.next ?_
    refine V.ret ?_
    replace HS := HS.sel [2, 0, 3] [1] (by kernel_rfl)
    cases H
    exact At.ret1 rfl rfl ⟨_, rfl, sa0, sc0, ((cutC 1 sd0 (0 : Int) a1) ++ (cutC 1 sd0 a2 (a0.length : Int))), rfl, HS⟩

/-! ### (*signalman/backlog.Log).Ack: function 101 -/
mutual
def backlog_Log_Ack.j0 (a0 : backlog_Log) (t3 : Int) (x8 : Bool) : Option (Int × Bool × backlog_Log) := (if x8 = true then some (0, false, a0) else ((slices_Delete_SSbyteSbyte.f a0.l 0 t3).bind fun t13 => ((backlog_Log_number.f ({ m := a0.m, window := a0.window, queue := a0.queue, first := a0.first, out := w64 (a0.out - t3), l := t13 } : backlog_Log) t3).bind fun t15 => some (t3, true, ({ m := a0.m, window := a0.window, queue := a0.queue, first := t15, out := w64 (a0.out - t3), l := t13 } : backlog_Log)))))
end
def backlog_Log_Ack.f (a0 : backlog_Log) (a1 : Int) : Option (Int × Bool × backlog_Log) := ((serial_Dist.f a0.first a1 a0.m).bind fun t3 => (if a1 < 0 then (backlog_Log_Ack.j0 a0 t3 true) else (if a1 ≥ a0.m then (backlog_Log_Ack.j0 a0 t3 true) else (backlog_Log_Ack.j0 a0 t3 (decide (t3 > a0.out))))))
set_option maxRecDepth 100000 in
set_option maxHeartbeats 4000000 in
theorem backlog_Log_Ack.calls (a0 : backlog_Log) (a1 : Int) (R : As) (w0 w : World) (b0 : Nat) (r : Int × Bool × backlog_Log)  (H : backlog_Log_Ack.f a0 a1 = some r) (HS : Sep.St [backlog_Log.at b0 a0, R] w0 w) : Calls Try.prog 101 #[Value.pointer (some ⟨b0, 0, none⟩), Value.int .i64 a1] w (Ret fun u w => u = Value.tuple #[Value.int .i64 r.1, Value.bool r.2.1] ∧ Sep.St [backlog_Log.at b0 r.2.2, R] w0 w) := by
  unfold backlog_Log_Ack.f at H
  refine calls_enter Try.func101 rfl rfl ?_
  have H : _ = some r := H
  refine V.seq ?_
  refine V.region ?_
  refine W.rd (X.assign rfl) rfl rfl rfl ?_
  refine W.rd (X.assign rfl) rfl rfl rfl ?_
  refine W.nil ?_
  refine At.next ?_
  refine V.seq ?_
  obtain ⟨a5_1, c5_1, d5_1, hi2, HS⟩ := backlog_Log.open HS
  refine V.draw (es := [9]) (bl := [10]) (f := [(7, Value.pointer (some ⟨b0, 0, none⟩)), (8, Value.pointer (some ⟨b0, 0, none⟩)), (9, Value.pointer (some ⟨b0, 0 + 3, none⟩)), (10, Value.int .i64 a0.first), (11, Value.int .i64 a1), (12, Value.pointer (some ⟨b0, 0, none⟩)), (13, Value.pointer (some ⟨b0, 0, none⟩)), (14, Value.pointer (some ⟨b0, 0 + 0, none⟩)), (15, Value.int .i64 a0.m)]) (fun w => Sep.St [blk b0 (#[Value.int .i64 a0.m, Value.int .i64 a0.window, Value.int .i64 a0.queue, Value.int .i64 a0.first, Value.int .i64 a0.out, Value.slice a5_1 a0.l.length c5_1]) 103, row 39 1 (.slice a5_1 a0.l.length c5_1) a0.l.length d5_1, tie (El.sl (El.int .u8)) d5_1 a0.l, R] w0 w) mo HS.drew rfl ?_
  refine T.event _ [(10, Value.int .i64 a0.first), (11, Value.int .i64 a1), (15, Value.int .i64 a0.m)] rfl rfl ⟨.m1 0 rfl (.l rfl rfl) (fun w HS => X.move rfl) rfl rfl rfl rfl rfl, .m1 7 rfl (.r rfl rfl) (fun w HS => X.nilCheck rfl) rfl rfl rfl rfl rfl, .m1 8 rfl (.r rfl rfl) (fun w HS => X.fieldAddr 3 fo103_3 rfl) rfl rfl rfl rfl rfl, .m1 9 rfl (.r rfl rfl) (fun w HS => X.loadAt 0 HS rfl Try.underlying3 rfl rfl rfl) rfl rfl rfl rfl rfl, .m1 1 rfl (.l rfl rfl) (fun w HS => X.move rfl) rfl rfl rfl rfl rfl, .m1 0 rfl (.l rfl rfl) (fun w HS => X.move rfl) rfl rfl rfl rfl rfl, .m1 12 rfl (.r rfl rfl) (fun w HS => X.nilCheck rfl) rfl rfl rfl rfl rfl, .m1 13 rfl (.r rfl rfl) (fun w HS => X.fieldAddr 0 fo103_0 rfl) rfl rfl rfl rfl rfl, .m1 14 rfl (.r rfl rfl) (fun w HS => X.loadAt 0 HS rfl Try.underlying3 rfl rfl rfl) rfl rfl rfl rfl rfl, trivial⟩ rfl ⟨.inr ⟨rfl, rfl⟩, ⟨.inr ⟨rfl, rfl⟩, ⟨.inr ⟨rfl, rfl⟩, trivial⟩⟩⟩ (Or.inl rfl) (by intro d hd; cases hd; exact ⟨by decide, rfl, rfl⟩) [] [0, 1, 2, 3, 4, 5, 6, 7, 8] rfl rfl (fun w HS => ?_)
  obtain ⟨t3, A4, H⟩ := bind_s H
  refine ⟨_, Y.call Try.func100 (by kernel_rfl) rfl (vs := [Value.int .i64 a0.first, Value.int .i64 a1, Value.int .i64 a0.m]) rfl (serial_Dist.calls a0.first a1 a0.m _ w0 _  t3  A4 (Sep.St.tailJoin (m := []) (r := [blk b0 (#[Value.int .i64 a0.m, Value.int .i64 a0.window, Value.int .i64 a0.queue, Value.int .i64 a0.first, Value.int .i64 a0.out, Value.slice a5_1 a0.l.length c5_1]) 103, row 39 1 (.slice a5_1 a0.l.length c5_1) a0.l.length d5_1, tie (El.sl (El.int .u8)) d5_1 a0.l, R]) HS)), ?_⟩
  rintro _ w ⟨rfl, HS⟩
  replace HS := Sep.St.tailOpen (m := []) (r := [blk b0 (#[Value.int .i64 a0.m, Value.int .i64 a0.window, Value.int .i64 a0.queue, Value.int .i64 a0.first, Value.int .i64 a0.out, Value.slice a5_1 a0.l.length c5_1]) 103, row 39 1 (.slice a5_1 a0.l.length c5_1) a0.l.length d5_1, tie (El.sl (El.int .u8)) d5_1 a0.l, R]) HS
  refine ⟨[(16, Value.int .i64 t3), (6, Value.int .i64 t3)], _, ⟨.inl ⟨rfl, rfl⟩, ⟨.inr ⟨by decide, rfl⟩, trivial⟩⟩, ?_, HS⟩
  refine T.fin [(0, Value.pointer (some ⟨b0, 0, none⟩)), (1, Value.int .i64 a1), (6, Value.int .i64 t3)] rfl ⟨.m1 16 rfl (.r rfl rfl) (fun w HS => X.assign rfl) rfl rfl rfl rfl rfl, trivial⟩ ⟨.inl ⟨rfl, rfl⟩, ⟨.inl ⟨rfl, rfl⟩, ⟨.inr ⟨rfl, rfl⟩, trivial⟩⟩⟩ (fun w HS => ?_)
  refine At.next ?_
  refine V.seq ?_
  refine V.meet (σ := Bool) (fun st w => match st with | x8 => Sep.St [backlog_Log.at b0 a0, R] w0 w ∧ backlog_Log_Ack.j0 a0 t3 x8 = some r) (fun st => match st with | x8 => [(0, Value.pointer (some ⟨b0, 0, none⟩)), (6, Value.int .i64 t3), (34, Value.bool x8)]) ?_ ?_
  · refine V.region ?_
    refine W.rd (X.move rfl) rfl rfl rfl ?_
    refine W.rd (X.cmp (decide (a1 < 0)) rfl rfl rfl rfl) rfl rfl rfl ?_
    refine W.rd (X.move rfl) rfl rfl rfl ?_
    by_cases c17 : a1 < 0
    · replace H := ite_t c17 H
      refine W.pass 19 rfl (sb (decide_eq_true c17)) rfl rfl ?_
      refine W.pass 19 rfl (sb (decide_eq_true c17)) rfl rfl ?_
      refine W.pass 19 rfl (sb (decide_eq_true c17)) rfl rfl ?_
      refine W.pass 19 rfl (sb (decide_eq_true c17)) rfl rfl ?_
      refine W.pass 19 rfl (sb (decide_eq_true c17)) rfl rfl ?_
      refine W.pass 19 rfl (sb (decide_eq_true c17)) rfl rfl ?_
      refine W.rd (X.pickT (sb (decide_eq_true c17)) rfl) rfl rfl rfl ?_
      refine W.rd (X.move rfl) rfl rfl rfl ?_
      refine W.pass 27 rfl rfl rfl rfl ?_
      refine W.pass 27 rfl rfl rfl rfl ?_
      refine W.pass 27 rfl rfl rfl rfl ?_
      refine W.pass 27 rfl rfl rfl rfl ?_
      refine W.pass 27 rfl rfl rfl rfl ?_
      refine W.pass 27 rfl rfl rfl rfl ?_
      refine W.rd (X.pickT rfl rfl) rfl rfl rfl ?_
      refine W.nil ?_
      replace HS := backlog_Log.close a0 trivial HS
      exact At.meet true ⟨rfl, rfl, rfl, trivial⟩ ⟨HS, H⟩
    · replace H := ite_f c17 H
      refine W.want 19 rfl (sb (decide_eq_false c17)) ?_
      refine W.rd (X.move rfl) rfl rfl rfl ?_
      refine W.want 19 rfl (sb (decide_eq_false c17)) ?_
      refine W.rd (X.move rfl) rfl rfl rfl ?_
      refine W.want 19 rfl (sb (decide_eq_false c17)) ?_
      refine W.rd (X.nilCheck rfl) rfl rfl rfl ?_
      refine W.want 19 rfl (sb (decide_eq_false c17)) ?_
      refine W.rd (X.fieldAddr 0 fo103_0 rfl) rfl rfl rfl ?_
      refine W.want 19 rfl (sb (decide_eq_false c17)) ?_
      refine W.rd (X.loadAt 0 HS rfl Try.underlying3 rfl rfl rfl) rfl rfl rfl ?_
      refine W.want 19 rfl (sb (decide_eq_false c17)) ?_
      refine W.rd (X.cmp (decide (a1 ≥ a0.m)) rfl rfl rfl rfl) rfl rfl rfl ?_
      refine W.rd (X.pickF (sb (decide_eq_false c17)) rfl) rfl rfl rfl ?_
      refine W.rd (X.move rfl) rfl rfl rfl ?_
      by_cases c18 : a1 ≥ a0.m
      · replace H := ite_t c18 H
        refine W.pass 27 rfl (sb (decide_eq_true c18)) rfl rfl ?_
        refine W.pass 27 rfl (sb (decide_eq_true c18)) rfl rfl ?_
        refine W.pass 27 rfl (sb (decide_eq_true c18)) rfl rfl ?_
        refine W.pass 27 rfl (sb (decide_eq_true c18)) rfl rfl ?_
        refine W.pass 27 rfl (sb (decide_eq_true c18)) rfl rfl ?_
        refine W.pass 27 rfl (sb (decide_eq_true c18)) rfl rfl ?_
        refine W.rd (X.pickT (sb (decide_eq_true c18)) rfl) rfl rfl rfl ?_
        refine W.nil ?_
        replace HS := backlog_Log.close a0 trivial HS
        exact At.meet true ⟨rfl, rfl, rfl, trivial⟩ ⟨HS, H⟩
      · replace H := ite_f c18 H
        refine W.want 27 rfl (sb (decide_eq_false c18)) ?_
        refine W.rd (X.move rfl) rfl rfl rfl ?_
        refine W.want 27 rfl (sb (decide_eq_false c18)) ?_
        refine W.rd (X.move rfl) rfl rfl rfl ?_
        refine W.want 27 rfl (sb (decide_eq_false c18)) ?_
        refine W.rd (X.nilCheck rfl) rfl rfl rfl ?_
        refine W.want 27 rfl (sb (decide_eq_false c18)) ?_
        refine W.rd (X.fieldAddr 4 fo103_4 rfl) rfl rfl rfl ?_
        refine W.want 27 rfl (sb (decide_eq_false c18)) ?_
        refine W.rd (X.loadAt 0 HS rfl Try.underlying3 rfl rfl rfl) rfl rfl rfl ?_
        refine W.want 27 rfl (sb (decide_eq_false c18)) ?_
        refine W.rd (X.cmp (decide (t3 > a0.out)) rfl rfl rfl rfl) rfl rfl rfl ?_
        refine W.rd (X.pickF (sb (decide_eq_false c18)) rfl) rfl rfl rfl ?_
        refine W.nil ?_
        replace HS := backlog_Log.close a0 trivial HS
        exact At.meet (decide (t3 > a0.out)) ⟨rfl, rfl, rfl, trivial⟩ ⟨HS, H⟩
  · rintro x8 w ⟨HS, H⟩
    unfold backlog_Log_Ack.j0 at H
    by_cases c10 : x8 = true
    · replace H := ite_t c10 H
      refine V.condT (sb c10) ?_
      refine V.seq ?_
      refine V.region ?_
      refine W.rd (X.assign rfl) rfl rfl rfl ?_
      refine W.rd (X.assign rfl) rfl rfl rfl ?_
      refine W.nil ?_
      refine At.next ?_
      refine V.ret ?_
      refine At.thenRet ?_
      cases H
      exact At.ret2 rfl rfl rfl ⟨_, rfl, rfl, HS⟩
    · replace H := ite_f c10 H
      refine V.condF (sb (b_f c10)) ?_
      refine V.skip ?_
      refine At.next ?_
      refine V.seq ?_
      refine V.region ?_
      refine W.rd (X.move rfl) rfl rfl rfl ?_
      refine W.rd (X.move rfl) rfl rfl rfl ?_
      refine W.rd (X.nilCheck rfl) rfl rfl rfl ?_
      obtain ⟨a5_11, c5_11, d5_11, hi12, HS⟩ := backlog_Log.open HS
      refine W.rd (X.fieldAddr 5 fo103_5 rfl) rfl rfl rfl ?_
      refine W.rd (X.loadAt 0 HS rfl Try.underlying30 rfl rfl rfl) rfl rfl rfl ?_
      refine W.rd (X.move rfl) rfl rfl rfl ?_
      obtain ⟨t13, A14, H⟩ := bind_s H
      replace HS := HS.re [1, 2, 0, 3] (by kernel_rfl)
      refine W.ev (Y.call Try.func108 (by kernel_rfl) rfl (vs := [Value.slice a5_11 a0.l.length c5_11, Value.int .i64 (0), Value.int .i64 t3]) rfl (slices_Delete_SSbyteSbyte.calls a0.l 0 t3 _ w0 _ a5_11 c5_11 d5_11 t13  A14 (Sep.St.tailJoin (m := [row 39 1 (.slice a5_11 a0.l.length c5_11) a0.l.length d5_11, tie (El.sl (El.int .u8)) d5_11 a0.l]) (r := [blk b0 (#[Value.int .i64 a0.m, Value.int .i64 a0.window, Value.int .i64 a0.queue, Value.int .i64 a0.first, Value.int .i64 a0.out, Value.slice a5_11 a0.l.length c5_11]) 103, R]) HS))) rfl rfl rfl ?_
      rintro _ w ⟨at13_0, ct13_0, dt13_0, rfl, HS⟩
      replace HS := Sep.St.tailOpen (m := [row 39 1 (.slice at13_0 t13.length ct13_0) t13.length dt13_0, tie (El.sl (El.int .u8)) dt13_0 t13]) (r := [blk b0 (#[Value.int .i64 a0.m, Value.int .i64 a0.window, Value.int .i64 a0.queue, Value.int .i64 a0.first, Value.int .i64 a0.out, Value.slice a5_11 a0.l.length c5_11]) 103, R]) HS
      refine W.rd (X.nilCheck rfl) rfl rfl rfl ?_
      refine W.rd (X.fieldAddr 5 fo103_5 rfl) rfl rfl rfl ?_
      refine W.ev_none (Y.storeAt 2 HS rfl inf30 rfl rfl rfl rfl rfl rfl) rfl rfl ?_
      rintro _ w HS
      refine W.nil ?_
      refine At.next ?_
      refine V.seq ?_
      refine V.region ?_
      refine W.rd (X.move rfl) rfl rfl rfl ?_
      refine W.rd (X.nilCheck rfl) rfl rfl rfl ?_
      refine W.rd (X.fieldAddr 4 fo103_4 rfl) rfl rfl rfl ?_
      refine W.rd (X.loadAt 2 HS rfl Try.underlying3 rfl rfl rfl) rfl rfl rfl ?_
      refine W.rd (X.move rfl) rfl rfl rfl ?_
      refine W.rd (X.sub rfl rfl) rfl rfl rfl ?_
      refine W.rd (X.nilCheck rfl) rfl rfl rfl ?_
      refine W.rd (X.fieldAddr 4 fo103_4 rfl) rfl rfl rfl ?_
      refine W.ev_none (Y.storeAt 2 HS rfl inf3 rfl rfl rfl rfl rfl rfl) rfl rfl ?_
      rintro _ w HS
      refine W.nil ?_
      refine At.next ?_
      refine V.seq ?_
      refine V.region ?_
      refine W.rd (X.move rfl) rfl rfl rfl ?_
      refine W.rd (X.move rfl) rfl rfl rfl ?_
      refine W.rd (X.move rfl) rfl rfl rfl ?_
      obtain ⟨t15, A16, H⟩ := bind_s H
      replace HS := HS.re [2, 0, 1, 3] (by kernel_rfl)
      refine W.ev (Y.call Try.func98 (by kernel_rfl) rfl (vs := [Value.pointer (some ⟨b0, 0, none⟩), Value.int .i64 t3]) rfl (backlog_Log_number.calls ({ m := a0.m, window := a0.window, queue := a0.queue, first := a0.first, out := w64 (a0.out - t3), l := t13 } : backlog_Log) t3 _ w0 _ b0 at13_0 ct13_0 dt13_0 t15  A16 (Sep.St.tailJoin (m := [blk b0 (#[Value.int .i64 a0.m, Value.int .i64 a0.window, Value.int .i64 a0.queue, Value.int .i64 a0.first, Value.int .i64 (w64 (a0.out - t3)), Value.slice at13_0 t13.length ct13_0]) 103, row 39 1 (.slice at13_0 t13.length ct13_0) t13.length dt13_0, tie (El.sl (El.int .u8)) dt13_0 t13]) (r := [R]) HS))) rfl rfl rfl ?_
      rintro _ w ⟨rfl, HS⟩
      replace HS := Sep.St.tailOpen (m := [blk b0 (#[Value.int .i64 a0.m, Value.int .i64 a0.window, Value.int .i64 a0.queue, Value.int .i64 a0.first, Value.int .i64 (w64 (a0.out - t3)), Value.slice at13_0 t13.length ct13_0]) 103, row 39 1 (.slice at13_0 t13.length ct13_0) t13.length dt13_0, tie (El.sl (El.int .u8)) dt13_0 t13]) (r := [R]) HS
      refine W.rd (X.nilCheck rfl) rfl rfl rfl ?_
      refine W.rd (X.fieldAddr 3 fo103_3 rfl) rfl rfl rfl ?_
      refine W.ev_none (Y.storeAt 0 HS rfl inf3 rfl rfl rfl rfl rfl rfl) rfl rfl ?_
      rintro _ w HS
      refine W.nil ?_
      refine At.next ?_
      refine V.seq ?_
      refine V.region ?_
      refine W.rd (X.move rfl) rfl rfl rfl ?_
      refine W.rd (X.assign rfl) rfl rfl rfl ?_
      refine W.rd (X.assign rfl) rfl rfl rfl ?_
      refine W.nil ?_
      refine At.next ?_
      refine V.ret ?_
      replace HS := backlog_Log.close (({ m := a0.m, window := a0.window, queue := a0.queue, first := t15, out := w64 (a0.out - t3), l := t13 } : backlog_Log)) trivial HS
      cases H
      exact At.ret2 rfl rfl rfl ⟨_, rfl, rfl, HS⟩

/-! ### (*signalman/backlog.Log).Out: function 82 -/
mutual
def backlog_Log_Out.l0 : Nat → backlog_Log → Int → (List Int) → Option (List Int)
  | 0, _, _, _ => none
  | k + 1, a0, x5, x8 => (if x5 < a0.out then ((backlog_Log_number.f a0 x5).bind fun t12 => (if (x8.length : Int) + ([t12] : List Int).length ≤ 1099511627776 then (backlog_Log_Out.l0 k a0 (w64 (x5 + 1)) (x8 ++ ([t12] : List Int))) else none)) else some x8)
end
def backlog_Log_Out.f (k : Nat) (a0 : backlog_Log) : Option (List Int) := (backlog_Log_Out.l0 k a0 0 ([] : List Int))
set_option maxRecDepth 100000 in
set_option maxHeartbeats 4000000 in
theorem backlog_Log_Out.calls (k : Nat) (a0 : backlog_Log) (R : As) (w0 w : World) (b0 : Nat) (a5_p0 : Option Addr) (c5_p0 : Nat) (d5_p0 : List Value) (r : List Int)  (H : backlog_Log_Out.f k a0 = some r) (HS : Sep.St [blk b0 (#[Value.int .i64 a0.m, Value.int .i64 a0.window, Value.int .i64 a0.queue, Value.int .i64 a0.first, Value.int .i64 a0.out, Value.slice a5_p0 a0.l.length c5_p0]) 103, row 39 1 (.slice a5_p0 a0.l.length c5_p0) a0.l.length d5_p0, tie (El.sl (El.int .u8)) d5_p0 a0.l, R] w0 w) : Calls Try.prog 82 #[Value.pointer (some ⟨b0, 0, none⟩)] w (Ret fun u w => ∃ (aq0 : Option Addr) (cq0 : Nat), u = Value.slice aq0 r.length cq0 ∧ Sep.St [row 3 1 (.slice aq0 r.length cq0) r.length (r.map (Value.int .i64)), blk b0 (#[Value.int .i64 a0.m, Value.int .i64 a0.window, Value.int .i64 a0.queue, Value.int .i64 a0.first, Value.int .i64 a0.out, Value.slice a5_p0 a0.l.length c5_p0]) 103, row 39 1 (.slice a5_p0 a0.l.length c5_p0) a0.l.length d5_p0, tie (El.sl (El.int .u8)) d5_p0 a0.l, R] w0 w) := by
  unfold backlog_Log_Out.f at H
  refine calls_enter Try.func82 rfl rfl ?_
  have H : _ = some r := H
  refine V.seq ?_
  refine V.region ?_
  refine W.rd (X.assign rfl) rfl rfl rfl ?_
  refine W.nil ?_
  refine At.next ?_
  refine V.seq ?_
  refine V.region ?_
  refine W.rd (X.assign rfl) rfl rfl rfl ?_
  refine W.nil ?_
  refine At.next ?_
  refine V.seq ?_
  refine V.seq ?_
  refine V.region ?_
  refine W.rd (X.move rfl) rfl rfl rfl ?_
  refine W.rd (X.nilCheck rfl) rfl rfl rfl ?_
  refine W.rd (X.fieldAddr 4 fo103_4 rfl) rfl rfl rfl ?_
  refine W.rd (X.loadAt 0 HS rfl Try.underlying3 rfl rfl rfl) rfl rfl rfl ?_
  refine W.rd (X.move rfl) rfl rfl rfl ?_
  refine W.nil ?_
  refine At.next ?_
  refine V.block ?_
  replace HS := row_nil' (e := 3) 1 none HS
  have HS : Sep.St [row 3 1 (.slice none ([] : List Int).length 0) ([] : List Int).length (([] : List Int).map (Value.int .i64)), blk b0 (#[Value.int .i64 a0.m, Value.int .i64 a0.window, Value.int .i64 a0.queue, Value.int .i64 a0.first, Value.int .i64 a0.out, Value.slice a5_p0 a0.l.length c5_p0]) 103, row 39 1 (.slice a5_p0 a0.l.length c5_p0) a0.l.length d5_p0, tie (El.sl (El.int .u8)) d5_p0 a0.l, R] w0 w := HS
  refine V.loop (σ := Int × Option Addr × Nat × List Int) (fun kq (st : Int × Option Addr × Nat × List Int) w => match st with | (x5, ra6, rc7, x8) => Sep.St [row 3 1 (.slice ra6 x8.length rc7) x8.length (x8.map (Value.int .i64)), blk b0 (#[Value.int .i64 a0.m, Value.int .i64 a0.window, Value.int .i64 a0.queue, Value.int .i64 a0.first, Value.int .i64 a0.out, Value.slice a5_p0 a0.l.length c5_p0]) 103, row 39 1 (.slice a5_p0 a0.l.length c5_p0) a0.l.length d5_p0, tie (El.sl (El.int .u8)) d5_p0 a0.l, R] w0 w ∧ backlog_Log_Out.l0 kq a0 x5 x8 = some r ∧ kq ≤ k) (fun st => match st with | (x5, ra6, rc7, x8) => [(0, Value.pointer (some ⟨b0, 0, none⟩)), (3, Value.slice ra6 x8.length rc7), (8, Value.int .i64 a0.out), (9, Value.int .i64 x5)]) k (0, none, 0, ([] : List Int)) ⟨rfl, rfl, rfl, rfl, trivial⟩ ⟨HS, H, Nat.le_refl _⟩ ?_
  rintro kq9 ⟨x5, ra6, rc7, x8⟩ w ⟨HS, H, hk10⟩
  cases kq9 with
  | zero => exact absurd H (by simp [backlog_Log_Out.l0])
  | succ kq9 =>
    simp only [backlog_Log_Out.l0] at H
    refine V.seq ?_
    refine V.region ?_
    refine W.rd (X.cmp (decide (x5 < a0.out)) rfl rfl rfl rfl) rfl rfl rfl ?_
    refine W.nil ?_
    refine At.next ?_
    refine V.seq ?_
    by_cases c11 : x5 < a0.out
    · replace H := ite_t c11 H
      refine V.condT (sb (decide_eq_true c11)) ?_
      refine V.skip ?_
      refine At.next ?_
      refine V.seq ?_
      refine V.block ?_
      refine V.seq ?_
      refine V.region ?_
      refine W.rd (X.move rfl) rfl rfl rfl ?_
      refine W.rd (X.assign rfl) rfl rfl rfl ?_
      refine W.nil ?_
      refine At.next ?_
      refine V.region ?_
      refine W.rd (X.move rfl) rfl rfl rfl ?_
      refine W.rd (X.move rfl) rfl rfl rfl ?_
      refine W.rd (X.move rfl) rfl rfl rfl ?_
      obtain ⟨t12, A13, H⟩ := bind_s H
      replace HS := HS.re [1, 2, 3, 0, 4] (by kernel_rfl)
      refine W.ev (Y.call Try.func98 (by kernel_rfl) rfl (vs := [Value.pointer (some ⟨b0, 0, none⟩), Value.int .i64 x5]) rfl (backlog_Log_number.calls a0 x5 _ w0 _ b0 a5_p0 c5_p0 d5_p0 t12  A13 (Sep.St.tailJoin (m := [blk b0 (#[Value.int .i64 a0.m, Value.int .i64 a0.window, Value.int .i64 a0.queue, Value.int .i64 a0.first, Value.int .i64 a0.out, Value.slice a5_p0 a0.l.length c5_p0]) 103, row 39 1 (.slice a5_p0 a0.l.length c5_p0) a0.l.length d5_p0, tie (El.sl (El.int .u8)) d5_p0 a0.l]) (r := [row 3 1 (.slice ra6 x8.length rc7) x8.length (x8.map (Value.int .i64)), R]) HS))) rfl rfl rfl ?_
      rintro _ w ⟨rfl, HS⟩
      replace HS := Sep.St.tailOpen (m := [blk b0 (#[Value.int .i64 a0.m, Value.int .i64 a0.window, Value.int .i64 a0.queue, Value.int .i64 a0.first, Value.int .i64 a0.out, Value.slice a5_p0 a0.l.length c5_p0]) 103, row 39 1 (.slice a5_p0 a0.l.length c5_p0) a0.l.length d5_p0, tie (El.sl (El.int .u8)) d5_p0 a0.l]) (r := [row 3 1 (.slice ra6 x8.length rc7) x8.length (x8.map (Value.int .i64)), R]) HS
      refine W.ev (Y.litB (e := 3) (sz := 1) (vs := #[(0, Value.int .i64 t12)]) [Value.int .i64 t12] HS (fun a ha => by simp only [List.map_toArray, List.map_cons, List.map_nil]; rw [ha.ev (x := .tmp 15) (v := Value.int .i64 t12) rfl]; try rfl) rfl (by decide) (fun _ => by kernel_rfl)) rfl rfl rfl ?_
      rintro _ w ⟨lb16, rfl, HS⟩
      have HS : Sep.St [row 3 1 (.slice (some ⟨lb16, 0, none⟩) ([t12] : List Int).length 1) ([t12] : List Int).length (([t12] : List Int).map (Value.int .i64)), blk b0 (#[Value.int .i64 a0.m, Value.int .i64 a0.window, Value.int .i64 a0.queue, Value.int .i64 a0.first, Value.int .i64 a0.out, Value.slice a5_p0 a0.l.length c5_p0]) 103, row 39 1 (.slice a5_p0 a0.l.length c5_p0) a0.l.length d5_p0, tie (El.sl (El.int .u8)) d5_p0 a0.l, row 3 1 (.slice ra6 x8.length rc7) x8.length (x8.map (Value.int .i64)), R] w0 w := HS
      obtain ⟨c17, H⟩ := ite_n H
      refine W.ev (Y.appF (Value.int .i64) (fun _ => rfl) 4 Try.underlying34 ap3 rfl HS rfl rfl rfl (rdC.at 0 row_rd HS rfl) (by omega) (by omega)) rfl rfl rfl ?_
      rintro _ w ⟨ra18, rc19, rfl, HS⟩
      refine W.rd (X.assign rfl) rfl rfl rfl ?_
      refine W.nil ?_
      refine At.blockEnd ?_
      refine At.next ?_
      refine V.region ?_
      refine W.rd (X.add rfl rfl) rfl rfl rfl ?_
      refine W.rd (X.move rfl) rfl rfl rfl ?_
      refine W.nil ?_
      replace HS := HS.sel [4, 1, 2, 3, 5] [0] (by kernel_rfl)
      exact At.round kq9 (by omega) (w64 (x5 + 1), ra18, rc19, x8 ++ ([t12] : List Int)) ⟨rfl, rfl, rfl, rfl, trivial⟩ ⟨HS, H, by omega⟩
    · replace H := ite_f c11 H
      refine V.condF (sb (decide_eq_false c11)) ?_
      refine V.exit ?_
      refine At.thenExit ?_
      refine At.thenExit ?_
      refine At.blockExit ?_
      refine At.next ?_
      refine V.seq ?_
      refine V.region ?_
      refine W.rd (X.move rfl) rfl rfl rfl ?_
      refine W.rd (X.assign rfl) rfl rfl rfl ?_
      refine W.nil ?_
      refine At.next ?_
      refine V.ret ?_
      cases H
      exact At.ret1 rfl rfl ⟨_, rfl, ra6, rc7, rfl, HS⟩

/-! ### (*signalman/arq.Arq).acknowledged: function 90 -/
def arq_Arq_acknowledged.f (k : Nat) (a0 : arq_Arq) (a1 : Int) : Option (Bool × arq_Arq) := ((backlog_Log_Ack.f a0.log a1).bind fun t3 => (if t3.1 = 0 then some (t3.2.1, ({ m := a0.m, t1 := a0.t1, n2 := a0.n2, size := a0.size, state := a0.state, tag := a0.tag, tries := a0.tries, rejected := a0.rejected, log := t3.2.2, order := a0.order, timers := a0.timers, out := a0.out, inds := a0.inds, sent := a0.sent, acked := a0.acked, lost := a0.lost } : arq_Arq)) else ((clock_Set_Stop.f a0.timers 0).bind fun t13 => ((backlog_Log_Out.f k t3.2.2).bind fun t17 => (if (t17.length : Int) > 0 then ((arq_Arq_start.f ({ m := a0.m, t1 := a0.t1, n2 := a0.n2, size := a0.size, state := a0.state, tag := a0.tag, tries := 0, rejected := a0.rejected, log := t3.2.2, order := a0.order, timers := t13.2, out := a0.out, inds := a0.inds, sent := a0.sent, acked := w64 (a0.acked + t3.1), lost := a0.lost } : arq_Arq)).bind fun t20 => some (t3.2.1, t20)) else some (t3.2.1, ({ m := a0.m, t1 := a0.t1, n2 := a0.n2, size := a0.size, state := a0.state, tag := a0.tag, tries := 0, rejected := a0.rejected, log := t3.2.2, order := a0.order, timers := t13.2, out := a0.out, inds := a0.inds, sent := a0.sent, acked := w64 (a0.acked + t3.1), lost := a0.lost } : arq_Arq)))))))
set_option maxRecDepth 100000 in
set_option maxHeartbeats 4000000 in
theorem arq_Arq_acknowledged.calls (k : Nat) (a0 : arq_Arq) (a1 : Int) (R : As) (w0 w : World) (b0 : Nat) (r : Bool × arq_Arq)  (H : arq_Arq_acknowledged.f k a0 a1 = some r) (HS : Sep.St [arq_Arq.at b0 a0, R] w0 w) : Calls Try.prog 90 #[Value.pointer (some ⟨b0, 0, none⟩), Value.int .i64 a1] w (Ret fun u w => u = Value.bool r.1 ∧ Sep.St [arq_Arq.at b0 r.2, R] w0 w) := by
  unfold arq_Arq_acknowledged.f at H
  refine calls_enter Try.func90 rfl rfl ?_
  have H : _ = some r := H
  refine V.seq ?_
  refine V.region ?_
  refine W.rd (X.assign rfl) rfl rfl rfl ?_
  refine W.nil ?_
  refine At.next ?_
  refine V.seq ?_
  refine V.region ?_
  refine W.rd (X.move rfl) rfl rfl rfl ?_
  refine W.rd (X.nilCheck rfl) rfl rfl rfl ?_
  obtain ⟨b8_1, b9_1, b10_1, a11_1, c11_1, d11_1, a12_1, c12_1, hi2, HS⟩ := arq_Arq.open HS
  refine W.rd (X.fieldAddr 8 fo82_8 rfl) rfl rfl rfl ?_
  refine W.rd (X.loadAt 0 HS rfl Try.underlying74 rfl rfl rfl) rfl rfl rfl ?_
  refine W.rd (X.move rfl) rfl rfl rfl ?_
  obtain ⟨t3, A4, H⟩ := bind_s H
  replace HS := HS.re [1, 0, 2, 3, 4, 5, 6, 7] (by kernel_rfl)
  refine W.ev (Y.call Try.func101 (by kernel_rfl) rfl (vs := [Value.pointer (some ⟨b8_1, 0, none⟩), Value.int .i64 a1]) rfl (backlog_Log_Ack.calls a0.log a1 _ w0 _ b8_1 t3  A4 (Sep.St.tailJoin (m := [backlog_Log.at b8_1 a0.log]) (r := [blk b0 (#[Value.int .i64 a0.m, Value.int .i64 a0.t1, Value.int .i64 a0.n2, Value.int .i64 a0.size, Value.int .i64 a0.state, Value.int .i64 a0.tag, Value.int .i64 a0.tries, Value.bool a0.rejected, Value.pointer (some ⟨b8_1, 0, none⟩), Value.pointer (some ⟨b9_1, 0, none⟩), Value.pointer (some ⟨b10_1, 0, none⟩), Value.slice a11_1 a0.out.length c11_1, Value.slice a12_1 a0.inds.length c12_1, Value.int .i64 a0.sent, Value.int .i64 a0.acked, Value.int .i64 a0.lost]) 82, reorder_Order.at b9_1 a0.order, clock_Set.at b10_1 a0.timers, row 39 1 (.slice a11_1 a0.out.length c11_1) a0.out.length d11_1, tie (El.sl (El.int .u8)) d11_1 a0.out, row 3 1 (.slice a12_1 a0.inds.length c12_1) a0.inds.length (a0.inds.map (Value.int .i64)), R]) HS))) rfl rfl rfl ?_
  rintro _ w ⟨rfl, HS⟩
  replace HS := Sep.St.tailOpen (m := [backlog_Log.at b8_1 t3.2.2]) (r := [blk b0 (#[Value.int .i64 a0.m, Value.int .i64 a0.t1, Value.int .i64 a0.n2, Value.int .i64 a0.size, Value.int .i64 a0.state, Value.int .i64 a0.tag, Value.int .i64 a0.tries, Value.bool a0.rejected, Value.pointer (some ⟨b8_1, 0, none⟩), Value.pointer (some ⟨b9_1, 0, none⟩), Value.pointer (some ⟨b10_1, 0, none⟩), Value.slice a11_1 a0.out.length c11_1, Value.slice a12_1 a0.inds.length c12_1, Value.int .i64 a0.sent, Value.int .i64 a0.acked, Value.int .i64 a0.lost]) 82, reorder_Order.at b9_1 a0.order, clock_Set.at b10_1 a0.timers, row 39 1 (.slice a11_1 a0.out.length c11_1) a0.out.length d11_1, tie (El.sl (El.int .u8)) d11_1 a0.out, row 3 1 (.slice a12_1 a0.inds.length c12_1) a0.inds.length (a0.inds.map (Value.int .i64)), R]) HS
  refine W.rd (X.move rfl) rfl rfl rfl ?_
  refine W.rd (X.extract rfl rfl) rfl rfl rfl ?_
  refine W.rd (X.extract rfl rfl) rfl rfl rfl ?_
  refine W.rd (X.assign rfl) rfl rfl rfl ?_
  refine W.rd (X.assign rfl) rfl rfl rfl ?_
  refine W.nil ?_
  refine At.next ?_
  refine V.seq ?_
  refine V.seq ?_
  refine V.region ?_
  refine W.rd (X.move rfl) rfl rfl rfl ?_
  refine W.rd (X.cmp (decide (t3.1 = 0)) rfl rfl rfl rfl) rfl rfl rfl ?_
  refine W.nil ?_
  refine At.next ?_
  by_cases c12 : t3.1 = 0
  · replace H := ite_t c12 H
    refine V.condT (sb (decide_eq_true c12)) ?_
    refine V.seq ?_
    refine V.region ?_
    refine W.rd (X.move rfl) rfl rfl rfl ?_
    refine W.rd (X.assign rfl) rfl rfl rfl ?_
    refine W.nil ?_
    refine At.next ?_
    refine V.ret ?_
    refine At.thenRet ?_
    replace HS := HS.re [1, 0, 2, 3, 4, 5, 6, 7] (by kernel_rfl)
    replace HS := arq_Arq.close ({ m := a0.m, t1 := a0.t1, n2 := a0.n2, size := a0.size, state := a0.state, tag := a0.tag, tries := a0.tries, rejected := a0.rejected, log := t3.2.2, order := a0.order, timers := a0.timers, out := a0.out, inds := a0.inds, sent := a0.sent, acked := a0.acked, lost := a0.lost } : arq_Arq) trivial HS
    cases H
    exact At.ret1 rfl rfl ⟨_, rfl, rfl, HS⟩
  · replace H := ite_f c12 H
    refine V.condF (sb (decide_eq_false c12)) ?_
    refine V.skip ?_
    refine At.next ?_
    refine V.seq ?_
    refine V.region ?_
    refine W.rd (X.move rfl) rfl rfl rfl ?_
    refine W.rd (X.nilCheck rfl) rfl rfl rfl ?_
    refine W.rd (X.fieldAddr 14 fo82_14 rfl) rfl rfl rfl ?_
    refine W.rd (X.loadAt 1 HS rfl Try.underlying3 rfl rfl rfl) rfl rfl rfl ?_
    refine W.rd (X.move rfl) rfl rfl rfl ?_
    refine W.rd (X.add rfl rfl) rfl rfl rfl ?_
    refine W.rd (X.nilCheck rfl) rfl rfl rfl ?_
    refine W.rd (X.fieldAddr 14 fo82_14 rfl) rfl rfl rfl ?_
    refine W.ev_none (Y.storeAt 1 HS rfl inf3 rfl rfl rfl rfl rfl rfl) rfl rfl ?_
    rintro _ w HS
    refine W.nil ?_
    refine At.next ?_
    refine V.seq ?_
    refine V.region ?_
    refine W.rd (X.move rfl) rfl rfl rfl ?_
    refine W.rd (X.nilCheck rfl) rfl rfl rfl ?_
    refine W.rd (X.fieldAddr 6 fo82_6 rfl) rfl rfl rfl ?_
    refine W.ev_none (Y.storeAt 1 HS rfl inf3 rfl rfl rfl rfl rfl rfl) rfl rfl ?_
    rintro _ w HS
    refine W.nil ?_
    refine At.next ?_
    refine V.seq ?_
    refine V.region ?_
    refine W.rd (X.move rfl) rfl rfl rfl ?_
    refine W.rd (X.nilCheck rfl) rfl rfl rfl ?_
    refine W.rd (X.fieldAddr 10 fo82_10 rfl) rfl rfl rfl ?_
    refine W.rd (X.loadAt 1 HS rfl Try.underlying78 rfl rfl rfl) rfl rfl rfl ?_
    obtain ⟨t13, A14, H⟩ := bind_s H
    replace HS := HS.re [3, 0, 1, 2, 4, 5, 6, 7] (by kernel_rfl)
    refine W.ev (Y.call Try.func78 (by kernel_rfl) rfl (vs := [Value.pointer (some ⟨b10_1, 0, none⟩), Value.int .i64 (0)]) rfl (clock_Set_Stop.calls a0.timers 0 _ w0 _ b10_1 t13  A14 (Sep.St.tailJoin (m := [clock_Set.at b10_1 a0.timers]) (r := [backlog_Log.at b8_1 t3.2.2, blk b0 (#[Value.int .i64 a0.m, Value.int .i64 a0.t1, Value.int .i64 a0.n2, Value.int .i64 a0.size, Value.int .i64 a0.state, Value.int .i64 a0.tag, Value.int .i64 (0), Value.bool a0.rejected, Value.pointer (some ⟨b8_1, 0, none⟩), Value.pointer (some ⟨b9_1, 0, none⟩), Value.pointer (some ⟨b10_1, 0, none⟩), Value.slice a11_1 a0.out.length c11_1, Value.slice a12_1 a0.inds.length c12_1, Value.int .i64 a0.sent, Value.int .i64 (w64 (a0.acked + t3.1)), Value.int .i64 a0.lost]) 82, reorder_Order.at b9_1 a0.order, row 39 1 (.slice a11_1 a0.out.length c11_1) a0.out.length d11_1, tie (El.sl (El.int .u8)) d11_1 a0.out, row 3 1 (.slice a12_1 a0.inds.length c12_1) a0.inds.length (a0.inds.map (Value.int .i64)), R]) HS))) rfl rfl rfl ?_
    rintro _ w ⟨rfl, HS⟩
    replace HS := Sep.St.tailOpen (m := [clock_Set.at b10_1 t13.2]) (r := [backlog_Log.at b8_1 t3.2.2, blk b0 (#[Value.int .i64 a0.m, Value.int .i64 a0.t1, Value.int .i64 a0.n2, Value.int .i64 a0.size, Value.int .i64 a0.state, Value.int .i64 a0.tag, Value.int .i64 (0), Value.bool a0.rejected, Value.pointer (some ⟨b8_1, 0, none⟩), Value.pointer (some ⟨b9_1, 0, none⟩), Value.pointer (some ⟨b10_1, 0, none⟩), Value.slice a11_1 a0.out.length c11_1, Value.slice a12_1 a0.inds.length c12_1, Value.int .i64 a0.sent, Value.int .i64 (w64 (a0.acked + t3.1)), Value.int .i64 a0.lost]) 82, reorder_Order.at b9_1 a0.order, row 39 1 (.slice a11_1 a0.out.length c11_1) a0.out.length d11_1, tie (El.sl (El.int .u8)) d11_1 a0.out, row 3 1 (.slice a12_1 a0.inds.length c12_1) a0.inds.length (a0.inds.map (Value.int .i64)), R]) HS
    refine W.nil ?_
    refine At.next ?_
    refine V.seq ?_
    refine V.seq ?_
    refine V.region ?_
    refine W.rd (X.move rfl) rfl rfl rfl ?_
    refine W.rd (X.nilCheck rfl) rfl rfl rfl ?_
    refine W.rd (X.fieldAddr 8 fo82_8 rfl) rfl rfl rfl ?_
    refine W.rd (X.loadAt 2 HS rfl Try.underlying74 rfl rfl rfl) rfl rfl rfl ?_
    replace HS := HS.front 1 rfl
    obtain ⟨a5_15, c5_15, d5_15, hi16, HS⟩ := backlog_Log.open HS
    obtain ⟨t17, A18, H⟩ := bind_s H
    refine W.ev (Y.call Try.func82 (by kernel_rfl) rfl (vs := [Value.pointer (some ⟨b8_1, 0, none⟩)]) rfl (backlog_Log_Out.calls k t3.2.2 _ w0 _ b8_1 a5_15 c5_15 d5_15 t17  A18 (Sep.St.tailJoin (m := [blk b8_1 (#[Value.int .i64 t3.2.2.m, Value.int .i64 t3.2.2.window, Value.int .i64 t3.2.2.queue, Value.int .i64 t3.2.2.first, Value.int .i64 t3.2.2.out, Value.slice a5_15 t3.2.2.l.length c5_15]) 103, row 39 1 (.slice a5_15 t3.2.2.l.length c5_15) t3.2.2.l.length d5_15, tie (El.sl (El.int .u8)) d5_15 t3.2.2.l]) (r := [clock_Set.at b10_1 t13.2, blk b0 (#[Value.int .i64 a0.m, Value.int .i64 a0.t1, Value.int .i64 a0.n2, Value.int .i64 a0.size, Value.int .i64 a0.state, Value.int .i64 a0.tag, Value.int .i64 (0), Value.bool a0.rejected, Value.pointer (some ⟨b8_1, 0, none⟩), Value.pointer (some ⟨b9_1, 0, none⟩), Value.pointer (some ⟨b10_1, 0, none⟩), Value.slice a11_1 a0.out.length c11_1, Value.slice a12_1 a0.inds.length c12_1, Value.int .i64 a0.sent, Value.int .i64 (w64 (a0.acked + t3.1)), Value.int .i64 a0.lost]) 82, reorder_Order.at b9_1 a0.order, row 39 1 (.slice a11_1 a0.out.length c11_1) a0.out.length d11_1, tie (El.sl (El.int .u8)) d11_1 a0.out, row 3 1 (.slice a12_1 a0.inds.length c12_1) a0.inds.length (a0.inds.map (Value.int .i64)), R]) HS))) rfl rfl rfl ?_
    rintro _ w ⟨at17_0, ct17_0, rfl, HS⟩
    replace HS := Sep.St.tailOpen (m := [row 3 1 (.slice at17_0 t17.length ct17_0) t17.length (t17.map (Value.int .i64)), blk b8_1 (#[Value.int .i64 t3.2.2.m, Value.int .i64 t3.2.2.window, Value.int .i64 t3.2.2.queue, Value.int .i64 t3.2.2.first, Value.int .i64 t3.2.2.out, Value.slice a5_15 t3.2.2.l.length c5_15]) 103, row 39 1 (.slice a5_15 t3.2.2.l.length c5_15) t3.2.2.l.length d5_15, tie (El.sl (El.int .u8)) d5_15 t3.2.2.l]) (r := [clock_Set.at b10_1 t13.2, blk b0 (#[Value.int .i64 a0.m, Value.int .i64 a0.t1, Value.int .i64 a0.n2, Value.int .i64 a0.size, Value.int .i64 a0.state, Value.int .i64 a0.tag, Value.int .i64 (0), Value.bool a0.rejected, Value.pointer (some ⟨b8_1, 0, none⟩), Value.pointer (some ⟨b9_1, 0, none⟩), Value.pointer (some ⟨b10_1, 0, none⟩), Value.slice a11_1 a0.out.length c11_1, Value.slice a12_1 a0.inds.length c12_1, Value.int .i64 a0.sent, Value.int .i64 (w64 (a0.acked + t3.1)), Value.int .i64 a0.lost]) 82, reorder_Order.at b9_1 a0.order, row 39 1 (.slice a11_1 a0.out.length c11_1) a0.out.length d11_1, tie (El.sl (El.int .u8)) d11_1 a0.out, row 3 1 (.slice a12_1 a0.inds.length c12_1) a0.inds.length (a0.inds.map (Value.int .i64)), R]) HS
    refine W.rd (X.lenSl Try.underlying34 rfl) rfl rfl rfl ?_
    refine W.rd (X.cmp (decide ((t17.length : Int) > 0)) rfl rfl rfl rfl) rfl rfl rfl ?_
    refine W.nil ?_
    refine At.next ?_
    by_cases c19 : (t17.length : Int) > 0
    · replace H := ite_t c19 H
      refine V.condT (sb (decide_eq_true c19)) ?_
      refine V.region ?_
      refine W.rd (X.move rfl) rfl rfl rfl ?_
      replace HS := HS.re [1, 2, 3, 0, 4, 5, 6, 7, 8, 9, 10] (by kernel_rfl)
      replace HS := backlog_Log.close t3.2.2 trivial HS
      replace HS := HS.re [3, 0, 4, 2, 5, 6, 7, 1, 8] (by kernel_rfl)
      replace HS := arq_Arq.close (({ m := a0.m, t1 := a0.t1, n2 := a0.n2, size := a0.size, state := a0.state, tag := a0.tag, tries := 0, rejected := a0.rejected, log := t3.2.2, order := a0.order, timers := t13.2, out := a0.out, inds := a0.inds, sent := a0.sent, acked := w64 (a0.acked + t3.1), lost := a0.lost } : arq_Arq)) trivial HS
      obtain ⟨t20, A21, H⟩ := bind_s H
      refine W.ev (Y.call Try.func47 (by kernel_rfl) rfl (vs := [Value.pointer (some ⟨b0, 0, none⟩)]) rfl (arq_Arq_start.calls ({ m := a0.m, t1 := a0.t1, n2 := a0.n2, size := a0.size, state := a0.state, tag := a0.tag, tries := 0, rejected := a0.rejected, log := t3.2.2, order := a0.order, timers := t13.2, out := a0.out, inds := a0.inds, sent := a0.sent, acked := w64 (a0.acked + t3.1), lost := a0.lost } : arq_Arq) _ w0 _ b0 t20  A21 (Sep.St.tailJoin (m := [arq_Arq.at b0 (({ m := a0.m, t1 := a0.t1, n2 := a0.n2, size := a0.size, state := a0.state, tag := a0.tag, tries := 0, rejected := a0.rejected, log := t3.2.2, order := a0.order, timers := t13.2, out := a0.out, inds := a0.inds, sent := a0.sent, acked := w64 (a0.acked + t3.1), lost := a0.lost } : arq_Arq))]) (r := [row 3 1 (.slice at17_0 t17.length ct17_0) t17.length (t17.map (Value.int .i64)), R]) HS))) rfl rfl rfl ?_
      rintro _ w ⟨rfl, HS⟩
      replace HS := Sep.St.tailOpen (m := [arq_Arq.at b0 t20]) (r := [row 3 1 (.slice at17_0 t17.length ct17_0) t17.length (t17.map (Value.int .i64)), R]) HS
      refine W.nil ?_
      refine At.next ?_
      refine V.seq ?_
      refine V.region ?_
      refine W.rd (X.move rfl) rfl rfl rfl ?_
      refine W.rd (X.assign rfl) rfl rfl rfl ?_
      refine W.nil ?_
      refine At.next ?_
      refine V.ret ?_
      replace HS := HS.sel [0, 2] [1] (by kernel_rfl)
      cases H
      exact At.ret1 rfl rfl ⟨_, rfl, rfl, HS⟩
    · replace H := ite_f c19 H
      refine V.condF (sb (decide_eq_false c19)) ?_
      refine V.skip ?_
      refine At.next ?_
      refine V.seq ?_
      refine V.region ?_
      refine W.rd (X.move rfl) rfl rfl rfl ?_
      refine W.rd (X.assign rfl) rfl rfl rfl ?_
      refine W.nil ?_
      refine At.next ?_
      refine V.ret ?_
      replace HS := HS.re [1, 2, 3, 0, 4, 5, 6, 7, 8, 9, 10] (by kernel_rfl)
      replace HS := backlog_Log.close t3.2.2 trivial HS
      replace HS := HS.re [3, 0, 4, 2, 5, 6, 7, 1, 8] (by kernel_rfl)
      replace HS := arq_Arq.close (({ m := a0.m, t1 := a0.t1, n2 := a0.n2, size := a0.size, state := a0.state, tag := a0.tag, tries := 0, rejected := a0.rejected, log := t3.2.2, order := a0.order, timers := t13.2, out := a0.out, inds := a0.inds, sent := a0.sent, acked := w64 (a0.acked + t3.1), lost := a0.lost } : arq_Arq)) trivial HS
      replace HS := HS.sel [0, 2] [1] (by kernel_rfl)
      cases H
      exact At.ret1 rfl rfl ⟨_, rfl, rfl, HS⟩

/-! ### (*signalman/backlog.Log).Body: function 99 -/
mutual
def backlog_Log_Body.j0 (a0 : backlog_Log) (t1 : Int) (x6 : Bool) : Option (List Int × Bool) := (if x6 = true then some (([] : List Int), false) else (if 0 ≤ t1 ∧ t1 < (a0.l.length : Int) then ((slices_Clone_Sbytebyte.f (a0.l.getD t1.toNat [])).bind fun t18 => some (t18, true)) else none))
end
def backlog_Log_Body.f (a0 : backlog_Log) (a1 : Int) : Option (List Int × Bool) := ((serial_Dist.f a0.first a1 a0.m).bind fun t1 => (if a1 < 0 then (backlog_Log_Body.j0 a0 t1 true) else (if a1 ≥ a0.m then (backlog_Log_Body.j0 a0 t1 true) else (backlog_Log_Body.j0 a0 t1 (decide (t1 ≥ a0.out))))))
set_option maxRecDepth 100000 in
set_option maxHeartbeats 4000000 in
theorem backlog_Log_Body.calls (a0 : backlog_Log) (a1 : Int) (R : As) (w0 w : World) (b0 : Nat) (a5_p0 : Option Addr) (c5_p0 : Nat) (d5_p0 : List Value) (r : List Int × Bool)  (H : backlog_Log_Body.f a0 a1 = some r) (HS : Sep.St [blk b0 (#[Value.int .i64 a0.m, Value.int .i64 a0.window, Value.int .i64 a0.queue, Value.int .i64 a0.first, Value.int .i64 a0.out, Value.slice a5_p0 a0.l.length c5_p0]) 103, row 39 1 (.slice a5_p0 a0.l.length c5_p0) a0.l.length d5_p0, tie (El.sl (El.int .u8)) d5_p0 a0.l, R] w0 w) : Calls Try.prog 99 #[Value.pointer (some ⟨b0, 0, none⟩), Value.int .i64 a1] w (Ret fun u w => ∃ (aq0 : Option Addr) (cq0 : Nat), u = Value.tuple #[Value.slice aq0 r.1.length cq0, Value.bool r.2] ∧ Sep.St [row 5 1 (.slice aq0 r.1.length cq0) r.1.length (r.1.map (Value.int .u8)), blk b0 (#[Value.int .i64 a0.m, Value.int .i64 a0.window, Value.int .i64 a0.queue, Value.int .i64 a0.first, Value.int .i64 a0.out, Value.slice a5_p0 a0.l.length c5_p0]) 103, row 39 1 (.slice a5_p0 a0.l.length c5_p0) a0.l.length d5_p0, tie (El.sl (El.int .u8)) d5_p0 a0.l, R] w0 w) := by
  unfold backlog_Log_Body.f at H
  refine calls_enter Try.func99 rfl rfl ?_
  have H : _ = some r := H
  refine V.seq ?_
  refine V.region ?_
  refine W.rd (X.assign rfl) rfl rfl rfl ?_
  refine W.rd (X.assign rfl) rfl rfl rfl ?_
  refine W.nil ?_
  refine At.next ?_
  refine V.seq ?_
  refine V.draw (es := [9]) (bl := [10]) (f := [(7, Value.pointer (some ⟨b0, 0, none⟩)), (8, Value.pointer (some ⟨b0, 0, none⟩)), (9, Value.pointer (some ⟨b0, 0 + 3, none⟩)), (10, Value.int .i64 a0.first), (11, Value.int .i64 a1), (12, Value.pointer (some ⟨b0, 0, none⟩)), (13, Value.pointer (some ⟨b0, 0, none⟩)), (14, Value.pointer (some ⟨b0, 0 + 0, none⟩)), (15, Value.int .i64 a0.m)]) (fun w => Sep.St [blk b0 (#[Value.int .i64 a0.m, Value.int .i64 a0.window, Value.int .i64 a0.queue, Value.int .i64 a0.first, Value.int .i64 a0.out, Value.slice a5_p0 a0.l.length c5_p0]) 103, row 39 1 (.slice a5_p0 a0.l.length c5_p0) a0.l.length d5_p0, tie (El.sl (El.int .u8)) d5_p0 a0.l, R] w0 w) mo HS.drew rfl ?_
  refine T.event _ [(10, Value.int .i64 a0.first), (11, Value.int .i64 a1), (15, Value.int .i64 a0.m)] rfl rfl ⟨.m1 0 rfl (.l rfl rfl) (fun w HS => X.move rfl) rfl rfl rfl rfl rfl, .m1 7 rfl (.r rfl rfl) (fun w HS => X.nilCheck rfl) rfl rfl rfl rfl rfl, .m1 8 rfl (.r rfl rfl) (fun w HS => X.fieldAddr 3 fo103_3 rfl) rfl rfl rfl rfl rfl, .m1 9 rfl (.r rfl rfl) (fun w HS => X.loadAt 0 HS rfl Try.underlying3 rfl rfl rfl) rfl rfl rfl rfl rfl, .m1 1 rfl (.l rfl rfl) (fun w HS => X.move rfl) rfl rfl rfl rfl rfl, .m1 0 rfl (.l rfl rfl) (fun w HS => X.move rfl) rfl rfl rfl rfl rfl, .m1 12 rfl (.r rfl rfl) (fun w HS => X.nilCheck rfl) rfl rfl rfl rfl rfl, .m1 13 rfl (.r rfl rfl) (fun w HS => X.fieldAddr 0 fo103_0 rfl) rfl rfl rfl rfl rfl, .m1 14 rfl (.r rfl rfl) (fun w HS => X.loadAt 0 HS rfl Try.underlying3 rfl rfl rfl) rfl rfl rfl rfl rfl, trivial⟩ rfl ⟨.inr ⟨rfl, rfl⟩, ⟨.inr ⟨rfl, rfl⟩, ⟨.inr ⟨rfl, rfl⟩, trivial⟩⟩⟩ (Or.inl rfl) (by intro d hd; cases hd; exact ⟨by decide, rfl, rfl⟩) [] [0, 1, 2, 3, 4, 5, 6, 7, 8] rfl rfl (fun w HS => ?_)
  obtain ⟨t1, A2, H⟩ := bind_s H
  refine ⟨_, Y.call Try.func100 (by kernel_rfl) rfl (vs := [Value.int .i64 a0.first, Value.int .i64 a1, Value.int .i64 a0.m]) rfl (serial_Dist.calls a0.first a1 a0.m _ w0 _  t1  A2 (Sep.St.tailJoin (m := []) (r := [blk b0 (#[Value.int .i64 a0.m, Value.int .i64 a0.window, Value.int .i64 a0.queue, Value.int .i64 a0.first, Value.int .i64 a0.out, Value.slice a5_p0 a0.l.length c5_p0]) 103, row 39 1 (.slice a5_p0 a0.l.length c5_p0) a0.l.length d5_p0, tie (El.sl (El.int .u8)) d5_p0 a0.l, R]) HS)), ?_⟩
  rintro _ w ⟨rfl, HS⟩
  replace HS := Sep.St.tailOpen (m := []) (r := [blk b0 (#[Value.int .i64 a0.m, Value.int .i64 a0.window, Value.int .i64 a0.queue, Value.int .i64 a0.first, Value.int .i64 a0.out, Value.slice a5_p0 a0.l.length c5_p0]) 103, row 39 1 (.slice a5_p0 a0.l.length c5_p0) a0.l.length d5_p0, tie (El.sl (El.int .u8)) d5_p0 a0.l, R]) HS
  refine ⟨[(16, Value.int .i64 t1), (6, Value.int .i64 t1)], _, ⟨.inl ⟨rfl, rfl⟩, ⟨.inr ⟨by decide, rfl⟩, trivial⟩⟩, ?_, HS⟩
  refine T.fin [(0, Value.pointer (some ⟨b0, 0, none⟩)), (1, Value.int .i64 a1), (6, Value.int .i64 t1)] rfl ⟨.m1 16 rfl (.r rfl rfl) (fun w HS => X.assign rfl) rfl rfl rfl rfl rfl, trivial⟩ ⟨.inl ⟨rfl, rfl⟩, ⟨.inl ⟨rfl, rfl⟩, ⟨.inr ⟨rfl, rfl⟩, trivial⟩⟩⟩ (fun w HS => ?_)
  refine At.next ?_
  refine V.seq ?_
  refine V.meet (σ := Bool) (fun st w => match st with | x6 => Sep.St [blk b0 (#[Value.int .i64 a0.m, Value.int .i64 a0.window, Value.int .i64 a0.queue, Value.int .i64 a0.first, Value.int .i64 a0.out, Value.slice a5_p0 a0.l.length c5_p0]) 103, row 39 1 (.slice a5_p0 a0.l.length c5_p0) a0.l.length d5_p0, tie (El.sl (El.int .u8)) d5_p0 a0.l, R] w0 w ∧ backlog_Log_Body.j0 a0 t1 x6 = some r) (fun st => match st with | x6 => [(0, Value.pointer (some ⟨b0, 0, none⟩)), (6, Value.int .i64 t1), (34, Value.bool x6)]) ?_ ?_
  · refine V.region ?_
    refine W.rd (X.move rfl) rfl rfl rfl ?_
    refine W.rd (X.cmp (decide (a1 < 0)) rfl rfl rfl rfl) rfl rfl rfl ?_
    refine W.rd (X.move rfl) rfl rfl rfl ?_
    by_cases c20 : a1 < 0
    · replace H := ite_t c20 H
      refine W.pass 19 rfl (sb (decide_eq_true c20)) rfl rfl ?_
      refine W.pass 19 rfl (sb (decide_eq_true c20)) rfl rfl ?_
      refine W.pass 19 rfl (sb (decide_eq_true c20)) rfl rfl ?_
      refine W.pass 19 rfl (sb (decide_eq_true c20)) rfl rfl ?_
      refine W.pass 19 rfl (sb (decide_eq_true c20)) rfl rfl ?_
      refine W.pass 19 rfl (sb (decide_eq_true c20)) rfl rfl ?_
      refine W.rd (X.pickT (sb (decide_eq_true c20)) rfl) rfl rfl rfl ?_
      refine W.rd (X.move rfl) rfl rfl rfl ?_
      refine W.pass 27 rfl rfl rfl rfl ?_
      refine W.pass 27 rfl rfl rfl rfl ?_
      refine W.pass 27 rfl rfl rfl rfl ?_
      refine W.pass 27 rfl rfl rfl rfl ?_
      refine W.pass 27 rfl rfl rfl rfl ?_
      refine W.pass 27 rfl rfl rfl rfl ?_
      refine W.rd (X.pickT rfl rfl) rfl rfl rfl ?_
      refine W.nil ?_
      exact At.meet true ⟨rfl, rfl, rfl, trivial⟩ ⟨HS, H⟩
    · replace H := ite_f c20 H
      refine W.want 19 rfl (sb (decide_eq_false c20)) ?_
      refine W.rd (X.move rfl) rfl rfl rfl ?_
      refine W.want 19 rfl (sb (decide_eq_false c20)) ?_
      refine W.rd (X.move rfl) rfl rfl rfl ?_
      refine W.want 19 rfl (sb (decide_eq_false c20)) ?_
      refine W.rd (X.nilCheck rfl) rfl rfl rfl ?_
      refine W.want 19 rfl (sb (decide_eq_false c20)) ?_
      refine W.rd (X.fieldAddr 0 fo103_0 rfl) rfl rfl rfl ?_
      refine W.want 19 rfl (sb (decide_eq_false c20)) ?_
      refine W.rd (X.loadAt 0 HS rfl Try.underlying3 rfl rfl rfl) rfl rfl rfl ?_
      refine W.want 19 rfl (sb (decide_eq_false c20)) ?_
      refine W.rd (X.cmp (decide (a1 ≥ a0.m)) rfl rfl rfl rfl) rfl rfl rfl ?_
      refine W.rd (X.pickF (sb (decide_eq_false c20)) rfl) rfl rfl rfl ?_
      refine W.rd (X.move rfl) rfl rfl rfl ?_
      by_cases c21 : a1 ≥ a0.m
      · replace H := ite_t c21 H
        refine W.pass 27 rfl (sb (decide_eq_true c21)) rfl rfl ?_
        refine W.pass 27 rfl (sb (decide_eq_true c21)) rfl rfl ?_
        refine W.pass 27 rfl (sb (decide_eq_true c21)) rfl rfl ?_
        refine W.pass 27 rfl (sb (decide_eq_true c21)) rfl rfl ?_
        refine W.pass 27 rfl (sb (decide_eq_true c21)) rfl rfl ?_
        refine W.pass 27 rfl (sb (decide_eq_true c21)) rfl rfl ?_
        refine W.rd (X.pickT (sb (decide_eq_true c21)) rfl) rfl rfl rfl ?_
        refine W.nil ?_
        exact At.meet true ⟨rfl, rfl, rfl, trivial⟩ ⟨HS, H⟩
      · replace H := ite_f c21 H
        refine W.want 27 rfl (sb (decide_eq_false c21)) ?_
        refine W.rd (X.move rfl) rfl rfl rfl ?_
        refine W.want 27 rfl (sb (decide_eq_false c21)) ?_
        refine W.rd (X.move rfl) rfl rfl rfl ?_
        refine W.want 27 rfl (sb (decide_eq_false c21)) ?_
        refine W.rd (X.nilCheck rfl) rfl rfl rfl ?_
        refine W.want 27 rfl (sb (decide_eq_false c21)) ?_
        refine W.rd (X.fieldAddr 4 fo103_4 rfl) rfl rfl rfl ?_
        refine W.want 27 rfl (sb (decide_eq_false c21)) ?_
        refine W.rd (X.loadAt 0 HS rfl Try.underlying3 rfl rfl rfl) rfl rfl rfl ?_
        refine W.want 27 rfl (sb (decide_eq_false c21)) ?_
        refine W.rd (X.cmp (decide (t1 ≥ a0.out)) rfl rfl rfl rfl) rfl rfl rfl ?_
        refine W.rd (X.pickF (sb (decide_eq_false c21)) rfl) rfl rfl rfl ?_
        refine W.nil ?_
        exact At.meet (decide (t1 ≥ a0.out)) ⟨rfl, rfl, rfl, trivial⟩ ⟨HS, H⟩
  · rintro x6 w ⟨HS, H⟩
    unfold backlog_Log_Body.j0 at H
    by_cases c8 : x6 = true
    · replace H := ite_t c8 H
      refine V.condT (sb c8) ?_
      refine V.seq ?_
      refine V.region ?_
      refine W.rd (X.assign rfl) rfl rfl rfl ?_
      refine W.rd (X.assign rfl) rfl rfl rfl ?_
      refine W.nil ?_
      refine At.next ?_
      refine V.ret ?_
      refine At.thenRet ?_
      replace HS := row_nil' (e := 5) 1 none HS
      have HS : Sep.St [row 5 1 (.slice none ([] : List Int).length 0) ([] : List Int).length (([] : List Int).map (Value.int .u8)), blk b0 (#[Value.int .i64 a0.m, Value.int .i64 a0.window, Value.int .i64 a0.queue, Value.int .i64 a0.first, Value.int .i64 a0.out, Value.slice a5_p0 a0.l.length c5_p0]) 103, row 39 1 (.slice a5_p0 a0.l.length c5_p0) a0.l.length d5_p0, tie (El.sl (El.int .u8)) d5_p0 a0.l, R] w0 w := HS
      cases H
      exact At.ret2 rfl rfl rfl ⟨_, rfl, none, 0, rfl, HS⟩
    · replace H := ite_f c8 H
      refine V.condF (sb (b_f c8)) ?_
      refine V.skip ?_
      refine At.next ?_
      refine V.seq ?_
      refine V.region ?_
      refine W.rd (X.move rfl) rfl rfl rfl ?_
      refine W.rd (X.nilCheck rfl) rfl rfl rfl ?_
      refine W.rd (X.fieldAddr 5 fo103_5 rfl) rfl rfl rfl ?_
      refine W.rd (X.loadAt 0 HS rfl Try.underlying30 rfl rfl rfl) rfl rfl rfl ?_
      refine W.rd (X.move rfl) rfl rfl rfl ?_
      obtain ⟨c9, H⟩ := ite_n H
      obtain ⟨eb10, eo11, hh⟩ := (rdC.at 1 row_rd HS rfl).some (by decide) c9.1 c9.2; subst hh
      refine W.rd (X.indexSl Try.underlying30 inf39 rfl rfl c9.1 c9.2) rfl rfl rfl ?_
      obtain ⟨ec12, hc13, HS⟩ := St.tie_at 2 HS rfl ([]) c9.1 c9.2
      obtain ⟨ea14, em15, he17, HN⟩ := St.sl_openF (Value.int .u8) (fun t => tie_int t) HS; clear HS; subst he17; have HS := HN
      refine W.rd (X.load Try.underlying39 rfl rfl ((rdC.at 2 row_rd HS rfl).cellEl0 (hc13 0 _ rfl))) rfl rfl rfl ?_
      obtain ⟨t18, A19, H⟩ := bind_s H
      refine W.ev (Y.call Try.func93 (by kernel_rfl) rfl (vs := [Value.slice ea14 (a0.l.getD t1.toNat []).length em15]) rfl (slices_Clone_Sbytebyte.calls (a0.l.getD t1.toNat []) _ w0 _ ea14 em15 t18 (rdC.part 0 fsl.rd rfl) A19 (Sep.St.tailJoin (m := []) (r := [fsl 1 (.slice ea14 (a0.l.getD t1.toNat []).length em15) (a0.l.getD t1.toNat []).length ((a0.l.getD t1.toNat []).map (Value.int .u8)), blk b0 (#[Value.int .i64 a0.m, Value.int .i64 a0.window, Value.int .i64 a0.queue, Value.int .i64 a0.first, Value.int .i64 a0.out, Value.slice (some ⟨eb10, eo11, none⟩) a0.l.length c5_p0]) 103, row 39 1 (.slice (some ⟨eb10, eo11, none⟩) a0.l.length c5_p0) a0.l.length d5_p0, tie (El.sl (El.int .u8)) d5_p0 a0.l, R]) HS))) rfl rfl rfl ?_
      rintro _ w ⟨at18_0, ct18_0, rfl, HS⟩
      replace HS := Sep.St.tailOpen (m := [row 5 1 (.slice at18_0 t18.length ct18_0) t18.length (t18.map (Value.int .u8))]) (r := [fsl 1 (.slice ea14 (a0.l.getD t1.toNat []).length em15) (a0.l.getD t1.toNat []).length ((a0.l.getD t1.toNat []).map (Value.int .u8)), blk b0 (#[Value.int .i64 a0.m, Value.int .i64 a0.window, Value.int .i64 a0.queue, Value.int .i64 a0.first, Value.int .i64 a0.out, Value.slice (some ⟨eb10, eo11, none⟩) a0.l.length c5_p0]) 103, row 39 1 (.slice (some ⟨eb10, eo11, none⟩) a0.l.length c5_p0) a0.l.length d5_p0, tie (El.sl (El.int .u8)) d5_p0 a0.l, R]) HS
      refine W.rd (X.assign rfl) rfl rfl rfl ?_
      refine W.rd (X.assign rfl) rfl rfl rfl ?_
      refine W.nil ?_
      refine At.next ?_
      refine V.ret ?_
      replace HS := HS.sel [0, 2, 3, 4, 5] [1] (by kernel_rfl)
      cases H
      exact At.ret2 rfl rfl rfl ⟨_, rfl, at18_0, ct18_0, rfl, HS⟩

/-! ### (*signalman/arq.Arq).repeat: function 83 -/
def arq_Arq_repeat.f (k : Nat) (a0 : arq_Arq) (a1 : Int) (a2 : Bool) : Option arq_Arq := ((backlog_Log_Body.f a0.log a1).bind fun t5 => ((arq_Arq_message.f k a0 a1 t5.1 a2).bind fun t7 => some t7))
set_option maxRecDepth 100000 in
set_option maxHeartbeats 4000000 in
theorem arq_Arq_repeat.calls (k : Nat) (a0 : arq_Arq) (a1 : Int) (a2 : Bool) (R : As) (w0 w : World) (b0 : Nat) (r : arq_Arq)  (H : arq_Arq_repeat.f k a0 a1 a2 = some r) (HS : Sep.St [arq_Arq.at b0 a0, R] w0 w) : Calls Try.prog 83 #[Value.pointer (some ⟨b0, 0, none⟩), Value.int .i64 a1, Value.bool a2] w (Ret fun u w => u = Value.tuple #[] ∧ Sep.St [arq_Arq.at b0 r, R] w0 w) := by
  unfold arq_Arq_repeat.f at H
  refine calls_enter Try.func83 rfl rfl ?_
  have H : _ = some r := H
  refine V.seq ?_
  refine V.region ?_
  refine W.rd (X.move rfl) rfl rfl rfl ?_
  refine W.rd (X.nilCheck rfl) rfl rfl rfl ?_
  obtain ⟨b8_1, b9_1, b10_1, a11_1, c11_1, d11_1, a12_1, c12_1, hi2, HS⟩ := arq_Arq.open HS
  refine W.rd (X.fieldAddr 8 fo82_8 rfl) rfl rfl rfl ?_
  refine W.rd (X.loadAt 0 HS rfl Try.underlying74 rfl rfl rfl) rfl rfl rfl ?_
  refine W.rd (X.move rfl) rfl rfl rfl ?_
  replace HS := HS.front 1 rfl
  obtain ⟨a5_3, c5_3, d5_3, hi4, HS⟩ := backlog_Log.open HS
  obtain ⟨t5, A6, H⟩ := bind_s H
  refine W.ev (Y.call Try.func99 (by kernel_rfl) rfl (vs := [Value.pointer (some ⟨b8_1, 0, none⟩), Value.int .i64 a1]) rfl (backlog_Log_Body.calls a0.log a1 _ w0 _ b8_1 a5_3 c5_3 d5_3 t5  A6 (Sep.St.tailJoin (m := [blk b8_1 (#[Value.int .i64 a0.log.m, Value.int .i64 a0.log.window, Value.int .i64 a0.log.queue, Value.int .i64 a0.log.first, Value.int .i64 a0.log.out, Value.slice a5_3 a0.log.l.length c5_3]) 103, row 39 1 (.slice a5_3 a0.log.l.length c5_3) a0.log.l.length d5_3, tie (El.sl (El.int .u8)) d5_3 a0.log.l]) (r := [blk b0 (#[Value.int .i64 a0.m, Value.int .i64 a0.t1, Value.int .i64 a0.n2, Value.int .i64 a0.size, Value.int .i64 a0.state, Value.int .i64 a0.tag, Value.int .i64 a0.tries, Value.bool a0.rejected, Value.pointer (some ⟨b8_1, 0, none⟩), Value.pointer (some ⟨b9_1, 0, none⟩), Value.pointer (some ⟨b10_1, 0, none⟩), Value.slice a11_1 a0.out.length c11_1, Value.slice a12_1 a0.inds.length c12_1, Value.int .i64 a0.sent, Value.int .i64 a0.acked, Value.int .i64 a0.lost]) 82, reorder_Order.at b9_1 a0.order, clock_Set.at b10_1 a0.timers, row 39 1 (.slice a11_1 a0.out.length c11_1) a0.out.length d11_1, tie (El.sl (El.int .u8)) d11_1 a0.out, row 3 1 (.slice a12_1 a0.inds.length c12_1) a0.inds.length (a0.inds.map (Value.int .i64)), R]) HS))) rfl rfl rfl ?_
  rintro _ w ⟨at5_0, ct5_0, rfl, HS⟩
  replace HS := Sep.St.tailOpen (m := [row 5 1 (.slice at5_0 t5.1.length ct5_0) t5.1.length (t5.1.map (Value.int .u8)), blk b8_1 (#[Value.int .i64 a0.log.m, Value.int .i64 a0.log.window, Value.int .i64 a0.log.queue, Value.int .i64 a0.log.first, Value.int .i64 a0.log.out, Value.slice a5_3 a0.log.l.length c5_3]) 103, row 39 1 (.slice a5_3 a0.log.l.length c5_3) a0.log.l.length d5_3, tie (El.sl (El.int .u8)) d5_3 a0.log.l]) (r := [blk b0 (#[Value.int .i64 a0.m, Value.int .i64 a0.t1, Value.int .i64 a0.n2, Value.int .i64 a0.size, Value.int .i64 a0.state, Value.int .i64 a0.tag, Value.int .i64 a0.tries, Value.bool a0.rejected, Value.pointer (some ⟨b8_1, 0, none⟩), Value.pointer (some ⟨b9_1, 0, none⟩), Value.pointer (some ⟨b10_1, 0, none⟩), Value.slice a11_1 a0.out.length c11_1, Value.slice a12_1 a0.inds.length c12_1, Value.int .i64 a0.sent, Value.int .i64 a0.acked, Value.int .i64 a0.lost]) 82, reorder_Order.at b9_1 a0.order, clock_Set.at b10_1 a0.timers, row 39 1 (.slice a11_1 a0.out.length c11_1) a0.out.length d11_1, tie (El.sl (El.int .u8)) d11_1 a0.out, row 3 1 (.slice a12_1 a0.inds.length c12_1) a0.inds.length (a0.inds.map (Value.int .i64)), R]) HS
  refine W.rd (X.move rfl) rfl rfl rfl ?_
  refine W.rd (X.extract rfl rfl) rfl rfl rfl ?_
  refine W.rd (X.extract rfl rfl) rfl rfl rfl ?_
  refine W.rd (X.assign rfl) rfl rfl rfl ?_
  refine W.rd (X.assign rfl) rfl rfl rfl ?_
  refine W.nil ?_
  refine At.next ?_
  refine V.region ?_
  refine W.rd (X.move rfl) rfl rfl rfl ?_
  refine W.rd (X.move rfl) rfl rfl rfl ?_
  refine W.rd (X.move rfl) rfl rfl rfl ?_
  refine W.rd (X.move rfl) rfl rfl rfl ?_
  replace HS := HS.re [1, 2, 3, 0, 4, 5, 6, 7, 8, 9, 10] (by kernel_rfl)
  replace HS := backlog_Log.close a0.log trivial HS
  replace HS := HS.re [2, 0, 3, 4, 5, 6, 7, 1, 8] (by kernel_rfl)
  replace HS := arq_Arq.close a0 trivial HS
  replace HS := HS.front 1 rfl
  replace HS := St.row_freeze HS
  obtain ⟨t7, A8, H⟩ := bind_s H
  replace HS := HS.re [1, 0, 2] (by kernel_rfl)
  refine W.ev (Y.call Try.func95 (by kernel_rfl) rfl (vs := [Value.pointer (some ⟨b0, 0, none⟩), Value.int .i64 a1, Value.slice at5_0 t5.1.length ct5_0, Value.bool a2]) rfl (arq_Arq_message.calls k a0 a1 t5.1 a2 _ w0 _ b0 at5_0 ct5_0 t7  A8 (Sep.St.tailJoin (m := [arq_Arq.at b0 a0, fsl 1 (.slice at5_0 t5.1.length ct5_0) t5.1.length (t5.1.map (Value.int .u8))]) (r := [R]) HS))) rfl rfl rfl ?_
  rintro _ w ⟨rfl, HS⟩
  replace HS := Sep.St.tailOpen (m := [arq_Arq.at b0 t7]) (r := [R]) HS
  refine W.nil ?_
  cases H
  exact At.end0 rfl ⟨_, rfl, rfl, HS⟩

/-! ### (*signalman/arq.Arq).resend: function 71 -/
mutual
def arq_Arq_resend.l0 : Nat → (List Int) → Int → arq_Arq → Option arq_Arq
  | 0, _, _, _ => none
  | k + 1, t5, x17, x18 => (if x17 < (t5.length : Int) then (if 0 ≤ x17 ∧ x17 < (t5.length : Int) then ((arq_Arq_repeat.f k x18 (t5.getD x17.toNat 0) false).bind fun t25 => (arq_Arq_resend.l0 k t5 (w64 (x17 + 1)) t25)) else none) else (if (t5.length : Int) > 0 then ((arq_Arq_start.f x18).bind fun t28 => some t28) else some x18))
end
def arq_Arq_resend.f (k : Nat) (a0 : arq_Arq) : Option arq_Arq := ((backlog_Log_Out.f k a0.log).bind fun t5 => (arq_Arq_resend.l0 k t5 0 a0))
set_option maxRecDepth 100000 in
set_option maxHeartbeats 4000000 in
theorem arq_Arq_resend.calls (k : Nat) (a0 : arq_Arq) (R : As) (w0 w : World) (b0 : Nat) (r : arq_Arq)  (H : arq_Arq_resend.f k a0 = some r) (HS : Sep.St [arq_Arq.at b0 a0, R] w0 w) : Calls Try.prog 71 #[Value.pointer (some ⟨b0, 0, none⟩)] w (Ret fun u w => u = Value.tuple #[] ∧ Sep.St [arq_Arq.at b0 r, R] w0 w) := by
  unfold arq_Arq_resend.f at H
  refine calls_enter Try.func71 rfl rfl ?_
  have H : _ = some r := H
  refine V.seq ?_
  refine V.region ?_
  refine W.rd (X.move rfl) rfl rfl rfl ?_
  refine W.rd (X.nilCheck rfl) rfl rfl rfl ?_
  obtain ⟨b8_1, b9_1, b10_1, a11_1, c11_1, d11_1, a12_1, c12_1, hi2, HS⟩ := arq_Arq.open HS
  refine W.rd (X.fieldAddr 8 fo82_8 rfl) rfl rfl rfl ?_
  refine W.rd (X.loadAt 0 HS rfl Try.underlying74 rfl rfl rfl) rfl rfl rfl ?_
  replace HS := HS.front 1 rfl
  obtain ⟨a5_3, c5_3, d5_3, hi4, HS⟩ := backlog_Log.open HS
  obtain ⟨t5, A6, H⟩ := bind_s H
  refine W.ev (Y.call Try.func82 (by kernel_rfl) rfl (vs := [Value.pointer (some ⟨b8_1, 0, none⟩)]) rfl (backlog_Log_Out.calls k a0.log _ w0 _ b8_1 a5_3 c5_3 d5_3 t5  A6 (Sep.St.tailJoin (m := [blk b8_1 (#[Value.int .i64 a0.log.m, Value.int .i64 a0.log.window, Value.int .i64 a0.log.queue, Value.int .i64 a0.log.first, Value.int .i64 a0.log.out, Value.slice a5_3 a0.log.l.length c5_3]) 103, row 39 1 (.slice a5_3 a0.log.l.length c5_3) a0.log.l.length d5_3, tie (El.sl (El.int .u8)) d5_3 a0.log.l]) (r := [blk b0 (#[Value.int .i64 a0.m, Value.int .i64 a0.t1, Value.int .i64 a0.n2, Value.int .i64 a0.size, Value.int .i64 a0.state, Value.int .i64 a0.tag, Value.int .i64 a0.tries, Value.bool a0.rejected, Value.pointer (some ⟨b8_1, 0, none⟩), Value.pointer (some ⟨b9_1, 0, none⟩), Value.pointer (some ⟨b10_1, 0, none⟩), Value.slice a11_1 a0.out.length c11_1, Value.slice a12_1 a0.inds.length c12_1, Value.int .i64 a0.sent, Value.int .i64 a0.acked, Value.int .i64 a0.lost]) 82, reorder_Order.at b9_1 a0.order, clock_Set.at b10_1 a0.timers, row 39 1 (.slice a11_1 a0.out.length c11_1) a0.out.length d11_1, tie (El.sl (El.int .u8)) d11_1 a0.out, row 3 1 (.slice a12_1 a0.inds.length c12_1) a0.inds.length (a0.inds.map (Value.int .i64)), R]) HS))) rfl rfl rfl ?_
  rintro _ w ⟨at5_0, ct5_0, rfl, HS⟩
  replace HS := Sep.St.tailOpen (m := [row 3 1 (.slice at5_0 t5.length ct5_0) t5.length (t5.map (Value.int .i64)), blk b8_1 (#[Value.int .i64 a0.log.m, Value.int .i64 a0.log.window, Value.int .i64 a0.log.queue, Value.int .i64 a0.log.first, Value.int .i64 a0.log.out, Value.slice a5_3 a0.log.l.length c5_3]) 103, row 39 1 (.slice a5_3 a0.log.l.length c5_3) a0.log.l.length d5_3, tie (El.sl (El.int .u8)) d5_3 a0.log.l]) (r := [blk b0 (#[Value.int .i64 a0.m, Value.int .i64 a0.t1, Value.int .i64 a0.n2, Value.int .i64 a0.size, Value.int .i64 a0.state, Value.int .i64 a0.tag, Value.int .i64 a0.tries, Value.bool a0.rejected, Value.pointer (some ⟨b8_1, 0, none⟩), Value.pointer (some ⟨b9_1, 0, none⟩), Value.pointer (some ⟨b10_1, 0, none⟩), Value.slice a11_1 a0.out.length c11_1, Value.slice a12_1 a0.inds.length c12_1, Value.int .i64 a0.sent, Value.int .i64 a0.acked, Value.int .i64 a0.lost]) 82, reorder_Order.at b9_1 a0.order, clock_Set.at b10_1 a0.timers, row 39 1 (.slice a11_1 a0.out.length c11_1) a0.out.length d11_1, tie (El.sl (El.int .u8)) d11_1 a0.out, row 3 1 (.slice a12_1 a0.inds.length c12_1) a0.inds.length (a0.inds.map (Value.int .i64)), R]) HS
  refine W.rd (X.assign rfl) rfl rfl rfl ?_
  refine W.nil ?_
  refine At.next ?_
  refine V.seq ?_
  refine V.seq ?_
  refine V.region ?_
  refine W.rd (X.move rfl) rfl rfl rfl ?_
  refine W.rd (X.lenSl Try.underlying34 rfl) rfl rfl rfl ?_
  refine W.rd (X.move rfl) rfl rfl rfl ?_
  refine W.nil ?_
  refine At.next ?_
  refine V.block ?_
  replace HS := HS.re [1, 2, 3, 0, 4, 5, 6, 7, 8, 9, 10] (by kernel_rfl)
  replace HS := backlog_Log.close a0.log trivial HS
  replace HS := HS.re [2, 0, 3, 4, 5, 6, 7, 1, 8] (by kernel_rfl)
  replace HS := arq_Arq.close a0 trivial HS
  refine V.loop (σ := Int × arq_Arq) (fun kq (st : Int × arq_Arq) w => match st with | (x17, x18) => Sep.St [arq_Arq.at b0 x18, row 3 1 (.slice at5_0 t5.length ct5_0) t5.length (t5.map (Value.int .i64)), R] w0 w ∧ arq_Arq_resend.l0 kq t5 x17 x18 = some r ∧ kq ≤ k) (fun st => match st with | (x17, x18) => [(0, Value.pointer (some ⟨b0, 0, none⟩)), (2, Value.slice at5_0 t5.length ct5_0), (10, Value.slice at5_0 t5.length ct5_0), (11, Value.int .i64 (t5.length : Int)), (12, Value.int .i64 x17)]) k (0, a0) ⟨rfl, rfl, rfl, rfl, rfl, trivial⟩ ⟨HS, H, Nat.le_refl _⟩ ?_
  rintro kq19 ⟨x17, x18⟩ w ⟨HS, H, hk20⟩
  cases kq19 with
  | zero => exact absurd H (by simp [arq_Arq_resend.l0])
  | succ kq19 =>
    simp only [arq_Arq_resend.l0] at H
    refine V.seq ?_
    refine V.region ?_
    refine W.rd (X.cmp (decide (x17 < (t5.length : Int))) rfl rfl rfl rfl) rfl rfl rfl ?_
    refine W.nil ?_
    refine At.next ?_
    refine V.seq ?_
    by_cases c21 : x17 < (t5.length : Int)
    · replace H := ite_t c21 H
      refine V.condT (sb (decide_eq_true c21)) ?_
      refine V.skip ?_
      refine At.next ?_
      refine V.seq ?_
      refine V.block ?_
      refine V.seq ?_
      refine V.region ?_
      obtain ⟨c22, H⟩ := ite_n H
      obtain ⟨eb23, eo24, hh⟩ := (rdC.at 1 row_rd HS rfl).some (by decide) c22.1 c22.2; subst hh
      refine W.rd (X.indexSl Try.underlying34 inf3 rfl rfl c22.1 c22.2) rfl rfl rfl ?_
      refine W.rd (X.load Try.underlying3 rfl rfl ((rdC.at 1 row_rd HS rfl).cellI c22.1 c22.2)) rfl rfl rfl ?_
      refine W.rd (X.assign rfl) rfl rfl rfl ?_
      refine W.nil ?_
      refine At.next ?_
      refine V.region ?_
      refine W.rd (X.move rfl) rfl rfl rfl ?_
      refine W.rd (X.move rfl) rfl rfl rfl ?_
      obtain ⟨t25, A26, H⟩ := bind_s H
      refine W.ev (Y.call Try.func83 (by kernel_rfl) rfl (vs := [Value.pointer (some ⟨b0, 0, none⟩), Value.int .i64 (t5.getD x17.toNat 0), Value.bool false]) rfl (arq_Arq_repeat.calls kq19 x18 (t5.getD x17.toNat 0) false _ w0 _ b0 t25  A26 (Sep.St.tailJoin (m := [arq_Arq.at b0 x18]) (r := [row 3 1 (.slice (some ⟨eb23, eo24, none⟩) t5.length ct5_0) t5.length (t5.map (Value.int .i64)), R]) HS))) rfl rfl rfl ?_
      rintro _ w ⟨rfl, HS⟩
      replace HS := Sep.St.tailOpen (m := [arq_Arq.at b0 t25]) (r := [row 3 1 (.slice (some ⟨eb23, eo24, none⟩) t5.length ct5_0) t5.length (t5.map (Value.int .i64)), R]) HS
      refine W.nil ?_
      refine At.blockEnd ?_
      refine At.next ?_
      refine V.region ?_
      refine W.rd (X.add rfl rfl) rfl rfl rfl ?_
      refine W.rd (X.move rfl) rfl rfl rfl ?_
      refine W.nil ?_
      exact At.round kq19 (by omega) (w64 (x17 + 1), t25) ⟨rfl, rfl, rfl, rfl, rfl, trivial⟩ ⟨HS, H, by omega⟩
    · replace H := ite_f c21 H
      refine V.condF (sb (decide_eq_false c21)) ?_
      refine V.exit ?_
      refine At.thenExit ?_
      refine At.thenExit ?_
      refine At.blockExit ?_
      refine At.next ?_
      refine V.seq ?_
      refine V.region ?_
      refine W.rd (X.move rfl) rfl rfl rfl ?_
      refine W.rd (X.lenSl Try.underlying34 rfl) rfl rfl rfl ?_
      refine W.rd (X.cmp (decide ((t5.length : Int) > 0)) rfl rfl rfl rfl) rfl rfl rfl ?_
      refine W.nil ?_
      refine At.next ?_
      by_cases c27 : (t5.length : Int) > 0
      · replace H := ite_t c27 H
        refine V.condT (sb (decide_eq_true c27)) ?_
        refine V.region ?_
        refine W.rd (X.move rfl) rfl rfl rfl ?_
        obtain ⟨t28, A29, H⟩ := bind_s H
        refine W.ev (Y.call Try.func47 (by kernel_rfl) rfl (vs := [Value.pointer (some ⟨b0, 0, none⟩)]) rfl (arq_Arq_start.calls x18 _ w0 _ b0 t28  A29 (Sep.St.tailJoin (m := [arq_Arq.at b0 x18]) (r := [row 3 1 (.slice at5_0 t5.length ct5_0) t5.length (t5.map (Value.int .i64)), R]) HS))) rfl rfl rfl ?_
        rintro _ w ⟨rfl, HS⟩
        replace HS := Sep.St.tailOpen (m := [arq_Arq.at b0 t28]) (r := [row 3 1 (.slice at5_0 t5.length ct5_0) t5.length (t5.map (Value.int .i64)), R]) HS
        refine W.nil ?_
        replace HS := HS.sel [0, 2] [1] (by kernel_rfl)
        cases H
        exact At.end0 rfl ⟨_, rfl, rfl, HS⟩
      · replace H := ite_f c27 H
        refine V.condF (sb (decide_eq_false c27)) ?_
        refine V.skip ?_
        replace HS := HS.sel [0, 2] [1] (by kernel_rfl)
        cases H
        exact At.end0 rfl ⟨_, rfl, rfl, HS⟩
end Go.Proofs.Ytnlcafmkmfnobaa

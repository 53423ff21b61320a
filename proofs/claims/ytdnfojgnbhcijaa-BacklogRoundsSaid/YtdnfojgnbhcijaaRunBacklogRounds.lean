/- BacklogRounds: the functions that its law reaches, as plain functions, and that the machine's calls come to what these say. Conditions: those that stand at each. -/
import Derived.Test.YtdnfojgnbhcijaaRunBacklogRoundsP1
set_option linter.all false
namespace Go.Proofs.Ytdnfojgnbhcijaa
open Go.RowKit Go.Proofs.Ytdnfojgnbhcijaa.Sep Go.Proofs.Ytdnfojgnbhcijaa.Walk
/-! ### signalman/signalmanlaw13.BacklogRounds: function 5 -/
mutual
def signalmanlaw13_BacklogRounds.l0 : Nat → Int → Int → Int → (List Int) → Int → Int → Int → backlog_Log → Option (Bool)
  | 0, _, _, _, _, _, _, _, _ => none
  | k + 1, a0, a1, a2, a3, x14, x15, x16, x17 => (if x16 < a2 then ((backlog_Log_Add.f x17 ([IntKind.u8.wrap (x16)] : List Int)).bind fun t24 => ((backlog_Log_Next.f t24.2).bind fun t26 => ((signalmanlaw13_num.f t24.1).bind fun t30 => (if t30 = 0 then (if ((t26.2.2.1) != (decide ((w64 (x15 - x14)) < a1))) = true then some (false) else (if t26.2.2.1 = true then (if ¬ (a0 = 0) then (if t26.1 = ((x15).tmod (a0)) then (if sEq (t26.2.1) (([IntKind.u8.wrap (x16)] : List Int)) = true then (signalmanlaw13_BacklogRounds.j1 k a0 a1 a3 x14 x16 t26 (signalmanlaw13_BacklogRounds.l0 k a0 a1 a2 a3) (w64 (x15 + 1)) (w64 (x15 - x14)) (decide ((w64 (x15 - x14)) < a1)) ((t26.2.2.1) != (decide ((w64 (x15 - x14)) < a1)))) else some (false)) else some (false)) else none) else (signalmanlaw13_BacklogRounds.j1 k a0 a1 a3 x14 x16 t26 (signalmanlaw13_BacklogRounds.l0 k a0 a1 a2 a3) x15 (w64 (x15 - x14)) (decide ((w64 (x15 - x14)) < a1)) ((t26.2.2.1) != (decide ((w64 (x15 - x14)) < a1)))))) else some (false))))) else some (true))
def signalmanlaw13_BacklogRounds.j3 (k : Nat) (x16 : Int) (x43 : Int) (Lq56 : Int → Int → Int → backlog_Log → Option (Bool)) (x51 : backlog_Log) (x52 : Int) (x53 : Int) (x54 : Bool) : Option (Bool) := ((backlog_Log_Out.f k x51).bind fun t59 => (if ((t59).length : Int) = (w64 (x52 - x43)) then ((backlog_Log_Len.f x51).bind fun t62 => (if t62 = (w64 (x52 - x43)) then (Lq56 x43 x52 (w64 (x16 + 1)) x51) else some (false))) else some (false)))
def signalmanlaw13_BacklogRounds.j2 (k : Nat) (a0 : Int) (a1 : Int) (x14 : Int) (x16 : Int) (t26 : Int × List Int × Bool × backlog_Log) (x34 : Int) (Lq45 : Int → Int → Int → backlog_Log → Option (Bool)) (x43 : Int) : Option (Bool) := (if ¬ (a0 = 0) then ((backlog_Log_Ack.f t26.2.2.2 ((x43).tmod (a0))).bind fun t47 => (if t47.2.1 = true then (if t47.1 = (w64 (x43 - x14)) then (if t26.2.2.1 = true then (signalmanlaw13_BacklogRounds.j3 k x16 x43 Lq45 t47.2.2 x34 (w64 (x43 - x14)) (!(decide (t47.1 = (w64 (x43 - x14)))))) else ((backlog_Log_Next.f t47.2.2).bind fun t66 => (if ((t66.2.2.1) != (decide ((w64 (x34 - x43)) < a1))) = true then some (false) else (if t66.2.2.1 = true then (if t66.1 = ((x34).tmod (a0)) then (signalmanlaw13_BacklogRounds.j3 k x16 x43 Lq45 t66.2.2.2 (w64 (x34 + 1)) (w64 (x43 - x14)) (!(decide (t47.1 = (w64 (x43 - x14)))))) else some (false)) else some (true))))) else some (false)) else some (false))) else none)
def signalmanlaw13_BacklogRounds.j1 (k : Nat) (a0 : Int) (a1 : Int) (a3 : List Int) (x14 : Int) (x16 : Int) (t26 : Int × List Int × Bool × backlog_Log) (Lq39 : Int → Int → Int → backlog_Log → Option (Bool)) (x34 : Int) (x35 : Int) (x36 : Bool) (x37 : Bool) : Option (Bool) := (if 0 ≤ x16 ∧ x16 < ((a3).length : Int) then (if (w64 (x14 + (iand .i64 ((a3).getD (x16).toNat 0) (7)))) > x34 then (signalmanlaw13_BacklogRounds.j2 k a0 a1 x14 x16 t26 x34 Lq39 x34) else (signalmanlaw13_BacklogRounds.j2 k a0 a1 x14 x16 t26 x34 Lq39 (w64 (x14 + (iand .i64 ((a3).getD (x16).toNat 0) (7)))))) else none)
end
def signalmanlaw13_BacklogRounds.f (k : Nat) (a0 : Int) (a1 : Int) (a2 : Int) (a3 : List Int) : Option (Bool) := ((signalmanlaw13_alive.f ).bind fun t1 => (if t1 = true then (if a0 < 8 then some (t1) else (if a0 > 128 then some (t1) else (if a1 < 1 then some (t1) else (if a1 > (w64 ((a0).tdiv (8))) then some (t1) else (if a2 < 0 then some (t1) else (if a2 > 300 then some (t1) else (if ((a3).length : Int) < a2 then some (t1) else ((backlog_New.f a0 a1 1).bind fun t11 => (signalmanlaw13_BacklogRounds.l0 k a0 a1 a2 a3 0 0 0 t11))))))))) else some (t1)))
set_option maxRecDepth 100000 in
set_option maxHeartbeats 4000000 in
theorem signalmanlaw13_BacklogRounds.calls (k : Nat) (a0 : Int) (a1 : Int) (a2 : Int) (a3 : List Int) (R : As) (w0 w : World) (sa3 : Option Addr) (sc3 : Nat) (r : Bool) (hr3 : rdC R 1 (.slice sa3 (a3).length sc3) (a3).length ((a3).map (Value.int .i64))) (H : signalmanlaw13_BacklogRounds.f k a0 a1 a2 a3 = some r) (HS : Sep.St [R] w0 w) : Calls Try.prog 5 #[Value.int .i64 (a0), Value.int .i64 (a1), Value.int .i64 (a2), Value.slice sa3 (a3).length sc3] w (Ret fun u w => u = Value.bool (r) ∧ Sep.St [R] w0 w) := by
  unfold signalmanlaw13_BacklogRounds.f at H
  refine calls_enter Try.func5 rfl rfl ?_
  have H : _ = some r := H
  refine V.seq ?_
  refine V.region ?_
  refine W.rd (X.assign rfl) rfl rfl rfl ?_
  refine W.nil ?_
  refine At.next ?_
  refine V.keep [(0, Value.int .i64 (a0)), (1, Value.int .i64 (a1)), (2, Value.int .i64 (a2)), (3, Value.slice sa3 (a3).length sc3)] ⟨rfl, rfl, rfl, rfl, trivial⟩ ?_
  refine V.seq ?_
  refine V.region ?_
  obtain ⟨t1, A2, H⟩ := bind_s H
  refine W.ev (Y.call Try.func7 (by kernel_rfl) rfl (vs := []) rfl (signalmanlaw13_alive.calls  _ w0 _  t1  A2 (Sep.St.tailJoin (m := []) (r := [R]) HS))) rfl rfl rfl ?_
  rintro _ w ⟨rfl, HS⟩
  replace HS := Sep.St.tailOpen (m := []) (r := [R]) HS
  have HS : Sep.St [R] w0 w := HS
  refine W.rd (X.assign rfl) rfl rfl rfl ?_
  refine W.nil ?_
  refine At.next ?_
  refine V.keep [(0, Value.int .i64 (a0)), (1, Value.int .i64 (a1)), (2, Value.int .i64 (a2)), (3, Value.slice sa3 (a3).length sc3), (9, Value.bool (t1))] ⟨rfl, rfl, rfl, rfl, rfl, trivial⟩ ?_
  refine V.seq ?_
  refine V.seq ?_
  refine V.region ?_
  refine W.rd (X.move rfl) rfl rfl rfl ?_
  refine W.rd (X.not rfl) rfl rfl rfl ?_
  refine W.rd (X.move rfl) rfl rfl rfl ?_
  by_cases c3 : t1 = true
  · replace H := ite_t c3 H
    refine W.want 24 rfl (sb (n_t c3)) ?_
    refine W.rd (X.move rfl) rfl rfl rfl ?_
    refine W.want 24 rfl (sb (n_t c3)) ?_
    refine W.rd (X.cmp (decide (a0 < 8)) rfl rfl rfl rfl) rfl rfl rfl ?_
    refine W.rd (X.pickF (sb (n_t c3)) rfl) rfl rfl rfl ?_
    refine W.rd (X.move rfl) rfl rfl rfl ?_
    by_cases c4 : a0 < 8
    · replace H := ite_t c4 H
      refine W.pass 28 rfl (sb (decide_eq_true c4)) rfl rfl ?_
      refine W.pass 28 rfl (sb (decide_eq_true c4)) rfl rfl ?_
      refine W.rd (X.pickT (sb (decide_eq_true c4)) rfl) rfl rfl rfl ?_
      refine W.rd (X.move rfl) rfl rfl rfl ?_
      refine W.pass 32 rfl rfl rfl rfl ?_
      refine W.pass 32 rfl rfl rfl rfl ?_
      refine W.rd (X.pickT rfl rfl) rfl rfl rfl ?_
      refine W.rd (X.move rfl) rfl rfl rfl ?_
      refine W.pass 36 rfl rfl rfl rfl ?_
      refine W.pass 36 rfl rfl rfl rfl ?_
      refine W.pass 36 rfl rfl rfl rfl ?_
      refine W.pass 36 rfl rfl rfl rfl ?_
      refine W.rd (X.pickT rfl rfl) rfl rfl rfl ?_
      refine W.rd (X.move rfl) rfl rfl rfl ?_
      refine W.pass 42 rfl rfl rfl rfl ?_
      refine W.pass 42 rfl rfl rfl rfl ?_
      refine W.rd (X.pickT rfl rfl) rfl rfl rfl ?_
      refine W.rd (X.move rfl) rfl rfl rfl ?_
      refine W.pass 46 rfl rfl rfl rfl ?_
      refine W.pass 46 rfl rfl rfl rfl ?_
      refine W.rd (X.pickT rfl rfl) rfl rfl rfl ?_
      refine W.rd (X.move rfl) rfl rfl rfl ?_
      refine W.pass 50 rfl rfl rfl rfl ?_
      refine W.pass 50 rfl rfl rfl rfl ?_
      refine W.pass 50 rfl rfl rfl rfl ?_
      refine W.pass 50 rfl rfl rfl rfl ?_
      refine W.rd (X.pickT rfl rfl) rfl rfl rfl ?_
      refine W.nil ?_
      refine At.next ?_
      refine V.keep [(0, Value.int .i64 (a0)), (1, Value.int .i64 (a1)), (2, Value.int .i64 (a2)), (3, Value.slice sa3 (a3).length sc3), (9, Value.bool (t1)), (55, Value.bool (true))] ⟨rfl, rfl, rfl, rfl, rfl, rfl, trivial⟩ ?_
      refine V.condT rfl ?_
      refine V.seq ?_
      refine V.region ?_
      refine W.rd (X.move rfl) rfl rfl rfl ?_
      refine W.rd (X.assign rfl) rfl rfl rfl ?_
      refine W.nil ?_
      refine At.next ?_
      refine V.keep [(8, Value.bool (t1))] ⟨rfl, trivial⟩ ?_
      refine V.ret ?_
      refine At.thenRet ?_
      cases H
      exact At.ret1 rfl rfl ⟨_, rfl, rfl, HS⟩
    · replace H := ite_f c4 H
      refine W.want 28 rfl (sb (decide_eq_false c4)) ?_
      refine W.rd (X.move rfl) rfl rfl rfl ?_
      refine W.want 28 rfl (sb (decide_eq_false c4)) ?_
      refine W.rd (X.cmp (decide (a0 > 128)) rfl rfl rfl rfl) rfl rfl rfl ?_
      refine W.rd (X.pickF (sb (decide_eq_false c4)) rfl) rfl rfl rfl ?_
      refine W.rd (X.move rfl) rfl rfl rfl ?_
      by_cases c5 : a0 > 128
      · replace H := ite_t c5 H
        refine W.pass 32 rfl (sb (decide_eq_true c5)) rfl rfl ?_
        refine W.pass 32 rfl (sb (decide_eq_true c5)) rfl rfl ?_
        refine W.rd (X.pickT (sb (decide_eq_true c5)) rfl) rfl rfl rfl ?_
        refine W.rd (X.move rfl) rfl rfl rfl ?_
        refine W.pass 36 rfl rfl rfl rfl ?_
        refine W.pass 36 rfl rfl rfl rfl ?_
        refine W.pass 36 rfl rfl rfl rfl ?_
        refine W.pass 36 rfl rfl rfl rfl ?_
        refine W.rd (X.pickT rfl rfl) rfl rfl rfl ?_
        refine W.rd (X.move rfl) rfl rfl rfl ?_
        refine W.pass 42 rfl rfl rfl rfl ?_
        refine W.pass 42 rfl rfl rfl rfl ?_
        refine W.rd (X.pickT rfl rfl) rfl rfl rfl ?_
        refine W.rd (X.move rfl) rfl rfl rfl ?_
        refine W.pass 46 rfl rfl rfl rfl ?_
        refine W.pass 46 rfl rfl rfl rfl ?_
        refine W.rd (X.pickT rfl rfl) rfl rfl rfl ?_
        refine W.rd (X.move rfl) rfl rfl rfl ?_
        refine W.pass 50 rfl rfl rfl rfl ?_
        refine W.pass 50 rfl rfl rfl rfl ?_
        refine W.pass 50 rfl rfl rfl rfl ?_
        refine W.pass 50 rfl rfl rfl rfl ?_
        refine W.rd (X.pickT rfl rfl) rfl rfl rfl ?_
        refine W.nil ?_
        refine At.next ?_
        refine V.keep [(0, Value.int .i64 (a0)), (1, Value.int .i64 (a1)), (2, Value.int .i64 (a2)), (3, Value.slice sa3 (a3).length sc3), (9, Value.bool (t1)), (55, Value.bool (true))] ⟨rfl, rfl, rfl, rfl, rfl, rfl, trivial⟩ ?_
        refine V.condT rfl ?_
        refine V.seq ?_
        refine V.region ?_
        refine W.rd (X.move rfl) rfl rfl rfl ?_
        refine W.rd (X.assign rfl) rfl rfl rfl ?_
        refine W.nil ?_
        refine At.next ?_
        refine V.keep [(8, Value.bool (t1))] ⟨rfl, trivial⟩ ?_
        refine V.ret ?_
        refine At.thenRet ?_
        cases H
        exact At.ret1 rfl rfl ⟨_, rfl, rfl, HS⟩
      · replace H := ite_f c5 H
        refine W.want 32 rfl (sb (decide_eq_false c5)) ?_
        refine W.rd (X.move rfl) rfl rfl rfl ?_
        refine W.want 32 rfl (sb (decide_eq_false c5)) ?_
        refine W.rd (X.cmp (decide (a1 < 1)) rfl rfl rfl rfl) rfl rfl rfl ?_
        refine W.rd (X.pickF (sb (decide_eq_false c5)) rfl) rfl rfl rfl ?_
        refine W.rd (X.move rfl) rfl rfl rfl ?_
        by_cases c6 : a1 < 1
        · replace H := ite_t c6 H
          refine W.pass 36 rfl (sb (decide_eq_true c6)) rfl rfl ?_
          refine W.pass 36 rfl (sb (decide_eq_true c6)) rfl rfl ?_
          refine W.pass 36 rfl (sb (decide_eq_true c6)) rfl rfl ?_
          refine W.pass 36 rfl (sb (decide_eq_true c6)) rfl rfl ?_
          refine W.rd (X.pickT (sb (decide_eq_true c6)) rfl) rfl rfl rfl ?_
          refine W.rd (X.move rfl) rfl rfl rfl ?_
          refine W.pass 42 rfl rfl rfl rfl ?_
          refine W.pass 42 rfl rfl rfl rfl ?_
          refine W.rd (X.pickT rfl rfl) rfl rfl rfl ?_
          refine W.rd (X.move rfl) rfl rfl rfl ?_
          refine W.pass 46 rfl rfl rfl rfl ?_
          refine W.pass 46 rfl rfl rfl rfl ?_
          refine W.rd (X.pickT rfl rfl) rfl rfl rfl ?_
          refine W.rd (X.move rfl) rfl rfl rfl ?_
          refine W.pass 50 rfl rfl rfl rfl ?_
          refine W.pass 50 rfl rfl rfl rfl ?_
          refine W.pass 50 rfl rfl rfl rfl ?_
          refine W.pass 50 rfl rfl rfl rfl ?_
          refine W.rd (X.pickT rfl rfl) rfl rfl rfl ?_
          refine W.nil ?_
          refine At.next ?_
          refine V.keep [(0, Value.int .i64 (a0)), (1, Value.int .i64 (a1)), (2, Value.int .i64 (a2)), (3, Value.slice sa3 (a3).length sc3), (9, Value.bool (t1)), (55, Value.bool (true))] ⟨rfl, rfl, rfl, rfl, rfl, rfl, trivial⟩ ?_
          refine V.condT rfl ?_
          refine V.seq ?_
          refine V.region ?_
          refine W.rd (X.move rfl) rfl rfl rfl ?_
          refine W.rd (X.assign rfl) rfl rfl rfl ?_
          refine W.nil ?_
          refine At.next ?_
          refine V.keep [(8, Value.bool (t1))] ⟨rfl, trivial⟩ ?_
          refine V.ret ?_
          refine At.thenRet ?_
          cases H
          exact At.ret1 rfl rfl ⟨_, rfl, rfl, HS⟩
        · replace H := ite_f c6 H
          refine W.want 36 rfl (sb (decide_eq_false c6)) ?_
          refine W.rd (X.move rfl) rfl rfl rfl ?_
          refine W.want 36 rfl (sb (decide_eq_false c6)) ?_
          refine W.rd (X.move rfl) rfl rfl rfl ?_
          refine W.want 36 rfl (sb (decide_eq_false c6)) ?_
          refine W.rd (X.quo rfl rfl (by decide)) rfl rfl rfl ?_
          refine W.want 36 rfl (sb (decide_eq_false c6)) ?_
          refine W.rd (X.cmp (decide (a1 > (w64 ((a0).tdiv (8))))) rfl rfl rfl rfl) rfl rfl rfl ?_
          refine W.rd (X.pickF (sb (decide_eq_false c6)) rfl) rfl rfl rfl ?_
          refine W.rd (X.move rfl) rfl rfl rfl ?_
          by_cases c7 : a1 > (w64 ((a0).tdiv (8)))
          · replace H := ite_t c7 H
            refine W.pass 42 rfl (sb (decide_eq_true c7)) rfl rfl ?_
            refine W.pass 42 rfl (sb (decide_eq_true c7)) rfl rfl ?_
            refine W.rd (X.pickT (sb (decide_eq_true c7)) rfl) rfl rfl rfl ?_
            refine W.rd (X.move rfl) rfl rfl rfl ?_
            refine W.pass 46 rfl rfl rfl rfl ?_
            refine W.pass 46 rfl rfl rfl rfl ?_
            refine W.rd (X.pickT rfl rfl) rfl rfl rfl ?_
            refine W.rd (X.move rfl) rfl rfl rfl ?_
            refine W.pass 50 rfl rfl rfl rfl ?_
            refine W.pass 50 rfl rfl rfl rfl ?_
            refine W.pass 50 rfl rfl rfl rfl ?_
            refine W.pass 50 rfl rfl rfl rfl ?_
            refine W.rd (X.pickT rfl rfl) rfl rfl rfl ?_
            refine W.nil ?_
            refine At.next ?_
            refine V.keep [(0, Value.int .i64 (a0)), (1, Value.int .i64 (a1)), (2, Value.int .i64 (a2)), (3, Value.slice sa3 (a3).length sc3), (9, Value.bool (t1)), (55, Value.bool (true))] ⟨rfl, rfl, rfl, rfl, rfl, rfl, trivial⟩ ?_
            refine V.condT rfl ?_
            refine V.seq ?_
            refine V.region ?_
            refine W.rd (X.move rfl) rfl rfl rfl ?_
            refine W.rd (X.assign rfl) rfl rfl rfl ?_
            refine W.nil ?_
            refine At.next ?_
            refine V.keep [(8, Value.bool (t1))] ⟨rfl, trivial⟩ ?_
            refine V.ret ?_
            refine At.thenRet ?_
            cases H
            exact At.ret1 rfl rfl ⟨_, rfl, rfl, HS⟩
          · replace H := ite_f c7 H
            refine W.want 42 rfl (sb (decide_eq_false c7)) ?_
            refine W.rd (X.move rfl) rfl rfl rfl ?_
            refine W.want 42 rfl (sb (decide_eq_false c7)) ?_
            refine W.rd (X.cmp (decide (a2 < 0)) rfl rfl rfl rfl) rfl rfl rfl ?_
            refine W.rd (X.pickF (sb (decide_eq_false c7)) rfl) rfl rfl rfl ?_
            refine W.rd (X.move rfl) rfl rfl rfl ?_
            by_cases c8 : a2 < 0
            · replace H := ite_t c8 H
              refine W.pass 46 rfl (sb (decide_eq_true c8)) rfl rfl ?_
              refine W.pass 46 rfl (sb (decide_eq_true c8)) rfl rfl ?_
              refine W.rd (X.pickT (sb (decide_eq_true c8)) rfl) rfl rfl rfl ?_
              refine W.rd (X.move rfl) rfl rfl rfl ?_
              refine W.pass 50 rfl rfl rfl rfl ?_
              refine W.pass 50 rfl rfl rfl rfl ?_
              refine W.pass 50 rfl rfl rfl rfl ?_
              refine W.pass 50 rfl rfl rfl rfl ?_
              refine W.rd (X.pickT rfl rfl) rfl rfl rfl ?_
              refine W.nil ?_
              refine At.next ?_
              refine V.keep [(0, Value.int .i64 (a0)), (1, Value.int .i64 (a1)), (2, Value.int .i64 (a2)), (3, Value.slice sa3 (a3).length sc3), (9, Value.bool (t1)), (55, Value.bool (true))] ⟨rfl, rfl, rfl, rfl, rfl, rfl, trivial⟩ ?_
              refine V.condT rfl ?_
              refine V.seq ?_
              refine V.region ?_
              refine W.rd (X.move rfl) rfl rfl rfl ?_
              refine W.rd (X.assign rfl) rfl rfl rfl ?_
              refine W.nil ?_
              refine At.next ?_
              refine V.keep [(8, Value.bool (t1))] ⟨rfl, trivial⟩ ?_
              refine V.ret ?_
              refine At.thenRet ?_
              cases H
              exact At.ret1 rfl rfl ⟨_, rfl, rfl, HS⟩
            · replace H := ite_f c8 H
              refine W.want 46 rfl (sb (decide_eq_false c8)) ?_
              refine W.rd (X.move rfl) rfl rfl rfl ?_
              refine W.want 46 rfl (sb (decide_eq_false c8)) ?_
              refine W.rd (X.cmp (decide (a2 > 300)) rfl rfl rfl rfl) rfl rfl rfl ?_
              refine W.rd (X.pickF (sb (decide_eq_false c8)) rfl) rfl rfl rfl ?_
              refine W.rd (X.move rfl) rfl rfl rfl ?_
              by_cases c9 : a2 > 300
              · replace H := ite_t c9 H
                refine W.pass 50 rfl (sb (decide_eq_true c9)) rfl rfl ?_
                refine W.pass 50 rfl (sb (decide_eq_true c9)) rfl rfl ?_
                refine W.pass 50 rfl (sb (decide_eq_true c9)) rfl rfl ?_
                refine W.pass 50 rfl (sb (decide_eq_true c9)) rfl rfl ?_
                refine W.rd (X.pickT (sb (decide_eq_true c9)) rfl) rfl rfl rfl ?_
                refine W.nil ?_
                refine At.next ?_
                refine V.keep [(0, Value.int .i64 (a0)), (1, Value.int .i64 (a1)), (2, Value.int .i64 (a2)), (3, Value.slice sa3 (a3).length sc3), (9, Value.bool (t1)), (55, Value.bool (true))] ⟨rfl, rfl, rfl, rfl, rfl, rfl, trivial⟩ ?_
                refine V.condT rfl ?_
                refine V.seq ?_
                refine V.region ?_
                refine W.rd (X.move rfl) rfl rfl rfl ?_
                refine W.rd (X.assign rfl) rfl rfl rfl ?_
                refine W.nil ?_
                refine At.next ?_
                refine V.keep [(8, Value.bool (t1))] ⟨rfl, trivial⟩ ?_
                refine V.ret ?_
                refine At.thenRet ?_
                cases H
                exact At.ret1 rfl rfl ⟨_, rfl, rfl, HS⟩
              · replace H := ite_f c9 H
                refine W.want 50 rfl (sb (decide_eq_false c9)) ?_
                refine W.rd (X.move rfl) rfl rfl rfl ?_
                refine W.want 50 rfl (sb (decide_eq_false c9)) ?_
                refine W.rd (X.lenSl Try.underlying31 rfl) rfl rfl rfl ?_
                refine W.want 50 rfl (sb (decide_eq_false c9)) ?_
                refine W.rd (X.move rfl) rfl rfl rfl ?_
                refine W.want 50 rfl (sb (decide_eq_false c9)) ?_
                refine W.rd (X.cmp (decide (((a3).length : Int) < a2)) rfl rfl rfl rfl) rfl rfl rfl ?_
                refine W.rd (X.pickF (sb (decide_eq_false c9)) rfl) rfl rfl rfl ?_
                refine W.nil ?_
                refine At.next ?_
                refine V.keep [(0, Value.int .i64 (a0)), (1, Value.int .i64 (a1)), (2, Value.int .i64 (a2)), (3, Value.slice sa3 (a3).length sc3), (9, Value.bool (t1)), (55, Value.bool (decide (((a3).length : Int) < a2)))] ⟨rfl, rfl, rfl, rfl, rfl, rfl, trivial⟩ ?_
                by_cases c10 : ((a3).length : Int) < a2
                · replace H := ite_t c10 H
                  refine V.condT (sb (decide_eq_true c10)) ?_
                  refine V.seq ?_
                  refine V.region ?_
                  refine W.rd (X.move rfl) rfl rfl rfl ?_
                  refine W.rd (X.assign rfl) rfl rfl rfl ?_
                  refine W.nil ?_
                  refine At.next ?_
                  refine V.keep [(8, Value.bool (t1))] ⟨rfl, trivial⟩ ?_
                  refine V.ret ?_
                  refine At.thenRet ?_
                  cases H
                  exact At.ret1 rfl rfl ⟨_, rfl, rfl, HS⟩
                · replace H := ite_f c10 H
                  refine V.condF (sb (decide_eq_false c10)) ?_
                  refine V.skip ?_
                  refine At.next ?_
                  refine V.keep [(0, Value.int .i64 (a0)), (1, Value.int .i64 (a1)), (2, Value.int .i64 (a2)), (3, Value.slice sa3 (a3).length sc3)] ⟨rfl, rfl, rfl, rfl, trivial⟩ ?_
                  refine V.seq ?_
                  refine V.region ?_
                  refine W.rd (X.move rfl) rfl rfl rfl ?_
                  refine W.rd (X.move rfl) rfl rfl rfl ?_
                  obtain ⟨t11, A12, H⟩ := bind_s H
                  refine W.ev (Y.call Try.func8 (by kernel_rfl) rfl (vs := [Value.int .i64 (a0), Value.int .i64 (a1), Value.int .i64 (1)]) rfl (backlog_New.calls a0 a1 1 _ w0 _  t11  A12 (Sep.St.tailJoin (m := []) (r := [R]) HS))) rfl rfl rfl ?_
                  rintro _ w ⟨bt11_0, rfl, HS⟩
                  replace HS := Sep.St.tailOpen (m := [backlog_Log.at bt11_0 (t11)]) (r := [R]) HS
                  have HS : Sep.St [backlog_Log.at bt11_0 (t11), R] w0 w := HS
                  refine W.rd (X.assign rfl) rfl rfl rfl ?_
                  refine W.nil ?_
                  refine At.next ?_
                  refine V.keep [(0, Value.int .i64 (a0)), (1, Value.int .i64 (a1)), (2, Value.int .i64 (a2)), (3, Value.slice sa3 (a3).length sc3), (10, Value.pointer (some ⟨bt11_0, 0, none⟩))] ⟨rfl, rfl, rfl, rfl, rfl, trivial⟩ ?_
                  refine V.seq ?_
                  refine V.region ?_
                  refine W.rd (X.assign rfl) rfl rfl rfl ?_
                  refine W.nil ?_
                  refine At.next ?_
                  refine V.keep [(0, Value.int .i64 (a0)), (1, Value.int .i64 (a1)), (2, Value.int .i64 (a2)), (3, Value.slice sa3 (a3).length sc3), (10, Value.pointer (some ⟨bt11_0, 0, none⟩)), (11, Value.int .i64 (0))] ⟨rfl, rfl, rfl, rfl, rfl, rfl, trivial⟩ ?_
                  refine V.seq ?_
                  refine V.region ?_
                  refine W.rd (X.assign rfl) rfl rfl rfl ?_
                  refine W.nil ?_
                  refine At.next ?_
                  refine V.keep [(0, Value.int .i64 (a0)), (1, Value.int .i64 (a1)), (2, Value.int .i64 (a2)), (3, Value.slice sa3 (a3).length sc3), (10, Value.pointer (some ⟨bt11_0, 0, none⟩)), (11, Value.int .i64 (0)), (12, Value.int .i64 (0))] ⟨rfl, rfl, rfl, rfl, rfl, rfl, rfl, trivial⟩ ?_
                  refine V.seq ?_
                  refine V.seq ?_
                  refine V.region ?_
                  refine W.rd (X.assign rfl) rfl rfl rfl ?_
                  refine W.nil ?_
                  refine At.next ?_
                  refine V.keep [(0, Value.int .i64 (a0)), (1, Value.int .i64 (a1)), (2, Value.int .i64 (a2)), (3, Value.slice sa3 (a3).length sc3), (10, Value.pointer (some ⟨bt11_0, 0, none⟩)), (11, Value.int .i64 (0)), (12, Value.int .i64 (0)), (13, Value.int .i64 (0))] ⟨rfl, rfl, rfl, rfl, rfl, rfl, rfl, rfl, trivial⟩ ?_
                  refine V.block ?_
                  refine V.loop (σ := Int × Int × Int × backlog_Log) (fun kq (st : Int × Int × Int × backlog_Log) w => match st with | (x14, x15, x16, x17) => Sep.St [backlog_Log.at bt11_0 (x17), R] w0 w ∧ signalmanlaw13_BacklogRounds.l0 kq a0 a1 a2 a3 x14 x15 x16 x17 = some r ∧ kq ≤ k) (fun st => match st with | (x14, x15, x16, x17) => [(0, Value.int .i64 (a0)), (1, Value.int .i64 (a1)), (2, Value.int .i64 (a2)), (3, Value.slice sa3 (a3).length sc3), (10, Value.pointer (some ⟨bt11_0, 0, none⟩)), (11, Value.int .i64 (x14)), (12, Value.int .i64 (x15)), (13, Value.int .i64 (x16))]) k (0, 0, 0, t11) ⟨rfl, rfl, rfl, rfl, rfl, rfl, rfl, rfl, trivial⟩ ⟨HS, H, Nat.le_refl _⟩ ?_
                  rintro kq18 ⟨x14, x15, x16, x17⟩ w ⟨HS, H, hk19⟩
                  cases kq18 with
                  | zero => exact absurd H (by simp [signalmanlaw13_BacklogRounds.l0])
                  | succ kq18 =>
                    simp only [signalmanlaw13_BacklogRounds.l0] at H
                    have HS : Sep.St [backlog_Log.at bt11_0 (x17), R] w0 w := HS
                    refine V.seq ?_
                    refine V.seq ?_
                    refine V.region ?_
                    refine W.rd (X.move rfl) rfl rfl rfl ?_
                    refine W.rd (X.move rfl) rfl rfl rfl ?_
                    refine W.rd (X.cmp (decide (x16 < a2)) rfl rfl rfl rfl) rfl rfl rfl ?_
                    refine W.nil ?_
                    refine At.next ?_
                    refine V.keep [(0, Value.int .i64 (a0)), (1, Value.int .i64 (a1)), (2, Value.int .i64 (a2)), (3, Value.slice sa3 (a3).length sc3), (10, Value.pointer (some ⟨bt11_0, 0, none⟩)), (11, Value.int .i64 (x14)), (12, Value.int .i64 (x15)), (13, Value.int .i64 (x16)), (62, Value.bool (decide (x16 < a2)))] ⟨rfl, rfl, rfl, rfl, rfl, rfl, rfl, rfl, rfl, trivial⟩ ?_
                    by_cases c20 : x16 < a2
                    · replace H := ite_t c20 H
                      refine V.condT (sb (decide_eq_true c20)) ?_
                      refine V.skip ?_
                      refine At.next ?_
                      refine V.keep [(0, Value.int .i64 (a0)), (1, Value.int .i64 (a1)), (2, Value.int .i64 (a2)), (3, Value.slice sa3 (a3).length sc3), (10, Value.pointer (some ⟨bt11_0, 0, none⟩)), (11, Value.int .i64 (x14)), (12, Value.int .i64 (x15)), (13, Value.int .i64 (x16))] ⟨rfl, rfl, rfl, rfl, rfl, rfl, rfl, rfl, trivial⟩ ?_
                      refine V.seq ?_
                      refine V.block ?_
                      refine V.seq ?_
                      refine V.region ?_
                      refine W.rd (X.move rfl) rfl rfl rfl ?_
                      refine W.rd (X.move rfl) rfl rfl rfl ?_
                      refine W.rd (X.conv Try.underlying3 Try.underlying5 rfl) rfl rfl rfl ?_
                      refine W.ev (Y.litB (e := 5) (sz := 1) (vs := #[(0, Value.int .u8 (IntKind.u8.wrap (x16)))]) [Value.int .u8 (IntKind.u8.wrap (x16))] HS (fun a ha => by simp only [List.map_toArray, List.map_cons, List.map_nil]; rw [ha.ev (x := .tmp 67) (v := Value.int .u8 (IntKind.u8.wrap (x16))) rfl]; try rfl) rfl (by decide) (fun _ => by kernel_rfl)) rfl rfl rfl ?_
                      rintro _ w ⟨lb23, rfl, HS⟩
                      have HS : Sep.St [row 5 1 (.slice (some ⟨lb23, 0, none⟩) (([IntKind.u8.wrap (x16)] : List Int)).length 1) (([IntKind.u8.wrap (x16)] : List Int)).length ((([IntKind.u8.wrap (x16)] : List Int)).map (Value.int .u8)), backlog_Log.at bt11_0 (x17), R] w0 w := HS
                      obtain ⟨t24, A25, H⟩ := bind_s H
                      replace HS := HS.re [1, 0, 2] (by kernel_rfl)
                      have HS : Sep.St [backlog_Log.at bt11_0 (x17), row 5 1 (.slice (some ⟨lb23, 0, none⟩) (([IntKind.u8.wrap (x16)] : List Int)).length 1) (([IntKind.u8.wrap (x16)] : List Int)).length ((([IntKind.u8.wrap (x16)] : List Int)).map (Value.int .u8)), R] w0 w := HS
                      refine W.ev (Y.call Try.func9 (by kernel_rfl) rfl (vs := [Value.pointer (some ⟨bt11_0, 0, none⟩), Value.slice (some ⟨lb23, 0, none⟩) (([IntKind.u8.wrap (x16)] : List Int)).length 1]) rfl (backlog_Log_Add.calls x17 ([IntKind.u8.wrap (x16)] : List Int) _ w0 _ bt11_0 (some ⟨lb23, 0, none⟩) 1 t24 (rdC.part 0 row_rd rfl) A25 (Sep.St.tailJoin (m := [backlog_Log.at bt11_0 (x17)]) (r := [row 5 1 (.slice (some ⟨lb23, 0, none⟩) (([IntKind.u8.wrap (x16)] : List Int)).length 1) (([IntKind.u8.wrap (x16)] : List Int)).length ((([IntKind.u8.wrap (x16)] : List Int)).map (Value.int .u8)), R]) HS))) rfl rfl rfl ?_
                      rintro _ w ⟨rfl, HS⟩
                      replace HS := Sep.St.tailOpen (m := [backlog_Log.at bt11_0 (t24.2)]) (r := [row 5 1 (.slice (some ⟨lb23, 0, none⟩) (([IntKind.u8.wrap (x16)] : List Int)).length 1) (([IntKind.u8.wrap (x16)] : List Int)).length ((([IntKind.u8.wrap (x16)] : List Int)).map (Value.int .u8)), R]) HS
                      have HS : Sep.St [backlog_Log.at bt11_0 (t24.2), row 5 1 (.slice (some ⟨lb23, 0, none⟩) (([IntKind.u8.wrap (x16)] : List Int)).length 1) (([IntKind.u8.wrap (x16)] : List Int)).length ((([IntKind.u8.wrap (x16)] : List Int)).map (Value.int .u8)), R] w0 w := HS
                      refine W.rd (X.assign rfl) rfl rfl rfl ?_
                      refine W.nil ?_
                      refine At.next ?_
                      refine V.keep [(0, Value.int .i64 (a0)), (1, Value.int .i64 (a1)), (2, Value.int .i64 (a2)), (3, Value.slice sa3 (a3).length sc3), (10, Value.pointer (some ⟨bt11_0, 0, none⟩)), (11, Value.int .i64 (x14)), (12, Value.int .i64 (x15)), (13, Value.int .i64 (x16)), (14, Value.int .i64 (t24.1))] ⟨rfl, rfl, rfl, rfl, rfl, rfl, rfl, rfl, rfl, trivial⟩ ?_
                      refine V.seq ?_
                      refine V.region ?_
                      refine W.rd (X.move rfl) rfl rfl rfl ?_
                      obtain ⟨t26, A27, H⟩ := bind_s H
                      refine W.ev (Y.call Try.func10 (by kernel_rfl) rfl (vs := [Value.pointer (some ⟨bt11_0, 0, none⟩)]) rfl (backlog_Log_Next.calls t24.2 _ w0 _ bt11_0 t26  A27 (Sep.St.tailJoin (m := [backlog_Log.at bt11_0 (t24.2)]) (r := [row 5 1 (.slice (some ⟨lb23, 0, none⟩) (([IntKind.u8.wrap (x16)] : List Int)).length 1) (([IntKind.u8.wrap (x16)] : List Int)).length ((([IntKind.u8.wrap (x16)] : List Int)).map (Value.int .u8)), R]) HS))) rfl rfl rfl ?_
                      rintro _ w ⟨at26_1, ct26_1, rfl, HS⟩
                      replace HS := Sep.St.tailOpen (m := [row 5 1 (.slice at26_1 (t26.2.1).length ct26_1) (t26.2.1).length ((t26.2.1).map (Value.int .u8)), backlog_Log.at bt11_0 (t26.2.2.2)]) (r := [row 5 1 (.slice (some ⟨lb23, 0, none⟩) (([IntKind.u8.wrap (x16)] : List Int)).length 1) (([IntKind.u8.wrap (x16)] : List Int)).length ((([IntKind.u8.wrap (x16)] : List Int)).map (Value.int .u8)), R]) HS
                      have HS : Sep.St [row 5 1 (.slice at26_1 (t26.2.1).length ct26_1) (t26.2.1).length ((t26.2.1).map (Value.int .u8)), backlog_Log.at bt11_0 (t26.2.2.2), row 5 1 (.slice (some ⟨lb23, 0, none⟩) (([IntKind.u8.wrap (x16)] : List Int)).length 1) (([IntKind.u8.wrap (x16)] : List Int)).length ((([IntKind.u8.wrap (x16)] : List Int)).map (Value.int .u8)), R] w0 w := HS
                      refine W.rd (X.move rfl) rfl rfl rfl ?_
                      refine W.rd (X.extract rfl rfl) rfl rfl rfl ?_
                      refine W.rd (X.extract rfl rfl) rfl rfl rfl ?_
                      refine W.rd (X.extract rfl rfl) rfl rfl rfl ?_
                      refine W.rd (X.assign rfl) rfl rfl rfl ?_
                      refine W.rd (X.assign rfl) rfl rfl rfl ?_
                      refine W.rd (X.assign rfl) rfl rfl rfl ?_
                      refine W.nil ?_
                      refine At.next ?_
                      refine V.keep [(0, Value.int .i64 (a0)), (1, Value.int .i64 (a1)), (2, Value.int .i64 (a2)), (3, Value.slice sa3 (a3).length sc3), (10, Value.pointer (some ⟨bt11_0, 0, none⟩)), (11, Value.int .i64 (x14)), (12, Value.int .i64 (x15)), (13, Value.int .i64 (x16)), (14, Value.int .i64 (t24.1)), (15, Value.int .i64 (t26.1)), (16, Value.slice at26_1 (t26.2.1).length ct26_1), (17, Value.bool (t26.2.2.1))] ⟨rfl, rfl, rfl, rfl, rfl, rfl, rfl, rfl, rfl, rfl, rfl, rfl, trivial⟩ ?_
                      refine V.seq ?_
                      refine V.seq ?_
                      refine V.region ?_
                      refine W.rd (X.move rfl) rfl rfl rfl ?_
                      obtain ⟨t30, A31, H⟩ := bind_s H
                      refine W.ev (Y.call Try.func14 (by kernel_rfl) rfl (vs := [Value.int .i64 (t24.1)]) rfl (signalmanlaw13_num.calls t24.1 _ w0 _  t30  A31 (Sep.St.tailJoin (m := []) (r := [row 5 1 (.slice at26_1 (t26.2.1).length ct26_1) (t26.2.1).length ((t26.2.1).map (Value.int .u8)), backlog_Log.at bt11_0 (t26.2.2.2), row 5 1 (.slice (some ⟨lb23, 0, none⟩) (([IntKind.u8.wrap (x16)] : List Int)).length 1) (([IntKind.u8.wrap (x16)] : List Int)).length ((([IntKind.u8.wrap (x16)] : List Int)).map (Value.int .u8)), R]) HS))) rfl rfl rfl ?_
                      rintro _ w ⟨rfl, HS⟩
                      replace HS := Sep.St.tailOpen (m := []) (r := [row 5 1 (.slice at26_1 (t26.2.1).length ct26_1) (t26.2.1).length ((t26.2.1).map (Value.int .u8)), backlog_Log.at bt11_0 (t26.2.2.2), row 5 1 (.slice (some ⟨lb23, 0, none⟩) (([IntKind.u8.wrap (x16)] : List Int)).length 1) (([IntKind.u8.wrap (x16)] : List Int)).length ((([IntKind.u8.wrap (x16)] : List Int)).map (Value.int .u8)), R]) HS
                      have HS : Sep.St [row 5 1 (.slice at26_1 (t26.2.1).length ct26_1) (t26.2.1).length ((t26.2.1).map (Value.int .u8)), backlog_Log.at bt11_0 (t26.2.2.2), row 5 1 (.slice (some ⟨lb23, 0, none⟩) (([IntKind.u8.wrap (x16)] : List Int)).length 1) (([IntKind.u8.wrap (x16)] : List Int)).length ((([IntKind.u8.wrap (x16)] : List Int)).map (Value.int .u8)), R] w0 w := HS
                      refine W.rd (X.cmp (!(decide (t30 = 0))) rfl rfl rfl rfl) rfl rfl rfl ?_
                      refine W.rd (X.move rfl) rfl rfl rfl ?_
                      by_cases c32 : t30 = 0
                      · replace H := ite_t c32 H
                        refine W.want 79 rfl (sb (n_t (decide_eq_true c32))) ?_
                        refine W.rd (X.move rfl) rfl rfl rfl ?_
                        refine W.want 79 rfl (sb (n_t (decide_eq_true c32))) ?_
                        refine W.rd (X.move rfl) rfl rfl rfl ?_
                        refine W.want 79 rfl (sb (n_t (decide_eq_true c32))) ?_
                        refine W.rd (X.move rfl) rfl rfl rfl ?_
                        refine W.want 79 rfl (sb (n_t (decide_eq_true c32))) ?_
                        refine W.rd (X.sub rfl rfl) rfl rfl rfl ?_
                        refine W.want 79 rfl (sb (n_t (decide_eq_true c32))) ?_
                        refine W.rd (X.move rfl) rfl rfl rfl ?_
                        refine W.want 79 rfl (sb (n_t (decide_eq_true c32))) ?_
                        refine W.rd (X.cmp (decide ((w64 (x15 - x14)) < a1)) rfl rfl rfl rfl) rfl rfl rfl ?_
                        refine W.want 79 rfl (sb (n_t (decide_eq_true c32))) ?_
                        refine W.rd (X.neB Try.underlying4 rfl rfl) rfl rfl rfl ?_
                        refine W.rd (X.pickF (sb (n_t (decide_eq_true c32))) rfl) rfl rfl rfl ?_
                        refine W.nil ?_
                        refine At.next ?_
                        refine V.keep [(0, Value.int .i64 (a0)), (1, Value.int .i64 (a1)), (2, Value.int .i64 (a2)), (3, Value.slice sa3 (a3).length sc3), (10, Value.pointer (some ⟨bt11_0, 0, none⟩)), (11, Value.int .i64 (x14)), (12, Value.int .i64 (x15)), (13, Value.int .i64 (x16)), (15, Value.int .i64 (t26.1)), (16, Value.slice at26_1 (t26.2.1).length ct26_1), (17, Value.bool (t26.2.2.1)), (80, Value.bool (t26.2.2.1)), (81, Value.int .i64 (x15)), (82, Value.int .i64 (x14)), (83, Value.int .i64 (w64 (x15 - x14))), (84, Value.int .i64 (a1)), (85, Value.bool (decide ((w64 (x15 - x14)) < a1))), (86, Value.bool (((t26.2.2.1) != (decide ((w64 (x15 - x14)) < a1))))), (87, Value.bool (((t26.2.2.1) != (decide ((w64 (x15 - x14)) < a1)))))] ⟨rfl, rfl, rfl, rfl, rfl, rfl, rfl, rfl, rfl, rfl, rfl, rfl, rfl, rfl, rfl, rfl, rfl, rfl, rfl, trivial⟩ ?_
                        by_cases c33 : ((t26.2.2.1) != (decide ((w64 (x15 - x14)) < a1))) = true
                        · replace H := ite_t c33 H
                          refine V.condT (sb c33) ?_
                          refine V.seq ?_
                          refine V.region ?_
                          refine W.rd (X.assign rfl) rfl rfl rfl ?_
                          refine W.nil ?_
                          refine At.next ?_
                          refine V.keep [(8, Value.bool (false))] ⟨rfl, trivial⟩ ?_
                          refine V.ret ?_
                          refine At.thenRet ?_
                          refine At.blockRet ?_
                          refine At.thenRet ?_
                          refine At.thenRet ?_
                          refine At.blockRet ?_
                          refine At.thenRet ?_
                          replace HS := HS.sel [3] [0, 1, 2] (by kernel_rfl)
                          cases H
                          exact At.ret1 rfl rfl ⟨_, rfl, rfl, HS⟩
                        · replace H := ite_f c33 H
                          refine V.condF (sb (b_f c33)) ?_
                          refine V.skip ?_
                          refine At.next ?_
                          refine V.keep [(0, Value.int .i64 (a0)), (1, Value.int .i64 (a1)), (2, Value.int .i64 (a2)), (3, Value.slice sa3 (a3).length sc3), (10, Value.pointer (some ⟨bt11_0, 0, none⟩)), (11, Value.int .i64 (x14)), (12, Value.int .i64 (x15)), (13, Value.int .i64 (x16)), (15, Value.int .i64 (t26.1)), (16, Value.slice at26_1 (t26.2.1).length ct26_1), (17, Value.bool (t26.2.2.1)), (80, Value.bool (t26.2.2.1)), (81, Value.int .i64 (x15)), (82, Value.int .i64 (x14)), (83, Value.int .i64 (w64 (x15 - x14))), (84, Value.int .i64 (a1)), (85, Value.bool (decide ((w64 (x15 - x14)) < a1))), (86, Value.bool (((t26.2.2.1) != (decide ((w64 (x15 - x14)) < a1)))))] ⟨rfl, rfl, rfl, rfl, rfl, rfl, rfl, rfl, rfl, rfl, rfl, rfl, rfl, rfl, rfl, rfl, rfl, rfl, trivial⟩ ?_
                          refine V.meet (σ := Int × Int × Bool × Bool) (fun st w => match st with | (x34, x35, x36, x37) => Sep.St [row 5 1 (.slice at26_1 (t26.2.1).length ct26_1) (t26.2.1).length ((t26.2.1).map (Value.int .u8)), backlog_Log.at bt11_0 (t26.2.2.2), row 5 1 (.slice (some ⟨lb23, 0, none⟩) (([IntKind.u8.wrap (x16)] : List Int)).length 1) (([IntKind.u8.wrap (x16)] : List Int)).length ((([IntKind.u8.wrap (x16)] : List Int)).map (Value.int .u8)), R] w0 w ∧ ∃ kf38, kf38 ≤ kq18 ∧ signalmanlaw13_BacklogRounds.j1 kf38 a0 a1 a3 x14 x16 t26 (signalmanlaw13_BacklogRounds.l0 kf38 a0 a1 a2 a3) x34 x35 x36 x37 = some r) (fun st => match st with | (x34, x35, x36, x37) => [(0, Value.int .i64 (a0)), (1, Value.int .i64 (a1)), (2, Value.int .i64 (a2)), (3, Value.slice sa3 (a3).length sc3), (10, Value.pointer (some ⟨bt11_0, 0, none⟩)), (11, Value.int .i64 (x14)), (12, Value.int .i64 (x34)), (13, Value.int .i64 (x16)), (17, Value.bool (t26.2.2.1)), (80, Value.bool (t26.2.2.1)), (81, Value.int .i64 (x15)), (82, Value.int .i64 (x14)), (83, Value.int .i64 (x35)), (84, Value.int .i64 (a1)), (85, Value.bool (x36)), (86, Value.bool (x37))]) ?_ ?_
                          · refine V.seq ?_
                            refine V.region ?_
                            refine W.rd (X.move rfl) rfl rfl rfl ?_
                            refine W.nil ?_
                            refine At.next ?_
                            refine V.keep [(0, Value.int .i64 (a0)), (1, Value.int .i64 (a1)), (2, Value.int .i64 (a2)), (3, Value.slice sa3 (a3).length sc3), (10, Value.pointer (some ⟨bt11_0, 0, none⟩)), (11, Value.int .i64 (x14)), (12, Value.int .i64 (x15)), (13, Value.int .i64 (x16)), (15, Value.int .i64 (t26.1)), (16, Value.slice at26_1 (t26.2.1).length ct26_1), (17, Value.bool (t26.2.2.1)), (80, Value.bool (t26.2.2.1)), (81, Value.int .i64 (x15)), (82, Value.int .i64 (x14)), (83, Value.int .i64 (w64 (x15 - x14))), (84, Value.int .i64 (a1)), (85, Value.bool (decide ((w64 (x15 - x14)) < a1))), (86, Value.bool (((t26.2.2.1) != (decide ((w64 (x15 - x14)) < a1))))), (88, Value.bool (t26.2.2.1))] ⟨rfl, rfl, rfl, rfl, rfl, rfl, rfl, rfl, rfl, rfl, rfl, rfl, rfl, rfl, rfl, rfl, rfl, rfl, rfl, trivial⟩ ?_
                            by_cases c73 : t26.2.2.1 = true
                            · replace H := ite_t c73 H
                              refine V.condT (sb c73) ?_
                              refine V.seq ?_
                              refine V.seq ?_
                              refine V.region ?_
                              refine W.rd (X.move rfl) rfl rfl rfl ?_
                              refine W.rd (X.move rfl) rfl rfl rfl ?_
                              refine W.rd (X.move rfl) rfl rfl rfl ?_
                              obtain ⟨c74, H⟩ := ite_n H
                              refine W.rd (X.rem rfl rfl c74) rfl rfl rfl ?_
                              refine W.rd (X.cmp (!(decide (t26.1 = ((x15).tmod (a0))))) rfl rfl rfl rfl) rfl rfl rfl ?_
                              refine W.rd (X.move rfl) rfl rfl rfl ?_
                              by_cases c75 : t26.1 = ((x15).tmod (a0))
                              · replace H := ite_t c75 H
                                refine W.want 94 rfl (sb (n_t (decide_eq_true c75))) ?_
                                refine W.rd (X.move rfl) rfl rfl rfl ?_
                                refine W.want 94 rfl (sb (n_t (decide_eq_true c75))) ?_
                                refine W.rd (X.bytesStr Try.underlying27 Try.underlying5 Try.underlying9 rfl (rdC.at 0 row_rd HS rfl)) rfl rfl rfl ?_
                                refine W.want 94 rfl (sb (n_t (decide_eq_true c75))) ?_
                                refine W.rd (X.move rfl) rfl rfl rfl ?_
                                refine W.want 94 rfl (sb (n_t (decide_eq_true c75))) ?_
                                refine W.rd (X.conv Try.underlying3 Try.underlying5 rfl) rfl rfl rfl ?_
                                refine W.want 94 rfl (sb (n_t (decide_eq_true c75))) ?_
                                refine W.ev (Y.litB (e := 5) (sz := 1) (vs := #[(0, Value.int .u8 (IntKind.u8.wrap (x16)))]) [Value.int .u8 (IntKind.u8.wrap (x16))] HS (fun a ha => by simp only [List.map_toArray, List.map_cons, List.map_nil]; rw [ha.ev (x := .tmp 98) (v := Value.int .u8 (IntKind.u8.wrap (x16))) rfl]; try rfl) rfl (by decide) (fun _ => by kernel_rfl)) rfl rfl rfl ?_
                                rintro _ w ⟨lb78, rfl, HS⟩
                                have HS : Sep.St [row 5 1 (.slice (some ⟨lb78, 0, none⟩) (([IntKind.u8.wrap (x16)] : List Int)).length 1) (([IntKind.u8.wrap (x16)] : List Int)).length ((([IntKind.u8.wrap (x16)] : List Int)).map (Value.int .u8)), row 5 1 (.slice at26_1 (t26.2.1).length ct26_1) (t26.2.1).length ((t26.2.1).map (Value.int .u8)), backlog_Log.at bt11_0 (t26.2.2.2), row 5 1 (.slice (some ⟨lb23, 0, none⟩) (([IntKind.u8.wrap (x16)] : List Int)).length 1) (([IntKind.u8.wrap (x16)] : List Int)).length ((([IntKind.u8.wrap (x16)] : List Int)).map (Value.int .u8)), R] w0 w := HS
                                refine W.want 94 rfl (sb (n_t (decide_eq_true c75))) ?_
                                refine W.rd (X.bytesStr Try.underlying27 Try.underlying5 Try.underlying9 rfl (rdC.at 0 row_rd HS rfl)) rfl rfl rfl ?_
                                refine W.want 94 rfl (sb (n_t (decide_eq_true c75))) ?_
                                refine W.rd (X.neStr (a := t26.2.1) (b := ([IntKind.u8.wrap (x16)] : List Int)) rfl rfl) rfl rfl rfl ?_
                                refine W.rd (X.pickF (sb (n_t (decide_eq_true c75))) rfl) rfl rfl rfl ?_
                                refine W.nil ?_
                                refine At.next ?_
                                refine V.keep [(0, Value.int .i64 (a0)), (1, Value.int .i64 (a1)), (2, Value.int .i64 (a2)), (3, Value.slice sa3 (a3).length sc3), (10, Value.pointer (some ⟨bt11_0, 0, none⟩)), (11, Value.int .i64 (x14)), (12, Value.int .i64 (x15)), (13, Value.int .i64 (x16)), (17, Value.bool (t26.2.2.1)), (80, Value.bool (t26.2.2.1)), (81, Value.int .i64 (x15)), (82, Value.int .i64 (x14)), (83, Value.int .i64 (w64 (x15 - x14))), (84, Value.int .i64 (a1)), (85, Value.bool (decide ((w64 (x15 - x14)) < a1))), (86, Value.bool (((t26.2.2.1) != (decide ((w64 (x15 - x14)) < a1))))), (95, Value.slice at26_1 (t26.2.1).length ct26_1), (96, Value.string (strOf (t26.2.1))), (97, Value.int .i64 (x16)), (98, Value.int .u8 (IntKind.u8.wrap (x16))), (99, Value.slice (some ⟨lb78, 0, none⟩) (([IntKind.u8.wrap (x16)] : List Int)).length 1), (100, Value.string (strOf (([IntKind.u8.wrap (x16)] : List Int)))), (101, Value.bool (!(sEq (t26.2.1) (([IntKind.u8.wrap (x16)] : List Int))))), (102, Value.bool (!(sEq (t26.2.1) (([IntKind.u8.wrap (x16)] : List Int)))))] ⟨rfl, rfl, rfl, rfl, rfl, rfl, rfl, rfl, rfl, rfl, rfl, rfl, rfl, rfl, rfl, rfl, rfl, rfl, rfl, rfl, rfl, rfl, rfl, rfl, trivial⟩ ?_
                                by_cases c79 : sEq (t26.2.1) (([IntKind.u8.wrap (x16)] : List Int)) = true
                                · replace H := ite_t c79 H
                                  refine V.condF (sb (n_t c79)) ?_
                                  refine V.skip ?_
                                  refine At.next ?_
                                  refine V.keep [(0, Value.int .i64 (a0)), (1, Value.int .i64 (a1)), (2, Value.int .i64 (a2)), (3, Value.slice sa3 (a3).length sc3), (10, Value.pointer (some ⟨bt11_0, 0, none⟩)), (11, Value.int .i64 (x14)), (12, Value.int .i64 (x15)), (13, Value.int .i64 (x16)), (17, Value.bool (t26.2.2.1)), (80, Value.bool (t26.2.2.1)), (81, Value.int .i64 (x15)), (82, Value.int .i64 (x14)), (83, Value.int .i64 (w64 (x15 - x14))), (84, Value.int .i64 (a1)), (85, Value.bool (decide ((w64 (x15 - x14)) < a1))), (86, Value.bool (((t26.2.2.1) != (decide ((w64 (x15 - x14)) < a1))))), (95, Value.slice at26_1 (t26.2.1).length ct26_1), (96, Value.string (strOf (t26.2.1))), (97, Value.int .i64 (x16)), (98, Value.int .u8 (IntKind.u8.wrap (x16))), (99, Value.slice (some ⟨lb78, 0, none⟩) (([IntKind.u8.wrap (x16)] : List Int)).length 1), (100, Value.string (strOf (([IntKind.u8.wrap (x16)] : List Int)))), (101, Value.bool (!(sEq (t26.2.1) (([IntKind.u8.wrap (x16)] : List Int)))))] ⟨rfl, rfl, rfl, rfl, rfl, rfl, rfl, rfl, rfl, rfl, rfl, rfl, rfl, rfl, rfl, rfl, rfl, rfl, rfl, rfl, rfl, rfl, rfl, trivial⟩ ?_
                                  refine V.region ?_
                                  refine W.rd (X.move rfl) rfl rfl rfl ?_
                                  refine W.rd (X.add rfl rfl) rfl rfl rfl ?_
                                  refine W.rd (X.assign rfl) rfl rfl rfl ?_
                                  refine W.nil ?_
                                  replace HS := HS.sel [1, 2, 3, 4] [0] (by kernel_rfl)
                                  exact At.meet (w64 (x15 + 1), w64 (x15 - x14), decide ((w64 (x15 - x14)) < a1), ((t26.2.2.1) != (decide ((w64 (x15 - x14)) < a1)))) ⟨rfl, rfl, rfl, rfl, rfl, rfl, rfl, rfl, rfl, rfl, rfl, rfl, rfl, rfl, rfl, rfl, trivial⟩ ⟨HS, kq18, by omega, H⟩
                                · replace H := ite_f c79 H
                                  refine V.condT (sb (n_f (b_f c79))) ?_
                                  refine V.seq ?_
                                  refine V.region ?_
                                  refine W.rd (X.assign rfl) rfl rfl rfl ?_
                                  refine W.nil ?_
                                  refine At.next ?_
                                  refine V.keep [(8, Value.bool (false))] ⟨rfl, trivial⟩ ?_
                                  refine V.ret ?_
                                  refine At.thenRet ?_
                                  refine At.thenRet ?_
                                  refine At.blockRet ?_
                                  refine At.thenRet ?_
                                  refine At.thenRet ?_
                                  refine At.blockRet ?_
                                  refine At.thenRet ?_
                                  replace HS := HS.sel [4] [0, 1, 2, 3] (by kernel_rfl)
                                  cases H
                                  exact At.ret1 rfl rfl ⟨_, rfl, rfl, HS⟩
                              · replace H := ite_f c75 H
                                refine W.pass 94 rfl (sb (n_f (decide_eq_false c75))) rfl rfl ?_
                                refine W.pass 94 rfl (sb (n_f (decide_eq_false c75))) rfl rfl ?_
                                refine W.pass 94 rfl (sb (n_f (decide_eq_false c75))) rfl rfl ?_
                                refine W.pass 94 rfl (sb (n_f (decide_eq_false c75))) rfl rfl ?_
                                refine W.pass 94 rfl (sb (n_f (decide_eq_false c75))) rfl rfl ?_
                                refine W.pass 94 rfl (sb (n_f (decide_eq_false c75))) rfl rfl ?_
                                refine W.pass 94 rfl (sb (n_f (decide_eq_false c75))) rfl rfl ?_
                                refine W.rd (X.pickT (sb (n_f (decide_eq_false c75))) rfl) rfl rfl rfl ?_
                                refine W.nil ?_
                                refine At.next ?_
                                refine V.keep [(0, Value.int .i64 (a0)), (1, Value.int .i64 (a1)), (2, Value.int .i64 (a2)), (3, Value.slice sa3 (a3).length sc3), (10, Value.pointer (some ⟨bt11_0, 0, none⟩)), (11, Value.int .i64 (x14)), (12, Value.int .i64 (x15)), (13, Value.int .i64 (x16)), (17, Value.bool (t26.2.2.1)), (80, Value.bool (t26.2.2.1)), (81, Value.int .i64 (x15)), (82, Value.int .i64 (x14)), (83, Value.int .i64 (w64 (x15 - x14))), (84, Value.int .i64 (a1)), (85, Value.bool (decide ((w64 (x15 - x14)) < a1))), (86, Value.bool (((t26.2.2.1) != (decide ((w64 (x15 - x14)) < a1))))), (95, undef), (96, undef), (97, undef), (98, undef), (99, undef), (100, undef), (101, undef), (102, Value.bool (true))] ⟨rfl, rfl, rfl, rfl, rfl, rfl, rfl, rfl, rfl, rfl, rfl, rfl, rfl, rfl, rfl, rfl, rfl, rfl, rfl, rfl, rfl, rfl, rfl, rfl, trivial⟩ ?_
                                refine V.condT rfl ?_
                                refine V.seq ?_
                                refine V.region ?_
                                refine W.rd (X.assign rfl) rfl rfl rfl ?_
                                refine W.nil ?_
                                refine At.next ?_
                                refine V.keep [(8, Value.bool (false))] ⟨rfl, trivial⟩ ?_
                                refine V.ret ?_
                                refine At.thenRet ?_
                                refine At.thenRet ?_
                                refine At.blockRet ?_
                                refine At.thenRet ?_
                                refine At.thenRet ?_
                                refine At.blockRet ?_
                                refine At.thenRet ?_
                                replace HS := HS.sel [3] [0, 1, 2] (by kernel_rfl)
                                cases H
                                exact At.ret1 rfl rfl ⟨_, rfl, rfl, HS⟩
                            · replace H := ite_f c73 H
                              refine V.condF (sb (b_f c73)) ?_
                              refine V.skip ?_
                              exact At.meet (x15, w64 (x15 - x14), decide ((w64 (x15 - x14)) < a1), ((t26.2.2.1) != (decide ((w64 (x15 - x14)) < a1)))) ⟨rfl, rfl, rfl, rfl, rfl, rfl, rfl, rfl, rfl, rfl, rfl, rfl, rfl, rfl, rfl, rfl, trivial⟩ ⟨HS, kq18, by omega, H⟩
                          · rintro ⟨x34, x35, x36, x37⟩ w ⟨HS, kf38, hkkf38, H⟩
                            unfold signalmanlaw13_BacklogRounds.j1 at H
                            have HS : Sep.St [row 5 1 (.slice at26_1 (t26.2.1).length ct26_1) (t26.2.1).length ((t26.2.1).map (Value.int .u8)), backlog_Log.at bt11_0 (t26.2.2.2), row 5 1 (.slice (some ⟨lb23, 0, none⟩) (([IntKind.u8.wrap (x16)] : List Int)).length 1) (([IntKind.u8.wrap (x16)] : List Int)).length ((([IntKind.u8.wrap (x16)] : List Int)).map (Value.int .u8)), R] w0 w := HS
                            refine V.seq ?_
                            refine V.region ?_
                            refine W.rd (X.move rfl) rfl rfl rfl ?_
                            refine W.rd (X.move rfl) rfl rfl rfl ?_
                            refine W.rd (X.move rfl) rfl rfl rfl ?_
                            obtain ⟨c40, H⟩ := ite_n H
                            obtain ⟨eb41, eo42, hh⟩ := ((rdC.at 3 hr3 HS rfl)).some (by decide) c40.1 c40.2; subst hh
                            refine W.rd (X.indexSl Try.underlying31 inf3 rfl rfl c40.1 c40.2) rfl rfl rfl ?_
                            refine W.rd (X.load Try.underlying3 rfl rfl (((rdC.at 3 hr3 HS rfl)).cellI c40.1 c40.2)) rfl rfl rfl ?_
                            refine W.rd (X.and rfl rfl) rfl rfl rfl ?_
                            refine W.rd (X.add rfl rfl) rfl rfl rfl ?_
                            refine W.rd (X.assign rfl) rfl rfl rfl ?_
                            refine W.nil ?_
                            refine At.next ?_
                            refine V.keep [(0, Value.int .i64 (a0)), (1, Value.int .i64 (a1)), (2, Value.int .i64 (a2)), (3, Value.slice (some ⟨eb41, eo42, none⟩) (a3).length sc3), (10, Value.pointer (some ⟨bt11_0, 0, none⟩)), (11, Value.int .i64 (x14)), (12, Value.int .i64 (x34)), (13, Value.int .i64 (x16)), (17, Value.bool (t26.2.2.1)), (18, Value.int .i64 (w64 (x14 + (iand .i64 ((a3).getD (x16).toNat 0) (7))))), (80, Value.bool (t26.2.2.1)), (81, Value.int .i64 (x15)), (82, Value.int .i64 (x14)), (83, Value.int .i64 (x35)), (84, Value.int .i64 (a1)), (85, Value.bool (x36)), (86, Value.bool (x37))] ⟨rfl, rfl, rfl, rfl, rfl, rfl, rfl, rfl, rfl, rfl, rfl, rfl, rfl, rfl, rfl, rfl, rfl, trivial⟩ ?_
                            refine V.meet (σ := Int) (fun st w => match st with | x43 => Sep.St [row 5 1 (.slice at26_1 (t26.2.1).length ct26_1) (t26.2.1).length ((t26.2.1).map (Value.int .u8)), backlog_Log.at bt11_0 (t26.2.2.2), row 5 1 (.slice (some ⟨lb23, 0, none⟩) (([IntKind.u8.wrap (x16)] : List Int)).length 1) (([IntKind.u8.wrap (x16)] : List Int)).length ((([IntKind.u8.wrap (x16)] : List Int)).map (Value.int .u8)), R] w0 w ∧ ∃ kf44, kf44 ≤ kf38 ∧ signalmanlaw13_BacklogRounds.j2 kf44 a0 a1 x14 x16 t26 x34 (signalmanlaw13_BacklogRounds.l0 kf38 a0 a1 a2 a3) x43 = some r) (fun st => match st with | x43 => [(0, Value.int .i64 (a0)), (1, Value.int .i64 (a1)), (2, Value.int .i64 (a2)), (3, Value.slice (some ⟨eb41, eo42, none⟩) (a3).length sc3), (10, Value.pointer (some ⟨bt11_0, 0, none⟩)), (11, Value.int .i64 (x14)), (12, Value.int .i64 (x34)), (13, Value.int .i64 (x16)), (17, Value.bool (t26.2.2.1)), (18, Value.int .i64 (x43)), (80, Value.bool (t26.2.2.1)), (81, Value.int .i64 (x15)), (82, Value.int .i64 (x14)), (83, Value.int .i64 (x35)), (84, Value.int .i64 (a1)), (85, Value.bool (x36)), (86, Value.bool (x37))]) ?_ ?_
                            · refine V.seq ?_
                              refine V.region ?_
                              refine W.rd (X.move rfl) rfl rfl rfl ?_
                              refine W.rd (X.move rfl) rfl rfl rfl ?_
                              refine W.rd (X.cmp (decide ((w64 (x14 + (iand .i64 ((a3).getD (x16).toNat 0) (7)))) > x34)) rfl rfl rfl rfl) rfl rfl rfl ?_
                              refine W.nil ?_
                              refine At.next ?_
                              refine V.keep [(0, Value.int .i64 (a0)), (1, Value.int .i64 (a1)), (2, Value.int .i64 (a2)), (3, Value.slice (some ⟨eb41, eo42, none⟩) (a3).length sc3), (10, Value.pointer (some ⟨bt11_0, 0, none⟩)), (11, Value.int .i64 (x14)), (12, Value.int .i64 (x34)), (13, Value.int .i64 (x16)), (17, Value.bool (t26.2.2.1)), (18, Value.int .i64 (w64 (x14 + (iand .i64 ((a3).getD (x16).toNat 0) (7))))), (80, Value.bool (t26.2.2.1)), (81, Value.int .i64 (x15)), (82, Value.int .i64 (x14)), (83, Value.int .i64 (x35)), (84, Value.int .i64 (a1)), (85, Value.bool (x36)), (86, Value.bool (x37)), (114, Value.bool (decide ((w64 (x14 + (iand .i64 ((a3).getD (x16).toNat 0) (7)))) > x34)))] ⟨rfl, rfl, rfl, rfl, rfl, rfl, rfl, rfl, rfl, rfl, rfl, rfl, rfl, rfl, rfl, rfl, rfl, rfl, trivial⟩ ?_
                              by_cases c72 : (w64 (x14 + (iand .i64 ((a3).getD (x16).toNat 0) (7)))) > x34
                              · replace H := ite_t c72 H
                                refine V.condT (sb (decide_eq_true c72)) ?_
                                refine V.region ?_
                                refine W.rd (X.move rfl) rfl rfl rfl ?_
                                refine W.rd (X.assign rfl) rfl rfl rfl ?_
                                refine W.nil ?_
                                exact At.meet (x34) ⟨rfl, rfl, rfl, rfl, rfl, rfl, rfl, rfl, rfl, rfl, rfl, rfl, rfl, rfl, rfl, rfl, rfl, trivial⟩ ⟨HS, kf38, by omega, H⟩
                              · replace H := ite_f c72 H
                                refine V.condF (sb (decide_eq_false c72)) ?_
                                refine V.skip ?_
                                exact At.meet (w64 (x14 + (iand .i64 ((a3).getD (x16).toNat 0) (7)))) ⟨rfl, rfl, rfl, rfl, rfl, rfl, rfl, rfl, rfl, rfl, rfl, rfl, rfl, rfl, rfl, rfl, rfl, trivial⟩ ⟨HS, kf38, by omega, H⟩
                            · rintro x43 w ⟨HS, kf44, hkkf44, H⟩
                              unfold signalmanlaw13_BacklogRounds.j2 at H
                              have HS : Sep.St [row 5 1 (.slice at26_1 (t26.2.1).length ct26_1) (t26.2.1).length ((t26.2.1).map (Value.int .u8)), backlog_Log.at bt11_0 (t26.2.2.2), row 5 1 (.slice (some ⟨lb23, 0, none⟩) (([IntKind.u8.wrap (x16)] : List Int)).length 1) (([IntKind.u8.wrap (x16)] : List Int)).length ((([IntKind.u8.wrap (x16)] : List Int)).map (Value.int .u8)), R] w0 w := HS
                              refine V.seq ?_
                              refine V.region ?_
                              refine W.rd (X.move rfl) rfl rfl rfl ?_
                              refine W.rd (X.move rfl) rfl rfl rfl ?_
                              refine W.rd (X.move rfl) rfl rfl rfl ?_
                              obtain ⟨c46, H⟩ := ite_n H
                              refine W.rd (X.rem rfl rfl c46) rfl rfl rfl ?_
                              obtain ⟨t47, A48, H⟩ := bind_s H
                              replace HS := HS.re [1, 0, 2, 3] (by kernel_rfl)
                              have HS : Sep.St [backlog_Log.at bt11_0 (t26.2.2.2), row 5 1 (.slice at26_1 (t26.2.1).length ct26_1) (t26.2.1).length ((t26.2.1).map (Value.int .u8)), row 5 1 (.slice (some ⟨lb23, 0, none⟩) (([IntKind.u8.wrap (x16)] : List Int)).length 1) (([IntKind.u8.wrap (x16)] : List Int)).length ((([IntKind.u8.wrap (x16)] : List Int)).map (Value.int .u8)), R] w0 w := HS
                              refine W.ev (Y.call Try.func15 (by kernel_rfl) rfl (vs := [Value.pointer (some ⟨bt11_0, 0, none⟩), Value.int .i64 ((x43).tmod (a0))]) rfl (backlog_Log_Ack.calls t26.2.2.2 ((x43).tmod (a0)) _ w0 _ bt11_0 t47  A48 (Sep.St.tailJoin (m := [backlog_Log.at bt11_0 (t26.2.2.2)]) (r := [row 5 1 (.slice at26_1 (t26.2.1).length ct26_1) (t26.2.1).length ((t26.2.1).map (Value.int .u8)), row 5 1 (.slice (some ⟨lb23, 0, none⟩) (([IntKind.u8.wrap (x16)] : List Int)).length 1) (([IntKind.u8.wrap (x16)] : List Int)).length ((([IntKind.u8.wrap (x16)] : List Int)).map (Value.int .u8)), R]) HS))) rfl rfl rfl ?_
                              rintro _ w ⟨rfl, HS⟩
                              replace HS := Sep.St.tailOpen (m := [backlog_Log.at bt11_0 (t47.2.2)]) (r := [row 5 1 (.slice at26_1 (t26.2.1).length ct26_1) (t26.2.1).length ((t26.2.1).map (Value.int .u8)), row 5 1 (.slice (some ⟨lb23, 0, none⟩) (([IntKind.u8.wrap (x16)] : List Int)).length 1) (([IntKind.u8.wrap (x16)] : List Int)).length ((([IntKind.u8.wrap (x16)] : List Int)).map (Value.int .u8)), R]) HS
                              have HS : Sep.St [backlog_Log.at bt11_0 (t47.2.2), row 5 1 (.slice at26_1 (t26.2.1).length ct26_1) (t26.2.1).length ((t26.2.1).map (Value.int .u8)), row 5 1 (.slice (some ⟨lb23, 0, none⟩) (([IntKind.u8.wrap (x16)] : List Int)).length 1) (([IntKind.u8.wrap (x16)] : List Int)).length ((([IntKind.u8.wrap (x16)] : List Int)).map (Value.int .u8)), R] w0 w := HS
                              refine W.rd (X.move rfl) rfl rfl rfl ?_
                              refine W.rd (X.extract rfl rfl) rfl rfl rfl ?_
                              refine W.rd (X.extract rfl rfl) rfl rfl rfl ?_
                              refine W.rd (X.assign rfl) rfl rfl rfl ?_
                              refine W.rd (X.assign rfl) rfl rfl rfl ?_
                              refine W.nil ?_
                              refine At.next ?_
                              refine V.keep [(0, Value.int .i64 (a0)), (1, Value.int .i64 (a1)), (2, Value.int .i64 (a2)), (3, Value.slice (some ⟨eb41, eo42, none⟩) (a3).length sc3), (10, Value.pointer (some ⟨bt11_0, 0, none⟩)), (11, Value.int .i64 (x14)), (12, Value.int .i64 (x34)), (13, Value.int .i64 (x16)), (17, Value.bool (t26.2.2.1)), (18, Value.int .i64 (x43)), (19, Value.int .i64 (t47.1)), (20, Value.bool (t47.2.1)), (80, Value.bool (t26.2.2.1)), (81, Value.int .i64 (x15)), (82, Value.int .i64 (x14)), (83, Value.int .i64 (x35)), (84, Value.int .i64 (a1)), (85, Value.bool (x36)), (86, Value.bool (x37))] ⟨rfl, rfl, rfl, rfl, rfl, rfl, rfl, rfl, rfl, rfl, rfl, rfl, rfl, rfl, rfl, rfl, rfl, rfl, rfl, trivial⟩ ?_
                              refine V.seq ?_
                              refine V.seq ?_
                              refine V.region ?_
                              refine W.rd (X.move rfl) rfl rfl rfl ?_
                              refine W.rd (X.not rfl) rfl rfl rfl ?_
                              refine W.rd (X.move rfl) rfl rfl rfl ?_
                              by_cases c49 : t47.2.1 = true
                              · replace H := ite_t c49 H
                                refine W.want 126 rfl (sb (n_t c49)) ?_
                                refine W.rd (X.move rfl) rfl rfl rfl ?_
                                refine W.want 126 rfl (sb (n_t c49)) ?_
                                refine W.rd (X.move rfl) rfl rfl rfl ?_
                                refine W.want 126 rfl (sb (n_t c49)) ?_
                                refine W.rd (X.move rfl) rfl rfl rfl ?_
                                refine W.want 126 rfl (sb (n_t c49)) ?_
                                refine W.rd (X.sub rfl rfl) rfl rfl rfl ?_
                                refine W.want 126 rfl (sb (n_t c49)) ?_
                                refine W.rd (X.cmp (!(decide (t47.1 = (w64 (x43 - x14))))) rfl rfl rfl rfl) rfl rfl rfl ?_
                                refine W.rd (X.pickF (sb (n_t c49)) rfl) rfl rfl rfl ?_
                                refine W.nil ?_
                                refine At.next ?_
                                refine V.keep [(0, Value.int .i64 (a0)), (1, Value.int .i64 (a1)), (2, Value.int .i64 (a2)), (3, Value.slice (some ⟨eb41, eo42, none⟩) (a3).length sc3), (10, Value.pointer (some ⟨bt11_0, 0, none⟩)), (12, Value.int .i64 (x34)), (13, Value.int .i64 (x16)), (17, Value.bool (t26.2.2.1)), (18, Value.int .i64 (x43)), (80, Value.bool (t26.2.2.1)), (81, Value.int .i64 (x15)), (82, Value.int .i64 (x14)), (83, Value.int .i64 (x35)), (84, Value.int .i64 (a1)), (85, Value.bool (x36)), (86, Value.bool (x37)), (127, Value.int .i64 (t47.1)), (128, Value.int .i64 (x43)), (129, Value.int .i64 (x14)), (130, Value.int .i64 (w64 (x43 - x14))), (131, Value.bool (!(decide (t47.1 = (w64 (x43 - x14)))))), (132, Value.bool (!(decide (t47.1 = (w64 (x43 - x14))))))] ⟨rfl, rfl, rfl, rfl, rfl, rfl, rfl, rfl, rfl, rfl, rfl, rfl, rfl, rfl, rfl, rfl, rfl, rfl, rfl, rfl, rfl, rfl, trivial⟩ ?_
                                by_cases c50 : t47.1 = (w64 (x43 - x14))
                                · replace H := ite_t c50 H
                                  refine V.condF (sb (n_t (decide_eq_true c50))) ?_
                                  refine V.skip ?_
                                  refine At.next ?_
                                  refine V.keep [(0, Value.int .i64 (a0)), (1, Value.int .i64 (a1)), (2, Value.int .i64 (a2)), (3, Value.slice (some ⟨eb41, eo42, none⟩) (a3).length sc3), (10, Value.pointer (some ⟨bt11_0, 0, none⟩)), (12, Value.int .i64 (x34)), (13, Value.int .i64 (x16)), (17, Value.bool (t26.2.2.1)), (18, Value.int .i64 (x43)), (80, Value.bool (t26.2.2.1)), (81, Value.int .i64 (x15)), (82, Value.int .i64 (x14)), (83, Value.int .i64 (x35)), (84, Value.int .i64 (a1)), (85, Value.bool (x36)), (86, Value.bool (x37)), (127, Value.int .i64 (t47.1)), (128, Value.int .i64 (x43)), (129, Value.int .i64 (x14)), (130, Value.int .i64 (w64 (x43 - x14))), (131, Value.bool (!(decide (t47.1 = (w64 (x43 - x14))))))] ⟨rfl, rfl, rfl, rfl, rfl, rfl, rfl, rfl, rfl, rfl, rfl, rfl, rfl, rfl, rfl, rfl, rfl, rfl, rfl, rfl, rfl, trivial⟩ ?_
                                  refine V.seq ?_
                                  refine V.region ?_
                                  refine W.rd (X.move rfl) rfl rfl rfl ?_
                                  refine W.rd (X.assign rfl) rfl rfl rfl ?_
                                  refine W.nil ?_
                                  refine At.next ?_
                                  refine V.keep [(0, Value.int .i64 (a0)), (1, Value.int .i64 (a1)), (2, Value.int .i64 (a2)), (3, Value.slice (some ⟨eb41, eo42, none⟩) (a3).length sc3), (10, Value.pointer (some ⟨bt11_0, 0, none⟩)), (11, Value.int .i64 (x43)), (12, Value.int .i64 (x34)), (13, Value.int .i64 (x16)), (17, Value.bool (t26.2.2.1)), (80, Value.bool (t26.2.2.1)), (81, Value.int .i64 (x15)), (82, Value.int .i64 (x14)), (83, Value.int .i64 (x35)), (84, Value.int .i64 (a1)), (85, Value.bool (x36)), (86, Value.bool (x37)), (127, Value.int .i64 (t47.1)), (128, Value.int .i64 (x43)), (129, Value.int .i64 (x14)), (130, Value.int .i64 (w64 (x43 - x14))), (131, Value.bool (!(decide (t47.1 = (w64 (x43 - x14))))))] ⟨rfl, rfl, rfl, rfl, rfl, rfl, rfl, rfl, rfl, rfl, rfl, rfl, rfl, rfl, rfl, rfl, rfl, rfl, rfl, rfl, rfl, trivial⟩ ?_
                                  refine V.meet (σ := backlog_Log × Int × Int × Bool) (fun st w => match st with | (x51, x52, x53, x54) => Sep.St [backlog_Log.at bt11_0 (x51), row 5 1 (.slice at26_1 (t26.2.1).length ct26_1) (t26.2.1).length ((t26.2.1).map (Value.int .u8)), row 5 1 (.slice (some ⟨lb23, 0, none⟩) (([IntKind.u8.wrap (x16)] : List Int)).length 1) (([IntKind.u8.wrap (x16)] : List Int)).length ((([IntKind.u8.wrap (x16)] : List Int)).map (Value.int .u8)), R] w0 w ∧ ∃ kf55, kf55 ≤ kf44 ∧ signalmanlaw13_BacklogRounds.j3 kf55 x16 x43 (signalmanlaw13_BacklogRounds.l0 kf38 a0 a1 a2 a3) x51 x52 x53 x54 = some r) (fun st => match st with | (x51, x52, x53, x54) => [(0, Value.int .i64 (a0)), (1, Value.int .i64 (a1)), (2, Value.int .i64 (a2)), (3, Value.slice (some ⟨eb41, eo42, none⟩) (a3).length sc3), (10, Value.pointer (some ⟨bt11_0, 0, none⟩)), (11, Value.int .i64 (x43)), (12, Value.int .i64 (x52)), (13, Value.int .i64 (x16)), (80, Value.bool (t26.2.2.1)), (81, Value.int .i64 (x15)), (82, Value.int .i64 (x14)), (83, Value.int .i64 (x35)), (84, Value.int .i64 (a1)), (85, Value.bool (x36)), (86, Value.bool (x37)), (127, Value.int .i64 (t47.1)), (128, Value.int .i64 (x43)), (129, Value.int .i64 (x14)), (130, Value.int .i64 (x53)), (131, Value.bool (x54))]) ?_ ?_
                                  · refine V.seq ?_
                                    refine V.region ?_
                                    refine W.rd (X.move rfl) rfl rfl rfl ?_
                                    refine W.rd (X.not rfl) rfl rfl rfl ?_
                                    refine W.nil ?_
                                    refine At.next ?_
                                    refine V.keep [(0, Value.int .i64 (a0)), (1, Value.int .i64 (a1)), (2, Value.int .i64 (a2)), (3, Value.slice (some ⟨eb41, eo42, none⟩) (a3).length sc3), (10, Value.pointer (some ⟨bt11_0, 0, none⟩)), (11, Value.int .i64 (x43)), (12, Value.int .i64 (x34)), (13, Value.int .i64 (x16)), (80, Value.bool (t26.2.2.1)), (81, Value.int .i64 (x15)), (82, Value.int .i64 (x14)), (83, Value.int .i64 (x35)), (84, Value.int .i64 (a1)), (85, Value.bool (x36)), (86, Value.bool (x37)), (127, Value.int .i64 (t47.1)), (128, Value.int .i64 (x43)), (129, Value.int .i64 (x14)), (130, Value.int .i64 (w64 (x43 - x14))), (131, Value.bool (!(decide (t47.1 = (w64 (x43 - x14)))))), (135, Value.bool (!(t26.2.2.1)))] ⟨rfl, rfl, rfl, rfl, rfl, rfl, rfl, rfl, rfl, rfl, rfl, rfl, rfl, rfl, rfl, rfl, rfl, rfl, rfl, rfl, rfl, trivial⟩ ?_
                                    by_cases c65 : t26.2.2.1 = true
                                    · replace H := ite_t c65 H
                                      refine V.condF (sb (n_t c65)) ?_
                                      refine V.skip ?_
                                      exact At.meet (t47.2.2, x34, w64 (x43 - x14), !(decide (t47.1 = (w64 (x43 - x14))))) ⟨rfl, rfl, rfl, rfl, rfl, rfl, rfl, rfl, rfl, rfl, rfl, rfl, rfl, rfl, rfl, rfl, rfl, rfl, rfl, rfl, trivial⟩ ⟨HS, kf44, by omega, H⟩
                                    · replace H := ite_f c65 H
                                      refine V.condT (sb (n_f (b_f c65))) ?_
                                      refine V.seq ?_
                                      refine V.region ?_
                                      refine W.rd (X.move rfl) rfl rfl rfl ?_
                                      obtain ⟨t66, A67, H⟩ := bind_s H
                                      refine W.ev (Y.call Try.func10 (by kernel_rfl) rfl (vs := [Value.pointer (some ⟨bt11_0, 0, none⟩)]) rfl (backlog_Log_Next.calls t47.2.2 _ w0 _ bt11_0 t66  A67 (Sep.St.tailJoin (m := [backlog_Log.at bt11_0 (t47.2.2)]) (r := [row 5 1 (.slice at26_1 (t26.2.1).length ct26_1) (t26.2.1).length ((t26.2.1).map (Value.int .u8)), row 5 1 (.slice (some ⟨lb23, 0, none⟩) (([IntKind.u8.wrap (x16)] : List Int)).length 1) (([IntKind.u8.wrap (x16)] : List Int)).length ((([IntKind.u8.wrap (x16)] : List Int)).map (Value.int .u8)), R]) HS))) rfl rfl rfl ?_
                                      rintro _ w ⟨at66_1, ct66_1, rfl, HS⟩
                                      replace HS := Sep.St.tailOpen (m := [row 5 1 (.slice at66_1 (t66.2.1).length ct66_1) (t66.2.1).length ((t66.2.1).map (Value.int .u8)), backlog_Log.at bt11_0 (t66.2.2.2)]) (r := [row 5 1 (.slice at26_1 (t26.2.1).length ct26_1) (t26.2.1).length ((t26.2.1).map (Value.int .u8)), row 5 1 (.slice (some ⟨lb23, 0, none⟩) (([IntKind.u8.wrap (x16)] : List Int)).length 1) (([IntKind.u8.wrap (x16)] : List Int)).length ((([IntKind.u8.wrap (x16)] : List Int)).map (Value.int .u8)), R]) HS
                                      have HS : Sep.St [row 5 1 (.slice at66_1 (t66.2.1).length ct66_1) (t66.2.1).length ((t66.2.1).map (Value.int .u8)), backlog_Log.at bt11_0 (t66.2.2.2), row 5 1 (.slice at26_1 (t26.2.1).length ct26_1) (t26.2.1).length ((t26.2.1).map (Value.int .u8)), row 5 1 (.slice (some ⟨lb23, 0, none⟩) (([IntKind.u8.wrap (x16)] : List Int)).length 1) (([IntKind.u8.wrap (x16)] : List Int)).length ((([IntKind.u8.wrap (x16)] : List Int)).map (Value.int .u8)), R] w0 w := HS
                                      refine W.rd (X.move rfl) rfl rfl rfl ?_
                                      refine W.rd (X.extract rfl rfl) rfl rfl rfl ?_
                                      refine W.rd (X.extract rfl rfl) rfl rfl rfl ?_
                                      refine W.rd (X.extract rfl rfl) rfl rfl rfl ?_
                                      refine W.rd (X.assign rfl) rfl rfl rfl ?_
                                      refine W.rd (X.assign rfl) rfl rfl rfl ?_
                                      refine W.nil ?_
                                      refine At.next ?_
                                      refine V.keep [(0, Value.int .i64 (a0)), (1, Value.int .i64 (a1)), (2, Value.int .i64 (a2)), (3, Value.slice (some ⟨eb41, eo42, none⟩) (a3).length sc3), (10, Value.pointer (some ⟨bt11_0, 0, none⟩)), (11, Value.int .i64 (x43)), (12, Value.int .i64 (x34)), (13, Value.int .i64 (x16)), (15, Value.int .i64 (t66.1)), (17, Value.bool (t66.2.2.1)), (80, Value.bool (t26.2.2.1)), (81, Value.int .i64 (x15)), (82, Value.int .i64 (x14)), (83, Value.int .i64 (x35)), (84, Value.int .i64 (a1)), (85, Value.bool (x36)), (86, Value.bool (x37)), (127, Value.int .i64 (t47.1)), (128, Value.int .i64 (x43)), (129, Value.int .i64 (x14)), (130, Value.int .i64 (w64 (x43 - x14))), (131, Value.bool (!(decide (t47.1 = (w64 (x43 - x14))))))] ⟨rfl, rfl, rfl, rfl, rfl, rfl, rfl, rfl, rfl, rfl, rfl, rfl, rfl, rfl, rfl, rfl, rfl, rfl, rfl, rfl, rfl, rfl, trivial⟩ ?_
                                      refine V.seq ?_
                                      refine V.seq ?_
                                      refine V.region ?_
                                      refine W.rd (X.move rfl) rfl rfl rfl ?_
                                      refine W.rd (X.move rfl) rfl rfl rfl ?_
                                      refine W.rd (X.move rfl) rfl rfl rfl ?_
                                      refine W.rd (X.sub rfl rfl) rfl rfl rfl ?_
                                      refine W.rd (X.move rfl) rfl rfl rfl ?_
                                      refine W.rd (X.cmp (decide ((w64 (x34 - x43)) < a1)) rfl rfl rfl rfl) rfl rfl rfl ?_
                                      refine W.rd (X.neB Try.underlying4 rfl rfl) rfl rfl rfl ?_
                                      refine W.nil ?_
                                      refine At.next ?_
                                      refine V.keep [(0, Value.int .i64 (a0)), (1, Value.int .i64 (a1)), (2, Value.int .i64 (a2)), (3, Value.slice (some ⟨eb41, eo42, none⟩) (a3).length sc3), (10, Value.pointer (some ⟨bt11_0, 0, none⟩)), (11, Value.int .i64 (x43)), (12, Value.int .i64 (x34)), (13, Value.int .i64 (x16)), (15, Value.int .i64 (t66.1)), (17, Value.bool (t66.2.2.1)), (80, Value.bool (t26.2.2.1)), (81, Value.int .i64 (x15)), (82, Value.int .i64 (x14)), (83, Value.int .i64 (x35)), (84, Value.int .i64 (a1)), (85, Value.bool (x36)), (86, Value.bool (x37)), (127, Value.int .i64 (t47.1)), (128, Value.int .i64 (x43)), (129, Value.int .i64 (x14)), (130, Value.int .i64 (w64 (x43 - x14))), (131, Value.bool (!(decide (t47.1 = (w64 (x43 - x14)))))), (148, Value.bool (((t66.2.2.1) != (decide ((w64 (x34 - x43)) < a1)))))] ⟨rfl, rfl, rfl, rfl, rfl, rfl, rfl, rfl, rfl, rfl, rfl, rfl, rfl, rfl, rfl, rfl, rfl, rfl, rfl, rfl, rfl, rfl, rfl, trivial⟩ ?_
                                      by_cases c69 : ((t66.2.2.1) != (decide ((w64 (x34 - x43)) < a1))) = true
                                      · replace H := ite_t c69 H
                                        refine V.condT (sb c69) ?_
                                        refine V.seq ?_
                                        refine V.region ?_
                                        refine W.rd (X.assign rfl) rfl rfl rfl ?_
                                        refine W.nil ?_
                                        refine At.next ?_
                                        refine V.keep [(8, Value.bool (false))] ⟨rfl, trivial⟩ ?_
                                        refine V.ret ?_
                                        refine At.thenRet ?_
                                        refine At.thenRet ?_
                                        refine At.blockRet ?_
                                        refine At.thenRet ?_
                                        refine At.thenRet ?_
                                        refine At.blockRet ?_
                                        refine At.thenRet ?_
                                        replace HS := HS.sel [4] [0, 1, 2, 3] (by kernel_rfl)
                                        cases H
                                        exact At.ret1 rfl rfl ⟨_, rfl, rfl, HS⟩
                                      · replace H := ite_f c69 H
                                        refine V.condF (sb (b_f c69)) ?_
                                        refine V.skip ?_
                                        refine At.next ?_
                                        refine V.keep [(0, Value.int .i64 (a0)), (1, Value.int .i64 (a1)), (2, Value.int .i64 (a2)), (3, Value.slice (some ⟨eb41, eo42, none⟩) (a3).length sc3), (10, Value.pointer (some ⟨bt11_0, 0, none⟩)), (11, Value.int .i64 (x43)), (12, Value.int .i64 (x34)), (13, Value.int .i64 (x16)), (15, Value.int .i64 (t66.1)), (17, Value.bool (t66.2.2.1)), (80, Value.bool (t26.2.2.1)), (81, Value.int .i64 (x15)), (82, Value.int .i64 (x14)), (83, Value.int .i64 (x35)), (84, Value.int .i64 (a1)), (85, Value.bool (x36)), (86, Value.bool (x37)), (127, Value.int .i64 (t47.1)), (128, Value.int .i64 (x43)), (129, Value.int .i64 (x14)), (130, Value.int .i64 (w64 (x43 - x14))), (131, Value.bool (!(decide (t47.1 = (w64 (x43 - x14))))))] ⟨rfl, rfl, rfl, rfl, rfl, rfl, rfl, rfl, rfl, rfl, rfl, rfl, rfl, rfl, rfl, rfl, rfl, rfl, rfl, rfl, rfl, rfl, trivial⟩ ?_
                                        refine V.seq ?_
                                        refine V.seq ?_
                                        refine V.region ?_
                                        refine W.rd (X.move rfl) rfl rfl rfl ?_
                                        refine W.rd (X.not rfl) rfl rfl rfl ?_
                                        refine W.nil ?_
                                        refine At.next ?_
                                        refine V.keep [(0, Value.int .i64 (a0)), (1, Value.int .i64 (a1)), (2, Value.int .i64 (a2)), (3, Value.slice (some ⟨eb41, eo42, none⟩) (a3).length sc3), (10, Value.pointer (some ⟨bt11_0, 0, none⟩)), (11, Value.int .i64 (x43)), (12, Value.int .i64 (x34)), (13, Value.int .i64 (x16)), (15, Value.int .i64 (t66.1)), (80, Value.bool (t26.2.2.1)), (81, Value.int .i64 (x15)), (82, Value.int .i64 (x14)), (83, Value.int .i64 (x35)), (84, Value.int .i64 (a1)), (85, Value.bool (x36)), (86, Value.bool (x37)), (127, Value.int .i64 (t47.1)), (128, Value.int .i64 (x43)), (129, Value.int .i64 (x14)), (130, Value.int .i64 (w64 (x43 - x14))), (131, Value.bool (!(decide (t47.1 = (w64 (x43 - x14)))))), (150, Value.bool (!(t66.2.2.1)))] ⟨rfl, rfl, rfl, rfl, rfl, rfl, rfl, rfl, rfl, rfl, rfl, rfl, rfl, rfl, rfl, rfl, rfl, rfl, rfl, rfl, rfl, rfl, trivial⟩ ?_
                                        by_cases c70 : t66.2.2.1 = true
                                        · replace H := ite_t c70 H
                                          refine V.condF (sb (n_t c70)) ?_
                                          refine V.skip ?_
                                          refine At.next ?_
                                          refine V.keep [(0, Value.int .i64 (a0)), (1, Value.int .i64 (a1)), (2, Value.int .i64 (a2)), (3, Value.slice (some ⟨eb41, eo42, none⟩) (a3).length sc3), (10, Value.pointer (some ⟨bt11_0, 0, none⟩)), (11, Value.int .i64 (x43)), (12, Value.int .i64 (x34)), (13, Value.int .i64 (x16)), (15, Value.int .i64 (t66.1)), (80, Value.bool (t26.2.2.1)), (81, Value.int .i64 (x15)), (82, Value.int .i64 (x14)), (83, Value.int .i64 (x35)), (84, Value.int .i64 (a1)), (85, Value.bool (x36)), (86, Value.bool (x37)), (127, Value.int .i64 (t47.1)), (128, Value.int .i64 (x43)), (129, Value.int .i64 (x14)), (130, Value.int .i64 (w64 (x43 - x14))), (131, Value.bool (!(decide (t47.1 = (w64 (x43 - x14))))))] ⟨rfl, rfl, rfl, rfl, rfl, rfl, rfl, rfl, rfl, rfl, rfl, rfl, rfl, rfl, rfl, rfl, rfl, rfl, rfl, rfl, rfl, trivial⟩ ?_
                                          refine V.seq ?_
                                          refine V.seq ?_
                                          refine V.region ?_
                                          refine W.rd (X.move rfl) rfl rfl rfl ?_
                                          refine W.rd (X.move rfl) rfl rfl rfl ?_
                                          refine W.rd (X.move rfl) rfl rfl rfl ?_
                                          refine W.rd (X.rem rfl rfl c46) rfl rfl rfl ?_
                                          refine W.rd (X.cmp (!(decide (t66.1 = ((x34).tmod (a0))))) rfl rfl rfl rfl) rfl rfl rfl ?_
                                          refine W.nil ?_
                                          refine At.next ?_
                                          refine V.keep [(0, Value.int .i64 (a0)), (1, Value.int .i64 (a1)), (2, Value.int .i64 (a2)), (3, Value.slice (some ⟨eb41, eo42, none⟩) (a3).length sc3), (10, Value.pointer (some ⟨bt11_0, 0, none⟩)), (11, Value.int .i64 (x43)), (12, Value.int .i64 (x34)), (13, Value.int .i64 (x16)), (80, Value.bool (t26.2.2.1)), (81, Value.int .i64 (x15)), (82, Value.int .i64 (x14)), (83, Value.int .i64 (x35)), (84, Value.int .i64 (a1)), (85, Value.bool (x36)), (86, Value.bool (x37)), (127, Value.int .i64 (t47.1)), (128, Value.int .i64 (x43)), (129, Value.int .i64 (x14)), (130, Value.int .i64 (w64 (x43 - x14))), (131, Value.bool (!(decide (t47.1 = (w64 (x43 - x14)))))), (155, Value.bool (!(decide (t66.1 = ((x34).tmod (a0))))))] ⟨rfl, rfl, rfl, rfl, rfl, rfl, rfl, rfl, rfl, rfl, rfl, rfl, rfl, rfl, rfl, rfl, rfl, rfl, rfl, rfl, rfl, trivial⟩ ?_
                                          by_cases c71 : t66.1 = ((x34).tmod (a0))
                                          · replace H := ite_t c71 H
                                            refine V.condF (sb (n_t (decide_eq_true c71))) ?_
                                            refine V.skip ?_
                                            refine At.next ?_
                                            refine V.keep [(0, Value.int .i64 (a0)), (1, Value.int .i64 (a1)), (2, Value.int .i64 (a2)), (3, Value.slice (some ⟨eb41, eo42, none⟩) (a3).length sc3), (10, Value.pointer (some ⟨bt11_0, 0, none⟩)), (11, Value.int .i64 (x43)), (12, Value.int .i64 (x34)), (13, Value.int .i64 (x16)), (80, Value.bool (t26.2.2.1)), (81, Value.int .i64 (x15)), (82, Value.int .i64 (x14)), (83, Value.int .i64 (x35)), (84, Value.int .i64 (a1)), (85, Value.bool (x36)), (86, Value.bool (x37)), (127, Value.int .i64 (t47.1)), (128, Value.int .i64 (x43)), (129, Value.int .i64 (x14)), (130, Value.int .i64 (w64 (x43 - x14))), (131, Value.bool (!(decide (t47.1 = (w64 (x43 - x14))))))] ⟨rfl, rfl, rfl, rfl, rfl, rfl, rfl, rfl, rfl, rfl, rfl, rfl, rfl, rfl, rfl, rfl, rfl, rfl, rfl, rfl, trivial⟩ ?_
                                            refine V.region ?_
                                            refine W.rd (X.move rfl) rfl rfl rfl ?_
                                            refine W.rd (X.add rfl rfl) rfl rfl rfl ?_
                                            refine W.rd (X.assign rfl) rfl rfl rfl ?_
                                            refine W.nil ?_
                                            replace HS := HS.sel [1, 2, 3, 4] [0] (by kernel_rfl)
                                            exact At.meet (t66.2.2.2, w64 (x34 + 1), w64 (x43 - x14), !(decide (t47.1 = (w64 (x43 - x14))))) ⟨rfl, rfl, rfl, rfl, rfl, rfl, rfl, rfl, rfl, rfl, rfl, rfl, rfl, rfl, rfl, rfl, rfl, rfl, rfl, rfl, trivial⟩ ⟨HS, kf44, by omega, H⟩
                                          · replace H := ite_f c71 H
                                            refine V.condT (sb (n_f (decide_eq_false c71))) ?_
                                            refine V.seq ?_
                                            refine V.region ?_
                                            refine W.rd (X.assign rfl) rfl rfl rfl ?_
                                            refine W.nil ?_
                                            refine At.next ?_
                                            refine V.keep [(8, Value.bool (false))] ⟨rfl, trivial⟩ ?_
                                            refine V.ret ?_
                                            refine At.thenRet ?_
                                            refine At.thenRet ?_
                                            refine At.blockRet ?_
                                            refine At.thenRet ?_
                                            refine At.thenRet ?_
                                            refine At.blockRet ?_
                                            refine At.thenRet ?_
                                            replace HS := HS.sel [4] [0, 1, 2, 3] (by kernel_rfl)
                                            cases H
                                            exact At.ret1 rfl rfl ⟨_, rfl, rfl, HS⟩
                                        · replace H := ite_f c70 H
                                          refine V.condT (sb (n_f (b_f c70))) ?_
                                          refine V.seq ?_
                                          refine V.region ?_
                                          refine W.rd (X.assign rfl) rfl rfl rfl ?_
                                          refine W.nil ?_
                                          refine At.next ?_
                                          refine V.keep [(8, Value.bool (true))] ⟨rfl, trivial⟩ ?_
                                          refine V.ret ?_
                                          refine At.thenRet ?_
                                          refine At.thenRet ?_
                                          refine At.blockRet ?_
                                          refine At.thenRet ?_
                                          refine At.thenRet ?_
                                          refine At.blockRet ?_
                                          refine At.thenRet ?_
                                          replace HS := HS.sel [4] [0, 1, 2, 3] (by kernel_rfl)
                                          cases H
                                          exact At.ret1 rfl rfl ⟨_, rfl, rfl, HS⟩
                                  · rintro ⟨x51, x52, x53, x54⟩ w ⟨HS, kf55, hkkf55, H⟩
                                    unfold signalmanlaw13_BacklogRounds.j3 at H
                                    have HS : Sep.St [backlog_Log.at bt11_0 (x51), row 5 1 (.slice at26_1 (t26.2.1).length ct26_1) (t26.2.1).length ((t26.2.1).map (Value.int .u8)), row 5 1 (.slice (some ⟨lb23, 0, none⟩) (([IntKind.u8.wrap (x16)] : List Int)).length 1) (([IntKind.u8.wrap (x16)] : List Int)).length ((([IntKind.u8.wrap (x16)] : List Int)).map (Value.int .u8)), R] w0 w := HS
                                    refine V.seq ?_
                                    refine V.region ?_
                                    refine W.rd (X.move rfl) rfl rfl rfl ?_
                                    obtain ⟨a5_57, c5_57, d5_57, hi58, HS⟩ := backlog_Log.open HS
                                    have HS : Sep.St [blk bt11_0 (#[Value.int .i64 ((x51).m), Value.int .i64 ((x51).window), Value.int .i64 ((x51).queue), Value.int .i64 ((x51).first), Value.int .i64 ((x51).out), Value.slice a5_57 ((x51).l).length c5_57]) 54, row 27 1 (.slice a5_57 ((x51).l).length c5_57) ((x51).l).length d5_57, tie (El.sl (El.int .u8)) d5_57 ((x51).l), row 5 1 (.slice at26_1 (t26.2.1).length ct26_1) (t26.2.1).length ((t26.2.1).map (Value.int .u8)), row 5 1 (.slice (some ⟨lb23, 0, none⟩) (([IntKind.u8.wrap (x16)] : List Int)).length 1) (([IntKind.u8.wrap (x16)] : List Int)).length ((([IntKind.u8.wrap (x16)] : List Int)).map (Value.int .u8)), R] w0 w := HS
                                    obtain ⟨t59, A60, H⟩ := bind_s H
                                    refine W.ev (Y.call Try.func13 (by kernel_rfl) rfl (vs := [Value.pointer (some ⟨bt11_0, 0, none⟩)]) rfl (backlog_Log_Out.calls kf55 x51 _ w0 _ bt11_0 a5_57 c5_57 d5_57 t59  A60 (Sep.St.tailJoin (m := [blk bt11_0 (#[Value.int .i64 ((x51).m), Value.int .i64 ((x51).window), Value.int .i64 ((x51).queue), Value.int .i64 ((x51).first), Value.int .i64 ((x51).out), Value.slice a5_57 ((x51).l).length c5_57]) 54, row 27 1 (.slice a5_57 ((x51).l).length c5_57) ((x51).l).length d5_57, tie (El.sl (El.int .u8)) d5_57 ((x51).l)]) (r := [row 5 1 (.slice at26_1 (t26.2.1).length ct26_1) (t26.2.1).length ((t26.2.1).map (Value.int .u8)), row 5 1 (.slice (some ⟨lb23, 0, none⟩) (([IntKind.u8.wrap (x16)] : List Int)).length 1) (([IntKind.u8.wrap (x16)] : List Int)).length ((([IntKind.u8.wrap (x16)] : List Int)).map (Value.int .u8)), R]) HS))) rfl rfl rfl ?_
                                    rintro _ w ⟨at59_0, ct59_0, rfl, HS⟩
                                    replace HS := Sep.St.tailOpen (m := [row 3 1 (.slice at59_0 (t59).length ct59_0) (t59).length ((t59).map (Value.int .i64)), blk bt11_0 (#[Value.int .i64 ((x51).m), Value.int .i64 ((x51).window), Value.int .i64 ((x51).queue), Value.int .i64 ((x51).first), Value.int .i64 ((x51).out), Value.slice a5_57 ((x51).l).length c5_57]) 54, row 27 1 (.slice a5_57 ((x51).l).length c5_57) ((x51).l).length d5_57, tie (El.sl (El.int .u8)) d5_57 ((x51).l)]) (r := [row 5 1 (.slice at26_1 (t26.2.1).length ct26_1) (t26.2.1).length ((t26.2.1).map (Value.int .u8)), row 5 1 (.slice (some ⟨lb23, 0, none⟩) (([IntKind.u8.wrap (x16)] : List Int)).length 1) (([IntKind.u8.wrap (x16)] : List Int)).length ((([IntKind.u8.wrap (x16)] : List Int)).map (Value.int .u8)), R]) HS
                                    have HS : Sep.St [row 3 1 (.slice at59_0 (t59).length ct59_0) (t59).length ((t59).map (Value.int .i64)), blk bt11_0 (#[Value.int .i64 ((x51).m), Value.int .i64 ((x51).window), Value.int .i64 ((x51).queue), Value.int .i64 ((x51).first), Value.int .i64 ((x51).out), Value.slice a5_57 ((x51).l).length c5_57]) 54, row 27 1 (.slice a5_57 ((x51).l).length c5_57) ((x51).l).length d5_57, tie (El.sl (El.int .u8)) d5_57 ((x51).l), row 5 1 (.slice at26_1 (t26.2.1).length ct26_1) (t26.2.1).length ((t26.2.1).map (Value.int .u8)), row 5 1 (.slice (some ⟨lb23, 0, none⟩) (([IntKind.u8.wrap (x16)] : List Int)).length 1) (([IntKind.u8.wrap (x16)] : List Int)).length ((([IntKind.u8.wrap (x16)] : List Int)).map (Value.int .u8)), R] w0 w := HS
                                    refine W.rd (X.lenSl Try.underlying31 rfl) rfl rfl rfl ?_
                                    refine W.rd (X.move rfl) rfl rfl rfl ?_
                                    refine W.rd (X.move rfl) rfl rfl rfl ?_
                                    refine W.rd (X.sub rfl rfl) rfl rfl rfl ?_
                                    refine W.rd (X.cmp (!(decide (((t59).length : Int) = (w64 (x52 - x43))))) rfl rfl rfl rfl) rfl rfl rfl ?_
                                    refine W.rd (X.move rfl) rfl rfl rfl ?_
                                    by_cases c61 : ((t59).length : Int) = (w64 (x52 - x43))
                                    · replace H := ite_t c61 H
                                      refine W.want 165 rfl (sb (n_t (decide_eq_true c61))) ?_
                                      refine W.rd (X.move rfl) rfl rfl rfl ?_
                                      refine W.want 165 rfl (sb (n_t (decide_eq_true c61))) ?_
                                      obtain ⟨t62, A63, H⟩ := bind_s H
                                      replace HS := HS.re [1, 2, 3, 0, 4, 5, 6] (by kernel_rfl)
                                      have HS : Sep.St [blk bt11_0 (#[Value.int .i64 ((x51).m), Value.int .i64 ((x51).window), Value.int .i64 ((x51).queue), Value.int .i64 ((x51).first), Value.int .i64 ((x51).out), Value.slice a5_57 ((x51).l).length c5_57]) 54, row 27 1 (.slice a5_57 ((x51).l).length c5_57) ((x51).l).length d5_57, tie (El.sl (El.int .u8)) d5_57 ((x51).l), row 3 1 (.slice at59_0 (t59).length ct59_0) (t59).length ((t59).map (Value.int .i64)), row 5 1 (.slice at26_1 (t26.2.1).length ct26_1) (t26.2.1).length ((t26.2.1).map (Value.int .u8)), row 5 1 (.slice (some ⟨lb23, 0, none⟩) (([IntKind.u8.wrap (x16)] : List Int)).length 1) (([IntKind.u8.wrap (x16)] : List Int)).length ((([IntKind.u8.wrap (x16)] : List Int)).map (Value.int .u8)), R] w0 w := HS
                                      refine W.ev (Y.call Try.func12 (by kernel_rfl) rfl (vs := [Value.pointer (some ⟨bt11_0, 0, none⟩)]) rfl (backlog_Log_Len.calls x51 _ w0 _ bt11_0 a5_57 c5_57 d5_57 t62  A63 (Sep.St.tailJoin (m := [blk bt11_0 (#[Value.int .i64 ((x51).m), Value.int .i64 ((x51).window), Value.int .i64 ((x51).queue), Value.int .i64 ((x51).first), Value.int .i64 ((x51).out), Value.slice a5_57 ((x51).l).length c5_57]) 54, row 27 1 (.slice a5_57 ((x51).l).length c5_57) ((x51).l).length d5_57, tie (El.sl (El.int .u8)) d5_57 ((x51).l)]) (r := [row 3 1 (.slice at59_0 (t59).length ct59_0) (t59).length ((t59).map (Value.int .i64)), row 5 1 (.slice at26_1 (t26.2.1).length ct26_1) (t26.2.1).length ((t26.2.1).map (Value.int .u8)), row 5 1 (.slice (some ⟨lb23, 0, none⟩) (([IntKind.u8.wrap (x16)] : List Int)).length 1) (([IntKind.u8.wrap (x16)] : List Int)).length ((([IntKind.u8.wrap (x16)] : List Int)).map (Value.int .u8)), R]) HS))) rfl rfl rfl ?_
                                      rintro _ w ⟨rfl, HS⟩
                                      replace HS := Sep.St.tailOpen (m := [blk bt11_0 (#[Value.int .i64 ((x51).m), Value.int .i64 ((x51).window), Value.int .i64 ((x51).queue), Value.int .i64 ((x51).first), Value.int .i64 ((x51).out), Value.slice a5_57 ((x51).l).length c5_57]) 54, row 27 1 (.slice a5_57 ((x51).l).length c5_57) ((x51).l).length d5_57, tie (El.sl (El.int .u8)) d5_57 ((x51).l)]) (r := [row 3 1 (.slice at59_0 (t59).length ct59_0) (t59).length ((t59).map (Value.int .i64)), row 5 1 (.slice at26_1 (t26.2.1).length ct26_1) (t26.2.1).length ((t26.2.1).map (Value.int .u8)), row 5 1 (.slice (some ⟨lb23, 0, none⟩) (([IntKind.u8.wrap (x16)] : List Int)).length 1) (([IntKind.u8.wrap (x16)] : List Int)).length ((([IntKind.u8.wrap (x16)] : List Int)).map (Value.int .u8)), R]) HS
                                      have HS : Sep.St [blk bt11_0 (#[Value.int .i64 ((x51).m), Value.int .i64 ((x51).window), Value.int .i64 ((x51).queue), Value.int .i64 ((x51).first), Value.int .i64 ((x51).out), Value.slice a5_57 ((x51).l).length c5_57]) 54, row 27 1 (.slice a5_57 ((x51).l).length c5_57) ((x51).l).length d5_57, tie (El.sl (El.int .u8)) d5_57 ((x51).l), row 3 1 (.slice at59_0 (t59).length ct59_0) (t59).length ((t59).map (Value.int .i64)), row 5 1 (.slice at26_1 (t26.2.1).length ct26_1) (t26.2.1).length ((t26.2.1).map (Value.int .u8)), row 5 1 (.slice (some ⟨lb23, 0, none⟩) (([IntKind.u8.wrap (x16)] : List Int)).length 1) (([IntKind.u8.wrap (x16)] : List Int)).length ((([IntKind.u8.wrap (x16)] : List Int)).map (Value.int .u8)), R] w0 w := HS
                                      refine W.want 165 rfl (sb (n_t (decide_eq_true c61))) ?_
                                      refine W.rd (X.move rfl) rfl rfl rfl ?_
                                      refine W.want 165 rfl (sb (n_t (decide_eq_true c61))) ?_
                                      refine W.rd (X.move rfl) rfl rfl rfl ?_
                                      refine W.want 165 rfl (sb (n_t (decide_eq_true c61))) ?_
                                      refine W.rd (X.sub rfl rfl) rfl rfl rfl ?_
                                      refine W.want 165 rfl (sb (n_t (decide_eq_true c61))) ?_
                                      refine W.rd (X.cmp (!(decide (t62 = (w64 (x52 - x43))))) rfl rfl rfl rfl) rfl rfl rfl ?_
                                      refine W.rd (X.pickF (sb (n_t (decide_eq_true c61))) rfl) rfl rfl rfl ?_
                                      refine W.nil ?_
                                      refine At.next ?_
                                      refine V.keep [(0, Value.int .i64 (a0)), (1, Value.int .i64 (a1)), (2, Value.int .i64 (a2)), (3, Value.slice (some ⟨eb41, eo42, none⟩) (a3).length sc3), (10, Value.pointer (some ⟨bt11_0, 0, none⟩)), (11, Value.int .i64 (x43)), (12, Value.int .i64 (x52)), (13, Value.int .i64 (x16)), (80, Value.bool (t26.2.2.1)), (81, Value.int .i64 (x15)), (82, Value.int .i64 (x14)), (83, Value.int .i64 (x35)), (84, Value.int .i64 (a1)), (85, Value.bool (x36)), (86, Value.bool (x37)), (127, Value.int .i64 (t47.1)), (128, Value.int .i64 (x43)), (129, Value.int .i64 (x14)), (130, Value.int .i64 (x53)), (131, Value.bool (x54)), (166, Value.pointer (some ⟨bt11_0, 0, none⟩)), (167, Value.int .i64 (t62)), (168, Value.int .i64 (x52)), (169, Value.int .i64 (x43)), (170, Value.int .i64 (w64 (x52 - x43))), (171, Value.bool (!(decide (t62 = (w64 (x52 - x43)))))), (172, Value.bool (!(decide (t62 = (w64 (x52 - x43))))))] ⟨rfl, rfl, rfl, rfl, rfl, rfl, rfl, rfl, rfl, rfl, rfl, rfl, rfl, rfl, rfl, rfl, rfl, rfl, rfl, rfl, rfl, rfl, rfl, rfl, rfl, rfl, rfl, trivial⟩ ?_
                                      by_cases c64 : t62 = (w64 (x52 - x43))
                                      · replace H := ite_t c64 H
                                        refine V.condF (sb (n_t (decide_eq_true c64))) ?_
                                        refine V.skip ?_
                                        refine At.blockEnd ?_
                                        refine At.next ?_
                                        refine V.keep [(0, Value.int .i64 (a0)), (1, Value.int .i64 (a1)), (2, Value.int .i64 (a2)), (3, Value.slice (some ⟨eb41, eo42, none⟩) (a3).length sc3), (10, Value.pointer (some ⟨bt11_0, 0, none⟩)), (11, Value.int .i64 (x43)), (12, Value.int .i64 (x52)), (13, Value.int .i64 (x16)), (80, Value.bool (t26.2.2.1)), (81, Value.int .i64 (x15)), (82, Value.int .i64 (x14)), (83, Value.int .i64 (x35)), (84, Value.int .i64 (a1)), (85, Value.bool (x36)), (86, Value.bool (x37)), (127, Value.int .i64 (t47.1)), (128, Value.int .i64 (x43)), (129, Value.int .i64 (x14)), (130, Value.int .i64 (x53)), (131, Value.bool (x54)), (166, Value.pointer (some ⟨bt11_0, 0, none⟩)), (167, Value.int .i64 (t62)), (168, Value.int .i64 (x52)), (169, Value.int .i64 (x43)), (170, Value.int .i64 (w64 (x52 - x43))), (171, Value.bool (!(decide (t62 = (w64 (x52 - x43))))))] ⟨rfl, rfl, rfl, rfl, rfl, rfl, rfl, rfl, rfl, rfl, rfl, rfl, rfl, rfl, rfl, rfl, rfl, rfl, rfl, rfl, rfl, rfl, rfl, rfl, rfl, rfl, trivial⟩ ?_
                                        refine V.region ?_
                                        refine W.rd (X.move rfl) rfl rfl rfl ?_
                                        refine W.rd (X.add rfl rfl) rfl rfl rfl ?_
                                        refine W.rd (X.assign rfl) rfl rfl rfl ?_
                                        refine W.nil ?_
                                        replace HS := backlog_Log.close (x51) trivial HS
                                        have HS : Sep.St [backlog_Log.at bt11_0 (x51), row 3 1 (.slice at59_0 (t59).length ct59_0) (t59).length ((t59).map (Value.int .i64)), row 5 1 (.slice at26_1 (t26.2.1).length ct26_1) (t26.2.1).length ((t26.2.1).map (Value.int .u8)), row 5 1 (.slice (some ⟨lb23, 0, none⟩) (([IntKind.u8.wrap (x16)] : List Int)).length 1) (([IntKind.u8.wrap (x16)] : List Int)).length ((([IntKind.u8.wrap (x16)] : List Int)).map (Value.int .u8)), R] w0 w := HS
                                        replace HS := HS.sel [0, 4] [1, 2, 3] (by kernel_rfl)
                                        exact At.round kf38 (by omega) (x43, x52, w64 (x16 + 1), x51) ⟨rfl, rfl, rfl, rfl, rfl, rfl, rfl, rfl, trivial⟩ ⟨HS, H, by omega⟩
                                      · replace H := ite_f c64 H
                                        refine V.condT (sb (n_f (decide_eq_false c64))) ?_
                                        refine V.seq ?_
                                        refine V.region ?_
                                        refine W.rd (X.assign rfl) rfl rfl rfl ?_
                                        refine W.nil ?_
                                        refine At.next ?_
                                        refine V.keep [(8, Value.bool (false))] ⟨rfl, trivial⟩ ?_
                                        refine V.ret ?_
                                        refine At.blockRet ?_
                                        refine At.thenRet ?_
                                        refine At.thenRet ?_
                                        refine At.blockRet ?_
                                        refine At.thenRet ?_
                                        replace HS := HS.sel [6] [0, 1, 2, 3, 4, 5] (by kernel_rfl)
                                        cases H
                                        exact At.ret1 rfl rfl ⟨_, rfl, rfl, HS⟩
                                    · replace H := ite_f c61 H
                                      refine W.pass 165 rfl (sb (n_f (decide_eq_false c61))) rfl rfl ?_
                                      refine W.pass 165 rfl (sb (n_f (decide_eq_false c61))) rfl rfl ?_
                                      refine W.pass 165 rfl (sb (n_f (decide_eq_false c61))) rfl rfl ?_
                                      refine W.pass 165 rfl (sb (n_f (decide_eq_false c61))) rfl rfl ?_
                                      refine W.pass 165 rfl (sb (n_f (decide_eq_false c61))) rfl rfl ?_
                                      refine W.pass 165 rfl (sb (n_f (decide_eq_false c61))) rfl rfl ?_
                                      refine W.rd (X.pickT (sb (n_f (decide_eq_false c61))) rfl) rfl rfl rfl ?_
                                      refine W.nil ?_
                                      refine At.next ?_
                                      refine V.keep [(0, Value.int .i64 (a0)), (1, Value.int .i64 (a1)), (2, Value.int .i64 (a2)), (3, Value.slice (some ⟨eb41, eo42, none⟩) (a3).length sc3), (10, Value.pointer (some ⟨bt11_0, 0, none⟩)), (11, Value.int .i64 (x43)), (12, Value.int .i64 (x52)), (13, Value.int .i64 (x16)), (80, Value.bool (t26.2.2.1)), (81, Value.int .i64 (x15)), (82, Value.int .i64 (x14)), (83, Value.int .i64 (x35)), (84, Value.int .i64 (a1)), (85, Value.bool (x36)), (86, Value.bool (x37)), (127, Value.int .i64 (t47.1)), (128, Value.int .i64 (x43)), (129, Value.int .i64 (x14)), (130, Value.int .i64 (x53)), (131, Value.bool (x54)), (166, undef), (167, undef), (168, undef), (169, undef), (170, undef), (171, undef), (172, Value.bool (true))] ⟨rfl, rfl, rfl, rfl, rfl, rfl, rfl, rfl, rfl, rfl, rfl, rfl, rfl, rfl, rfl, rfl, rfl, rfl, rfl, rfl, rfl, rfl, rfl, rfl, rfl, rfl, rfl, trivial⟩ ?_
                                      refine V.condT rfl ?_
                                      refine V.seq ?_
                                      refine V.region ?_
                                      refine W.rd (X.assign rfl) rfl rfl rfl ?_
                                      refine W.nil ?_
                                      refine At.next ?_
                                      refine V.keep [(8, Value.bool (false))] ⟨rfl, trivial⟩ ?_
                                      refine V.ret ?_
                                      refine At.blockRet ?_
                                      refine At.thenRet ?_
                                      refine At.thenRet ?_
                                      refine At.blockRet ?_
                                      refine At.thenRet ?_
                                      replace HS := HS.sel [6] [0, 1, 2, 3, 4, 5] (by kernel_rfl)
                                      cases H
                                      exact At.ret1 rfl rfl ⟨_, rfl, rfl, HS⟩
                                · replace H := ite_f c50 H
                                  refine V.condT (sb (n_f (decide_eq_false c50))) ?_
                                  refine V.seq ?_
                                  refine V.region ?_
                                  refine W.rd (X.assign rfl) rfl rfl rfl ?_
                                  refine W.nil ?_
                                  refine At.next ?_
                                  refine V.keep [(8, Value.bool (false))] ⟨rfl, trivial⟩ ?_
                                  refine V.ret ?_
                                  refine At.thenRet ?_
                                  refine At.blockRet ?_
                                  refine At.thenRet ?_
                                  refine At.thenRet ?_
                                  refine At.blockRet ?_
                                  refine At.thenRet ?_
                                  replace HS := HS.sel [3] [0, 1, 2] (by kernel_rfl)
                                  cases H
                                  exact At.ret1 rfl rfl ⟨_, rfl, rfl, HS⟩
                              · replace H := ite_f c49 H
                                refine W.pass 126 rfl (sb (n_f (b_f c49))) rfl rfl ?_
                                refine W.pass 126 rfl (sb (n_f (b_f c49))) rfl rfl ?_
                                refine W.pass 126 rfl (sb (n_f (b_f c49))) rfl rfl ?_
                                refine W.pass 126 rfl (sb (n_f (b_f c49))) rfl rfl ?_
                                refine W.pass 126 rfl (sb (n_f (b_f c49))) rfl rfl ?_
                                refine W.rd (X.pickT (sb (n_f (b_f c49))) rfl) rfl rfl rfl ?_
                                refine W.nil ?_
                                refine At.next ?_
                                refine V.keep [(0, Value.int .i64 (a0)), (1, Value.int .i64 (a1)), (2, Value.int .i64 (a2)), (3, Value.slice (some ⟨eb41, eo42, none⟩) (a3).length sc3), (10, Value.pointer (some ⟨bt11_0, 0, none⟩)), (12, Value.int .i64 (x34)), (13, Value.int .i64 (x16)), (17, Value.bool (t26.2.2.1)), (18, Value.int .i64 (x43)), (80, Value.bool (t26.2.2.1)), (81, Value.int .i64 (x15)), (82, Value.int .i64 (x14)), (83, Value.int .i64 (x35)), (84, Value.int .i64 (a1)), (85, Value.bool (x36)), (86, Value.bool (x37)), (127, undef), (128, undef), (129, undef), (130, undef), (131, undef), (132, Value.bool (true))] ⟨rfl, rfl, rfl, rfl, rfl, rfl, rfl, rfl, rfl, rfl, rfl, rfl, rfl, rfl, rfl, rfl, rfl, rfl, rfl, rfl, rfl, rfl, trivial⟩ ?_
                                refine V.condT rfl ?_
                                refine V.seq ?_
                                refine V.region ?_
                                refine W.rd (X.assign rfl) rfl rfl rfl ?_
                                refine W.nil ?_
                                refine At.next ?_
                                refine V.keep [(8, Value.bool (false))] ⟨rfl, trivial⟩ ?_
                                refine V.ret ?_
                                refine At.thenRet ?_
                                refine At.blockRet ?_
                                refine At.thenRet ?_
                                refine At.thenRet ?_
                                refine At.blockRet ?_
                                refine At.thenRet ?_
                                replace HS := HS.sel [3] [0, 1, 2] (by kernel_rfl)
                                cases H
                                exact At.ret1 rfl rfl ⟨_, rfl, rfl, HS⟩
                      · replace H := ite_f c32 H
                        refine W.pass 79 rfl (sb (n_f (decide_eq_false c32))) rfl rfl ?_
                        refine W.pass 79 rfl (sb (n_f (decide_eq_false c32))) rfl rfl ?_
                        refine W.pass 79 rfl (sb (n_f (decide_eq_false c32))) rfl rfl ?_
                        refine W.pass 79 rfl (sb (n_f (decide_eq_false c32))) rfl rfl ?_
                        refine W.pass 79 rfl (sb (n_f (decide_eq_false c32))) rfl rfl ?_
                        refine W.pass 79 rfl (sb (n_f (decide_eq_false c32))) rfl rfl ?_
                        refine W.pass 79 rfl (sb (n_f (decide_eq_false c32))) rfl rfl ?_
                        refine W.rd (X.pickT (sb (n_f (decide_eq_false c32))) rfl) rfl rfl rfl ?_
                        refine W.nil ?_
                        refine At.next ?_
                        refine V.keep [(0, Value.int .i64 (a0)), (1, Value.int .i64 (a1)), (2, Value.int .i64 (a2)), (3, Value.slice sa3 (a3).length sc3), (10, Value.pointer (some ⟨bt11_0, 0, none⟩)), (11, Value.int .i64 (x14)), (12, Value.int .i64 (x15)), (13, Value.int .i64 (x16)), (15, Value.int .i64 (t26.1)), (16, Value.slice at26_1 (t26.2.1).length ct26_1), (17, Value.bool (t26.2.2.1)), (80, undef), (81, undef), (82, undef), (83, undef), (84, undef), (85, undef), (86, undef), (87, Value.bool (true))] ⟨rfl, rfl, rfl, rfl, rfl, rfl, rfl, rfl, rfl, rfl, rfl, rfl, rfl, rfl, rfl, rfl, rfl, rfl, rfl, trivial⟩ ?_
                        refine V.condT rfl ?_
                        refine V.seq ?_
                        refine V.region ?_
                        refine W.rd (X.assign rfl) rfl rfl rfl ?_
                        refine W.nil ?_
                        refine At.next ?_
                        refine V.keep [(8, Value.bool (false))] ⟨rfl, trivial⟩ ?_
                        refine V.ret ?_
                        refine At.thenRet ?_
                        refine At.blockRet ?_
                        refine At.thenRet ?_
                        refine At.thenRet ?_
                        refine At.blockRet ?_
                        refine At.thenRet ?_
                        replace HS := HS.sel [3] [0, 1, 2] (by kernel_rfl)
                        cases H
                        exact At.ret1 rfl rfl ⟨_, rfl, rfl, HS⟩
                    · replace H := ite_f c20 H
                      refine V.condF (sb (decide_eq_false c20)) ?_
                      refine V.exit ?_
                      refine At.thenExit ?_
                      refine At.thenExit ?_
                      refine At.blockExit ?_
                      refine At.next ?_
                      refine V.keep [] trivial ?_
                      refine V.seq ?_
                      refine V.region ?_
                      refine W.rd (X.assign rfl) rfl rfl rfl ?_
                      refine W.nil ?_
                      refine At.next ?_
                      refine V.keep [(8, Value.bool (true))] ⟨rfl, trivial⟩ ?_
                      refine V.ret ?_
                      replace HS := HS.sel [1] [0] (by kernel_rfl)
                      cases H
                      exact At.ret1 rfl rfl ⟨_, rfl, rfl, HS⟩
  · replace H := ite_f c3 H
    refine W.pass 24 rfl (sb (n_f (b_f c3))) rfl rfl ?_
    refine W.pass 24 rfl (sb (n_f (b_f c3))) rfl rfl ?_
    refine W.rd (X.pickT (sb (n_f (b_f c3))) rfl) rfl rfl rfl ?_
    refine W.rd (X.move rfl) rfl rfl rfl ?_
    refine W.pass 28 rfl rfl rfl rfl ?_
    refine W.pass 28 rfl rfl rfl rfl ?_
    refine W.rd (X.pickT rfl rfl) rfl rfl rfl ?_
    refine W.rd (X.move rfl) rfl rfl rfl ?_
    refine W.pass 32 rfl rfl rfl rfl ?_
    refine W.pass 32 rfl rfl rfl rfl ?_
    refine W.rd (X.pickT rfl rfl) rfl rfl rfl ?_
    refine W.rd (X.move rfl) rfl rfl rfl ?_
    refine W.pass 36 rfl rfl rfl rfl ?_
    refine W.pass 36 rfl rfl rfl rfl ?_
    refine W.pass 36 rfl rfl rfl rfl ?_
    refine W.pass 36 rfl rfl rfl rfl ?_
    refine W.rd (X.pickT rfl rfl) rfl rfl rfl ?_
    refine W.rd (X.move rfl) rfl rfl rfl ?_
    refine W.pass 42 rfl rfl rfl rfl ?_
    refine W.pass 42 rfl rfl rfl rfl ?_
    refine W.rd (X.pickT rfl rfl) rfl rfl rfl ?_
    refine W.rd (X.move rfl) rfl rfl rfl ?_
    refine W.pass 46 rfl rfl rfl rfl ?_
    refine W.pass 46 rfl rfl rfl rfl ?_
    refine W.rd (X.pickT rfl rfl) rfl rfl rfl ?_
    refine W.rd (X.move rfl) rfl rfl rfl ?_
    refine W.pass 50 rfl rfl rfl rfl ?_
    refine W.pass 50 rfl rfl rfl rfl ?_
    refine W.pass 50 rfl rfl rfl rfl ?_
    refine W.pass 50 rfl rfl rfl rfl ?_
    refine W.rd (X.pickT rfl rfl) rfl rfl rfl ?_
    refine W.nil ?_
    refine At.next ?_
    refine V.keep [(0, Value.int .i64 (a0)), (1, Value.int .i64 (a1)), (2, Value.int .i64 (a2)), (3, Value.slice sa3 (a3).length sc3), (9, Value.bool (t1)), (55, Value.bool (true))] ⟨rfl, rfl, rfl, rfl, rfl, rfl, trivial⟩ ?_
    refine V.condT rfl ?_
    refine V.seq ?_
    refine V.region ?_
    refine W.rd (X.move rfl) rfl rfl rfl ?_
    refine W.rd (X.assign rfl) rfl rfl rfl ?_
    refine W.nil ?_
    refine At.next ?_
    refine V.keep [(8, Value.bool (t1))] ⟨rfl, trivial⟩ ?_
    refine V.ret ?_
    refine At.thenRet ?_
    cases H
    exact At.ret1 rfl rfl ⟨_, rfl, rfl, HS⟩

def signalmanlaw13_BacklogRounds.Pure : Prop := ∀ (a0 : Int) (a1 : Int) (a2 : Int) (a3 : List Int), (Lit.int .i64 a0).wf = true → (Lit.int .i64 a1).wf = true → (Lit.int .i64 a2).wf = true → (∀ z ∈ a3, (Lit.int .i64 z).wf = true) → (a3.length : Int) ≤ 9223372036854775807 → ∃ k, signalmanlaw13_BacklogRounds.f k a0 a1 a2 a3 = some true
end Go.Proofs.Ytdnfojgnbhcijaa

/- ClockPlays: the functions that its law reaches, as plain functions, and that the machine's calls come to what these say. Conditions: those that stand at each. -/
import Derived.Test.YtmknlnpjimfliaaRunClockPlaysP1
set_option linter.all false
namespace Go.Proofs.Ytmknlnpjimfliaa
open Go.RowKit Go.Proofs.Ytmknlnpjimfliaa.Sep Go.Proofs.Ytmknlnpjimfliaa.Walk
/-! ### signalman/signalmanlaw7.ClockPlays: function 5 -/
mutual
def signalmanlaw7_ClockPlays.l0 : Nat → (List signalmanlaw7_Act) → Int → signalmanref6_Clock → clock_Set → clock_Set → Option (Bool)
  | 0, _, _, _, _, _ => none
  | k + 1, a1, x15, x16, x17, x18 => (if x15 < ((a1).length : Int) then (if 0 ≤ x15 ∧ x15 < ((a1).length : Int) then ((clock_Set_Start.f x17 (iand .i64 (x15) (31)) 3).bind fun t29 => (if (((a1).getD (x15).toNat default).Way) = 0 then ((clock_Set_Start.f x18 (((a1).getD (x15).toNat default).Id) (((a1).getD (x15).toNat default).N)).bind fun t32 => ((signalmanref6_Clock_Start.f x16 (((a1).getD (x15).toNat default).Id) (((a1).getD (x15).toNat default).N)).bind fun t34 => (if ((t32.1) != (t34.1)) = true then some (false) else ((clock_Set_Left.f t32.2 (((a1).getD (x15).toNat default).Id)).bind fun t37 => ((signalmanref6_Clock_Left.f t34.2 (((a1).getD (x15).toNat default).Id)).bind fun t39 => (if t37.1 = t39.1 then (if ((t37.2) != (t39.2)) = true then some (false) else ((clock_Set_Now.f t32.2).bind fun t43 => ((signalmanref6_Clock_Now.f t34.2).bind fun t45 => (if t43 = t45 then (signalmanlaw7_ClockPlays.l0 k a1 (w64 (x15 + 1)) t34.2 t29.2 t32.2) else some (false))))) else some (false))))))) else (if (((a1).getD (x15).toNat default).Way) = 1 then ((clock_Set_Stop.f x18 (((a1).getD (x15).toNat default).Id)).bind fun t49 => ((signalmanref6_Clock_Stop.f x16 (((a1).getD (x15).toNat default).Id)).bind fun t51 => (if ((t49.1) != (t51.1)) = true then some (false) else ((clock_Set_Left.f t49.2 (((a1).getD (x15).toNat default).Id)).bind fun t54 => ((signalmanref6_Clock_Left.f t51.2 (((a1).getD (x15).toNat default).Id)).bind fun t56 => (if t54.1 = t56.1 then (if ((t54.2) != (t56.2)) = true then some (false) else ((clock_Set_Now.f t49.2).bind fun t60 => ((signalmanref6_Clock_Now.f t51.2).bind fun t62 => (if t60 = t62 then (signalmanlaw7_ClockPlays.l0 k a1 (w64 (x15 + 1)) t51.2 t29.2 t49.2) else some (false))))) else some (false))))))) else (if (((a1).getD (x15).toNat default).Way) = 2 then ((clock_Set_Pass.f k x18 (((a1).getD (x15).toNat default).N)).bind fun t66 => ((signalmanref6_Clock_Pass.f k x16 (((a1).getD (x15).toNat default).N)).bind fun t68 => ((signalmanref6_SameInts.f k t66.1 t68.1).bind fun t70 => (if t70 = true then ((clock_Set_Left.f t66.2 (((a1).getD (x15).toNat default).Id)).bind fun t73 => ((signalmanref6_Clock_Left.f t68.2 (((a1).getD (x15).toNat default).Id)).bind fun t75 => (if t73.1 = t75.1 then (if ((t73.2) != (t75.2)) = true then some (false) else ((clock_Set_Now.f t66.2).bind fun t79 => ((signalmanref6_Clock_Now.f t68.2).bind fun t81 => (if t79 = t81 then (signalmanlaw7_ClockPlays.l0 k a1 (w64 (x15 + 1)) t68.2 t29.2 t66.2) else some (false))))) else some (false)))) else some (false))))) else ((clock_Set_Left.f x18 (((a1).getD (x15).toNat default).Id)).bind fun t84 => ((signalmanref6_Clock_Left.f x16 (((a1).getD (x15).toNat default).Id)).bind fun t86 => (if t84.1 = t86.1 then (if ((t84.2) != (t86.2)) = true then some (false) else ((clock_Set_Now.f x18).bind fun t90 => ((signalmanref6_Clock_Now.f x16).bind fun t92 => (if t90 = t92 then (signalmanlaw7_ClockPlays.l0 k a1 (w64 (x15 + 1)) x16 t29.2 x18) else some (false))))) else some (false)))))))) else none) else some (true))
end
def signalmanlaw7_ClockPlays.f (k : Nat) (a0 : Int) (a1 : List signalmanlaw7_Act) : Option (Bool) := ((signalmanlaw7_alive.f k ).bind fun t1 => (if t1 = true then (if ((a1).length : Int) > 100 then some (t1) else ((clock_New.f a0).bind fun t5 => ((clock_New.f 7).bind fun t7 => ((signalmanref6_NewClock.f a0).bind fun t9 => (signalmanlaw7_ClockPlays.l0 k a1 0 t9 t7 t5))))) else some (t1)))
set_option maxRecDepth 100000 in
set_option maxHeartbeats 4000000 in
theorem signalmanlaw7_ClockPlays.calls (k : Nat) (a0 : Int) (a1 : List signalmanlaw7_Act) (R : As) (w0 w : World) (sa1 : Option Addr) (sc1 : Nat) (sd1 : List Value) (r : Bool) (hr1 : rdC R 3 (.slice sa1 (a1).length sc1) (a1).length sd1) (ht1 : ∀ h, R h → tie signalmanlaw7_Act.El sd1 a1 h) (H : signalmanlaw7_ClockPlays.f k a0 a1 = some r) (HS : Sep.St [R] w0 w) : Calls Try.prog 5 #[Value.int .u32 (a0), Value.slice sa1 (a1).length sc1] w (Ret fun u w => u = Value.bool (r) ∧ Sep.St [R] w0 w) := by
  unfold signalmanlaw7_ClockPlays.f at H
  refine calls_enter Try.func5 rfl rfl ?_
  have H : _ = some r := H
  replace HS := St.more 0 HS rfl ht1 tie.pers
  have HS : Sep.St [tie signalmanlaw7_Act.El sd1 (a1), R] w0 w := HS
  refine V.seq ?_
  refine V.region ?_
  refine W.rd (X.assign rfl) rfl rfl rfl ?_
  refine W.nil ?_
  refine At.next ?_
  refine V.keep [(0, Value.int .u32 (a0)), (1, Value.slice sa1 (a1).length sc1)] ⟨rfl, rfl, trivial⟩ ?_
  refine V.seq ?_
  refine V.region ?_
  obtain ⟨t1, A2, H⟩ := bind_s H
  refine W.ev (Y.call Try.func7 (by kernel_rfl) rfl (vs := []) rfl (signalmanlaw7_alive.calls k  _ w0 _  t1  A2 (Sep.St.tailJoin (m := []) (r := [tie signalmanlaw7_Act.El sd1 (a1), R]) HS))) rfl rfl rfl ?_
  rintro _ w ⟨rfl, HS⟩
  replace HS := Sep.St.tailOpen (m := []) (r := [tie signalmanlaw7_Act.El sd1 (a1), R]) HS
  have HS : Sep.St [tie signalmanlaw7_Act.El sd1 (a1), R] w0 w := HS
  refine W.rd (X.assign rfl) rfl rfl rfl ?_
  refine W.nil ?_
  refine At.next ?_
  refine V.keep [(0, Value.int .u32 (a0)), (1, Value.slice sa1 (a1).length sc1), (5, Value.bool (t1))] ⟨rfl, rfl, rfl, trivial⟩ ?_
  refine V.seq ?_
  refine V.seq ?_
  refine V.region ?_
  refine W.rd (X.move rfl) rfl rfl rfl ?_
  refine W.rd (X.not rfl) rfl rfl rfl ?_
  refine W.rd (X.move rfl) rfl rfl rfl ?_
  by_cases c3 : t1 = true
  · replace H := ite_t c3 H
    refine W.want 18 rfl (sb (n_t c3)) ?_
    refine W.rd (X.move rfl) rfl rfl rfl ?_
    refine W.want 18 rfl (sb (n_t c3)) ?_
    refine W.rd (X.lenSl Try.underlying35 rfl) rfl rfl rfl ?_
    refine W.want 18 rfl (sb (n_t c3)) ?_
    refine W.rd (X.cmp (decide (((a1).length : Int) > 100)) rfl rfl rfl rfl) rfl rfl rfl ?_
    refine W.rd (X.pickF (sb (n_t c3)) rfl) rfl rfl rfl ?_
    refine W.nil ?_
    refine At.next ?_
    refine V.keep [(0, Value.int .u32 (a0)), (1, Value.slice sa1 (a1).length sc1), (5, Value.bool (t1)), (22, Value.bool (decide (((a1).length : Int) > 100)))] ⟨rfl, rfl, rfl, rfl, trivial⟩ ?_
    by_cases c4 : ((a1).length : Int) > 100
    · replace H := ite_t c4 H
      refine V.condT (sb (decide_eq_true c4)) ?_
      refine V.seq ?_
      refine V.region ?_
      refine W.rd (X.move rfl) rfl rfl rfl ?_
      refine W.rd (X.assign rfl) rfl rfl rfl ?_
      refine W.nil ?_
      refine At.next ?_
      refine V.keep [(4, Value.bool (t1))] ⟨rfl, trivial⟩ ?_
      refine V.ret ?_
      refine At.thenRet ?_
      replace HS := HS.sel [1] [0] rfl
      cases H
      exact At.ret1 rfl rfl ⟨_, rfl, rfl, HS⟩
    · replace H := ite_f c4 H
      refine V.condF (sb (decide_eq_false c4)) ?_
      refine V.skip ?_
      refine At.next ?_
      refine V.keep [(0, Value.int .u32 (a0)), (1, Value.slice sa1 (a1).length sc1)] ⟨rfl, rfl, trivial⟩ ?_
      refine V.seq ?_
      refine V.region ?_
      refine W.rd (X.move rfl) rfl rfl rfl ?_
      obtain ⟨t5, A6, H⟩ := bind_s H
      refine W.ev (Y.call Try.func8 (by kernel_rfl) rfl (vs := [Value.int .u32 (a0)]) rfl (clock_New.calls a0 _ w0 _  t5  A6 (Sep.St.tailJoin (m := []) (r := [tie signalmanlaw7_Act.El sd1 (a1), R]) HS))) rfl rfl rfl ?_
      rintro _ w ⟨bt5_0, rfl, HS⟩
      replace HS := Sep.St.tailOpen (m := [clock_Set.at bt5_0 (t5)]) (r := [tie signalmanlaw7_Act.El sd1 (a1), R]) HS
      have HS : Sep.St [clock_Set.at bt5_0 (t5), tie signalmanlaw7_Act.El sd1 (a1), R] w0 w := HS
      refine W.rd (X.assign rfl) rfl rfl rfl ?_
      refine W.nil ?_
      refine At.next ?_
      refine V.keep [(0, Value.int .u32 (a0)), (1, Value.slice sa1 (a1).length sc1), (6, Value.pointer (some ⟨bt5_0, 0, none⟩))] ⟨rfl, rfl, rfl, trivial⟩ ?_
      refine V.seq ?_
      refine V.region ?_
      obtain ⟨t7, A8, H⟩ := bind_s H
      refine W.ev (Y.call Try.func8 (by kernel_rfl) rfl (vs := [Value.int .u32 (7)]) rfl (clock_New.calls 7 _ w0 _  t7  A8 (Sep.St.tailJoin (m := []) (r := [clock_Set.at bt5_0 (t5), tie signalmanlaw7_Act.El sd1 (a1), R]) HS))) rfl rfl rfl ?_
      rintro _ w ⟨bt7_0, rfl, HS⟩
      replace HS := Sep.St.tailOpen (m := [clock_Set.at bt7_0 (t7)]) (r := [clock_Set.at bt5_0 (t5), tie signalmanlaw7_Act.El sd1 (a1), R]) HS
      have HS : Sep.St [clock_Set.at bt7_0 (t7), clock_Set.at bt5_0 (t5), tie signalmanlaw7_Act.El sd1 (a1), R] w0 w := HS
      refine W.rd (X.assign rfl) rfl rfl rfl ?_
      refine W.nil ?_
      refine At.next ?_
      refine V.keep [(0, Value.int .u32 (a0)), (1, Value.slice sa1 (a1).length sc1), (6, Value.pointer (some ⟨bt5_0, 0, none⟩)), (7, Value.pointer (some ⟨bt7_0, 0, none⟩))] ⟨rfl, rfl, rfl, rfl, trivial⟩ ?_
      refine V.seq ?_
      refine V.region ?_
      refine W.rd (X.move rfl) rfl rfl rfl ?_
      obtain ⟨t9, A10, H⟩ := bind_s H
      refine W.ev (Y.call Try.func14 (by kernel_rfl) rfl (vs := [Value.int .u32 (a0)]) rfl (signalmanref6_NewClock.calls a0 _ w0 _  t9  A10 (Sep.St.tailJoin (m := []) (r := [clock_Set.at bt7_0 (t7), clock_Set.at bt5_0 (t5), tie signalmanlaw7_Act.El sd1 (a1), R]) HS))) rfl rfl rfl ?_
      rintro _ w ⟨bt9_0, rfl, HS⟩
      replace HS := Sep.St.tailOpen (m := [signalmanref6_Clock.at bt9_0 (t9)]) (r := [clock_Set.at bt7_0 (t7), clock_Set.at bt5_0 (t5), tie signalmanlaw7_Act.El sd1 (a1), R]) HS
      have HS : Sep.St [signalmanref6_Clock.at bt9_0 (t9), clock_Set.at bt7_0 (t7), clock_Set.at bt5_0 (t5), tie signalmanlaw7_Act.El sd1 (a1), R] w0 w := HS
      refine W.rd (X.assign rfl) rfl rfl rfl ?_
      refine W.nil ?_
      refine At.next ?_
      refine V.keep [(1, Value.slice sa1 (a1).length sc1), (6, Value.pointer (some ⟨bt5_0, 0, none⟩)), (7, Value.pointer (some ⟨bt7_0, 0, none⟩)), (8, Value.pointer (some ⟨bt9_0, 0, none⟩))] ⟨rfl, rfl, rfl, rfl, trivial⟩ ?_
      refine V.seq ?_
      refine V.seq ?_
      refine V.region ?_
      refine W.rd (X.assign rfl) rfl rfl rfl ?_
      refine W.nil ?_
      refine At.next ?_
      refine V.keep [(1, Value.slice sa1 (a1).length sc1), (6, Value.pointer (some ⟨bt5_0, 0, none⟩)), (7, Value.pointer (some ⟨bt7_0, 0, none⟩)), (8, Value.pointer (some ⟨bt9_0, 0, none⟩)), (9, Value.int .i64 (0))] ⟨rfl, rfl, rfl, rfl, rfl, trivial⟩ ?_
      refine V.block ?_
      refine V.loop (σ := Int × signalmanref6_Clock × clock_Set × clock_Set) (fun kq (st : Int × signalmanref6_Clock × clock_Set × clock_Set) w => match st with | (x15, x16, x17, x18) => Sep.St [signalmanref6_Clock.at bt9_0 (x16), clock_Set.at bt7_0 (x17), clock_Set.at bt5_0 (x18), tie signalmanlaw7_Act.El sd1 (a1), R] w0 w ∧ signalmanlaw7_ClockPlays.l0 kq a1 x15 x16 x17 x18 = some r ∧ kq ≤ k) (fun st => match st with | (x15, x16, x17, x18) => [(1, Value.slice sa1 (a1).length sc1), (6, Value.pointer (some ⟨bt5_0, 0, none⟩)), (7, Value.pointer (some ⟨bt7_0, 0, none⟩)), (8, Value.pointer (some ⟨bt9_0, 0, none⟩)), (9, Value.int .i64 (x15))]) k (0, t9, t7, t5) ⟨rfl, rfl, rfl, rfl, rfl, trivial⟩ ⟨HS, H, Nat.le_refl _⟩ ?_
      rintro kq19 ⟨x15, x16, x17, x18⟩ w ⟨HS, H, hk20⟩
      cases kq19 with
      | zero => exact absurd H (by simp [signalmanlaw7_ClockPlays.l0])
      | succ kq19 =>
        simp only [signalmanlaw7_ClockPlays.l0] at H
        have HS : Sep.St [signalmanref6_Clock.at bt9_0 (x16), clock_Set.at bt7_0 (x17), clock_Set.at bt5_0 (x18), tie signalmanlaw7_Act.El sd1 (a1), R] w0 w := HS
        refine V.seq ?_
        refine V.seq ?_
        refine V.region ?_
        refine W.rd (X.move rfl) rfl rfl rfl ?_
        refine W.rd (X.move rfl) rfl rfl rfl ?_
        refine W.rd (X.lenSl Try.underlying35 rfl) rfl rfl rfl ?_
        refine W.rd (X.cmp (decide (x15 < ((a1).length : Int))) rfl rfl rfl rfl) rfl rfl rfl ?_
        refine W.nil ?_
        refine At.next ?_
        refine V.keep [(1, Value.slice sa1 (a1).length sc1), (6, Value.pointer (some ⟨bt5_0, 0, none⟩)), (7, Value.pointer (some ⟨bt7_0, 0, none⟩)), (8, Value.pointer (some ⟨bt9_0, 0, none⟩)), (9, Value.int .i64 (x15)), (32, Value.bool (decide (x15 < ((a1).length : Int))))] ⟨rfl, rfl, rfl, rfl, rfl, rfl, trivial⟩ ?_
        by_cases c21 : x15 < ((a1).length : Int)
        · replace H := ite_t c21 H
          refine V.condT (sb (decide_eq_true c21)) ?_
          refine V.skip ?_
          refine At.next ?_
          refine V.keep [(1, Value.slice sa1 (a1).length sc1), (6, Value.pointer (some ⟨bt5_0, 0, none⟩)), (7, Value.pointer (some ⟨bt7_0, 0, none⟩)), (8, Value.pointer (some ⟨bt9_0, 0, none⟩)), (9, Value.int .i64 (x15))] ⟨rfl, rfl, rfl, rfl, rfl, trivial⟩ ?_
          refine V.seq ?_
          refine V.block ?_
          refine V.seq ?_
          refine V.region ?_
          refine W.rd (X.move rfl) rfl rfl rfl ?_
          refine W.rd (X.move rfl) rfl rfl rfl ?_
          obtain ⟨c22, H⟩ := ite_n H
          obtain ⟨eb23, eo24, hh⟩ := ((rdC.at 4 hr1 HS rfl)).some (by decide) c22.1 c22.2; subst hh
          refine W.rd (X.indexSl Try.underlying35 inf39 rfl rfl c22.1 c22.2) rfl rfl rfl ?_
          obtain ⟨ec25, hc26, HS⟩ := St.tie_at 3 HS rfl (default) c22.1 c22.2
          obtain ⟨he27, HN⟩ := signalmanlaw7_Act.unpack HS; clear HS; subst he27; have HS := HN
          have HS : Sep.St [signalmanref6_Clock.at bt9_0 (x16), clock_Set.at bt7_0 (x17), clock_Set.at bt5_0 (x18), tie signalmanlaw7_Act.El sd1 (a1), R] w0 w := HS
          refine W.rd (X.loadEl Try.underlying39 rfl inf39 rfl (vs := [Value.int .i64 (((a1).getD (x15).toNat default).Way), Value.int .i64 (((a1).getD (x15).toNat default).Id), Value.int .i64 (((a1).getD (x15).toNat default).N)]) (((rdC.at 4 hr1 HS rfl)).cellsAt0 (fun j u h => hc26 j u h))) rfl rfl rfl ?_
          refine W.ev (Y.alloc (z := Value.agg (#[Value.int .i64 (0), Value.int .i64 (0), Value.int .i64 (0)])) HS ze39) rfl rfl rfl ?_
          rintro _ w ⟨nb28, rfl, HS⟩
          have HS : Sep.St [blk nb28 (#[Value.int .i64 (0), Value.int .i64 (0), Value.int .i64 (0)]) 39, signalmanref6_Clock.at bt9_0 (x16), clock_Set.at bt7_0 (x17), clock_Set.at bt5_0 (x18), tie signalmanlaw7_Act.El sd1 (a1), R] w0 w := HS
          refine W.ev_none (Y.storeSt (c' := #[Value.int .i64 (((a1).getD (x15).toNat default).Way), Value.int .i64 (((a1).getD (x15).toNat default).Id), Value.int .i64 (((a1).getD (x15).toNat default).N)]) 0 [Value.int .i64 (((a1).getD (x15).toNat default).Way), Value.int .i64 (((a1).getD (x15).toNat default).Id), Value.int .i64 (((a1).getD (x15).toNat default).N)] HS rfl inf39 rfl rfl rfl rfl rfl rfl) rfl rfl ?_
          rintro _ w HS
          have HS : Sep.St [blk nb28 (#[Value.int .i64 (((a1).getD (x15).toNat default).Way), Value.int .i64 (((a1).getD (x15).toNat default).Id), Value.int .i64 (((a1).getD (x15).toNat default).N)]) 39, signalmanref6_Clock.at bt9_0 (x16), clock_Set.at bt7_0 (x17), clock_Set.at bt5_0 (x18), tie signalmanlaw7_Act.El sd1 (a1), R] w0 w := HS
          refine W.nil ?_
          refine At.next ?_
          refine V.keep [(1, Value.slice (some ⟨eb23, eo24, none⟩) (a1).length sc1), (6, Value.pointer (some ⟨bt5_0, 0, none⟩)), (7, Value.pointer (some ⟨bt7_0, 0, none⟩)), (8, Value.pointer (some ⟨bt9_0, 0, none⟩)), (9, Value.int .i64 (x15)), (10, Value.pointer (some ⟨nb28, 0, none⟩))] ⟨rfl, rfl, rfl, rfl, rfl, rfl, trivial⟩ ?_
          refine V.seq ?_
          refine V.region ?_
          refine W.rd (X.move rfl) rfl rfl rfl ?_
          refine W.rd (X.move rfl) rfl rfl rfl ?_
          refine W.rd (X.and rfl rfl) rfl rfl rfl ?_
          obtain ⟨t29, A30, H⟩ := bind_s H
          replace HS := HS.re [2, 0, 1, 3, 4, 5] rfl
          have HS : Sep.St [clock_Set.at bt7_0 (x17), blk nb28 (#[Value.int .i64 (((a1).getD (x15).toNat default).Way), Value.int .i64 (((a1).getD (x15).toNat default).Id), Value.int .i64 (((a1).getD (x15).toNat default).N)]) 39, signalmanref6_Clock.at bt9_0 (x16), clock_Set.at bt5_0 (x18), tie signalmanlaw7_Act.El sd1 (a1), R] w0 w := HS
          refine W.ev (Y.call Try.func9 (by kernel_rfl) rfl (vs := [Value.pointer (some ⟨bt7_0, 0, none⟩), Value.int .i64 (iand .i64 (x15) (31)), Value.int .i64 (3)]) rfl (clock_Set_Start.calls x17 (iand .i64 (x15) (31)) 3 _ w0 _ bt7_0 t29  A30 (Sep.St.tailJoin (m := [clock_Set.at bt7_0 (x17)]) (r := [blk nb28 (#[Value.int .i64 (((a1).getD (x15).toNat default).Way), Value.int .i64 (((a1).getD (x15).toNat default).Id), Value.int .i64 (((a1).getD (x15).toNat default).N)]) 39, signalmanref6_Clock.at bt9_0 (x16), clock_Set.at bt5_0 (x18), tie signalmanlaw7_Act.El sd1 (a1), R]) HS))) rfl rfl rfl ?_
          rintro _ w ⟨rfl, HS⟩
          replace HS := Sep.St.tailOpen (m := [clock_Set.at bt7_0 (t29.2)]) (r := [blk nb28 (#[Value.int .i64 (((a1).getD (x15).toNat default).Way), Value.int .i64 (((a1).getD (x15).toNat default).Id), Value.int .i64 (((a1).getD (x15).toNat default).N)]) 39, signalmanref6_Clock.at bt9_0 (x16), clock_Set.at bt5_0 (x18), tie signalmanlaw7_Act.El sd1 (a1), R]) HS
          have HS : Sep.St [clock_Set.at bt7_0 (t29.2), blk nb28 (#[Value.int .i64 (((a1).getD (x15).toNat default).Way), Value.int .i64 (((a1).getD (x15).toNat default).Id), Value.int .i64 (((a1).getD (x15).toNat default).N)]) 39, signalmanref6_Clock.at bt9_0 (x16), clock_Set.at bt5_0 (x18), tie signalmanlaw7_Act.El sd1 (a1), R] w0 w := HS
          refine W.nil ?_
          refine At.next ?_
          refine V.keep [(1, Value.slice (some ⟨eb23, eo24, none⟩) (a1).length sc1), (6, Value.pointer (some ⟨bt5_0, 0, none⟩)), (7, Value.pointer (some ⟨bt7_0, 0, none⟩)), (8, Value.pointer (some ⟨bt9_0, 0, none⟩)), (9, Value.int .i64 (x15)), (10, Value.pointer (some ⟨nb28, 0, none⟩))] ⟨rfl, rfl, rfl, rfl, rfl, rfl, trivial⟩ ?_
          refine V.seq ?_
          refine V.seq ?_
          refine V.region ?_
          refine W.rd (X.fieldAddr 0 fo39_0 rfl) rfl rfl rfl ?_
          refine W.rd (X.loadAt 1 HS rfl Try.underlying3 rfl rfl rfl) rfl rfl rfl ?_
          refine W.nil ?_
          refine At.next ?_
          refine V.keep [(1, Value.slice (some ⟨eb23, eo24, none⟩) (a1).length sc1), (6, Value.pointer (some ⟨bt5_0, 0, none⟩)), (7, Value.pointer (some ⟨bt7_0, 0, none⟩)), (8, Value.pointer (some ⟨bt9_0, 0, none⟩)), (9, Value.int .i64 (x15)), (10, Value.pointer (some ⟨nb28, 0, none⟩)), (44, Value.int .i64 (((a1).getD (x15).toNat default).Way))] ⟨rfl, rfl, rfl, rfl, rfl, rfl, rfl, trivial⟩ ?_
          refine V.block ?_
          refine V.seq ?_
          refine V.region ?_
          refine W.rd (X.cmp (decide ((((a1).getD (x15).toNat default).Way) = 0)) rfl rfl rfl rfl) rfl rfl rfl ?_
          refine W.rd (X.assign rfl) rfl rfl rfl ?_
          refine W.nil ?_
          refine At.next ?_
          refine V.keep [(1, Value.slice (some ⟨eb23, eo24, none⟩) (a1).length sc1), (6, Value.pointer (some ⟨bt5_0, 0, none⟩)), (7, Value.pointer (some ⟨bt7_0, 0, none⟩)), (8, Value.pointer (some ⟨bt9_0, 0, none⟩)), (9, Value.int .i64 (x15)), (10, Value.pointer (some ⟨nb28, 0, none⟩)), (44, Value.int .i64 (((a1).getD (x15).toNat default).Way)), (45, Value.bool (decide ((((a1).getD (x15).toNat default).Way) = 0)))] ⟨rfl, rfl, rfl, rfl, rfl, rfl, rfl, rfl, trivial⟩ ?_
          by_cases c31 : (((a1).getD (x15).toNat default).Way) = 0
          · replace H := ite_t c31 H
            refine V.condT (sb (decide_eq_true c31)) ?_
            refine V.seq ?_
            refine V.draw (es := [5, 11]) (bl := [12]) (f := [(47, Value.pointer (some ⟨bt5_0, 0, none⟩)), (48, Value.pointer (some ⟨nb28, 0 + 1, none⟩)), (49, Value.int .i64 (((a1).getD (x15).toNat default).Id)), (50, Value.pointer (some ⟨nb28, 0 + 2, none⟩)), (51, Value.int .i64 (((a1).getD (x15).toNat default).N)), (53, Value.pointer (some ⟨bt9_0, 0, none⟩)), (54, Value.pointer (some ⟨nb28, 0 + 1, none⟩)), (55, Value.int .i64 (((a1).getD (x15).toNat default).Id)), (56, Value.pointer (some ⟨nb28, 0 + 2, none⟩)), (57, Value.int .i64 (((a1).getD (x15).toNat default).N))]) (fun w => Sep.St [clock_Set.at bt7_0 (t29.2), blk nb28 (#[Value.int .i64 (((a1).getD (x15).toNat default).Way), Value.int .i64 (((a1).getD (x15).toNat default).Id), Value.int .i64 (((a1).getD (x15).toNat default).N)]) 39, signalmanref6_Clock.at bt9_0 (x16), clock_Set.at bt5_0 (x18), tie signalmanlaw7_Act.El sd1 (a1), R] w0 w) mo HS.drew rfl ?_
            refine T.event _ [(47, Value.pointer (some ⟨bt5_0, 0, none⟩)), (49, Value.int .i64 (((a1).getD (x15).toNat default).Id)), (51, Value.int .i64 (((a1).getD (x15).toNat default).N))] rfl rfl ⟨⟨_, Value.pointer (some ⟨bt5_0, 0, none⟩), [(6, Value.pointer (some ⟨bt5_0, 0, none⟩))], 47, rfl, rfl, ⟨.inl ⟨rfl, rfl⟩, trivial⟩, .run rfl (fun w HS => X.move rfl), rfl, rfl, rfl⟩, ⟨_, Value.pointer (some ⟨nb28, 0 + 1, none⟩), [(10, Value.pointer (some ⟨nb28, 0, none⟩))], 48, rfl, rfl, ⟨.inl ⟨rfl, rfl⟩, trivial⟩, .run rfl (fun w HS => X.fieldAddr 1 fo39_1 rfl), rfl, rfl, rfl⟩, ⟨_, Value.int .i64 (((a1).getD (x15).toNat default).Id), [(48, Value.pointer (some ⟨nb28, 0 + 1, none⟩))], 49, rfl, rfl, ⟨.inr ⟨rfl, rfl⟩, trivial⟩, .run rfl (fun w HS => X.loadAt 1 HS rfl Try.underlying3 rfl rfl rfl), rfl, rfl, rfl⟩, ⟨_, Value.pointer (some ⟨nb28, 0 + 2, none⟩), [(10, Value.pointer (some ⟨nb28, 0, none⟩))], 50, rfl, rfl, ⟨.inl ⟨rfl, rfl⟩, trivial⟩, .run rfl (fun w HS => X.fieldAddr 2 fo39_2 rfl), rfl, rfl, rfl⟩, ⟨_, Value.int .i64 (((a1).getD (x15).toNat default).N), [(50, Value.pointer (some ⟨nb28, 0 + 2, none⟩))], 51, rfl, rfl, ⟨.inr ⟨rfl, rfl⟩, trivial⟩, .run rfl (fun w HS => X.loadAt 1 HS rfl Try.underlying3 rfl rfl rfl), rfl, rfl, rfl⟩, ⟨_, Value.pointer (some ⟨bt9_0, 0, none⟩), [(8, Value.pointer (some ⟨bt9_0, 0, none⟩))], 53, rfl, rfl, ⟨.inl ⟨rfl, rfl⟩, trivial⟩, .run rfl (fun w HS => X.move rfl), rfl, rfl, rfl⟩, ⟨_, Value.pointer (some ⟨nb28, 0 + 1, none⟩), [(10, Value.pointer (some ⟨nb28, 0, none⟩))], 54, rfl, rfl, ⟨.inl ⟨rfl, rfl⟩, trivial⟩, .run rfl (fun w HS => X.fieldAddr 1 fo39_1 rfl), rfl, rfl, rfl⟩, ⟨_, Value.int .i64 (((a1).getD (x15).toNat default).Id), [(54, Value.pointer (some ⟨nb28, 0 + 1, none⟩))], 55, rfl, rfl, ⟨.inr ⟨rfl, rfl⟩, trivial⟩, .run rfl (fun w HS => X.loadAt 1 HS rfl Try.underlying3 rfl rfl rfl), rfl, rfl, rfl⟩, ⟨_, Value.pointer (some ⟨nb28, 0 + 2, none⟩), [(10, Value.pointer (some ⟨nb28, 0, none⟩))], 56, rfl, rfl, ⟨.inl ⟨rfl, rfl⟩, trivial⟩, .run rfl (fun w HS => X.fieldAddr 2 fo39_2 rfl), rfl, rfl, rfl⟩, ⟨_, Value.int .i64 (((a1).getD (x15).toNat default).N), [(56, Value.pointer (some ⟨nb28, 0 + 2, none⟩))], 57, rfl, rfl, ⟨.inr ⟨rfl, rfl⟩, trivial⟩, .run rfl (fun w HS => X.loadAt 1 HS rfl Try.underlying3 rfl rfl rfl), rfl, rfl, rfl⟩, trivial⟩ rfl ⟨.inr ⟨rfl, rfl⟩, ⟨.inr ⟨rfl, rfl⟩, ⟨.inr ⟨rfl, rfl⟩, trivial⟩⟩⟩ (Or.inl rfl) (by intro d hd; cases hd; exact ⟨by decide, rfl, rfl⟩) [12] [0, 1, 2, 3, 4] rfl rfl (fun w HS => ?_)
            have HS : Sep.St [clock_Set.at bt7_0 (t29.2), blk nb28 (#[Value.int .i64 (((a1).getD (x15).toNat default).Way), Value.int .i64 (((a1).getD (x15).toNat default).Id), Value.int .i64 (((a1).getD (x15).toNat default).N)]) 39, signalmanref6_Clock.at bt9_0 (x16), clock_Set.at bt5_0 (x18), tie signalmanlaw7_Act.El sd1 (a1), R] w0 w := HS
            obtain ⟨t32, A33, H⟩ := bind_s H
            replace HS := HS.re [3, 0, 1, 2, 4, 5] rfl
            have HS : Sep.St [clock_Set.at bt5_0 (x18), clock_Set.at bt7_0 (t29.2), blk nb28 (#[Value.int .i64 (((a1).getD (x15).toNat default).Way), Value.int .i64 (((a1).getD (x15).toNat default).Id), Value.int .i64 (((a1).getD (x15).toNat default).N)]) 39, signalmanref6_Clock.at bt9_0 (x16), tie signalmanlaw7_Act.El sd1 (a1), R] w0 w := HS
            refine ⟨_, Y.call Try.func9 (by kernel_rfl) rfl (vs := [Value.pointer (some ⟨bt5_0, 0, none⟩), Value.int .i64 (((a1).getD (x15).toNat default).Id), Value.int .i64 (((a1).getD (x15).toNat default).N)]) rfl (clock_Set_Start.calls x18 (((a1).getD (x15).toNat default).Id) (((a1).getD (x15).toNat default).N) _ w0 _ bt5_0 t32  A33 (Sep.St.tailJoin (m := [clock_Set.at bt5_0 (x18)]) (r := [clock_Set.at bt7_0 (t29.2), blk nb28 (#[Value.int .i64 (((a1).getD (x15).toNat default).Way), Value.int .i64 (((a1).getD (x15).toNat default).Id), Value.int .i64 (((a1).getD (x15).toNat default).N)]) 39, signalmanref6_Clock.at bt9_0 (x16), tie signalmanlaw7_Act.El sd1 (a1), R]) HS)), ?_⟩
            rintro _ w ⟨rfl, HS⟩
            replace HS := Sep.St.tailOpen (m := [clock_Set.at bt5_0 (t32.2)]) (r := [clock_Set.at bt7_0 (t29.2), blk nb28 (#[Value.int .i64 (((a1).getD (x15).toNat default).Way), Value.int .i64 (((a1).getD (x15).toNat default).Id), Value.int .i64 (((a1).getD (x15).toNat default).N)]) 39, signalmanref6_Clock.at bt9_0 (x16), tie signalmanlaw7_Act.El sd1 (a1), R]) HS
            have HS : Sep.St [clock_Set.at bt5_0 (t32.2), clock_Set.at bt7_0 (t29.2), blk nb28 (#[Value.int .i64 (((a1).getD (x15).toNat default).Way), Value.int .i64 (((a1).getD (x15).toNat default).Id), Value.int .i64 (((a1).getD (x15).toNat default).N)]) 39, signalmanref6_Clock.at bt9_0 (x16), tie signalmanlaw7_Act.El sd1 (a1), R] w0 w := HS
            refine ⟨[(52, Value.bool (t32.1))], fun w => Sep.St [clock_Set.at bt5_0 (t32.2), clock_Set.at bt7_0 (t29.2), blk nb28 (#[Value.int .i64 (((a1).getD (x15).toNat default).Way), Value.int .i64 (((a1).getD (x15).toNat default).Id), Value.int .i64 (((a1).getD (x15).toNat default).N)]) 39, signalmanref6_Clock.at bt9_0 (x16), tie signalmanlaw7_Act.El sd1 (a1), R] w0 w, ⟨.inl ⟨rfl, rfl⟩, trivial⟩, ?_, HS⟩
            refine T.event _ [(53, Value.pointer (some ⟨bt9_0, 0, none⟩)), (55, Value.int .i64 (((a1).getD (x15).toNat default).Id)), (57, Value.int .i64 (((a1).getD (x15).toNat default).N))] rfl rfl ⟨⟨_, Value.pointer (some ⟨bt9_0, 0, none⟩), [(8, Value.pointer (some ⟨bt9_0, 0, none⟩))], 53, rfl, rfl, ⟨.inl ⟨rfl, rfl⟩, trivial⟩, .run rfl (fun w HS => X.move rfl), rfl, rfl, rfl⟩, ⟨_, Value.pointer (some ⟨nb28, 0 + 1, none⟩), [(10, Value.pointer (some ⟨nb28, 0, none⟩))], 54, rfl, rfl, ⟨.inl ⟨rfl, rfl⟩, trivial⟩, .run rfl (fun w HS => X.fieldAddr 1 fo39_1 rfl), rfl, rfl, rfl⟩, ⟨_, Value.int .i64 (((a1).getD (x15).toNat default).Id), [(54, Value.pointer (some ⟨nb28, 0 + 1, none⟩))], 55, rfl, rfl, ⟨.inr ⟨rfl, rfl⟩, trivial⟩, .run rfl (fun w HS => X.loadAt 2 HS rfl Try.underlying3 rfl rfl rfl), rfl, rfl, rfl⟩, ⟨_, Value.pointer (some ⟨nb28, 0 + 2, none⟩), [(10, Value.pointer (some ⟨nb28, 0, none⟩))], 56, rfl, rfl, ⟨.inl ⟨rfl, rfl⟩, trivial⟩, .run rfl (fun w HS => X.fieldAddr 2 fo39_2 rfl), rfl, rfl, rfl⟩, ⟨_, Value.int .i64 (((a1).getD (x15).toNat default).N), [(56, Value.pointer (some ⟨nb28, 0 + 2, none⟩))], 57, rfl, rfl, ⟨.inr ⟨rfl, rfl⟩, trivial⟩, .run rfl (fun w HS => X.loadAt 2 HS rfl Try.underlying3 rfl rfl rfl), rfl, rfl, rfl⟩, trivial⟩ rfl ⟨.inr ⟨rfl, rfl⟩, ⟨.inr ⟨rfl, rfl⟩, ⟨.inr ⟨rfl, rfl⟩, trivial⟩⟩⟩ (Or.inl rfl) (by intro d hd; cases hd; exact ⟨by decide, rfl, rfl⟩) [] [6, 7, 8, 9, 10] rfl rfl (fun w HS => ?_)
            have HS : Sep.St [clock_Set.at bt5_0 (t32.2), clock_Set.at bt7_0 (t29.2), blk nb28 (#[Value.int .i64 (((a1).getD (x15).toNat default).Way), Value.int .i64 (((a1).getD (x15).toNat default).Id), Value.int .i64 (((a1).getD (x15).toNat default).N)]) 39, signalmanref6_Clock.at bt9_0 (x16), tie signalmanlaw7_Act.El sd1 (a1), R] w0 w := HS
            obtain ⟨t34, A35, H⟩ := bind_s H
            replace HS := HS.re [3, 0, 1, 2, 4, 5] rfl
            have HS : Sep.St [signalmanref6_Clock.at bt9_0 (x16), clock_Set.at bt5_0 (t32.2), clock_Set.at bt7_0 (t29.2), blk nb28 (#[Value.int .i64 (((a1).getD (x15).toNat default).Way), Value.int .i64 (((a1).getD (x15).toNat default).Id), Value.int .i64 (((a1).getD (x15).toNat default).N)]) 39, tie signalmanlaw7_Act.El sd1 (a1), R] w0 w := HS
            refine ⟨_, Y.call Try.func15 (by kernel_rfl) rfl (vs := [Value.pointer (some ⟨bt9_0, 0, none⟩), Value.int .i64 (((a1).getD (x15).toNat default).Id), Value.int .i64 (((a1).getD (x15).toNat default).N)]) rfl (signalmanref6_Clock_Start.calls x16 (((a1).getD (x15).toNat default).Id) (((a1).getD (x15).toNat default).N) _ w0 _ bt9_0 t34  A35 (Sep.St.tailJoin (m := [signalmanref6_Clock.at bt9_0 (x16)]) (r := [clock_Set.at bt5_0 (t32.2), clock_Set.at bt7_0 (t29.2), blk nb28 (#[Value.int .i64 (((a1).getD (x15).toNat default).Way), Value.int .i64 (((a1).getD (x15).toNat default).Id), Value.int .i64 (((a1).getD (x15).toNat default).N)]) 39, tie signalmanlaw7_Act.El sd1 (a1), R]) HS)), ?_⟩
            rintro _ w ⟨rfl, HS⟩
            replace HS := Sep.St.tailOpen (m := [signalmanref6_Clock.at bt9_0 (t34.2)]) (r := [clock_Set.at bt5_0 (t32.2), clock_Set.at bt7_0 (t29.2), blk nb28 (#[Value.int .i64 (((a1).getD (x15).toNat default).Way), Value.int .i64 (((a1).getD (x15).toNat default).Id), Value.int .i64 (((a1).getD (x15).toNat default).N)]) 39, tie signalmanlaw7_Act.El sd1 (a1), R]) HS
            have HS : Sep.St [signalmanref6_Clock.at bt9_0 (t34.2), clock_Set.at bt5_0 (t32.2), clock_Set.at bt7_0 (t29.2), blk nb28 (#[Value.int .i64 (((a1).getD (x15).toNat default).Way), Value.int .i64 (((a1).getD (x15).toNat default).Id), Value.int .i64 (((a1).getD (x15).toNat default).N)]) 39, tie signalmanlaw7_Act.El sd1 (a1), R] w0 w := HS
            refine ⟨[(58, Value.bool (t34.1)), (59, Value.bool (((t32.1) != (t34.1))))], fun w => Sep.St [signalmanref6_Clock.at bt9_0 (t34.2), clock_Set.at bt5_0 (t32.2), clock_Set.at bt7_0 (t29.2), blk nb28 (#[Value.int .i64 (((a1).getD (x15).toNat default).Way), Value.int .i64 (((a1).getD (x15).toNat default).Id), Value.int .i64 (((a1).getD (x15).toNat default).N)]) 39, tie signalmanlaw7_Act.El sd1 (a1), R] w0 w, ⟨.inl ⟨rfl, rfl⟩, ⟨.inr ⟨by decide, rfl⟩, trivial⟩⟩, ?_, HS⟩
            refine T.fin [(1, Value.slice (some ⟨eb23, eo24, none⟩) (a1).length sc1), (6, Value.pointer (some ⟨bt5_0, 0, none⟩)), (7, Value.pointer (some ⟨bt7_0, 0, none⟩)), (8, Value.pointer (some ⟨bt9_0, 0, none⟩)), (9, Value.int .i64 (x15)), (10, Value.pointer (some ⟨nb28, 0, none⟩)), (59, Value.bool (((t32.1) != (t34.1))))] rfl ⟨⟨_, Value.bool (((t32.1) != (t34.1))), [(52, Value.bool (t32.1)), (58, Value.bool (t34.1))], 59, rfl, rfl, ⟨.inr ⟨rfl, rfl⟩, ⟨.inr ⟨rfl, rfl⟩, trivial⟩⟩, .run rfl (fun w HS => X.neB Try.underlying4 rfl rfl), rfl, rfl, rfl⟩, trivial⟩ ⟨.inl ⟨rfl, rfl⟩, ⟨.inl ⟨rfl, rfl⟩, ⟨.inl ⟨rfl, rfl⟩, ⟨.inl ⟨rfl, rfl⟩, ⟨.inl ⟨rfl, rfl⟩, ⟨.inl ⟨rfl, rfl⟩, ⟨.inr ⟨rfl, rfl⟩, trivial⟩⟩⟩⟩⟩⟩⟩ (fun w HS => ?_)
            have HS : Sep.St [signalmanref6_Clock.at bt9_0 (t34.2), clock_Set.at bt5_0 (t32.2), clock_Set.at bt7_0 (t29.2), blk nb28 (#[Value.int .i64 (((a1).getD (x15).toNat default).Way), Value.int .i64 (((a1).getD (x15).toNat default).Id), Value.int .i64 (((a1).getD (x15).toNat default).N)]) 39, tie signalmanlaw7_Act.El sd1 (a1), R] w0 w := HS
            refine At.next ?_
            refine V.keep [(1, Value.slice (some ⟨eb23, eo24, none⟩) (a1).length sc1), (6, Value.pointer (some ⟨bt5_0, 0, none⟩)), (7, Value.pointer (some ⟨bt7_0, 0, none⟩)), (8, Value.pointer (some ⟨bt9_0, 0, none⟩)), (9, Value.int .i64 (x15)), (10, Value.pointer (some ⟨nb28, 0, none⟩)), (59, Value.bool (((t32.1) != (t34.1))))] ⟨rfl, rfl, rfl, rfl, rfl, rfl, rfl, trivial⟩ ?_
            by_cases c36 : ((t32.1) != (t34.1)) = true
            · replace H := ite_t c36 H
              refine V.condT (sb c36) ?_
              refine V.seq ?_
              refine V.region ?_
              refine W.rd (X.assign rfl) rfl rfl rfl ?_
              refine W.nil ?_
              refine At.next ?_
              refine V.keep [(4, Value.bool (false))] ⟨rfl, trivial⟩ ?_
              refine V.ret ?_
              refine At.blockRet ?_
              refine At.thenRet ?_
              refine At.blockRet ?_
              refine At.thenRet ?_
              refine At.thenRet ?_
              refine At.blockRet ?_
              refine At.thenRet ?_
              replace HS := HS.sel [5] [0, 1, 2, 3, 4] rfl
              cases H
              exact At.ret1 rfl rfl ⟨_, rfl, rfl, HS⟩
            · replace H := ite_f c36 H
              refine V.condF (sb (b_f c36)) ?_
              refine V.skip ?_
              refine At.blockEnd ?_
              refine At.next ?_
              refine V.keep [(1, Value.slice (some ⟨eb23, eo24, none⟩) (a1).length sc1), (6, Value.pointer (some ⟨bt5_0, 0, none⟩)), (7, Value.pointer (some ⟨bt7_0, 0, none⟩)), (8, Value.pointer (some ⟨bt9_0, 0, none⟩)), (9, Value.int .i64 (x15)), (10, Value.pointer (some ⟨nb28, 0, none⟩))] ⟨rfl, rfl, rfl, rfl, rfl, rfl, trivial⟩ ?_
              refine V.seq ?_
              refine V.region ?_
              refine W.rd (X.move rfl) rfl rfl rfl ?_
              refine W.rd (X.fieldAddr 1 fo39_1 rfl) rfl rfl rfl ?_
              refine W.rd (X.loadAt 3 HS rfl Try.underlying3 rfl rfl rfl) rfl rfl rfl ?_
              obtain ⟨t37, A38, H⟩ := bind_s H
              replace HS := HS.re [1, 0, 2, 3, 4, 5] rfl
              have HS : Sep.St [clock_Set.at bt5_0 (t32.2), signalmanref6_Clock.at bt9_0 (t34.2), clock_Set.at bt7_0 (t29.2), blk nb28 (#[Value.int .i64 (((a1).getD (x15).toNat default).Way), Value.int .i64 (((a1).getD (x15).toNat default).Id), Value.int .i64 (((a1).getD (x15).toNat default).N)]) 39, tie signalmanlaw7_Act.El sd1 (a1), R] w0 w := HS
              refine W.ev (Y.call Try.func12 (by kernel_rfl) rfl (vs := [Value.pointer (some ⟨bt5_0, 0, none⟩), Value.int .i64 (((a1).getD (x15).toNat default).Id)]) rfl (clock_Set_Left.calls t32.2 (((a1).getD (x15).toNat default).Id) _ w0 _ bt5_0 t37  A38 (Sep.St.tailJoin (m := [clock_Set.at bt5_0 (t32.2)]) (r := [signalmanref6_Clock.at bt9_0 (t34.2), clock_Set.at bt7_0 (t29.2), blk nb28 (#[Value.int .i64 (((a1).getD (x15).toNat default).Way), Value.int .i64 (((a1).getD (x15).toNat default).Id), Value.int .i64 (((a1).getD (x15).toNat default).N)]) 39, tie signalmanlaw7_Act.El sd1 (a1), R]) HS))) rfl rfl rfl ?_
              rintro _ w ⟨rfl, HS⟩
              replace HS := Sep.St.tailOpen (m := [clock_Set.at bt5_0 (t32.2)]) (r := [signalmanref6_Clock.at bt9_0 (t34.2), clock_Set.at bt7_0 (t29.2), blk nb28 (#[Value.int .i64 (((a1).getD (x15).toNat default).Way), Value.int .i64 (((a1).getD (x15).toNat default).Id), Value.int .i64 (((a1).getD (x15).toNat default).N)]) 39, tie signalmanlaw7_Act.El sd1 (a1), R]) HS
              have HS : Sep.St [clock_Set.at bt5_0 (t32.2), signalmanref6_Clock.at bt9_0 (t34.2), clock_Set.at bt7_0 (t29.2), blk nb28 (#[Value.int .i64 (((a1).getD (x15).toNat default).Way), Value.int .i64 (((a1).getD (x15).toNat default).Id), Value.int .i64 (((a1).getD (x15).toNat default).N)]) 39, tie signalmanlaw7_Act.El sd1 (a1), R] w0 w := HS
              refine W.rd (X.move rfl) rfl rfl rfl ?_
              refine W.rd (X.extract rfl rfl) rfl rfl rfl ?_
              refine W.rd (X.extract rfl rfl) rfl rfl rfl ?_
              refine W.rd (X.assign rfl) rfl rfl rfl ?_
              refine W.rd (X.assign rfl) rfl rfl rfl ?_
              refine W.nil ?_
              refine At.next ?_
              refine V.keep [(1, Value.slice (some ⟨eb23, eo24, none⟩) (a1).length sc1), (6, Value.pointer (some ⟨bt5_0, 0, none⟩)), (7, Value.pointer (some ⟨bt7_0, 0, none⟩)), (8, Value.pointer (some ⟨bt9_0, 0, none⟩)), (9, Value.int .i64 (x15)), (10, Value.pointer (some ⟨nb28, 0, none⟩)), (11, Value.int .i64 (t37.1)), (12, Value.bool (t37.2))] ⟨rfl, rfl, rfl, rfl, rfl, rfl, rfl, rfl, trivial⟩ ?_
              refine V.seq ?_
              refine V.region ?_
              refine W.rd (X.move rfl) rfl rfl rfl ?_
              refine W.rd (X.fieldAddr 1 fo39_1 rfl) rfl rfl rfl ?_
              refine W.rd (X.loadAt 3 HS rfl Try.underlying3 rfl rfl rfl) rfl rfl rfl ?_
              obtain ⟨t39, A40, H⟩ := bind_s H
              replace HS := HS.re [1, 0, 2, 3, 4, 5] rfl
              have HS : Sep.St [signalmanref6_Clock.at bt9_0 (t34.2), clock_Set.at bt5_0 (t32.2), clock_Set.at bt7_0 (t29.2), blk nb28 (#[Value.int .i64 (((a1).getD (x15).toNat default).Way), Value.int .i64 (((a1).getD (x15).toNat default).Id), Value.int .i64 (((a1).getD (x15).toNat default).N)]) 39, tie signalmanlaw7_Act.El sd1 (a1), R] w0 w := HS
              refine W.ev (Y.call Try.func18 (by kernel_rfl) rfl (vs := [Value.pointer (some ⟨bt9_0, 0, none⟩), Value.int .i64 (((a1).getD (x15).toNat default).Id)]) rfl (signalmanref6_Clock_Left.calls t34.2 (((a1).getD (x15).toNat default).Id) _ w0 _ bt9_0 t39  A40 (Sep.St.tailJoin (m := [signalmanref6_Clock.at bt9_0 (t34.2)]) (r := [clock_Set.at bt5_0 (t32.2), clock_Set.at bt7_0 (t29.2), blk nb28 (#[Value.int .i64 (((a1).getD (x15).toNat default).Way), Value.int .i64 (((a1).getD (x15).toNat default).Id), Value.int .i64 (((a1).getD (x15).toNat default).N)]) 39, tie signalmanlaw7_Act.El sd1 (a1), R]) HS))) rfl rfl rfl ?_
              rintro _ w ⟨rfl, HS⟩
              replace HS := Sep.St.tailOpen (m := [signalmanref6_Clock.at bt9_0 (t34.2)]) (r := [clock_Set.at bt5_0 (t32.2), clock_Set.at bt7_0 (t29.2), blk nb28 (#[Value.int .i64 (((a1).getD (x15).toNat default).Way), Value.int .i64 (((a1).getD (x15).toNat default).Id), Value.int .i64 (((a1).getD (x15).toNat default).N)]) 39, tie signalmanlaw7_Act.El sd1 (a1), R]) HS
              have HS : Sep.St [signalmanref6_Clock.at bt9_0 (t34.2), clock_Set.at bt5_0 (t32.2), clock_Set.at bt7_0 (t29.2), blk nb28 (#[Value.int .i64 (((a1).getD (x15).toNat default).Way), Value.int .i64 (((a1).getD (x15).toNat default).Id), Value.int .i64 (((a1).getD (x15).toNat default).N)]) 39, tie signalmanlaw7_Act.El sd1 (a1), R] w0 w := HS
              refine W.rd (X.move rfl) rfl rfl rfl ?_
              refine W.rd (X.extract rfl rfl) rfl rfl rfl ?_
              refine W.rd (X.extract rfl rfl) rfl rfl rfl ?_
              refine W.rd (X.assign rfl) rfl rfl rfl ?_
              refine W.rd (X.assign rfl) rfl rfl rfl ?_
              refine W.nil ?_
              refine At.next ?_
              refine V.keep [(1, Value.slice (some ⟨eb23, eo24, none⟩) (a1).length sc1), (6, Value.pointer (some ⟨bt5_0, 0, none⟩)), (7, Value.pointer (some ⟨bt7_0, 0, none⟩)), (8, Value.pointer (some ⟨bt9_0, 0, none⟩)), (9, Value.int .i64 (x15)), (11, Value.int .i64 (t37.1)), (12, Value.bool (t37.2)), (13, Value.int .i64 (t39.1)), (14, Value.bool (t39.2))] ⟨rfl, rfl, rfl, rfl, rfl, rfl, rfl, rfl, rfl, trivial⟩ ?_
              refine V.seq ?_
              refine V.region ?_
              refine W.rd (X.move rfl) rfl rfl rfl ?_
              refine W.rd (X.move rfl) rfl rfl rfl ?_
              refine W.rd (X.cmp (!(decide (t37.1 = t39.1))) rfl rfl rfl rfl) rfl rfl rfl ?_
              refine W.rd (X.move rfl) rfl rfl rfl ?_
              by_cases c41 : t37.1 = t39.1
              · replace H := ite_t c41 H
                refine W.want 100 rfl (sb (n_t (decide_eq_true c41))) ?_
                refine W.rd (X.move rfl) rfl rfl rfl ?_
                refine W.want 100 rfl (sb (n_t (decide_eq_true c41))) ?_
                refine W.rd (X.move rfl) rfl rfl rfl ?_
                refine W.want 100 rfl (sb (n_t (decide_eq_true c41))) ?_
                refine W.rd (X.neB Try.underlying4 rfl rfl) rfl rfl rfl ?_
                refine W.rd (X.pickF (sb (n_t (decide_eq_true c41))) rfl) rfl rfl rfl ?_
                refine W.rd (X.move rfl) rfl rfl rfl ?_
                by_cases c42 : ((t37.2) != (t39.2)) = true
                · replace H := ite_t c42 H
                  refine W.pass 105 rfl (sb c42) rfl rfl ?_
                  refine W.pass 105 rfl (sb c42) rfl rfl ?_
                  refine W.pass 105 rfl (sb c42) rfl rfl ?_
                  refine W.pass 105 rfl (sb c42) rfl rfl ?_
                  refine W.pass 105 rfl (sb c42) rfl rfl ?_
                  refine W.rd (X.pickT (sb c42) rfl) rfl rfl rfl ?_
                  refine W.nil ?_
                  refine At.next ?_
                  refine V.keep [(1, Value.slice (some ⟨eb23, eo24, none⟩) (a1).length sc1), (6, Value.pointer (some ⟨bt5_0, 0, none⟩)), (7, Value.pointer (some ⟨bt7_0, 0, none⟩)), (8, Value.pointer (some ⟨bt9_0, 0, none⟩)), (9, Value.int .i64 (x15)), (101, Value.bool (t37.2)), (102, Value.bool (t39.2)), (103, Value.bool (((t37.2) != (t39.2)))), (106, undef), (107, undef), (108, undef), (109, undef), (110, undef), (111, Value.bool (true))] ⟨rfl, rfl, rfl, rfl, rfl, rfl, rfl, rfl, rfl, rfl, rfl, rfl, rfl, rfl, trivial⟩ ?_
                  refine V.condT rfl ?_
                  refine V.seq ?_
                  refine V.region ?_
                  refine W.rd (X.assign rfl) rfl rfl rfl ?_
                  refine W.nil ?_
                  refine At.next ?_
                  refine V.keep [(4, Value.bool (false))] ⟨rfl, trivial⟩ ?_
                  refine V.ret ?_
                  refine At.blockRet ?_
                  refine At.thenRet ?_
                  refine At.thenRet ?_
                  refine At.blockRet ?_
                  refine At.thenRet ?_
                  replace HS := HS.sel [5] [0, 1, 2, 3, 4] rfl
                  cases H
                  exact At.ret1 rfl rfl ⟨_, rfl, rfl, HS⟩
                · replace H := ite_f c42 H
                  refine W.want 105 rfl (sb (b_f c42)) ?_
                  refine W.rd (X.move rfl) rfl rfl rfl ?_
                  refine W.want 105 rfl (sb (b_f c42)) ?_
                  obtain ⟨t43, A44, H⟩ := bind_s H
                  replace HS := HS.re [1, 0, 2, 3, 4, 5] rfl
                  have HS : Sep.St [clock_Set.at bt5_0 (t32.2), signalmanref6_Clock.at bt9_0 (t34.2), clock_Set.at bt7_0 (t29.2), blk nb28 (#[Value.int .i64 (((a1).getD (x15).toNat default).Way), Value.int .i64 (((a1).getD (x15).toNat default).Id), Value.int .i64 (((a1).getD (x15).toNat default).N)]) 39, tie signalmanlaw7_Act.El sd1 (a1), R] w0 w := HS
                  refine W.ev (Y.call Try.func19 (by kernel_rfl) rfl (vs := [Value.pointer (some ⟨bt5_0, 0, none⟩)]) rfl (clock_Set_Now.calls t32.2 _ w0 _ bt5_0 t43  A44 (Sep.St.tailJoin (m := [clock_Set.at bt5_0 (t32.2)]) (r := [signalmanref6_Clock.at bt9_0 (t34.2), clock_Set.at bt7_0 (t29.2), blk nb28 (#[Value.int .i64 (((a1).getD (x15).toNat default).Way), Value.int .i64 (((a1).getD (x15).toNat default).Id), Value.int .i64 (((a1).getD (x15).toNat default).N)]) 39, tie signalmanlaw7_Act.El sd1 (a1), R]) HS))) rfl rfl rfl ?_
                  rintro _ w ⟨rfl, HS⟩
                  replace HS := Sep.St.tailOpen (m := [clock_Set.at bt5_0 (t32.2)]) (r := [signalmanref6_Clock.at bt9_0 (t34.2), clock_Set.at bt7_0 (t29.2), blk nb28 (#[Value.int .i64 (((a1).getD (x15).toNat default).Way), Value.int .i64 (((a1).getD (x15).toNat default).Id), Value.int .i64 (((a1).getD (x15).toNat default).N)]) 39, tie signalmanlaw7_Act.El sd1 (a1), R]) HS
                  have HS : Sep.St [clock_Set.at bt5_0 (t32.2), signalmanref6_Clock.at bt9_0 (t34.2), clock_Set.at bt7_0 (t29.2), blk nb28 (#[Value.int .i64 (((a1).getD (x15).toNat default).Way), Value.int .i64 (((a1).getD (x15).toNat default).Id), Value.int .i64 (((a1).getD (x15).toNat default).N)]) 39, tie signalmanlaw7_Act.El sd1 (a1), R] w0 w := HS
                  refine W.want 105 rfl (sb (b_f c42)) ?_
                  refine W.rd (X.move rfl) rfl rfl rfl ?_
                  refine W.want 105 rfl (sb (b_f c42)) ?_
                  obtain ⟨t45, A46, H⟩ := bind_s H
                  replace HS := HS.re [1, 0, 2, 3, 4, 5] rfl
                  have HS : Sep.St [signalmanref6_Clock.at bt9_0 (t34.2), clock_Set.at bt5_0 (t32.2), clock_Set.at bt7_0 (t29.2), blk nb28 (#[Value.int .i64 (((a1).getD (x15).toNat default).Way), Value.int .i64 (((a1).getD (x15).toNat default).Id), Value.int .i64 (((a1).getD (x15).toNat default).N)]) 39, tie signalmanlaw7_Act.El sd1 (a1), R] w0 w := HS
                  refine W.ev (Y.call Try.func20 (by kernel_rfl) rfl (vs := [Value.pointer (some ⟨bt9_0, 0, none⟩)]) rfl (signalmanref6_Clock_Now.calls t34.2 _ w0 _ bt9_0 t45  A46 (Sep.St.tailJoin (m := [signalmanref6_Clock.at bt9_0 (t34.2)]) (r := [clock_Set.at bt5_0 (t32.2), clock_Set.at bt7_0 (t29.2), blk nb28 (#[Value.int .i64 (((a1).getD (x15).toNat default).Way), Value.int .i64 (((a1).getD (x15).toNat default).Id), Value.int .i64 (((a1).getD (x15).toNat default).N)]) 39, tie signalmanlaw7_Act.El sd1 (a1), R]) HS))) rfl rfl rfl ?_
                  rintro _ w ⟨rfl, HS⟩
                  replace HS := Sep.St.tailOpen (m := [signalmanref6_Clock.at bt9_0 (t34.2)]) (r := [clock_Set.at bt5_0 (t32.2), clock_Set.at bt7_0 (t29.2), blk nb28 (#[Value.int .i64 (((a1).getD (x15).toNat default).Way), Value.int .i64 (((a1).getD (x15).toNat default).Id), Value.int .i64 (((a1).getD (x15).toNat default).N)]) 39, tie signalmanlaw7_Act.El sd1 (a1), R]) HS
                  have HS : Sep.St [signalmanref6_Clock.at bt9_0 (t34.2), clock_Set.at bt5_0 (t32.2), clock_Set.at bt7_0 (t29.2), blk nb28 (#[Value.int .i64 (((a1).getD (x15).toNat default).Way), Value.int .i64 (((a1).getD (x15).toNat default).Id), Value.int .i64 (((a1).getD (x15).toNat default).N)]) 39, tie signalmanlaw7_Act.El sd1 (a1), R] w0 w := HS
                  refine W.want 105 rfl (sb (b_f c42)) ?_
                  refine W.rd (X.cmp (!(decide (t43 = t45))) rfl rfl rfl rfl) rfl rfl rfl ?_
                  refine W.rd (X.pickF (sb (b_f c42)) rfl) rfl rfl rfl ?_
                  refine W.nil ?_
                  refine At.next ?_
                  refine V.keep [(1, Value.slice (some ⟨eb23, eo24, none⟩) (a1).length sc1), (6, Value.pointer (some ⟨bt5_0, 0, none⟩)), (7, Value.pointer (some ⟨bt7_0, 0, none⟩)), (8, Value.pointer (some ⟨bt9_0, 0, none⟩)), (9, Value.int .i64 (x15)), (101, Value.bool (t37.2)), (102, Value.bool (t39.2)), (103, Value.bool (((t37.2) != (t39.2)))), (106, Value.pointer (some ⟨bt5_0, 0, none⟩)), (107, Value.int .u32 (t43)), (108, Value.pointer (some ⟨bt9_0, 0, none⟩)), (109, Value.int .u32 (t45)), (110, Value.bool (!(decide (t43 = t45)))), (111, Value.bool (!(decide (t43 = t45))))] ⟨rfl, rfl, rfl, rfl, rfl, rfl, rfl, rfl, rfl, rfl, rfl, rfl, rfl, rfl, trivial⟩ ?_
                  by_cases c47 : t43 = t45
                  · replace H := ite_t c47 H
                    refine V.condF (sb (n_t (decide_eq_true c47))) ?_
                    refine V.skip ?_
                    refine At.blockEnd ?_
                    refine At.next ?_
                    refine V.keep [(1, Value.slice (some ⟨eb23, eo24, none⟩) (a1).length sc1), (6, Value.pointer (some ⟨bt5_0, 0, none⟩)), (7, Value.pointer (some ⟨bt7_0, 0, none⟩)), (8, Value.pointer (some ⟨bt9_0, 0, none⟩)), (9, Value.int .i64 (x15)), (101, Value.bool (t37.2)), (102, Value.bool (t39.2)), (103, Value.bool (((t37.2) != (t39.2)))), (106, Value.pointer (some ⟨bt5_0, 0, none⟩)), (107, Value.int .u32 (t43)), (108, Value.pointer (some ⟨bt9_0, 0, none⟩)), (109, Value.int .u32 (t45)), (110, Value.bool (!(decide (t43 = t45))))] ⟨rfl, rfl, rfl, rfl, rfl, rfl, rfl, rfl, rfl, rfl, rfl, rfl, rfl, trivial⟩ ?_
                    refine V.region ?_
                    refine W.rd (X.move rfl) rfl rfl rfl ?_
                    refine W.rd (X.add rfl rfl) rfl rfl rfl ?_
                    refine W.rd (X.assign rfl) rfl rfl rfl ?_
                    refine W.nil ?_
                    replace HS := HS.sel [0, 2, 1, 4, 5] [3] rfl
                    exact At.round kq19 (by omega) (w64 (x15 + 1), t34.2, t29.2, t32.2) ⟨rfl, rfl, rfl, rfl, rfl, trivial⟩ ⟨HS, H, by omega⟩
                  · replace H := ite_f c47 H
                    refine V.condT (sb (n_f (decide_eq_false c47))) ?_
                    refine V.seq ?_
                    refine V.region ?_
                    refine W.rd (X.assign rfl) rfl rfl rfl ?_
                    refine W.nil ?_
                    refine At.next ?_
                    refine V.keep [(4, Value.bool (false))] ⟨rfl, trivial⟩ ?_
                    refine V.ret ?_
                    refine At.blockRet ?_
                    refine At.thenRet ?_
                    refine At.thenRet ?_
                    refine At.blockRet ?_
                    refine At.thenRet ?_
                    replace HS := HS.sel [5] [0, 1, 2, 3, 4] rfl
                    cases H
                    exact At.ret1 rfl rfl ⟨_, rfl, rfl, HS⟩
              · replace H := ite_f c41 H
                refine W.pass 100 rfl (sb (n_f (decide_eq_false c41))) rfl rfl ?_
                refine W.pass 100 rfl (sb (n_f (decide_eq_false c41))) rfl rfl ?_
                refine W.pass 100 rfl (sb (n_f (decide_eq_false c41))) rfl rfl ?_
                refine W.rd (X.pickT (sb (n_f (decide_eq_false c41))) rfl) rfl rfl rfl ?_
                refine W.rd (X.move rfl) rfl rfl rfl ?_
                refine W.pass 105 rfl rfl rfl rfl ?_
                refine W.pass 105 rfl rfl rfl rfl ?_
                refine W.pass 105 rfl rfl rfl rfl ?_
                refine W.pass 105 rfl rfl rfl rfl ?_
                refine W.pass 105 rfl rfl rfl rfl ?_
                refine W.rd (X.pickT rfl rfl) rfl rfl rfl ?_
                refine W.nil ?_
                refine At.next ?_
                refine V.keep [(1, Value.slice (some ⟨eb23, eo24, none⟩) (a1).length sc1), (6, Value.pointer (some ⟨bt5_0, 0, none⟩)), (7, Value.pointer (some ⟨bt7_0, 0, none⟩)), (8, Value.pointer (some ⟨bt9_0, 0, none⟩)), (9, Value.int .i64 (x15)), (101, undef), (102, undef), (103, undef), (106, undef), (107, undef), (108, undef), (109, undef), (110, undef), (111, Value.bool (true))] ⟨rfl, rfl, rfl, rfl, rfl, rfl, rfl, rfl, rfl, rfl, rfl, rfl, rfl, rfl, trivial⟩ ?_
                refine V.condT rfl ?_
                refine V.seq ?_
                refine V.region ?_
                refine W.rd (X.assign rfl) rfl rfl rfl ?_
                refine W.nil ?_
                refine At.next ?_
                refine V.keep [(4, Value.bool (false))] ⟨rfl, trivial⟩ ?_
                refine V.ret ?_
                refine At.blockRet ?_
                refine At.thenRet ?_
                refine At.thenRet ?_
                refine At.blockRet ?_
                refine At.thenRet ?_
                replace HS := HS.sel [5] [0, 1, 2, 3, 4] rfl
                cases H
                exact At.ret1 rfl rfl ⟨_, rfl, rfl, HS⟩
          · replace H := ite_f c31 H
            refine V.condF (sb (decide_eq_false c31)) ?_
            refine V.seq ?_
            refine V.region ?_
            refine W.rd (X.cmp (decide ((((a1).getD (x15).toNat default).Way) = 1)) rfl rfl rfl rfl) rfl rfl rfl ?_
            refine W.rd (X.assign rfl) rfl rfl rfl ?_
            refine W.nil ?_
            refine At.next ?_
            refine V.keep [(1, Value.slice (some ⟨eb23, eo24, none⟩) (a1).length sc1), (6, Value.pointer (some ⟨bt5_0, 0, none⟩)), (7, Value.pointer (some ⟨bt7_0, 0, none⟩)), (8, Value.pointer (some ⟨bt9_0, 0, none⟩)), (9, Value.int .i64 (x15)), (10, Value.pointer (some ⟨nb28, 0, none⟩)), (44, Value.int .i64 (((a1).getD (x15).toNat default).Way)), (60, Value.bool (decide ((((a1).getD (x15).toNat default).Way) = 1)))] ⟨rfl, rfl, rfl, rfl, rfl, rfl, rfl, rfl, trivial⟩ ?_
            by_cases c48 : (((a1).getD (x15).toNat default).Way) = 1
            · replace H := ite_t c48 H
              refine V.condT (sb (decide_eq_true c48)) ?_
              refine V.seq ?_
              refine V.draw (es := [3, 7]) (bl := [8]) (f := [(62, Value.pointer (some ⟨bt5_0, 0, none⟩)), (63, Value.pointer (some ⟨nb28, 0 + 1, none⟩)), (64, Value.int .i64 (((a1).getD (x15).toNat default).Id)), (66, Value.pointer (some ⟨bt9_0, 0, none⟩)), (67, Value.pointer (some ⟨nb28, 0 + 1, none⟩)), (68, Value.int .i64 (((a1).getD (x15).toNat default).Id))]) (fun w => Sep.St [clock_Set.at bt7_0 (t29.2), blk nb28 (#[Value.int .i64 (((a1).getD (x15).toNat default).Way), Value.int .i64 (((a1).getD (x15).toNat default).Id), Value.int .i64 (((a1).getD (x15).toNat default).N)]) 39, signalmanref6_Clock.at bt9_0 (x16), clock_Set.at bt5_0 (x18), tie signalmanlaw7_Act.El sd1 (a1), R] w0 w) mo HS.drew rfl ?_
              refine T.event _ [(62, Value.pointer (some ⟨bt5_0, 0, none⟩)), (64, Value.int .i64 (((a1).getD (x15).toNat default).Id))] rfl rfl ⟨⟨_, Value.pointer (some ⟨bt5_0, 0, none⟩), [(6, Value.pointer (some ⟨bt5_0, 0, none⟩))], 62, rfl, rfl, ⟨.inl ⟨rfl, rfl⟩, trivial⟩, .run rfl (fun w HS => X.move rfl), rfl, rfl, rfl⟩, ⟨_, Value.pointer (some ⟨nb28, 0 + 1, none⟩), [(10, Value.pointer (some ⟨nb28, 0, none⟩))], 63, rfl, rfl, ⟨.inl ⟨rfl, rfl⟩, trivial⟩, .run rfl (fun w HS => X.fieldAddr 1 fo39_1 rfl), rfl, rfl, rfl⟩, ⟨_, Value.int .i64 (((a1).getD (x15).toNat default).Id), [(63, Value.pointer (some ⟨nb28, 0 + 1, none⟩))], 64, rfl, rfl, ⟨.inr ⟨rfl, rfl⟩, trivial⟩, .run rfl (fun w HS => X.loadAt 1 HS rfl Try.underlying3 rfl rfl rfl), rfl, rfl, rfl⟩, ⟨_, Value.pointer (some ⟨bt9_0, 0, none⟩), [(8, Value.pointer (some ⟨bt9_0, 0, none⟩))], 66, rfl, rfl, ⟨.inl ⟨rfl, rfl⟩, trivial⟩, .run rfl (fun w HS => X.move rfl), rfl, rfl, rfl⟩, ⟨_, Value.pointer (some ⟨nb28, 0 + 1, none⟩), [(10, Value.pointer (some ⟨nb28, 0, none⟩))], 67, rfl, rfl, ⟨.inl ⟨rfl, rfl⟩, trivial⟩, .run rfl (fun w HS => X.fieldAddr 1 fo39_1 rfl), rfl, rfl, rfl⟩, ⟨_, Value.int .i64 (((a1).getD (x15).toNat default).Id), [(67, Value.pointer (some ⟨nb28, 0 + 1, none⟩))], 68, rfl, rfl, ⟨.inr ⟨rfl, rfl⟩, trivial⟩, .run rfl (fun w HS => X.loadAt 1 HS rfl Try.underlying3 rfl rfl rfl), rfl, rfl, rfl⟩, trivial⟩ rfl ⟨.inr ⟨rfl, rfl⟩, ⟨.inr ⟨rfl, rfl⟩, trivial⟩⟩ (Or.inl rfl) (by intro d hd; cases hd; exact ⟨by decide, rfl, rfl⟩) [8] [0, 1, 2] rfl rfl (fun w HS => ?_)
              have HS : Sep.St [clock_Set.at bt7_0 (t29.2), blk nb28 (#[Value.int .i64 (((a1).getD (x15).toNat default).Way), Value.int .i64 (((a1).getD (x15).toNat default).Id), Value.int .i64 (((a1).getD (x15).toNat default).N)]) 39, signalmanref6_Clock.at bt9_0 (x16), clock_Set.at bt5_0 (x18), tie signalmanlaw7_Act.El sd1 (a1), R] w0 w := HS
              obtain ⟨t49, A50, H⟩ := bind_s H
              replace HS := HS.re [3, 0, 1, 2, 4, 5] rfl
              have HS : Sep.St [clock_Set.at bt5_0 (x18), clock_Set.at bt7_0 (t29.2), blk nb28 (#[Value.int .i64 (((a1).getD (x15).toNat default).Way), Value.int .i64 (((a1).getD (x15).toNat default).Id), Value.int .i64 (((a1).getD (x15).toNat default).N)]) 39, signalmanref6_Clock.at bt9_0 (x16), tie signalmanlaw7_Act.El sd1 (a1), R] w0 w := HS
              refine ⟨_, Y.call Try.func13 (by kernel_rfl) rfl (vs := [Value.pointer (some ⟨bt5_0, 0, none⟩), Value.int .i64 (((a1).getD (x15).toNat default).Id)]) rfl (clock_Set_Stop.calls x18 (((a1).getD (x15).toNat default).Id) _ w0 _ bt5_0 t49  A50 (Sep.St.tailJoin (m := [clock_Set.at bt5_0 (x18)]) (r := [clock_Set.at bt7_0 (t29.2), blk nb28 (#[Value.int .i64 (((a1).getD (x15).toNat default).Way), Value.int .i64 (((a1).getD (x15).toNat default).Id), Value.int .i64 (((a1).getD (x15).toNat default).N)]) 39, signalmanref6_Clock.at bt9_0 (x16), tie signalmanlaw7_Act.El sd1 (a1), R]) HS)), ?_⟩
              rintro _ w ⟨rfl, HS⟩
              replace HS := Sep.St.tailOpen (m := [clock_Set.at bt5_0 (t49.2)]) (r := [clock_Set.at bt7_0 (t29.2), blk nb28 (#[Value.int .i64 (((a1).getD (x15).toNat default).Way), Value.int .i64 (((a1).getD (x15).toNat default).Id), Value.int .i64 (((a1).getD (x15).toNat default).N)]) 39, signalmanref6_Clock.at bt9_0 (x16), tie signalmanlaw7_Act.El sd1 (a1), R]) HS
              have HS : Sep.St [clock_Set.at bt5_0 (t49.2), clock_Set.at bt7_0 (t29.2), blk nb28 (#[Value.int .i64 (((a1).getD (x15).toNat default).Way), Value.int .i64 (((a1).getD (x15).toNat default).Id), Value.int .i64 (((a1).getD (x15).toNat default).N)]) 39, signalmanref6_Clock.at bt9_0 (x16), tie signalmanlaw7_Act.El sd1 (a1), R] w0 w := HS
              refine ⟨[(65, Value.bool (t49.1))], fun w => Sep.St [clock_Set.at bt5_0 (t49.2), clock_Set.at bt7_0 (t29.2), blk nb28 (#[Value.int .i64 (((a1).getD (x15).toNat default).Way), Value.int .i64 (((a1).getD (x15).toNat default).Id), Value.int .i64 (((a1).getD (x15).toNat default).N)]) 39, signalmanref6_Clock.at bt9_0 (x16), tie signalmanlaw7_Act.El sd1 (a1), R] w0 w, ⟨.inl ⟨rfl, rfl⟩, trivial⟩, ?_, HS⟩
              refine T.event _ [(66, Value.pointer (some ⟨bt9_0, 0, none⟩)), (68, Value.int .i64 (((a1).getD (x15).toNat default).Id))] rfl rfl ⟨⟨_, Value.pointer (some ⟨bt9_0, 0, none⟩), [(8, Value.pointer (some ⟨bt9_0, 0, none⟩))], 66, rfl, rfl, ⟨.inl ⟨rfl, rfl⟩, trivial⟩, .run rfl (fun w HS => X.move rfl), rfl, rfl, rfl⟩, ⟨_, Value.pointer (some ⟨nb28, 0 + 1, none⟩), [(10, Value.pointer (some ⟨nb28, 0, none⟩))], 67, rfl, rfl, ⟨.inl ⟨rfl, rfl⟩, trivial⟩, .run rfl (fun w HS => X.fieldAddr 1 fo39_1 rfl), rfl, rfl, rfl⟩, ⟨_, Value.int .i64 (((a1).getD (x15).toNat default).Id), [(67, Value.pointer (some ⟨nb28, 0 + 1, none⟩))], 68, rfl, rfl, ⟨.inr ⟨rfl, rfl⟩, trivial⟩, .run rfl (fun w HS => X.loadAt 2 HS rfl Try.underlying3 rfl rfl rfl), rfl, rfl, rfl⟩, trivial⟩ rfl ⟨.inr ⟨rfl, rfl⟩, ⟨.inr ⟨rfl, rfl⟩, trivial⟩⟩ (Or.inl rfl) (by intro d hd; cases hd; exact ⟨by decide, rfl, rfl⟩) [] [4, 5, 6] rfl rfl (fun w HS => ?_)
              have HS : Sep.St [clock_Set.at bt5_0 (t49.2), clock_Set.at bt7_0 (t29.2), blk nb28 (#[Value.int .i64 (((a1).getD (x15).toNat default).Way), Value.int .i64 (((a1).getD (x15).toNat default).Id), Value.int .i64 (((a1).getD (x15).toNat default).N)]) 39, signalmanref6_Clock.at bt9_0 (x16), tie signalmanlaw7_Act.El sd1 (a1), R] w0 w := HS
              obtain ⟨t51, A52, H⟩ := bind_s H
              replace HS := HS.re [3, 0, 1, 2, 4, 5] rfl
              have HS : Sep.St [signalmanref6_Clock.at bt9_0 (x16), clock_Set.at bt5_0 (t49.2), clock_Set.at bt7_0 (t29.2), blk nb28 (#[Value.int .i64 (((a1).getD (x15).toNat default).Way), Value.int .i64 (((a1).getD (x15).toNat default).Id), Value.int .i64 (((a1).getD (x15).toNat default).N)]) 39, tie signalmanlaw7_Act.El sd1 (a1), R] w0 w := HS
              refine ⟨_, Y.call Try.func16 (by kernel_rfl) rfl (vs := [Value.pointer (some ⟨bt9_0, 0, none⟩), Value.int .i64 (((a1).getD (x15).toNat default).Id)]) rfl (signalmanref6_Clock_Stop.calls x16 (((a1).getD (x15).toNat default).Id) _ w0 _ bt9_0 t51  A52 (Sep.St.tailJoin (m := [signalmanref6_Clock.at bt9_0 (x16)]) (r := [clock_Set.at bt5_0 (t49.2), clock_Set.at bt7_0 (t29.2), blk nb28 (#[Value.int .i64 (((a1).getD (x15).toNat default).Way), Value.int .i64 (((a1).getD (x15).toNat default).Id), Value.int .i64 (((a1).getD (x15).toNat default).N)]) 39, tie signalmanlaw7_Act.El sd1 (a1), R]) HS)), ?_⟩
              rintro _ w ⟨rfl, HS⟩
              replace HS := Sep.St.tailOpen (m := [signalmanref6_Clock.at bt9_0 (t51.2)]) (r := [clock_Set.at bt5_0 (t49.2), clock_Set.at bt7_0 (t29.2), blk nb28 (#[Value.int .i64 (((a1).getD (x15).toNat default).Way), Value.int .i64 (((a1).getD (x15).toNat default).Id), Value.int .i64 (((a1).getD (x15).toNat default).N)]) 39, tie signalmanlaw7_Act.El sd1 (a1), R]) HS
              have HS : Sep.St [signalmanref6_Clock.at bt9_0 (t51.2), clock_Set.at bt5_0 (t49.2), clock_Set.at bt7_0 (t29.2), blk nb28 (#[Value.int .i64 (((a1).getD (x15).toNat default).Way), Value.int .i64 (((a1).getD (x15).toNat default).Id), Value.int .i64 (((a1).getD (x15).toNat default).N)]) 39, tie signalmanlaw7_Act.El sd1 (a1), R] w0 w := HS
              refine ⟨[(69, Value.bool (t51.1)), (70, Value.bool (((t49.1) != (t51.1))))], fun w => Sep.St [signalmanref6_Clock.at bt9_0 (t51.2), clock_Set.at bt5_0 (t49.2), clock_Set.at bt7_0 (t29.2), blk nb28 (#[Value.int .i64 (((a1).getD (x15).toNat default).Way), Value.int .i64 (((a1).getD (x15).toNat default).Id), Value.int .i64 (((a1).getD (x15).toNat default).N)]) 39, tie signalmanlaw7_Act.El sd1 (a1), R] w0 w, ⟨.inl ⟨rfl, rfl⟩, ⟨.inr ⟨by decide, rfl⟩, trivial⟩⟩, ?_, HS⟩
              refine T.fin [(1, Value.slice (some ⟨eb23, eo24, none⟩) (a1).length sc1), (6, Value.pointer (some ⟨bt5_0, 0, none⟩)), (7, Value.pointer (some ⟨bt7_0, 0, none⟩)), (8, Value.pointer (some ⟨bt9_0, 0, none⟩)), (9, Value.int .i64 (x15)), (10, Value.pointer (some ⟨nb28, 0, none⟩)), (70, Value.bool (((t49.1) != (t51.1))))] rfl ⟨⟨_, Value.bool (((t49.1) != (t51.1))), [(65, Value.bool (t49.1)), (69, Value.bool (t51.1))], 70, rfl, rfl, ⟨.inr ⟨rfl, rfl⟩, ⟨.inr ⟨rfl, rfl⟩, trivial⟩⟩, .run rfl (fun w HS => X.neB Try.underlying4 rfl rfl), rfl, rfl, rfl⟩, trivial⟩ ⟨.inl ⟨rfl, rfl⟩, ⟨.inl ⟨rfl, rfl⟩, ⟨.inl ⟨rfl, rfl⟩, ⟨.inl ⟨rfl, rfl⟩, ⟨.inl ⟨rfl, rfl⟩, ⟨.inl ⟨rfl, rfl⟩, ⟨.inr ⟨rfl, rfl⟩, trivial⟩⟩⟩⟩⟩⟩⟩ (fun w HS => ?_)
              have HS : Sep.St [signalmanref6_Clock.at bt9_0 (t51.2), clock_Set.at bt5_0 (t49.2), clock_Set.at bt7_0 (t29.2), blk nb28 (#[Value.int .i64 (((a1).getD (x15).toNat default).Way), Value.int .i64 (((a1).getD (x15).toNat default).Id), Value.int .i64 (((a1).getD (x15).toNat default).N)]) 39, tie signalmanlaw7_Act.El sd1 (a1), R] w0 w := HS
              refine At.next ?_
              refine V.keep [(1, Value.slice (some ⟨eb23, eo24, none⟩) (a1).length sc1), (6, Value.pointer (some ⟨bt5_0, 0, none⟩)), (7, Value.pointer (some ⟨bt7_0, 0, none⟩)), (8, Value.pointer (some ⟨bt9_0, 0, none⟩)), (9, Value.int .i64 (x15)), (10, Value.pointer (some ⟨nb28, 0, none⟩)), (70, Value.bool (((t49.1) != (t51.1))))] ⟨rfl, rfl, rfl, rfl, rfl, rfl, rfl, trivial⟩ ?_
              by_cases c53 : ((t49.1) != (t51.1)) = true
              · replace H := ite_t c53 H
                refine V.condT (sb c53) ?_
                refine V.seq ?_
                refine V.region ?_
                refine W.rd (X.assign rfl) rfl rfl rfl ?_
                refine W.nil ?_
                refine At.next ?_
                refine V.keep [(4, Value.bool (false))] ⟨rfl, trivial⟩ ?_
                refine V.ret ?_
                refine At.blockRet ?_
                refine At.thenRet ?_
                refine At.blockRet ?_
                refine At.thenRet ?_
                refine At.thenRet ?_
                refine At.blockRet ?_
                refine At.thenRet ?_
                replace HS := HS.sel [5] [0, 1, 2, 3, 4] rfl
                cases H
                exact At.ret1 rfl rfl ⟨_, rfl, rfl, HS⟩
              · replace H := ite_f c53 H
                refine V.condF (sb (b_f c53)) ?_
                refine V.skip ?_
                refine At.blockEnd ?_
                refine At.next ?_
                refine V.keep [(1, Value.slice (some ⟨eb23, eo24, none⟩) (a1).length sc1), (6, Value.pointer (some ⟨bt5_0, 0, none⟩)), (7, Value.pointer (some ⟨bt7_0, 0, none⟩)), (8, Value.pointer (some ⟨bt9_0, 0, none⟩)), (9, Value.int .i64 (x15)), (10, Value.pointer (some ⟨nb28, 0, none⟩))] ⟨rfl, rfl, rfl, rfl, rfl, rfl, trivial⟩ ?_
                refine V.seq ?_
                refine V.region ?_
                refine W.rd (X.move rfl) rfl rfl rfl ?_
                refine W.rd (X.fieldAddr 1 fo39_1 rfl) rfl rfl rfl ?_
                refine W.rd (X.loadAt 3 HS rfl Try.underlying3 rfl rfl rfl) rfl rfl rfl ?_
                obtain ⟨t54, A55, H⟩ := bind_s H
                replace HS := HS.re [1, 0, 2, 3, 4, 5] rfl
                have HS : Sep.St [clock_Set.at bt5_0 (t49.2), signalmanref6_Clock.at bt9_0 (t51.2), clock_Set.at bt7_0 (t29.2), blk nb28 (#[Value.int .i64 (((a1).getD (x15).toNat default).Way), Value.int .i64 (((a1).getD (x15).toNat default).Id), Value.int .i64 (((a1).getD (x15).toNat default).N)]) 39, tie signalmanlaw7_Act.El sd1 (a1), R] w0 w := HS
                refine W.ev (Y.call Try.func12 (by kernel_rfl) rfl (vs := [Value.pointer (some ⟨bt5_0, 0, none⟩), Value.int .i64 (((a1).getD (x15).toNat default).Id)]) rfl (clock_Set_Left.calls t49.2 (((a1).getD (x15).toNat default).Id) _ w0 _ bt5_0 t54  A55 (Sep.St.tailJoin (m := [clock_Set.at bt5_0 (t49.2)]) (r := [signalmanref6_Clock.at bt9_0 (t51.2), clock_Set.at bt7_0 (t29.2), blk nb28 (#[Value.int .i64 (((a1).getD (x15).toNat default).Way), Value.int .i64 (((a1).getD (x15).toNat default).Id), Value.int .i64 (((a1).getD (x15).toNat default).N)]) 39, tie signalmanlaw7_Act.El sd1 (a1), R]) HS))) rfl rfl rfl ?_
                rintro _ w ⟨rfl, HS⟩
                replace HS := Sep.St.tailOpen (m := [clock_Set.at bt5_0 (t49.2)]) (r := [signalmanref6_Clock.at bt9_0 (t51.2), clock_Set.at bt7_0 (t29.2), blk nb28 (#[Value.int .i64 (((a1).getD (x15).toNat default).Way), Value.int .i64 (((a1).getD (x15).toNat default).Id), Value.int .i64 (((a1).getD (x15).toNat default).N)]) 39, tie signalmanlaw7_Act.El sd1 (a1), R]) HS
                have HS : Sep.St [clock_Set.at bt5_0 (t49.2), signalmanref6_Clock.at bt9_0 (t51.2), clock_Set.at bt7_0 (t29.2), blk nb28 (#[Value.int .i64 (((a1).getD (x15).toNat default).Way), Value.int .i64 (((a1).getD (x15).toNat default).Id), Value.int .i64 (((a1).getD (x15).toNat default).N)]) 39, tie signalmanlaw7_Act.El sd1 (a1), R] w0 w := HS
                refine W.rd (X.move rfl) rfl rfl rfl ?_
                refine W.rd (X.extract rfl rfl) rfl rfl rfl ?_
                refine W.rd (X.extract rfl rfl) rfl rfl rfl ?_
                refine W.rd (X.assign rfl) rfl rfl rfl ?_
                refine W.rd (X.assign rfl) rfl rfl rfl ?_
                refine W.nil ?_
                refine At.next ?_
                refine V.keep [(1, Value.slice (some ⟨eb23, eo24, none⟩) (a1).length sc1), (6, Value.pointer (some ⟨bt5_0, 0, none⟩)), (7, Value.pointer (some ⟨bt7_0, 0, none⟩)), (8, Value.pointer (some ⟨bt9_0, 0, none⟩)), (9, Value.int .i64 (x15)), (10, Value.pointer (some ⟨nb28, 0, none⟩)), (11, Value.int .i64 (t54.1)), (12, Value.bool (t54.2))] ⟨rfl, rfl, rfl, rfl, rfl, rfl, rfl, rfl, trivial⟩ ?_
                refine V.seq ?_
                refine V.region ?_
                refine W.rd (X.move rfl) rfl rfl rfl ?_
                refine W.rd (X.fieldAddr 1 fo39_1 rfl) rfl rfl rfl ?_
                refine W.rd (X.loadAt 3 HS rfl Try.underlying3 rfl rfl rfl) rfl rfl rfl ?_
                obtain ⟨t56, A57, H⟩ := bind_s H
                replace HS := HS.re [1, 0, 2, 3, 4, 5] rfl
                have HS : Sep.St [signalmanref6_Clock.at bt9_0 (t51.2), clock_Set.at bt5_0 (t49.2), clock_Set.at bt7_0 (t29.2), blk nb28 (#[Value.int .i64 (((a1).getD (x15).toNat default).Way), Value.int .i64 (((a1).getD (x15).toNat default).Id), Value.int .i64 (((a1).getD (x15).toNat default).N)]) 39, tie signalmanlaw7_Act.El sd1 (a1), R] w0 w := HS
                refine W.ev (Y.call Try.func18 (by kernel_rfl) rfl (vs := [Value.pointer (some ⟨bt9_0, 0, none⟩), Value.int .i64 (((a1).getD (x15).toNat default).Id)]) rfl (signalmanref6_Clock_Left.calls t51.2 (((a1).getD (x15).toNat default).Id) _ w0 _ bt9_0 t56  A57 (Sep.St.tailJoin (m := [signalmanref6_Clock.at bt9_0 (t51.2)]) (r := [clock_Set.at bt5_0 (t49.2), clock_Set.at bt7_0 (t29.2), blk nb28 (#[Value.int .i64 (((a1).getD (x15).toNat default).Way), Value.int .i64 (((a1).getD (x15).toNat default).Id), Value.int .i64 (((a1).getD (x15).toNat default).N)]) 39, tie signalmanlaw7_Act.El sd1 (a1), R]) HS))) rfl rfl rfl ?_
                rintro _ w ⟨rfl, HS⟩
                replace HS := Sep.St.tailOpen (m := [signalmanref6_Clock.at bt9_0 (t51.2)]) (r := [clock_Set.at bt5_0 (t49.2), clock_Set.at bt7_0 (t29.2), blk nb28 (#[Value.int .i64 (((a1).getD (x15).toNat default).Way), Value.int .i64 (((a1).getD (x15).toNat default).Id), Value.int .i64 (((a1).getD (x15).toNat default).N)]) 39, tie signalmanlaw7_Act.El sd1 (a1), R]) HS
                have HS : Sep.St [signalmanref6_Clock.at bt9_0 (t51.2), clock_Set.at bt5_0 (t49.2), clock_Set.at bt7_0 (t29.2), blk nb28 (#[Value.int .i64 (((a1).getD (x15).toNat default).Way), Value.int .i64 (((a1).getD (x15).toNat default).Id), Value.int .i64 (((a1).getD (x15).toNat default).N)]) 39, tie signalmanlaw7_Act.El sd1 (a1), R] w0 w := HS
                refine W.rd (X.move rfl) rfl rfl rfl ?_
                refine W.rd (X.extract rfl rfl) rfl rfl rfl ?_
                refine W.rd (X.extract rfl rfl) rfl rfl rfl ?_
                refine W.rd (X.assign rfl) rfl rfl rfl ?_
                refine W.rd (X.assign rfl) rfl rfl rfl ?_
                refine W.nil ?_
                refine At.next ?_
                refine V.keep [(1, Value.slice (some ⟨eb23, eo24, none⟩) (a1).length sc1), (6, Value.pointer (some ⟨bt5_0, 0, none⟩)), (7, Value.pointer (some ⟨bt7_0, 0, none⟩)), (8, Value.pointer (some ⟨bt9_0, 0, none⟩)), (9, Value.int .i64 (x15)), (11, Value.int .i64 (t54.1)), (12, Value.bool (t54.2)), (13, Value.int .i64 (t56.1)), (14, Value.bool (t56.2))] ⟨rfl, rfl, rfl, rfl, rfl, rfl, rfl, rfl, rfl, trivial⟩ ?_
                refine V.seq ?_
                refine V.region ?_
                refine W.rd (X.move rfl) rfl rfl rfl ?_
                refine W.rd (X.move rfl) rfl rfl rfl ?_
                refine W.rd (X.cmp (!(decide (t54.1 = t56.1))) rfl rfl rfl rfl) rfl rfl rfl ?_
                refine W.rd (X.move rfl) rfl rfl rfl ?_
                by_cases c58 : t54.1 = t56.1
                · replace H := ite_t c58 H
                  refine W.want 100 rfl (sb (n_t (decide_eq_true c58))) ?_
                  refine W.rd (X.move rfl) rfl rfl rfl ?_
                  refine W.want 100 rfl (sb (n_t (decide_eq_true c58))) ?_
                  refine W.rd (X.move rfl) rfl rfl rfl ?_
                  refine W.want 100 rfl (sb (n_t (decide_eq_true c58))) ?_
                  refine W.rd (X.neB Try.underlying4 rfl rfl) rfl rfl rfl ?_
                  refine W.rd (X.pickF (sb (n_t (decide_eq_true c58))) rfl) rfl rfl rfl ?_
                  refine W.rd (X.move rfl) rfl rfl rfl ?_
                  by_cases c59 : ((t54.2) != (t56.2)) = true
                  · replace H := ite_t c59 H
                    refine W.pass 105 rfl (sb c59) rfl rfl ?_
                    refine W.pass 105 rfl (sb c59) rfl rfl ?_
                    refine W.pass 105 rfl (sb c59) rfl rfl ?_
                    refine W.pass 105 rfl (sb c59) rfl rfl ?_
                    refine W.pass 105 rfl (sb c59) rfl rfl ?_
                    refine W.rd (X.pickT (sb c59) rfl) rfl rfl rfl ?_
                    refine W.nil ?_
                    refine At.next ?_
                    refine V.keep [(1, Value.slice (some ⟨eb23, eo24, none⟩) (a1).length sc1), (6, Value.pointer (some ⟨bt5_0, 0, none⟩)), (7, Value.pointer (some ⟨bt7_0, 0, none⟩)), (8, Value.pointer (some ⟨bt9_0, 0, none⟩)), (9, Value.int .i64 (x15)), (101, Value.bool (t54.2)), (102, Value.bool (t56.2)), (103, Value.bool (((t54.2) != (t56.2)))), (106, undef), (107, undef), (108, undef), (109, undef), (110, undef), (111, Value.bool (true))] ⟨rfl, rfl, rfl, rfl, rfl, rfl, rfl, rfl, rfl, rfl, rfl, rfl, rfl, rfl, trivial⟩ ?_
                    refine V.condT rfl ?_
                    refine V.seq ?_
                    refine V.region ?_
                    refine W.rd (X.assign rfl) rfl rfl rfl ?_
                    refine W.nil ?_
                    refine At.next ?_
                    refine V.keep [(4, Value.bool (false))] ⟨rfl, trivial⟩ ?_
                    refine V.ret ?_
                    refine At.blockRet ?_
                    refine At.thenRet ?_
                    refine At.thenRet ?_
                    refine At.blockRet ?_
                    refine At.thenRet ?_
                    replace HS := HS.sel [5] [0, 1, 2, 3, 4] rfl
                    cases H
                    exact At.ret1 rfl rfl ⟨_, rfl, rfl, HS⟩
                  · replace H := ite_f c59 H
                    refine W.want 105 rfl (sb (b_f c59)) ?_
                    refine W.rd (X.move rfl) rfl rfl rfl ?_
                    refine W.want 105 rfl (sb (b_f c59)) ?_
                    obtain ⟨t60, A61, H⟩ := bind_s H
                    replace HS := HS.re [1, 0, 2, 3, 4, 5] rfl
                    have HS : Sep.St [clock_Set.at bt5_0 (t49.2), signalmanref6_Clock.at bt9_0 (t51.2), clock_Set.at bt7_0 (t29.2), blk nb28 (#[Value.int .i64 (((a1).getD (x15).toNat default).Way), Value.int .i64 (((a1).getD (x15).toNat default).Id), Value.int .i64 (((a1).getD (x15).toNat default).N)]) 39, tie signalmanlaw7_Act.El sd1 (a1), R] w0 w := HS
                    refine W.ev (Y.call Try.func19 (by kernel_rfl) rfl (vs := [Value.pointer (some ⟨bt5_0, 0, none⟩)]) rfl (clock_Set_Now.calls t49.2 _ w0 _ bt5_0 t60  A61 (Sep.St.tailJoin (m := [clock_Set.at bt5_0 (t49.2)]) (r := [signalmanref6_Clock.at bt9_0 (t51.2), clock_Set.at bt7_0 (t29.2), blk nb28 (#[Value.int .i64 (((a1).getD (x15).toNat default).Way), Value.int .i64 (((a1).getD (x15).toNat default).Id), Value.int .i64 (((a1).getD (x15).toNat default).N)]) 39, tie signalmanlaw7_Act.El sd1 (a1), R]) HS))) rfl rfl rfl ?_
                    rintro _ w ⟨rfl, HS⟩
                    replace HS := Sep.St.tailOpen (m := [clock_Set.at bt5_0 (t49.2)]) (r := [signalmanref6_Clock.at bt9_0 (t51.2), clock_Set.at bt7_0 (t29.2), blk nb28 (#[Value.int .i64 (((a1).getD (x15).toNat default).Way), Value.int .i64 (((a1).getD (x15).toNat default).Id), Value.int .i64 (((a1).getD (x15).toNat default).N)]) 39, tie signalmanlaw7_Act.El sd1 (a1), R]) HS
                    have HS : Sep.St [clock_Set.at bt5_0 (t49.2), signalmanref6_Clock.at bt9_0 (t51.2), clock_Set.at bt7_0 (t29.2), blk nb28 (#[Value.int .i64 (((a1).getD (x15).toNat default).Way), Value.int .i64 (((a1).getD (x15).toNat default).Id), Value.int .i64 (((a1).getD (x15).toNat default).N)]) 39, tie signalmanlaw7_Act.El sd1 (a1), R] w0 w := HS
                    refine W.want 105 rfl (sb (b_f c59)) ?_
                    refine W.rd (X.move rfl) rfl rfl rfl ?_
                    refine W.want 105 rfl (sb (b_f c59)) ?_
                    obtain ⟨t62, A63, H⟩ := bind_s H
                    replace HS := HS.re [1, 0, 2, 3, 4, 5] rfl
                    have HS : Sep.St [signalmanref6_Clock.at bt9_0 (t51.2), clock_Set.at bt5_0 (t49.2), clock_Set.at bt7_0 (t29.2), blk nb28 (#[Value.int .i64 (((a1).getD (x15).toNat default).Way), Value.int .i64 (((a1).getD (x15).toNat default).Id), Value.int .i64 (((a1).getD (x15).toNat default).N)]) 39, tie signalmanlaw7_Act.El sd1 (a1), R] w0 w := HS
                    refine W.ev (Y.call Try.func20 (by kernel_rfl) rfl (vs := [Value.pointer (some ⟨bt9_0, 0, none⟩)]) rfl (signalmanref6_Clock_Now.calls t51.2 _ w0 _ bt9_0 t62  A63 (Sep.St.tailJoin (m := [signalmanref6_Clock.at bt9_0 (t51.2)]) (r := [clock_Set.at bt5_0 (t49.2), clock_Set.at bt7_0 (t29.2), blk nb28 (#[Value.int .i64 (((a1).getD (x15).toNat default).Way), Value.int .i64 (((a1).getD (x15).toNat default).Id), Value.int .i64 (((a1).getD (x15).toNat default).N)]) 39, tie signalmanlaw7_Act.El sd1 (a1), R]) HS))) rfl rfl rfl ?_
                    rintro _ w ⟨rfl, HS⟩
                    replace HS := Sep.St.tailOpen (m := [signalmanref6_Clock.at bt9_0 (t51.2)]) (r := [clock_Set.at bt5_0 (t49.2), clock_Set.at bt7_0 (t29.2), blk nb28 (#[Value.int .i64 (((a1).getD (x15).toNat default).Way), Value.int .i64 (((a1).getD (x15).toNat default).Id), Value.int .i64 (((a1).getD (x15).toNat default).N)]) 39, tie signalmanlaw7_Act.El sd1 (a1), R]) HS
                    have HS : Sep.St [signalmanref6_Clock.at bt9_0 (t51.2), clock_Set.at bt5_0 (t49.2), clock_Set.at bt7_0 (t29.2), blk nb28 (#[Value.int .i64 (((a1).getD (x15).toNat default).Way), Value.int .i64 (((a1).getD (x15).toNat default).Id), Value.int .i64 (((a1).getD (x15).toNat default).N)]) 39, tie signalmanlaw7_Act.El sd1 (a1), R] w0 w := HS
                    refine W.want 105 rfl (sb (b_f c59)) ?_
                    refine W.rd (X.cmp (!(decide (t60 = t62))) rfl rfl rfl rfl) rfl rfl rfl ?_
                    refine W.rd (X.pickF (sb (b_f c59)) rfl) rfl rfl rfl ?_
                    refine W.nil ?_
                    refine At.next ?_
                    refine V.keep [(1, Value.slice (some ⟨eb23, eo24, none⟩) (a1).length sc1), (6, Value.pointer (some ⟨bt5_0, 0, none⟩)), (7, Value.pointer (some ⟨bt7_0, 0, none⟩)), (8, Value.pointer (some ⟨bt9_0, 0, none⟩)), (9, Value.int .i64 (x15)), (101, Value.bool (t54.2)), (102, Value.bool (t56.2)), (103, Value.bool (((t54.2) != (t56.2)))), (106, Value.pointer (some ⟨bt5_0, 0, none⟩)), (107, Value.int .u32 (t60)), (108, Value.pointer (some ⟨bt9_0, 0, none⟩)), (109, Value.int .u32 (t62)), (110, Value.bool (!(decide (t60 = t62)))), (111, Value.bool (!(decide (t60 = t62))))] ⟨rfl, rfl, rfl, rfl, rfl, rfl, rfl, rfl, rfl, rfl, rfl, rfl, rfl, rfl, trivial⟩ ?_
                    by_cases c64 : t60 = t62
                    · replace H := ite_t c64 H
                      refine V.condF (sb (n_t (decide_eq_true c64))) ?_
                      refine V.skip ?_
                      refine At.blockEnd ?_
                      refine At.next ?_
                      refine V.keep [(1, Value.slice (some ⟨eb23, eo24, none⟩) (a1).length sc1), (6, Value.pointer (some ⟨bt5_0, 0, none⟩)), (7, Value.pointer (some ⟨bt7_0, 0, none⟩)), (8, Value.pointer (some ⟨bt9_0, 0, none⟩)), (9, Value.int .i64 (x15)), (101, Value.bool (t54.2)), (102, Value.bool (t56.2)), (103, Value.bool (((t54.2) != (t56.2)))), (106, Value.pointer (some ⟨bt5_0, 0, none⟩)), (107, Value.int .u32 (t60)), (108, Value.pointer (some ⟨bt9_0, 0, none⟩)), (109, Value.int .u32 (t62)), (110, Value.bool (!(decide (t60 = t62))))] ⟨rfl, rfl, rfl, rfl, rfl, rfl, rfl, rfl, rfl, rfl, rfl, rfl, rfl, trivial⟩ ?_
                      refine V.region ?_
                      refine W.rd (X.move rfl) rfl rfl rfl ?_
                      refine W.rd (X.add rfl rfl) rfl rfl rfl ?_
                      refine W.rd (X.assign rfl) rfl rfl rfl ?_
                      refine W.nil ?_
                      replace HS := HS.sel [0, 2, 1, 4, 5] [3] rfl
                      exact At.round kq19 (by omega) (w64 (x15 + 1), t51.2, t29.2, t49.2) ⟨rfl, rfl, rfl, rfl, rfl, trivial⟩ ⟨HS, H, by omega⟩
                    · replace H := ite_f c64 H
                      refine V.condT (sb (n_f (decide_eq_false c64))) ?_
                      refine V.seq ?_
                      refine V.region ?_
                      refine W.rd (X.assign rfl) rfl rfl rfl ?_
                      refine W.nil ?_
                      refine At.next ?_
                      refine V.keep [(4, Value.bool (false))] ⟨rfl, trivial⟩ ?_
                      refine V.ret ?_
                      refine At.blockRet ?_
                      refine At.thenRet ?_
                      refine At.thenRet ?_
                      refine At.blockRet ?_
                      refine At.thenRet ?_
                      replace HS := HS.sel [5] [0, 1, 2, 3, 4] rfl
                      cases H
                      exact At.ret1 rfl rfl ⟨_, rfl, rfl, HS⟩
                · replace H := ite_f c58 H
                  refine W.pass 100 rfl (sb (n_f (decide_eq_false c58))) rfl rfl ?_
                  refine W.pass 100 rfl (sb (n_f (decide_eq_false c58))) rfl rfl ?_
                  refine W.pass 100 rfl (sb (n_f (decide_eq_false c58))) rfl rfl ?_
                  refine W.rd (X.pickT (sb (n_f (decide_eq_false c58))) rfl) rfl rfl rfl ?_
                  refine W.rd (X.move rfl) rfl rfl rfl ?_
                  refine W.pass 105 rfl rfl rfl rfl ?_
                  refine W.pass 105 rfl rfl rfl rfl ?_
                  refine W.pass 105 rfl rfl rfl rfl ?_
                  refine W.pass 105 rfl rfl rfl rfl ?_
                  refine W.pass 105 rfl rfl rfl rfl ?_
                  refine W.rd (X.pickT rfl rfl) rfl rfl rfl ?_
                  refine W.nil ?_
                  refine At.next ?_
                  refine V.keep [(1, Value.slice (some ⟨eb23, eo24, none⟩) (a1).length sc1), (6, Value.pointer (some ⟨bt5_0, 0, none⟩)), (7, Value.pointer (some ⟨bt7_0, 0, none⟩)), (8, Value.pointer (some ⟨bt9_0, 0, none⟩)), (9, Value.int .i64 (x15)), (101, undef), (102, undef), (103, undef), (106, undef), (107, undef), (108, undef), (109, undef), (110, undef), (111, Value.bool (true))] ⟨rfl, rfl, rfl, rfl, rfl, rfl, rfl, rfl, rfl, rfl, rfl, rfl, rfl, rfl, trivial⟩ ?_
                  refine V.condT rfl ?_
                  refine V.seq ?_
                  refine V.region ?_
                  refine W.rd (X.assign rfl) rfl rfl rfl ?_
                  refine W.nil ?_
                  refine At.next ?_
                  refine V.keep [(4, Value.bool (false))] ⟨rfl, trivial⟩ ?_
                  refine V.ret ?_
                  refine At.blockRet ?_
                  refine At.thenRet ?_
                  refine At.thenRet ?_
                  refine At.blockRet ?_
                  refine At.thenRet ?_
                  replace HS := HS.sel [5] [0, 1, 2, 3, 4] rfl
                  cases H
                  exact At.ret1 rfl rfl ⟨_, rfl, rfl, HS⟩
            · replace H := ite_f c48 H
              refine V.condF (sb (decide_eq_false c48)) ?_
              refine V.seq ?_
              refine V.region ?_
              refine W.rd (X.cmp (decide ((((a1).getD (x15).toNat default).Way) = 2)) rfl rfl rfl rfl) rfl rfl rfl ?_
              refine W.rd (X.assign rfl) rfl rfl rfl ?_
              refine W.nil ?_
              refine At.next ?_
              refine V.keep [(1, Value.slice (some ⟨eb23, eo24, none⟩) (a1).length sc1), (6, Value.pointer (some ⟨bt5_0, 0, none⟩)), (7, Value.pointer (some ⟨bt7_0, 0, none⟩)), (8, Value.pointer (some ⟨bt9_0, 0, none⟩)), (9, Value.int .i64 (x15)), (10, Value.pointer (some ⟨nb28, 0, none⟩)), (71, Value.bool (decide ((((a1).getD (x15).toNat default).Way) = 2)))] ⟨rfl, rfl, rfl, rfl, rfl, rfl, rfl, trivial⟩ ?_
              by_cases c65 : (((a1).getD (x15).toNat default).Way) = 2
              · replace H := ite_t c65 H
                refine V.condT (sb (decide_eq_true c65)) ?_
                refine V.seq ?_
                refine V.draw (es := [3, 7, 8]) (bl := [9]) (f := [(73, Value.pointer (some ⟨bt5_0, 0, none⟩)), (74, Value.pointer (some ⟨nb28, 0 + 2, none⟩)), (75, Value.int .i64 (((a1).getD (x15).toNat default).N)), (77, Value.pointer (some ⟨bt9_0, 0, none⟩)), (78, Value.pointer (some ⟨nb28, 0 + 2, none⟩)), (79, Value.int .i64 (((a1).getD (x15).toNat default).N))]) (fun w => Sep.St [clock_Set.at bt7_0 (t29.2), blk nb28 (#[Value.int .i64 (((a1).getD (x15).toNat default).Way), Value.int .i64 (((a1).getD (x15).toNat default).Id), Value.int .i64 (((a1).getD (x15).toNat default).N)]) 39, signalmanref6_Clock.at bt9_0 (x16), clock_Set.at bt5_0 (x18), tie signalmanlaw7_Act.El sd1 (a1), R] w0 w) mo HS.drew rfl ?_
                refine T.event _ [(73, Value.pointer (some ⟨bt5_0, 0, none⟩)), (75, Value.int .i64 (((a1).getD (x15).toNat default).N))] rfl rfl ⟨⟨_, Value.pointer (some ⟨bt5_0, 0, none⟩), [(6, Value.pointer (some ⟨bt5_0, 0, none⟩))], 73, rfl, rfl, ⟨.inl ⟨rfl, rfl⟩, trivial⟩, .run rfl (fun w HS => X.move rfl), rfl, rfl, rfl⟩, ⟨_, Value.pointer (some ⟨nb28, 0 + 2, none⟩), [(10, Value.pointer (some ⟨nb28, 0, none⟩))], 74, rfl, rfl, ⟨.inl ⟨rfl, rfl⟩, trivial⟩, .run rfl (fun w HS => X.fieldAddr 2 fo39_2 rfl), rfl, rfl, rfl⟩, ⟨_, Value.int .i64 (((a1).getD (x15).toNat default).N), [(74, Value.pointer (some ⟨nb28, 0 + 2, none⟩))], 75, rfl, rfl, ⟨.inr ⟨rfl, rfl⟩, trivial⟩, .run rfl (fun w HS => X.loadAt 1 HS rfl Try.underlying3 rfl rfl rfl), rfl, rfl, rfl⟩, ⟨_, Value.pointer (some ⟨bt9_0, 0, none⟩), [(8, Value.pointer (some ⟨bt9_0, 0, none⟩))], 77, rfl, rfl, ⟨.inl ⟨rfl, rfl⟩, trivial⟩, .run rfl (fun w HS => X.move rfl), rfl, rfl, rfl⟩, ⟨_, Value.pointer (some ⟨nb28, 0 + 2, none⟩), [(10, Value.pointer (some ⟨nb28, 0, none⟩))], 78, rfl, rfl, ⟨.inl ⟨rfl, rfl⟩, trivial⟩, .run rfl (fun w HS => X.fieldAddr 2 fo39_2 rfl), rfl, rfl, rfl⟩, ⟨_, Value.int .i64 (((a1).getD (x15).toNat default).N), [(78, Value.pointer (some ⟨nb28, 0 + 2, none⟩))], 79, rfl, rfl, ⟨.inr ⟨rfl, rfl⟩, trivial⟩, .run rfl (fun w HS => X.loadAt 1 HS rfl Try.underlying3 rfl rfl rfl), rfl, rfl, rfl⟩, trivial⟩ rfl ⟨.inr ⟨rfl, rfl⟩, ⟨.inr ⟨rfl, rfl⟩, trivial⟩⟩ (Or.inl rfl) (by intro d hd; cases hd; exact ⟨by decide, rfl, rfl⟩) [9] [0, 1, 2] rfl rfl (fun w HS => ?_)
                have HS : Sep.St [clock_Set.at bt7_0 (t29.2), blk nb28 (#[Value.int .i64 (((a1).getD (x15).toNat default).Way), Value.int .i64 (((a1).getD (x15).toNat default).Id), Value.int .i64 (((a1).getD (x15).toNat default).N)]) 39, signalmanref6_Clock.at bt9_0 (x16), clock_Set.at bt5_0 (x18), tie signalmanlaw7_Act.El sd1 (a1), R] w0 w := HS
                obtain ⟨t66, A67, H⟩ := bind_s H
                replace HS := HS.re [3, 0, 1, 2, 4, 5] rfl
                have HS : Sep.St [clock_Set.at bt5_0 (x18), clock_Set.at bt7_0 (t29.2), blk nb28 (#[Value.int .i64 (((a1).getD (x15).toNat default).Way), Value.int .i64 (((a1).getD (x15).toNat default).Id), Value.int .i64 (((a1).getD (x15).toNat default).N)]) 39, signalmanref6_Clock.at bt9_0 (x16), tie signalmanlaw7_Act.El sd1 (a1), R] w0 w := HS
                refine ⟨_, Y.call Try.func10 (by kernel_rfl) rfl (vs := [Value.pointer (some ⟨bt5_0, 0, none⟩), Value.int .i64 (((a1).getD (x15).toNat default).N)]) rfl (clock_Set_Pass.calls kq19 x18 (((a1).getD (x15).toNat default).N) _ w0 _ bt5_0 t66  A67 (Sep.St.tailJoin (m := [clock_Set.at bt5_0 (x18)]) (r := [clock_Set.at bt7_0 (t29.2), blk nb28 (#[Value.int .i64 (((a1).getD (x15).toNat default).Way), Value.int .i64 (((a1).getD (x15).toNat default).Id), Value.int .i64 (((a1).getD (x15).toNat default).N)]) 39, signalmanref6_Clock.at bt9_0 (x16), tie signalmanlaw7_Act.El sd1 (a1), R]) HS)), ?_⟩
                rintro _ w ⟨at66_0, ct66_0, rfl, HS⟩
                replace HS := Sep.St.tailOpen (m := [row 3 1 (.slice at66_0 (t66.1).length ct66_0) (t66.1).length ((t66.1).map (Value.int .i64)), clock_Set.at bt5_0 (t66.2)]) (r := [clock_Set.at bt7_0 (t29.2), blk nb28 (#[Value.int .i64 (((a1).getD (x15).toNat default).Way), Value.int .i64 (((a1).getD (x15).toNat default).Id), Value.int .i64 (((a1).getD (x15).toNat default).N)]) 39, signalmanref6_Clock.at bt9_0 (x16), tie signalmanlaw7_Act.El sd1 (a1), R]) HS
                have HS : Sep.St [row 3 1 (.slice at66_0 (t66.1).length ct66_0) (t66.1).length ((t66.1).map (Value.int .i64)), clock_Set.at bt5_0 (t66.2), clock_Set.at bt7_0 (t29.2), blk nb28 (#[Value.int .i64 (((a1).getD (x15).toNat default).Way), Value.int .i64 (((a1).getD (x15).toNat default).Id), Value.int .i64 (((a1).getD (x15).toNat default).N)]) 39, signalmanref6_Clock.at bt9_0 (x16), tie signalmanlaw7_Act.El sd1 (a1), R] w0 w := HS
                refine ⟨[(76, Value.slice at66_0 (t66.1).length ct66_0)], fun w => Sep.St [row 3 1 (.slice at66_0 (t66.1).length ct66_0) (t66.1).length ((t66.1).map (Value.int .i64)), clock_Set.at bt5_0 (t66.2), clock_Set.at bt7_0 (t29.2), blk nb28 (#[Value.int .i64 (((a1).getD (x15).toNat default).Way), Value.int .i64 (((a1).getD (x15).toNat default).Id), Value.int .i64 (((a1).getD (x15).toNat default).N)]) 39, signalmanref6_Clock.at bt9_0 (x16), tie signalmanlaw7_Act.El sd1 (a1), R] w0 w, ⟨.inl ⟨rfl, rfl⟩, trivial⟩, ?_, HS⟩
                refine T.event _ [(77, Value.pointer (some ⟨bt9_0, 0, none⟩)), (79, Value.int .i64 (((a1).getD (x15).toNat default).N))] rfl rfl ⟨⟨_, Value.pointer (some ⟨bt9_0, 0, none⟩), [(8, Value.pointer (some ⟨bt9_0, 0, none⟩))], 77, rfl, rfl, ⟨.inl ⟨rfl, rfl⟩, trivial⟩, .run rfl (fun w HS => X.move rfl), rfl, rfl, rfl⟩, ⟨_, Value.pointer (some ⟨nb28, 0 + 2, none⟩), [(10, Value.pointer (some ⟨nb28, 0, none⟩))], 78, rfl, rfl, ⟨.inl ⟨rfl, rfl⟩, trivial⟩, .run rfl (fun w HS => X.fieldAddr 2 fo39_2 rfl), rfl, rfl, rfl⟩, ⟨_, Value.int .i64 (((a1).getD (x15).toNat default).N), [(78, Value.pointer (some ⟨nb28, 0 + 2, none⟩))], 79, rfl, rfl, ⟨.inr ⟨rfl, rfl⟩, trivial⟩, .run rfl (fun w HS => X.loadAt 3 HS rfl Try.underlying3 rfl rfl rfl), rfl, rfl, rfl⟩, trivial⟩ rfl ⟨.inr ⟨rfl, rfl⟩, ⟨.inr ⟨rfl, rfl⟩, trivial⟩⟩ (Or.inl rfl) (by intro d hd; cases hd; exact ⟨by decide, rfl, rfl⟩) [9] [4, 5, 6] rfl rfl (fun w HS => ?_)
                have HS : Sep.St [row 3 1 (.slice at66_0 (t66.1).length ct66_0) (t66.1).length ((t66.1).map (Value.int .i64)), clock_Set.at bt5_0 (t66.2), clock_Set.at bt7_0 (t29.2), blk nb28 (#[Value.int .i64 (((a1).getD (x15).toNat default).Way), Value.int .i64 (((a1).getD (x15).toNat default).Id), Value.int .i64 (((a1).getD (x15).toNat default).N)]) 39, signalmanref6_Clock.at bt9_0 (x16), tie signalmanlaw7_Act.El sd1 (a1), R] w0 w := HS
                obtain ⟨t68, A69, H⟩ := bind_s H
                replace HS := HS.re [4, 0, 1, 2, 3, 5, 6] rfl
                have HS : Sep.St [signalmanref6_Clock.at bt9_0 (x16), row 3 1 (.slice at66_0 (t66.1).length ct66_0) (t66.1).length ((t66.1).map (Value.int .i64)), clock_Set.at bt5_0 (t66.2), clock_Set.at bt7_0 (t29.2), blk nb28 (#[Value.int .i64 (((a1).getD (x15).toNat default).Way), Value.int .i64 (((a1).getD (x15).toNat default).Id), Value.int .i64 (((a1).getD (x15).toNat default).N)]) 39, tie signalmanlaw7_Act.El sd1 (a1), R] w0 w := HS
                refine ⟨_, Y.call Try.func17 (by kernel_rfl) rfl (vs := [Value.pointer (some ⟨bt9_0, 0, none⟩), Value.int .i64 (((a1).getD (x15).toNat default).N)]) rfl (signalmanref6_Clock_Pass.calls kq19 x16 (((a1).getD (x15).toNat default).N) _ w0 _ bt9_0 t68  A69 (Sep.St.tailJoin (m := [signalmanref6_Clock.at bt9_0 (x16)]) (r := [row 3 1 (.slice at66_0 (t66.1).length ct66_0) (t66.1).length ((t66.1).map (Value.int .i64)), clock_Set.at bt5_0 (t66.2), clock_Set.at bt7_0 (t29.2), blk nb28 (#[Value.int .i64 (((a1).getD (x15).toNat default).Way), Value.int .i64 (((a1).getD (x15).toNat default).Id), Value.int .i64 (((a1).getD (x15).toNat default).N)]) 39, tie signalmanlaw7_Act.El sd1 (a1), R]) HS)), ?_⟩
                rintro _ w ⟨at68_0, ct68_0, rfl, HS⟩
                replace HS := Sep.St.tailOpen (m := [row 3 1 (.slice at68_0 (t68.1).length ct68_0) (t68.1).length ((t68.1).map (Value.int .i64)), signalmanref6_Clock.at bt9_0 (t68.2)]) (r := [row 3 1 (.slice at66_0 (t66.1).length ct66_0) (t66.1).length ((t66.1).map (Value.int .i64)), clock_Set.at bt5_0 (t66.2), clock_Set.at bt7_0 (t29.2), blk nb28 (#[Value.int .i64 (((a1).getD (x15).toNat default).Way), Value.int .i64 (((a1).getD (x15).toNat default).Id), Value.int .i64 (((a1).getD (x15).toNat default).N)]) 39, tie signalmanlaw7_Act.El sd1 (a1), R]) HS
                have HS : Sep.St [row 3 1 (.slice at68_0 (t68.1).length ct68_0) (t68.1).length ((t68.1).map (Value.int .i64)), signalmanref6_Clock.at bt9_0 (t68.2), row 3 1 (.slice at66_0 (t66.1).length ct66_0) (t66.1).length ((t66.1).map (Value.int .i64)), clock_Set.at bt5_0 (t66.2), clock_Set.at bt7_0 (t29.2), blk nb28 (#[Value.int .i64 (((a1).getD (x15).toNat default).Way), Value.int .i64 (((a1).getD (x15).toNat default).Id), Value.int .i64 (((a1).getD (x15).toNat default).N)]) 39, tie signalmanlaw7_Act.El sd1 (a1), R] w0 w := HS
                refine ⟨[(80, Value.slice at68_0 (t68.1).length ct68_0)], fun w => Sep.St [row 3 1 (.slice at68_0 (t68.1).length ct68_0) (t68.1).length ((t68.1).map (Value.int .i64)), signalmanref6_Clock.at bt9_0 (t68.2), row 3 1 (.slice at66_0 (t66.1).length ct66_0) (t66.1).length ((t66.1).map (Value.int .i64)), clock_Set.at bt5_0 (t66.2), clock_Set.at bt7_0 (t29.2), blk nb28 (#[Value.int .i64 (((a1).getD (x15).toNat default).Way), Value.int .i64 (((a1).getD (x15).toNat default).Id), Value.int .i64 (((a1).getD (x15).toNat default).N)]) 39, tie signalmanlaw7_Act.El sd1 (a1), R] w0 w, ⟨.inl ⟨rfl, rfl⟩, trivial⟩, ?_, HS⟩
                refine T.event _ [(76, Value.slice at66_0 (t66.1).length ct66_0), (80, Value.slice at68_0 (t68.1).length ct68_0)] rfl rfl trivial rfl ⟨.inr ⟨rfl, rfl⟩, ⟨.inr ⟨rfl, rfl⟩, trivial⟩⟩ (Or.inl rfl) (by intro d hd; cases hd; exact ⟨by decide, rfl, rfl⟩) [] [] rfl rfl (fun w HS => ?_)
                have HS : Sep.St [row 3 1 (.slice at68_0 (t68.1).length ct68_0) (t68.1).length ((t68.1).map (Value.int .i64)), signalmanref6_Clock.at bt9_0 (t68.2), row 3 1 (.slice at66_0 (t66.1).length ct66_0) (t66.1).length ((t66.1).map (Value.int .i64)), clock_Set.at bt5_0 (t66.2), clock_Set.at bt7_0 (t29.2), blk nb28 (#[Value.int .i64 (((a1).getD (x15).toNat default).Way), Value.int .i64 (((a1).getD (x15).toNat default).Id), Value.int .i64 (((a1).getD (x15).toNat default).N)]) 39, tie signalmanlaw7_Act.El sd1 (a1), R] w0 w := HS
                obtain ⟨t70, A71, H⟩ := bind_s H
                refine ⟨_, Y.call Try.func11 (by kernel_rfl) rfl (vs := [Value.slice at66_0 (t66.1).length ct66_0, Value.slice at68_0 (t68.1).length ct68_0]) rfl (signalmanref6_SameInts.calls kq19 t66.1 t68.1 _ w0 _ at66_0 ct66_0 at68_0 ct68_0 t70 (rdC.part 2 row_rd rfl) (rdC.part 0 row_rd rfl) A71 (Sep.St.tailJoin (m := []) (r := [row 3 1 (.slice at68_0 (t68.1).length ct68_0) (t68.1).length ((t68.1).map (Value.int .i64)), signalmanref6_Clock.at bt9_0 (t68.2), row 3 1 (.slice at66_0 (t66.1).length ct66_0) (t66.1).length ((t66.1).map (Value.int .i64)), clock_Set.at bt5_0 (t66.2), clock_Set.at bt7_0 (t29.2), blk nb28 (#[Value.int .i64 (((a1).getD (x15).toNat default).Way), Value.int .i64 (((a1).getD (x15).toNat default).Id), Value.int .i64 (((a1).getD (x15).toNat default).N)]) 39, tie signalmanlaw7_Act.El sd1 (a1), R]) HS)), ?_⟩
                rintro _ w ⟨rfl, HS⟩
                replace HS := Sep.St.tailOpen (m := []) (r := [row 3 1 (.slice at68_0 (t68.1).length ct68_0) (t68.1).length ((t68.1).map (Value.int .i64)), signalmanref6_Clock.at bt9_0 (t68.2), row 3 1 (.slice at66_0 (t66.1).length ct66_0) (t66.1).length ((t66.1).map (Value.int .i64)), clock_Set.at bt5_0 (t66.2), clock_Set.at bt7_0 (t29.2), blk nb28 (#[Value.int .i64 (((a1).getD (x15).toNat default).Way), Value.int .i64 (((a1).getD (x15).toNat default).Id), Value.int .i64 (((a1).getD (x15).toNat default).N)]) 39, tie signalmanlaw7_Act.El sd1 (a1), R]) HS
                have HS : Sep.St [row 3 1 (.slice at68_0 (t68.1).length ct68_0) (t68.1).length ((t68.1).map (Value.int .i64)), signalmanref6_Clock.at bt9_0 (t68.2), row 3 1 (.slice at66_0 (t66.1).length ct66_0) (t66.1).length ((t66.1).map (Value.int .i64)), clock_Set.at bt5_0 (t66.2), clock_Set.at bt7_0 (t29.2), blk nb28 (#[Value.int .i64 (((a1).getD (x15).toNat default).Way), Value.int .i64 (((a1).getD (x15).toNat default).Id), Value.int .i64 (((a1).getD (x15).toNat default).N)]) 39, tie signalmanlaw7_Act.El sd1 (a1), R] w0 w := HS
                refine ⟨[(81, Value.bool (t70)), (82, Value.bool (!(t70)))], fun w => Sep.St [row 3 1 (.slice at68_0 (t68.1).length ct68_0) (t68.1).length ((t68.1).map (Value.int .i64)), signalmanref6_Clock.at bt9_0 (t68.2), row 3 1 (.slice at66_0 (t66.1).length ct66_0) (t66.1).length ((t66.1).map (Value.int .i64)), clock_Set.at bt5_0 (t66.2), clock_Set.at bt7_0 (t29.2), blk nb28 (#[Value.int .i64 (((a1).getD (x15).toNat default).Way), Value.int .i64 (((a1).getD (x15).toNat default).Id), Value.int .i64 (((a1).getD (x15).toNat default).N)]) 39, tie signalmanlaw7_Act.El sd1 (a1), R] w0 w, ⟨.inl ⟨rfl, rfl⟩, ⟨.inr ⟨by decide, rfl⟩, trivial⟩⟩, ?_, HS⟩
                refine T.fin [(1, Value.slice (some ⟨eb23, eo24, none⟩) (a1).length sc1), (6, Value.pointer (some ⟨bt5_0, 0, none⟩)), (7, Value.pointer (some ⟨bt7_0, 0, none⟩)), (8, Value.pointer (some ⟨bt9_0, 0, none⟩)), (9, Value.int .i64 (x15)), (10, Value.pointer (some ⟨nb28, 0, none⟩)), (82, Value.bool (!(t70)))] rfl ⟨⟨_, Value.bool (!(t70)), [(81, Value.bool (t70))], 82, rfl, rfl, ⟨.inr ⟨rfl, rfl⟩, trivial⟩, .run rfl (fun w HS => X.not rfl), rfl, rfl, rfl⟩, trivial⟩ ⟨.inl ⟨rfl, rfl⟩, ⟨.inl ⟨rfl, rfl⟩, ⟨.inl ⟨rfl, rfl⟩, ⟨.inl ⟨rfl, rfl⟩, ⟨.inl ⟨rfl, rfl⟩, ⟨.inl ⟨rfl, rfl⟩, ⟨.inr ⟨rfl, rfl⟩, trivial⟩⟩⟩⟩⟩⟩⟩ (fun w HS => ?_)
                have HS : Sep.St [row 3 1 (.slice at68_0 (t68.1).length ct68_0) (t68.1).length ((t68.1).map (Value.int .i64)), signalmanref6_Clock.at bt9_0 (t68.2), row 3 1 (.slice at66_0 (t66.1).length ct66_0) (t66.1).length ((t66.1).map (Value.int .i64)), clock_Set.at bt5_0 (t66.2), clock_Set.at bt7_0 (t29.2), blk nb28 (#[Value.int .i64 (((a1).getD (x15).toNat default).Way), Value.int .i64 (((a1).getD (x15).toNat default).Id), Value.int .i64 (((a1).getD (x15).toNat default).N)]) 39, tie signalmanlaw7_Act.El sd1 (a1), R] w0 w := HS
                refine At.next ?_
                refine V.keep [(1, Value.slice (some ⟨eb23, eo24, none⟩) (a1).length sc1), (6, Value.pointer (some ⟨bt5_0, 0, none⟩)), (7, Value.pointer (some ⟨bt7_0, 0, none⟩)), (8, Value.pointer (some ⟨bt9_0, 0, none⟩)), (9, Value.int .i64 (x15)), (10, Value.pointer (some ⟨nb28, 0, none⟩)), (82, Value.bool (!(t70)))] ⟨rfl, rfl, rfl, rfl, rfl, rfl, rfl, trivial⟩ ?_
                by_cases c72 : t70 = true
                · replace H := ite_t c72 H
                  refine V.condF (sb (n_t c72)) ?_
                  refine V.skip ?_
                  refine At.blockEnd ?_
                  refine At.next ?_
                  refine V.keep [(1, Value.slice (some ⟨eb23, eo24, none⟩) (a1).length sc1), (6, Value.pointer (some ⟨bt5_0, 0, none⟩)), (7, Value.pointer (some ⟨bt7_0, 0, none⟩)), (8, Value.pointer (some ⟨bt9_0, 0, none⟩)), (9, Value.int .i64 (x15)), (10, Value.pointer (some ⟨nb28, 0, none⟩))] ⟨rfl, rfl, rfl, rfl, rfl, rfl, trivial⟩ ?_
                  refine V.seq ?_
                  refine V.region ?_
                  refine W.rd (X.move rfl) rfl rfl rfl ?_
                  refine W.rd (X.fieldAddr 1 fo39_1 rfl) rfl rfl rfl ?_
                  refine W.rd (X.loadAt 5 HS rfl Try.underlying3 rfl rfl rfl) rfl rfl rfl ?_
                  obtain ⟨t73, A74, H⟩ := bind_s H
                  replace HS := HS.re [3, 0, 1, 2, 4, 5, 6, 7] rfl
                  have HS : Sep.St [clock_Set.at bt5_0 (t66.2), row 3 1 (.slice at68_0 (t68.1).length ct68_0) (t68.1).length ((t68.1).map (Value.int .i64)), signalmanref6_Clock.at bt9_0 (t68.2), row 3 1 (.slice at66_0 (t66.1).length ct66_0) (t66.1).length ((t66.1).map (Value.int .i64)), clock_Set.at bt7_0 (t29.2), blk nb28 (#[Value.int .i64 (((a1).getD (x15).toNat default).Way), Value.int .i64 (((a1).getD (x15).toNat default).Id), Value.int .i64 (((a1).getD (x15).toNat default).N)]) 39, tie signalmanlaw7_Act.El sd1 (a1), R] w0 w := HS
                  refine W.ev (Y.call Try.func12 (by kernel_rfl) rfl (vs := [Value.pointer (some ⟨bt5_0, 0, none⟩), Value.int .i64 (((a1).getD (x15).toNat default).Id)]) rfl (clock_Set_Left.calls t66.2 (((a1).getD (x15).toNat default).Id) _ w0 _ bt5_0 t73  A74 (Sep.St.tailJoin (m := [clock_Set.at bt5_0 (t66.2)]) (r := [row 3 1 (.slice at68_0 (t68.1).length ct68_0) (t68.1).length ((t68.1).map (Value.int .i64)), signalmanref6_Clock.at bt9_0 (t68.2), row 3 1 (.slice at66_0 (t66.1).length ct66_0) (t66.1).length ((t66.1).map (Value.int .i64)), clock_Set.at bt7_0 (t29.2), blk nb28 (#[Value.int .i64 (((a1).getD (x15).toNat default).Way), Value.int .i64 (((a1).getD (x15).toNat default).Id), Value.int .i64 (((a1).getD (x15).toNat default).N)]) 39, tie signalmanlaw7_Act.El sd1 (a1), R]) HS))) rfl rfl rfl ?_
                  rintro _ w ⟨rfl, HS⟩
                  replace HS := Sep.St.tailOpen (m := [clock_Set.at bt5_0 (t66.2)]) (r := [row 3 1 (.slice at68_0 (t68.1).length ct68_0) (t68.1).length ((t68.1).map (Value.int .i64)), signalmanref6_Clock.at bt9_0 (t68.2), row 3 1 (.slice at66_0 (t66.1).length ct66_0) (t66.1).length ((t66.1).map (Value.int .i64)), clock_Set.at bt7_0 (t29.2), blk nb28 (#[Value.int .i64 (((a1).getD (x15).toNat default).Way), Value.int .i64 (((a1).getD (x15).toNat default).Id), Value.int .i64 (((a1).getD (x15).toNat default).N)]) 39, tie signalmanlaw7_Act.El sd1 (a1), R]) HS
                  have HS : Sep.St [clock_Set.at bt5_0 (t66.2), row 3 1 (.slice at68_0 (t68.1).length ct68_0) (t68.1).length ((t68.1).map (Value.int .i64)), signalmanref6_Clock.at bt9_0 (t68.2), row 3 1 (.slice at66_0 (t66.1).length ct66_0) (t66.1).length ((t66.1).map (Value.int .i64)), clock_Set.at bt7_0 (t29.2), blk nb28 (#[Value.int .i64 (((a1).getD (x15).toNat default).Way), Value.int .i64 (((a1).getD (x15).toNat default).Id), Value.int .i64 (((a1).getD (x15).toNat default).N)]) 39, tie signalmanlaw7_Act.El sd1 (a1), R] w0 w := HS
                  refine W.rd (X.move rfl) rfl rfl rfl ?_
                  refine W.rd (X.extract rfl rfl) rfl rfl rfl ?_
                  refine W.rd (X.extract rfl rfl) rfl rfl rfl ?_
                  refine W.rd (X.assign rfl) rfl rfl rfl ?_
                  refine W.rd (X.assign rfl) rfl rfl rfl ?_
                  refine W.nil ?_
                  refine At.next ?_
                  refine V.keep [(1, Value.slice (some ⟨eb23, eo24, none⟩) (a1).length sc1), (6, Value.pointer (some ⟨bt5_0, 0, none⟩)), (7, Value.pointer (some ⟨bt7_0, 0, none⟩)), (8, Value.pointer (some ⟨bt9_0, 0, none⟩)), (9, Value.int .i64 (x15)), (10, Value.pointer (some ⟨nb28, 0, none⟩)), (11, Value.int .i64 (t73.1)), (12, Value.bool (t73.2))] ⟨rfl, rfl, rfl, rfl, rfl, rfl, rfl, rfl, trivial⟩ ?_
                  refine V.seq ?_
                  refine V.region ?_
                  refine W.rd (X.move rfl) rfl rfl rfl ?_
                  refine W.rd (X.fieldAddr 1 fo39_1 rfl) rfl rfl rfl ?_
                  refine W.rd (X.loadAt 5 HS rfl Try.underlying3 rfl rfl rfl) rfl rfl rfl ?_
                  obtain ⟨t75, A76, H⟩ := bind_s H
                  replace HS := HS.re [2, 0, 1, 3, 4, 5, 6, 7] rfl
                  have HS : Sep.St [signalmanref6_Clock.at bt9_0 (t68.2), clock_Set.at bt5_0 (t66.2), row 3 1 (.slice at68_0 (t68.1).length ct68_0) (t68.1).length ((t68.1).map (Value.int .i64)), row 3 1 (.slice at66_0 (t66.1).length ct66_0) (t66.1).length ((t66.1).map (Value.int .i64)), clock_Set.at bt7_0 (t29.2), blk nb28 (#[Value.int .i64 (((a1).getD (x15).toNat default).Way), Value.int .i64 (((a1).getD (x15).toNat default).Id), Value.int .i64 (((a1).getD (x15).toNat default).N)]) 39, tie signalmanlaw7_Act.El sd1 (a1), R] w0 w := HS
                  refine W.ev (Y.call Try.func18 (by kernel_rfl) rfl (vs := [Value.pointer (some ⟨bt9_0, 0, none⟩), Value.int .i64 (((a1).getD (x15).toNat default).Id)]) rfl (signalmanref6_Clock_Left.calls t68.2 (((a1).getD (x15).toNat default).Id) _ w0 _ bt9_0 t75  A76 (Sep.St.tailJoin (m := [signalmanref6_Clock.at bt9_0 (t68.2)]) (r := [clock_Set.at bt5_0 (t66.2), row 3 1 (.slice at68_0 (t68.1).length ct68_0) (t68.1).length ((t68.1).map (Value.int .i64)), row 3 1 (.slice at66_0 (t66.1).length ct66_0) (t66.1).length ((t66.1).map (Value.int .i64)), clock_Set.at bt7_0 (t29.2), blk nb28 (#[Value.int .i64 (((a1).getD (x15).toNat default).Way), Value.int .i64 (((a1).getD (x15).toNat default).Id), Value.int .i64 (((a1).getD (x15).toNat default).N)]) 39, tie signalmanlaw7_Act.El sd1 (a1), R]) HS))) rfl rfl rfl ?_
                  rintro _ w ⟨rfl, HS⟩
                  replace HS := Sep.St.tailOpen (m := [signalmanref6_Clock.at bt9_0 (t68.2)]) (r := [clock_Set.at bt5_0 (t66.2), row 3 1 (.slice at68_0 (t68.1).length ct68_0) (t68.1).length ((t68.1).map (Value.int .i64)), row 3 1 (.slice at66_0 (t66.1).length ct66_0) (t66.1).length ((t66.1).map (Value.int .i64)), clock_Set.at bt7_0 (t29.2), blk nb28 (#[Value.int .i64 (((a1).getD (x15).toNat default).Way), Value.int .i64 (((a1).getD (x15).toNat default).Id), Value.int .i64 (((a1).getD (x15).toNat default).N)]) 39, tie signalmanlaw7_Act.El sd1 (a1), R]) HS
                  have HS : Sep.St [signalmanref6_Clock.at bt9_0 (t68.2), clock_Set.at bt5_0 (t66.2), row 3 1 (.slice at68_0 (t68.1).length ct68_0) (t68.1).length ((t68.1).map (Value.int .i64)), row 3 1 (.slice at66_0 (t66.1).length ct66_0) (t66.1).length ((t66.1).map (Value.int .i64)), clock_Set.at bt7_0 (t29.2), blk nb28 (#[Value.int .i64 (((a1).getD (x15).toNat default).Way), Value.int .i64 (((a1).getD (x15).toNat default).Id), Value.int .i64 (((a1).getD (x15).toNat default).N)]) 39, tie signalmanlaw7_Act.El sd1 (a1), R] w0 w := HS
                  refine W.rd (X.move rfl) rfl rfl rfl ?_
                  refine W.rd (X.extract rfl rfl) rfl rfl rfl ?_
                  refine W.rd (X.extract rfl rfl) rfl rfl rfl ?_
                  refine W.rd (X.assign rfl) rfl rfl rfl ?_
                  refine W.rd (X.assign rfl) rfl rfl rfl ?_
                  refine W.nil ?_
                  refine At.next ?_
                  refine V.keep [(1, Value.slice (some ⟨eb23, eo24, none⟩) (a1).length sc1), (6, Value.pointer (some ⟨bt5_0, 0, none⟩)), (7, Value.pointer (some ⟨bt7_0, 0, none⟩)), (8, Value.pointer (some ⟨bt9_0, 0, none⟩)), (9, Value.int .i64 (x15)), (11, Value.int .i64 (t73.1)), (12, Value.bool (t73.2)), (13, Value.int .i64 (t75.1)), (14, Value.bool (t75.2))] ⟨rfl, rfl, rfl, rfl, rfl, rfl, rfl, rfl, rfl, trivial⟩ ?_
                  refine V.seq ?_
                  refine V.region ?_
                  refine W.rd (X.move rfl) rfl rfl rfl ?_
                  refine W.rd (X.move rfl) rfl rfl rfl ?_
                  refine W.rd (X.cmp (!(decide (t73.1 = t75.1))) rfl rfl rfl rfl) rfl rfl rfl ?_
                  refine W.rd (X.move rfl) rfl rfl rfl ?_
                  by_cases c77 : t73.1 = t75.1
                  · replace H := ite_t c77 H
                    refine W.want 100 rfl (sb (n_t (decide_eq_true c77))) ?_
                    refine W.rd (X.move rfl) rfl rfl rfl ?_
                    refine W.want 100 rfl (sb (n_t (decide_eq_true c77))) ?_
                    refine W.rd (X.move rfl) rfl rfl rfl ?_
                    refine W.want 100 rfl (sb (n_t (decide_eq_true c77))) ?_
                    refine W.rd (X.neB Try.underlying4 rfl rfl) rfl rfl rfl ?_
                    refine W.rd (X.pickF (sb (n_t (decide_eq_true c77))) rfl) rfl rfl rfl ?_
                    refine W.rd (X.move rfl) rfl rfl rfl ?_
                    by_cases c78 : ((t73.2) != (t75.2)) = true
                    · replace H := ite_t c78 H
                      refine W.pass 105 rfl (sb c78) rfl rfl ?_
                      refine W.pass 105 rfl (sb c78) rfl rfl ?_
                      refine W.pass 105 rfl (sb c78) rfl rfl ?_
                      refine W.pass 105 rfl (sb c78) rfl rfl ?_
                      refine W.pass 105 rfl (sb c78) rfl rfl ?_
                      refine W.rd (X.pickT (sb c78) rfl) rfl rfl rfl ?_
                      refine W.nil ?_
                      refine At.next ?_
                      refine V.keep [(1, Value.slice (some ⟨eb23, eo24, none⟩) (a1).length sc1), (6, Value.pointer (some ⟨bt5_0, 0, none⟩)), (7, Value.pointer (some ⟨bt7_0, 0, none⟩)), (8, Value.pointer (some ⟨bt9_0, 0, none⟩)), (9, Value.int .i64 (x15)), (101, Value.bool (t73.2)), (102, Value.bool (t75.2)), (103, Value.bool (((t73.2) != (t75.2)))), (106, undef), (107, undef), (108, undef), (109, undef), (110, undef), (111, Value.bool (true))] ⟨rfl, rfl, rfl, rfl, rfl, rfl, rfl, rfl, rfl, rfl, rfl, rfl, rfl, rfl, trivial⟩ ?_
                      refine V.condT rfl ?_
                      refine V.seq ?_
                      refine V.region ?_
                      refine W.rd (X.assign rfl) rfl rfl rfl ?_
                      refine W.nil ?_
                      refine At.next ?_
                      refine V.keep [(4, Value.bool (false))] ⟨rfl, trivial⟩ ?_
                      refine V.ret ?_
                      refine At.blockRet ?_
                      refine At.thenRet ?_
                      refine At.thenRet ?_
                      refine At.blockRet ?_
                      refine At.thenRet ?_
                      replace HS := HS.sel [7] [0, 1, 2, 3, 4, 5, 6] rfl
                      cases H
                      exact At.ret1 rfl rfl ⟨_, rfl, rfl, HS⟩
                    · replace H := ite_f c78 H
                      refine W.want 105 rfl (sb (b_f c78)) ?_
                      refine W.rd (X.move rfl) rfl rfl rfl ?_
                      refine W.want 105 rfl (sb (b_f c78)) ?_
                      obtain ⟨t79, A80, H⟩ := bind_s H
                      replace HS := HS.re [1, 0, 2, 3, 4, 5, 6, 7] rfl
                      have HS : Sep.St [clock_Set.at bt5_0 (t66.2), signalmanref6_Clock.at bt9_0 (t68.2), row 3 1 (.slice at68_0 (t68.1).length ct68_0) (t68.1).length ((t68.1).map (Value.int .i64)), row 3 1 (.slice at66_0 (t66.1).length ct66_0) (t66.1).length ((t66.1).map (Value.int .i64)), clock_Set.at bt7_0 (t29.2), blk nb28 (#[Value.int .i64 (((a1).getD (x15).toNat default).Way), Value.int .i64 (((a1).getD (x15).toNat default).Id), Value.int .i64 (((a1).getD (x15).toNat default).N)]) 39, tie signalmanlaw7_Act.El sd1 (a1), R] w0 w := HS
                      refine W.ev (Y.call Try.func19 (by kernel_rfl) rfl (vs := [Value.pointer (some ⟨bt5_0, 0, none⟩)]) rfl (clock_Set_Now.calls t66.2 _ w0 _ bt5_0 t79  A80 (Sep.St.tailJoin (m := [clock_Set.at bt5_0 (t66.2)]) (r := [signalmanref6_Clock.at bt9_0 (t68.2), row 3 1 (.slice at68_0 (t68.1).length ct68_0) (t68.1).length ((t68.1).map (Value.int .i64)), row 3 1 (.slice at66_0 (t66.1).length ct66_0) (t66.1).length ((t66.1).map (Value.int .i64)), clock_Set.at bt7_0 (t29.2), blk nb28 (#[Value.int .i64 (((a1).getD (x15).toNat default).Way), Value.int .i64 (((a1).getD (x15).toNat default).Id), Value.int .i64 (((a1).getD (x15).toNat default).N)]) 39, tie signalmanlaw7_Act.El sd1 (a1), R]) HS))) rfl rfl rfl ?_
                      rintro _ w ⟨rfl, HS⟩
                      replace HS := Sep.St.tailOpen (m := [clock_Set.at bt5_0 (t66.2)]) (r := [signalmanref6_Clock.at bt9_0 (t68.2), row 3 1 (.slice at68_0 (t68.1).length ct68_0) (t68.1).length ((t68.1).map (Value.int .i64)), row 3 1 (.slice at66_0 (t66.1).length ct66_0) (t66.1).length ((t66.1).map (Value.int .i64)), clock_Set.at bt7_0 (t29.2), blk nb28 (#[Value.int .i64 (((a1).getD (x15).toNat default).Way), Value.int .i64 (((a1).getD (x15).toNat default).Id), Value.int .i64 (((a1).getD (x15).toNat default).N)]) 39, tie signalmanlaw7_Act.El sd1 (a1), R]) HS
                      have HS : Sep.St [clock_Set.at bt5_0 (t66.2), signalmanref6_Clock.at bt9_0 (t68.2), row 3 1 (.slice at68_0 (t68.1).length ct68_0) (t68.1).length ((t68.1).map (Value.int .i64)), row 3 1 (.slice at66_0 (t66.1).length ct66_0) (t66.1).length ((t66.1).map (Value.int .i64)), clock_Set.at bt7_0 (t29.2), blk nb28 (#[Value.int .i64 (((a1).getD (x15).toNat default).Way), Value.int .i64 (((a1).getD (x15).toNat default).Id), Value.int .i64 (((a1).getD (x15).toNat default).N)]) 39, tie signalmanlaw7_Act.El sd1 (a1), R] w0 w := HS
                      refine W.want 105 rfl (sb (b_f c78)) ?_
                      refine W.rd (X.move rfl) rfl rfl rfl ?_
                      refine W.want 105 rfl (sb (b_f c78)) ?_
                      obtain ⟨t81, A82, H⟩ := bind_s H
                      replace HS := HS.re [1, 0, 2, 3, 4, 5, 6, 7] rfl
                      have HS : Sep.St [signalmanref6_Clock.at bt9_0 (t68.2), clock_Set.at bt5_0 (t66.2), row 3 1 (.slice at68_0 (t68.1).length ct68_0) (t68.1).length ((t68.1).map (Value.int .i64)), row 3 1 (.slice at66_0 (t66.1).length ct66_0) (t66.1).length ((t66.1).map (Value.int .i64)), clock_Set.at bt7_0 (t29.2), blk nb28 (#[Value.int .i64 (((a1).getD (x15).toNat default).Way), Value.int .i64 (((a1).getD (x15).toNat default).Id), Value.int .i64 (((a1).getD (x15).toNat default).N)]) 39, tie signalmanlaw7_Act.El sd1 (a1), R] w0 w := HS
                      refine W.ev (Y.call Try.func20 (by kernel_rfl) rfl (vs := [Value.pointer (some ⟨bt9_0, 0, none⟩)]) rfl (signalmanref6_Clock_Now.calls t68.2 _ w0 _ bt9_0 t81  A82 (Sep.St.tailJoin (m := [signalmanref6_Clock.at bt9_0 (t68.2)]) (r := [clock_Set.at bt5_0 (t66.2), row 3 1 (.slice at68_0 (t68.1).length ct68_0) (t68.1).length ((t68.1).map (Value.int .i64)), row 3 1 (.slice at66_0 (t66.1).length ct66_0) (t66.1).length ((t66.1).map (Value.int .i64)), clock_Set.at bt7_0 (t29.2), blk nb28 (#[Value.int .i64 (((a1).getD (x15).toNat default).Way), Value.int .i64 (((a1).getD (x15).toNat default).Id), Value.int .i64 (((a1).getD (x15).toNat default).N)]) 39, tie signalmanlaw7_Act.El sd1 (a1), R]) HS))) rfl rfl rfl ?_
                      rintro _ w ⟨rfl, HS⟩
                      replace HS := Sep.St.tailOpen (m := [signalmanref6_Clock.at bt9_0 (t68.2)]) (r := [clock_Set.at bt5_0 (t66.2), row 3 1 (.slice at68_0 (t68.1).length ct68_0) (t68.1).length ((t68.1).map (Value.int .i64)), row 3 1 (.slice at66_0 (t66.1).length ct66_0) (t66.1).length ((t66.1).map (Value.int .i64)), clock_Set.at bt7_0 (t29.2), blk nb28 (#[Value.int .i64 (((a1).getD (x15).toNat default).Way), Value.int .i64 (((a1).getD (x15).toNat default).Id), Value.int .i64 (((a1).getD (x15).toNat default).N)]) 39, tie signalmanlaw7_Act.El sd1 (a1), R]) HS
                      have HS : Sep.St [signalmanref6_Clock.at bt9_0 (t68.2), clock_Set.at bt5_0 (t66.2), row 3 1 (.slice at68_0 (t68.1).length ct68_0) (t68.1).length ((t68.1).map (Value.int .i64)), row 3 1 (.slice at66_0 (t66.1).length ct66_0) (t66.1).length ((t66.1).map (Value.int .i64)), clock_Set.at bt7_0 (t29.2), blk nb28 (#[Value.int .i64 (((a1).getD (x15).toNat default).Way), Value.int .i64 (((a1).getD (x15).toNat default).Id), Value.int .i64 (((a1).getD (x15).toNat default).N)]) 39, tie signalmanlaw7_Act.El sd1 (a1), R] w0 w := HS
                      refine W.want 105 rfl (sb (b_f c78)) ?_
                      refine W.rd (X.cmp (!(decide (t79 = t81))) rfl rfl rfl rfl) rfl rfl rfl ?_
                      refine W.rd (X.pickF (sb (b_f c78)) rfl) rfl rfl rfl ?_
                      refine W.nil ?_
                      refine At.next ?_
                      refine V.keep [(1, Value.slice (some ⟨eb23, eo24, none⟩) (a1).length sc1), (6, Value.pointer (some ⟨bt5_0, 0, none⟩)), (7, Value.pointer (some ⟨bt7_0, 0, none⟩)), (8, Value.pointer (some ⟨bt9_0, 0, none⟩)), (9, Value.int .i64 (x15)), (101, Value.bool (t73.2)), (102, Value.bool (t75.2)), (103, Value.bool (((t73.2) != (t75.2)))), (106, Value.pointer (some ⟨bt5_0, 0, none⟩)), (107, Value.int .u32 (t79)), (108, Value.pointer (some ⟨bt9_0, 0, none⟩)), (109, Value.int .u32 (t81)), (110, Value.bool (!(decide (t79 = t81)))), (111, Value.bool (!(decide (t79 = t81))))] ⟨rfl, rfl, rfl, rfl, rfl, rfl, rfl, rfl, rfl, rfl, rfl, rfl, rfl, rfl, trivial⟩ ?_
                      by_cases c83 : t79 = t81
                      · replace H := ite_t c83 H
                        refine V.condF (sb (n_t (decide_eq_true c83))) ?_
                        refine V.skip ?_
                        refine At.blockEnd ?_
                        refine At.next ?_
                        refine V.keep [(1, Value.slice (some ⟨eb23, eo24, none⟩) (a1).length sc1), (6, Value.pointer (some ⟨bt5_0, 0, none⟩)), (7, Value.pointer (some ⟨bt7_0, 0, none⟩)), (8, Value.pointer (some ⟨bt9_0, 0, none⟩)), (9, Value.int .i64 (x15)), (101, Value.bool (t73.2)), (102, Value.bool (t75.2)), (103, Value.bool (((t73.2) != (t75.2)))), (106, Value.pointer (some ⟨bt5_0, 0, none⟩)), (107, Value.int .u32 (t79)), (108, Value.pointer (some ⟨bt9_0, 0, none⟩)), (109, Value.int .u32 (t81)), (110, Value.bool (!(decide (t79 = t81))))] ⟨rfl, rfl, rfl, rfl, rfl, rfl, rfl, rfl, rfl, rfl, rfl, rfl, rfl, trivial⟩ ?_
                        refine V.region ?_
                        refine W.rd (X.move rfl) rfl rfl rfl ?_
                        refine W.rd (X.add rfl rfl) rfl rfl rfl ?_
                        refine W.rd (X.assign rfl) rfl rfl rfl ?_
                        refine W.nil ?_
                        replace HS := HS.sel [0, 4, 1, 6, 7] [2, 3, 5] rfl
                        exact At.round kq19 (by omega) (w64 (x15 + 1), t68.2, t29.2, t66.2) ⟨rfl, rfl, rfl, rfl, rfl, trivial⟩ ⟨HS, H, by omega⟩
                      · replace H := ite_f c83 H
                        refine V.condT (sb (n_f (decide_eq_false c83))) ?_
                        refine V.seq ?_
                        refine V.region ?_
                        refine W.rd (X.assign rfl) rfl rfl rfl ?_
                        refine W.nil ?_
                        refine At.next ?_
                        refine V.keep [(4, Value.bool (false))] ⟨rfl, trivial⟩ ?_
                        refine V.ret ?_
                        refine At.blockRet ?_
                        refine At.thenRet ?_
                        refine At.thenRet ?_
                        refine At.blockRet ?_
                        refine At.thenRet ?_
                        replace HS := HS.sel [7] [0, 1, 2, 3, 4, 5, 6] rfl
                        cases H
                        exact At.ret1 rfl rfl ⟨_, rfl, rfl, HS⟩
                  · replace H := ite_f c77 H
                    refine W.pass 100 rfl (sb (n_f (decide_eq_false c77))) rfl rfl ?_
                    refine W.pass 100 rfl (sb (n_f (decide_eq_false c77))) rfl rfl ?_
                    refine W.pass 100 rfl (sb (n_f (decide_eq_false c77))) rfl rfl ?_
                    refine W.rd (X.pickT (sb (n_f (decide_eq_false c77))) rfl) rfl rfl rfl ?_
                    refine W.rd (X.move rfl) rfl rfl rfl ?_
                    refine W.pass 105 rfl rfl rfl rfl ?_
                    refine W.pass 105 rfl rfl rfl rfl ?_
                    refine W.pass 105 rfl rfl rfl rfl ?_
                    refine W.pass 105 rfl rfl rfl rfl ?_
                    refine W.pass 105 rfl rfl rfl rfl ?_
                    refine W.rd (X.pickT rfl rfl) rfl rfl rfl ?_
                    refine W.nil ?_
                    refine At.next ?_
                    refine V.keep [(1, Value.slice (some ⟨eb23, eo24, none⟩) (a1).length sc1), (6, Value.pointer (some ⟨bt5_0, 0, none⟩)), (7, Value.pointer (some ⟨bt7_0, 0, none⟩)), (8, Value.pointer (some ⟨bt9_0, 0, none⟩)), (9, Value.int .i64 (x15)), (101, undef), (102, undef), (103, undef), (106, undef), (107, undef), (108, undef), (109, undef), (110, undef), (111, Value.bool (true))] ⟨rfl, rfl, rfl, rfl, rfl, rfl, rfl, rfl, rfl, rfl, rfl, rfl, rfl, rfl, trivial⟩ ?_
                    refine V.condT rfl ?_
                    refine V.seq ?_
                    refine V.region ?_
                    refine W.rd (X.assign rfl) rfl rfl rfl ?_
                    refine W.nil ?_
                    refine At.next ?_
                    refine V.keep [(4, Value.bool (false))] ⟨rfl, trivial⟩ ?_
                    refine V.ret ?_
                    refine At.blockRet ?_
                    refine At.thenRet ?_
                    refine At.thenRet ?_
                    refine At.blockRet ?_
                    refine At.thenRet ?_
                    replace HS := HS.sel [7] [0, 1, 2, 3, 4, 5, 6] rfl
                    cases H
                    exact At.ret1 rfl rfl ⟨_, rfl, rfl, HS⟩
                · replace H := ite_f c72 H
                  refine V.condT (sb (n_f (b_f c72))) ?_
                  refine V.seq ?_
                  refine V.region ?_
                  refine W.rd (X.assign rfl) rfl rfl rfl ?_
                  refine W.nil ?_
                  refine At.next ?_
                  refine V.keep [(4, Value.bool (false))] ⟨rfl, trivial⟩ ?_
                  refine V.ret ?_
                  refine At.blockRet ?_
                  refine At.thenRet ?_
                  refine At.blockRet ?_
                  refine At.thenRet ?_
                  refine At.thenRet ?_
                  refine At.blockRet ?_
                  refine At.thenRet ?_
                  replace HS := HS.sel [7] [0, 1, 2, 3, 4, 5, 6] rfl
                  cases H
                  exact At.ret1 rfl rfl ⟨_, rfl, rfl, HS⟩
              · replace H := ite_f c65 H
                refine V.condF (sb (decide_eq_false c65)) ?_
                refine V.skip ?_
                refine At.blockEnd ?_
                refine At.next ?_
                refine V.keep [(1, Value.slice (some ⟨eb23, eo24, none⟩) (a1).length sc1), (6, Value.pointer (some ⟨bt5_0, 0, none⟩)), (7, Value.pointer (some ⟨bt7_0, 0, none⟩)), (8, Value.pointer (some ⟨bt9_0, 0, none⟩)), (9, Value.int .i64 (x15)), (10, Value.pointer (some ⟨nb28, 0, none⟩))] ⟨rfl, rfl, rfl, rfl, rfl, rfl, trivial⟩ ?_
                refine V.seq ?_
                refine V.region ?_
                refine W.rd (X.move rfl) rfl rfl rfl ?_
                refine W.rd (X.fieldAddr 1 fo39_1 rfl) rfl rfl rfl ?_
                refine W.rd (X.loadAt 1 HS rfl Try.underlying3 rfl rfl rfl) rfl rfl rfl ?_
                obtain ⟨t84, A85, H⟩ := bind_s H
                replace HS := HS.re [3, 0, 1, 2, 4, 5] rfl
                have HS : Sep.St [clock_Set.at bt5_0 (x18), clock_Set.at bt7_0 (t29.2), blk nb28 (#[Value.int .i64 (((a1).getD (x15).toNat default).Way), Value.int .i64 (((a1).getD (x15).toNat default).Id), Value.int .i64 (((a1).getD (x15).toNat default).N)]) 39, signalmanref6_Clock.at bt9_0 (x16), tie signalmanlaw7_Act.El sd1 (a1), R] w0 w := HS
                refine W.ev (Y.call Try.func12 (by kernel_rfl) rfl (vs := [Value.pointer (some ⟨bt5_0, 0, none⟩), Value.int .i64 (((a1).getD (x15).toNat default).Id)]) rfl (clock_Set_Left.calls x18 (((a1).getD (x15).toNat default).Id) _ w0 _ bt5_0 t84  A85 (Sep.St.tailJoin (m := [clock_Set.at bt5_0 (x18)]) (r := [clock_Set.at bt7_0 (t29.2), blk nb28 (#[Value.int .i64 (((a1).getD (x15).toNat default).Way), Value.int .i64 (((a1).getD (x15).toNat default).Id), Value.int .i64 (((a1).getD (x15).toNat default).N)]) 39, signalmanref6_Clock.at bt9_0 (x16), tie signalmanlaw7_Act.El sd1 (a1), R]) HS))) rfl rfl rfl ?_
                rintro _ w ⟨rfl, HS⟩
                replace HS := Sep.St.tailOpen (m := [clock_Set.at bt5_0 (x18)]) (r := [clock_Set.at bt7_0 (t29.2), blk nb28 (#[Value.int .i64 (((a1).getD (x15).toNat default).Way), Value.int .i64 (((a1).getD (x15).toNat default).Id), Value.int .i64 (((a1).getD (x15).toNat default).N)]) 39, signalmanref6_Clock.at bt9_0 (x16), tie signalmanlaw7_Act.El sd1 (a1), R]) HS
                have HS : Sep.St [clock_Set.at bt5_0 (x18), clock_Set.at bt7_0 (t29.2), blk nb28 (#[Value.int .i64 (((a1).getD (x15).toNat default).Way), Value.int .i64 (((a1).getD (x15).toNat default).Id), Value.int .i64 (((a1).getD (x15).toNat default).N)]) 39, signalmanref6_Clock.at bt9_0 (x16), tie signalmanlaw7_Act.El sd1 (a1), R] w0 w := HS
                refine W.rd (X.move rfl) rfl rfl rfl ?_
                refine W.rd (X.extract rfl rfl) rfl rfl rfl ?_
                refine W.rd (X.extract rfl rfl) rfl rfl rfl ?_
                refine W.rd (X.assign rfl) rfl rfl rfl ?_
                refine W.rd (X.assign rfl) rfl rfl rfl ?_
                refine W.nil ?_
                refine At.next ?_
                refine V.keep [(1, Value.slice (some ⟨eb23, eo24, none⟩) (a1).length sc1), (6, Value.pointer (some ⟨bt5_0, 0, none⟩)), (7, Value.pointer (some ⟨bt7_0, 0, none⟩)), (8, Value.pointer (some ⟨bt9_0, 0, none⟩)), (9, Value.int .i64 (x15)), (10, Value.pointer (some ⟨nb28, 0, none⟩)), (11, Value.int .i64 (t84.1)), (12, Value.bool (t84.2))] ⟨rfl, rfl, rfl, rfl, rfl, rfl, rfl, rfl, trivial⟩ ?_
                refine V.seq ?_
                refine V.region ?_
                refine W.rd (X.move rfl) rfl rfl rfl ?_
                refine W.rd (X.fieldAddr 1 fo39_1 rfl) rfl rfl rfl ?_
                refine W.rd (X.loadAt 2 HS rfl Try.underlying3 rfl rfl rfl) rfl rfl rfl ?_
                obtain ⟨t86, A87, H⟩ := bind_s H
                replace HS := HS.re [3, 0, 1, 2, 4, 5] rfl
                have HS : Sep.St [signalmanref6_Clock.at bt9_0 (x16), clock_Set.at bt5_0 (x18), clock_Set.at bt7_0 (t29.2), blk nb28 (#[Value.int .i64 (((a1).getD (x15).toNat default).Way), Value.int .i64 (((a1).getD (x15).toNat default).Id), Value.int .i64 (((a1).getD (x15).toNat default).N)]) 39, tie signalmanlaw7_Act.El sd1 (a1), R] w0 w := HS
                refine W.ev (Y.call Try.func18 (by kernel_rfl) rfl (vs := [Value.pointer (some ⟨bt9_0, 0, none⟩), Value.int .i64 (((a1).getD (x15).toNat default).Id)]) rfl (signalmanref6_Clock_Left.calls x16 (((a1).getD (x15).toNat default).Id) _ w0 _ bt9_0 t86  A87 (Sep.St.tailJoin (m := [signalmanref6_Clock.at bt9_0 (x16)]) (r := [clock_Set.at bt5_0 (x18), clock_Set.at bt7_0 (t29.2), blk nb28 (#[Value.int .i64 (((a1).getD (x15).toNat default).Way), Value.int .i64 (((a1).getD (x15).toNat default).Id), Value.int .i64 (((a1).getD (x15).toNat default).N)]) 39, tie signalmanlaw7_Act.El sd1 (a1), R]) HS))) rfl rfl rfl ?_
                rintro _ w ⟨rfl, HS⟩
                replace HS := Sep.St.tailOpen (m := [signalmanref6_Clock.at bt9_0 (x16)]) (r := [clock_Set.at bt5_0 (x18), clock_Set.at bt7_0 (t29.2), blk nb28 (#[Value.int .i64 (((a1).getD (x15).toNat default).Way), Value.int .i64 (((a1).getD (x15).toNat default).Id), Value.int .i64 (((a1).getD (x15).toNat default).N)]) 39, tie signalmanlaw7_Act.El sd1 (a1), R]) HS
                have HS : Sep.St [signalmanref6_Clock.at bt9_0 (x16), clock_Set.at bt5_0 (x18), clock_Set.at bt7_0 (t29.2), blk nb28 (#[Value.int .i64 (((a1).getD (x15).toNat default).Way), Value.int .i64 (((a1).getD (x15).toNat default).Id), Value.int .i64 (((a1).getD (x15).toNat default).N)]) 39, tie signalmanlaw7_Act.El sd1 (a1), R] w0 w := HS
                refine W.rd (X.move rfl) rfl rfl rfl ?_
                refine W.rd (X.extract rfl rfl) rfl rfl rfl ?_
                refine W.rd (X.extract rfl rfl) rfl rfl rfl ?_
                refine W.rd (X.assign rfl) rfl rfl rfl ?_
                refine W.rd (X.assign rfl) rfl rfl rfl ?_
                refine W.nil ?_
                refine At.next ?_
                refine V.keep [(1, Value.slice (some ⟨eb23, eo24, none⟩) (a1).length sc1), (6, Value.pointer (some ⟨bt5_0, 0, none⟩)), (7, Value.pointer (some ⟨bt7_0, 0, none⟩)), (8, Value.pointer (some ⟨bt9_0, 0, none⟩)), (9, Value.int .i64 (x15)), (11, Value.int .i64 (t84.1)), (12, Value.bool (t84.2)), (13, Value.int .i64 (t86.1)), (14, Value.bool (t86.2))] ⟨rfl, rfl, rfl, rfl, rfl, rfl, rfl, rfl, rfl, trivial⟩ ?_
                refine V.seq ?_
                refine V.region ?_
                refine W.rd (X.move rfl) rfl rfl rfl ?_
                refine W.rd (X.move rfl) rfl rfl rfl ?_
                refine W.rd (X.cmp (!(decide (t84.1 = t86.1))) rfl rfl rfl rfl) rfl rfl rfl ?_
                refine W.rd (X.move rfl) rfl rfl rfl ?_
                by_cases c88 : t84.1 = t86.1
                · replace H := ite_t c88 H
                  refine W.want 100 rfl (sb (n_t (decide_eq_true c88))) ?_
                  refine W.rd (X.move rfl) rfl rfl rfl ?_
                  refine W.want 100 rfl (sb (n_t (decide_eq_true c88))) ?_
                  refine W.rd (X.move rfl) rfl rfl rfl ?_
                  refine W.want 100 rfl (sb (n_t (decide_eq_true c88))) ?_
                  refine W.rd (X.neB Try.underlying4 rfl rfl) rfl rfl rfl ?_
                  refine W.rd (X.pickF (sb (n_t (decide_eq_true c88))) rfl) rfl rfl rfl ?_
                  refine W.rd (X.move rfl) rfl rfl rfl ?_
                  by_cases c89 : ((t84.2) != (t86.2)) = true
                  · replace H := ite_t c89 H
                    refine W.pass 105 rfl (sb c89) rfl rfl ?_
                    refine W.pass 105 rfl (sb c89) rfl rfl ?_
                    refine W.pass 105 rfl (sb c89) rfl rfl ?_
                    refine W.pass 105 rfl (sb c89) rfl rfl ?_
                    refine W.pass 105 rfl (sb c89) rfl rfl ?_
                    refine W.rd (X.pickT (sb c89) rfl) rfl rfl rfl ?_
                    refine W.nil ?_
                    refine At.next ?_
                    refine V.keep [(1, Value.slice (some ⟨eb23, eo24, none⟩) (a1).length sc1), (6, Value.pointer (some ⟨bt5_0, 0, none⟩)), (7, Value.pointer (some ⟨bt7_0, 0, none⟩)), (8, Value.pointer (some ⟨bt9_0, 0, none⟩)), (9, Value.int .i64 (x15)), (101, Value.bool (t84.2)), (102, Value.bool (t86.2)), (103, Value.bool (((t84.2) != (t86.2)))), (106, undef), (107, undef), (108, undef), (109, undef), (110, undef), (111, Value.bool (true))] ⟨rfl, rfl, rfl, rfl, rfl, rfl, rfl, rfl, rfl, rfl, rfl, rfl, rfl, rfl, trivial⟩ ?_
                    refine V.condT rfl ?_
                    refine V.seq ?_
                    refine V.region ?_
                    refine W.rd (X.assign rfl) rfl rfl rfl ?_
                    refine W.nil ?_
                    refine At.next ?_
                    refine V.keep [(4, Value.bool (false))] ⟨rfl, trivial⟩ ?_
                    refine V.ret ?_
                    refine At.blockRet ?_
                    refine At.thenRet ?_
                    refine At.thenRet ?_
                    refine At.blockRet ?_
                    refine At.thenRet ?_
                    replace HS := HS.sel [5] [0, 1, 2, 3, 4] rfl
                    cases H
                    exact At.ret1 rfl rfl ⟨_, rfl, rfl, HS⟩
                  · replace H := ite_f c89 H
                    refine W.want 105 rfl (sb (b_f c89)) ?_
                    refine W.rd (X.move rfl) rfl rfl rfl ?_
                    refine W.want 105 rfl (sb (b_f c89)) ?_
                    obtain ⟨t90, A91, H⟩ := bind_s H
                    replace HS := HS.re [1, 0, 2, 3, 4, 5] rfl
                    have HS : Sep.St [clock_Set.at bt5_0 (x18), signalmanref6_Clock.at bt9_0 (x16), clock_Set.at bt7_0 (t29.2), blk nb28 (#[Value.int .i64 (((a1).getD (x15).toNat default).Way), Value.int .i64 (((a1).getD (x15).toNat default).Id), Value.int .i64 (((a1).getD (x15).toNat default).N)]) 39, tie signalmanlaw7_Act.El sd1 (a1), R] w0 w := HS
                    refine W.ev (Y.call Try.func19 (by kernel_rfl) rfl (vs := [Value.pointer (some ⟨bt5_0, 0, none⟩)]) rfl (clock_Set_Now.calls x18 _ w0 _ bt5_0 t90  A91 (Sep.St.tailJoin (m := [clock_Set.at bt5_0 (x18)]) (r := [signalmanref6_Clock.at bt9_0 (x16), clock_Set.at bt7_0 (t29.2), blk nb28 (#[Value.int .i64 (((a1).getD (x15).toNat default).Way), Value.int .i64 (((a1).getD (x15).toNat default).Id), Value.int .i64 (((a1).getD (x15).toNat default).N)]) 39, tie signalmanlaw7_Act.El sd1 (a1), R]) HS))) rfl rfl rfl ?_
                    rintro _ w ⟨rfl, HS⟩
                    replace HS := Sep.St.tailOpen (m := [clock_Set.at bt5_0 (x18)]) (r := [signalmanref6_Clock.at bt9_0 (x16), clock_Set.at bt7_0 (t29.2), blk nb28 (#[Value.int .i64 (((a1).getD (x15).toNat default).Way), Value.int .i64 (((a1).getD (x15).toNat default).Id), Value.int .i64 (((a1).getD (x15).toNat default).N)]) 39, tie signalmanlaw7_Act.El sd1 (a1), R]) HS
                    have HS : Sep.St [clock_Set.at bt5_0 (x18), signalmanref6_Clock.at bt9_0 (x16), clock_Set.at bt7_0 (t29.2), blk nb28 (#[Value.int .i64 (((a1).getD (x15).toNat default).Way), Value.int .i64 (((a1).getD (x15).toNat default).Id), Value.int .i64 (((a1).getD (x15).toNat default).N)]) 39, tie signalmanlaw7_Act.El sd1 (a1), R] w0 w := HS
                    refine W.want 105 rfl (sb (b_f c89)) ?_
                    refine W.rd (X.move rfl) rfl rfl rfl ?_
                    refine W.want 105 rfl (sb (b_f c89)) ?_
                    obtain ⟨t92, A93, H⟩ := bind_s H
                    replace HS := HS.re [1, 0, 2, 3, 4, 5] rfl
                    have HS : Sep.St [signalmanref6_Clock.at bt9_0 (x16), clock_Set.at bt5_0 (x18), clock_Set.at bt7_0 (t29.2), blk nb28 (#[Value.int .i64 (((a1).getD (x15).toNat default).Way), Value.int .i64 (((a1).getD (x15).toNat default).Id), Value.int .i64 (((a1).getD (x15).toNat default).N)]) 39, tie signalmanlaw7_Act.El sd1 (a1), R] w0 w := HS
                    refine W.ev (Y.call Try.func20 (by kernel_rfl) rfl (vs := [Value.pointer (some ⟨bt9_0, 0, none⟩)]) rfl (signalmanref6_Clock_Now.calls x16 _ w0 _ bt9_0 t92  A93 (Sep.St.tailJoin (m := [signalmanref6_Clock.at bt9_0 (x16)]) (r := [clock_Set.at bt5_0 (x18), clock_Set.at bt7_0 (t29.2), blk nb28 (#[Value.int .i64 (((a1).getD (x15).toNat default).Way), Value.int .i64 (((a1).getD (x15).toNat default).Id), Value.int .i64 (((a1).getD (x15).toNat default).N)]) 39, tie signalmanlaw7_Act.El sd1 (a1), R]) HS))) rfl rfl rfl ?_
                    rintro _ w ⟨rfl, HS⟩
                    replace HS := Sep.St.tailOpen (m := [signalmanref6_Clock.at bt9_0 (x16)]) (r := [clock_Set.at bt5_0 (x18), clock_Set.at bt7_0 (t29.2), blk nb28 (#[Value.int .i64 (((a1).getD (x15).toNat default).Way), Value.int .i64 (((a1).getD (x15).toNat default).Id), Value.int .i64 (((a1).getD (x15).toNat default).N)]) 39, tie signalmanlaw7_Act.El sd1 (a1), R]) HS
                    have HS : Sep.St [signalmanref6_Clock.at bt9_0 (x16), clock_Set.at bt5_0 (x18), clock_Set.at bt7_0 (t29.2), blk nb28 (#[Value.int .i64 (((a1).getD (x15).toNat default).Way), Value.int .i64 (((a1).getD (x15).toNat default).Id), Value.int .i64 (((a1).getD (x15).toNat default).N)]) 39, tie signalmanlaw7_Act.El sd1 (a1), R] w0 w := HS
                    refine W.want 105 rfl (sb (b_f c89)) ?_
                    refine W.rd (X.cmp (!(decide (t90 = t92))) rfl rfl rfl rfl) rfl rfl rfl ?_
                    refine W.rd (X.pickF (sb (b_f c89)) rfl) rfl rfl rfl ?_
                    refine W.nil ?_
                    refine At.next ?_
                    refine V.keep [(1, Value.slice (some ⟨eb23, eo24, none⟩) (a1).length sc1), (6, Value.pointer (some ⟨bt5_0, 0, none⟩)), (7, Value.pointer (some ⟨bt7_0, 0, none⟩)), (8, Value.pointer (some ⟨bt9_0, 0, none⟩)), (9, Value.int .i64 (x15)), (101, Value.bool (t84.2)), (102, Value.bool (t86.2)), (103, Value.bool (((t84.2) != (t86.2)))), (106, Value.pointer (some ⟨bt5_0, 0, none⟩)), (107, Value.int .u32 (t90)), (108, Value.pointer (some ⟨bt9_0, 0, none⟩)), (109, Value.int .u32 (t92)), (110, Value.bool (!(decide (t90 = t92)))), (111, Value.bool (!(decide (t90 = t92))))] ⟨rfl, rfl, rfl, rfl, rfl, rfl, rfl, rfl, rfl, rfl, rfl, rfl, rfl, rfl, trivial⟩ ?_
                    by_cases c94 : t90 = t92
                    · replace H := ite_t c94 H
                      refine V.condF (sb (n_t (decide_eq_true c94))) ?_
                      refine V.skip ?_
                      refine At.blockEnd ?_
                      refine At.next ?_
                      refine V.keep [(1, Value.slice (some ⟨eb23, eo24, none⟩) (a1).length sc1), (6, Value.pointer (some ⟨bt5_0, 0, none⟩)), (7, Value.pointer (some ⟨bt7_0, 0, none⟩)), (8, Value.pointer (some ⟨bt9_0, 0, none⟩)), (9, Value.int .i64 (x15)), (101, Value.bool (t84.2)), (102, Value.bool (t86.2)), (103, Value.bool (((t84.2) != (t86.2)))), (106, Value.pointer (some ⟨bt5_0, 0, none⟩)), (107, Value.int .u32 (t90)), (108, Value.pointer (some ⟨bt9_0, 0, none⟩)), (109, Value.int .u32 (t92)), (110, Value.bool (!(decide (t90 = t92))))] ⟨rfl, rfl, rfl, rfl, rfl, rfl, rfl, rfl, rfl, rfl, rfl, rfl, rfl, trivial⟩ ?_
                      refine V.region ?_
                      refine W.rd (X.move rfl) rfl rfl rfl ?_
                      refine W.rd (X.add rfl rfl) rfl rfl rfl ?_
                      refine W.rd (X.assign rfl) rfl rfl rfl ?_
                      refine W.nil ?_
                      replace HS := HS.sel [0, 2, 1, 4, 5] [3] rfl
                      exact At.round kq19 (by omega) (w64 (x15 + 1), x16, t29.2, x18) ⟨rfl, rfl, rfl, rfl, rfl, trivial⟩ ⟨HS, H, by omega⟩
                    · replace H := ite_f c94 H
                      refine V.condT (sb (n_f (decide_eq_false c94))) ?_
                      refine V.seq ?_
                      refine V.region ?_
                      refine W.rd (X.assign rfl) rfl rfl rfl ?_
                      refine W.nil ?_
                      refine At.next ?_
                      refine V.keep [(4, Value.bool (false))] ⟨rfl, trivial⟩ ?_
                      refine V.ret ?_
                      refine At.blockRet ?_
                      refine At.thenRet ?_
                      refine At.thenRet ?_
                      refine At.blockRet ?_
                      refine At.thenRet ?_
                      replace HS := HS.sel [5] [0, 1, 2, 3, 4] rfl
                      cases H
                      exact At.ret1 rfl rfl ⟨_, rfl, rfl, HS⟩
                · replace H := ite_f c88 H
                  refine W.pass 100 rfl (sb (n_f (decide_eq_false c88))) rfl rfl ?_
                  refine W.pass 100 rfl (sb (n_f (decide_eq_false c88))) rfl rfl ?_
                  refine W.pass 100 rfl (sb (n_f (decide_eq_false c88))) rfl rfl ?_
                  refine W.rd (X.pickT (sb (n_f (decide_eq_false c88))) rfl) rfl rfl rfl ?_
                  refine W.rd (X.move rfl) rfl rfl rfl ?_
                  refine W.pass 105 rfl rfl rfl rfl ?_
                  refine W.pass 105 rfl rfl rfl rfl ?_
                  refine W.pass 105 rfl rfl rfl rfl ?_
                  refine W.pass 105 rfl rfl rfl rfl ?_
                  refine W.pass 105 rfl rfl rfl rfl ?_
                  refine W.rd (X.pickT rfl rfl) rfl rfl rfl ?_
                  refine W.nil ?_
                  refine At.next ?_
                  refine V.keep [(1, Value.slice (some ⟨eb23, eo24, none⟩) (a1).length sc1), (6, Value.pointer (some ⟨bt5_0, 0, none⟩)), (7, Value.pointer (some ⟨bt7_0, 0, none⟩)), (8, Value.pointer (some ⟨bt9_0, 0, none⟩)), (9, Value.int .i64 (x15)), (101, undef), (102, undef), (103, undef), (106, undef), (107, undef), (108, undef), (109, undef), (110, undef), (111, Value.bool (true))] ⟨rfl, rfl, rfl, rfl, rfl, rfl, rfl, rfl, rfl, rfl, rfl, rfl, rfl, rfl, trivial⟩ ?_
                  refine V.condT rfl ?_
                  refine V.seq ?_
                  refine V.region ?_
                  refine W.rd (X.assign rfl) rfl rfl rfl ?_
                  refine W.nil ?_
                  refine At.next ?_
                  refine V.keep [(4, Value.bool (false))] ⟨rfl, trivial⟩ ?_
                  refine V.ret ?_
                  refine At.blockRet ?_
                  refine At.thenRet ?_
                  refine At.thenRet ?_
                  refine At.blockRet ?_
                  refine At.thenRet ?_
                  replace HS := HS.sel [5] [0, 1, 2, 3, 4] rfl
                  cases H
                  exact At.ret1 rfl rfl ⟨_, rfl, rfl, HS⟩
        · replace H := ite_f c21 H
          refine V.condF (sb (decide_eq_false c21)) ?_
          refine V.exit ?_
          refine At.thenExit ?_
          refine At.thenExit ?_
          refine At.blockExit ?_
          refine At.next ?_
          refine V.keep [] trivial ?_
          refine V.seq ?_
          refine V.region ?_
          refine W.rd (X.assign rfl) rfl rfl rfl ?_
          refine W.nil ?_
          refine At.next ?_
          refine V.keep [(4, Value.bool (true))] ⟨rfl, trivial⟩ ?_
          refine V.ret ?_
          replace HS := HS.sel [4] [0, 1, 2, 3] rfl
          cases H
          exact At.ret1 rfl rfl ⟨_, rfl, rfl, HS⟩
  · replace H := ite_f c3 H
    refine W.pass 18 rfl (sb (n_f (b_f c3))) rfl rfl ?_
    refine W.pass 18 rfl (sb (n_f (b_f c3))) rfl rfl ?_
    refine W.pass 18 rfl (sb (n_f (b_f c3))) rfl rfl ?_
    refine W.rd (X.pickT (sb (n_f (b_f c3))) rfl) rfl rfl rfl ?_
    refine W.nil ?_
    refine At.next ?_
    refine V.keep [(0, Value.int .u32 (a0)), (1, Value.slice sa1 (a1).length sc1), (5, Value.bool (t1)), (22, Value.bool (true))] ⟨rfl, rfl, rfl, rfl, trivial⟩ ?_
    refine V.condT rfl ?_
    refine V.seq ?_
    refine V.region ?_
    refine W.rd (X.move rfl) rfl rfl rfl ?_
    refine W.rd (X.assign rfl) rfl rfl rfl ?_
    refine W.nil ?_
    refine At.next ?_
    refine V.keep [(4, Value.bool (t1))] ⟨rfl, trivial⟩ ?_
    refine V.ret ?_
    refine At.thenRet ?_
    replace HS := HS.sel [1] [0] rfl
    cases H
    exact At.ret1 rfl rfl ⟨_, rfl, rfl, HS⟩

def signalmanlaw7_ClockPlays.Pure : Prop := ∀ (a0 : Int) (a1 : List signalmanlaw7_Act), (Lit.int .u32 a0).wf = true → (∀ z ∈ a1, ((Lit.int .i64 z.Way).wf = true ∧ ((Lit.int .i64 z.Id).wf = true ∧ ((Lit.int .i64 z.N).wf = true ∧ True)))) → (a1.length : Int) ≤ 9223372036854775807 → ∃ k, signalmanlaw7_ClockPlays.f k a0 a1 = some true
end Go.Proofs.Ytmknlnpjimfliaa

/- BacklogPlays: the functions that its law reaches, as plain functions, and that the machine's calls come to what these say. Conditions: those that stand at each. -/
import Derived.Test.YtdnfojgnbhcijaaRunBacklogPlaysP3
set_option linter.all false
namespace Go.Proofs.Ytdnfojgnbhcijaa
open Go.RowKit Go.Proofs.Ytdnfojgnbhcijaa.Sep Go.Proofs.Ytdnfojgnbhcijaa.Walk
/-! ### signalman/signalmanlaw13.BacklogPlays: function 6 -/
mutual
def signalmanlaw13_BacklogPlays.l1 : Nat → (List signalmanlaw13_Act) → Int → signalmanref6_Log → backlog_Log → backlog_Log → Option (Bool)
  | 0, _, _, _, _, _ => none
  | k + 1, a3, x16, x17, x18, x19 => (if x16 < ((a3).length : Int) then (if 0 ≤ x16 ∧ x16 < ((a3).length : Int) then (if ((((a3).getD (x16).toNat default).B).length : Int) > 60 then some (true) else ((backlog_Log_Add.f x18 ([1] : List Int)).bind fun t38 => ((backlog_Log_Next.f t38.2).bind fun t40 => (if (((a3).getD (x16).toNat default).Way) = 0 then (if ((([] : List Int)).length : Int) + (((a3).getD (x16).toNat default).B).length ≤ 1099511627776 then ((backlog_Log_Add.f x19 (([] : List Int) ++ (((a3).getD (x16).toNat default).B))).bind fun t68 => ((signalmanlaw13_num.f t68.1).bind fun t70 => ((signalmanref6_Log_Add.f x17 (((a3).getD (x16).toNat default).B)).bind fun t72 => (if t70 = t72.1 then (signalmanlaw13_BacklogPlays.j2 k x16 t40 (signalmanlaw13_BacklogPlays.l1 k a3) t72.2 t68.2) else some (false))))) else none) else (if (((a3).getD (x16).toNat default).Way) = 1 then ((backlog_Log_Next.f x19).bind fun t76 => ((signalmanref6_Log_Next.f x17).bind fun t78 => (if t76.1 = t78.1 then (if sEq (t76.2.1) (t78.2.1) = true then (if ((t76.2.2.1) != (t78.2.2.1)) = true then some (false) else (signalmanlaw13_BacklogPlays.j2 k x16 t40 (signalmanlaw13_BacklogPlays.l1 k a3) t78.2.2.2 t76.2.2.2)) else some (false)) else some (false)))) else (if (((a3).getD (x16).toNat default).Way) = 2 then ((backlog_Log_Ack.f x19 (((a3).getD (x16).toNat default).N)).bind fun t86 => ((signalmanref6_Log_Ack.f k x17 (((a3).getD (x16).toNat default).N)).bind fun t88 => (if t86.1 = t88.1 then (if ((t86.2.1) != (t88.2.1)) = true then some (false) else (signalmanlaw13_BacklogPlays.j2 k x16 t40 (signalmanlaw13_BacklogPlays.l1 k a3) t88.2.2 t86.2.2)) else some (false)))) else (if (((a3).getD (x16).toNat default).Way) = 3 then ((backlog_Log_Body.f x19 (((a3).getD (x16).toNat default).N)).bind fun t95 => ((signalmanref6_Log_Body.f k x17 (((a3).getD (x16).toNat default).N)).bind fun t99 => (if sEq (t95.1) (t99.1) = true then (if ((t95.2) != (t99.2)) = true then some (false) else (signalmanlaw13_BacklogPlays.j2 k x16 t40 (signalmanlaw13_BacklogPlays.l1 k a3) x17 x19)) else some (false)))) else (if (((a3).getD (x16).toNat default).Way) = 4 then ((backlog_Log_Clear.f x19).bind fun t112 => ((signalmanref6_Log_Clear.f x17).bind fun t114 => (if t112.1 = t114.1 then (signalmanlaw13_BacklogPlays.j2 k x16 t40 (signalmanlaw13_BacklogPlays.l1 k a3) t114.2 t112.2) else some (false)))) else (signalmanlaw13_BacklogPlays.j2 k x16 t40 (signalmanlaw13_BacklogPlays.l1 k a3) x17 x19))))))))) else none) else some (true))
def signalmanlaw13_BacklogPlays.j2 (k : Nat) (x16 : Int) (t40 : Int × List Int × Bool × backlog_Log) (Lq47 : Int → signalmanref6_Log → backlog_Log → backlog_Log → Option (Bool)) (x44 : signalmanref6_Log) (x45 : backlog_Log) : Option (Bool) := ((backlog_Log_Out.f k x45).bind fun t50 => ((signalmanref6_Log_Out.f k x44).bind fun t54 => ((signalmanref6_SameInts.f k t50 t54).bind fun t56 => (if t56 = true then ((backlog_Log_Len.f x45).bind fun t59 => ((signalmanref6_Log_Len.f x44).bind fun t61 => (if t59 = t61 then (Lq47 (w64 (x16 + 1)) x44 t40.2.2.2 x45) else some (false)))) else some (false)))))
def signalmanlaw13_BacklogPlays.j0 (k : Nat) (a0 : Int) (a1 : Int) (a2 : Int) (a3 : List signalmanlaw13_Act) (t1 : Bool) (x4 : Bool) : Option (Bool) := (if x4 = true then some (t1) else ((backlog_New.f a0 a1 a2).bind fun t7 => ((backlog_New.f 8 1 2).bind fun t9 => ((signalmanref6_NewLog.f a0 a1 a2).bind fun t11 => (signalmanlaw13_BacklogPlays.l1 k a3 0 t11 t9 t7)))))
end
def signalmanlaw13_BacklogPlays.f (k : Nat) (a0 : Int) (a1 : Int) (a2 : Int) (a3 : List signalmanlaw13_Act) : Option (Bool) := ((signalmanlaw13_alive.f ).bind fun t1 => (if t1 = true then (signalmanlaw13_BacklogPlays.j0 k a0 a1 a2 a3 t1 (decide (((a3).length : Int) > 100))) else (signalmanlaw13_BacklogPlays.j0 k a0 a1 a2 a3 t1 true)))
set_option maxRecDepth 100000 in
set_option maxHeartbeats 4000000 in
theorem signalmanlaw13_BacklogPlays.calls (k : Nat) (a0 : Int) (a1 : Int) (a2 : Int) (a3 : List signalmanlaw13_Act) (R : As) (w0 w : World) (sa3 : Option Addr) (sc3 : Nat) (sd3 : List Value) (r : Bool) (hr3 : rdC R 3 (.slice sa3 (a3).length sc3) (a3).length sd3) (ht3 : ∀ h, R h → tie signalmanlaw13_Act.El sd3 a3 h) (H : signalmanlaw13_BacklogPlays.f k a0 a1 a2 a3 = some r) (HS : Sep.St [R] w0 w) : Calls Try.prog 6 #[Value.int .i64 (a0), Value.int .i64 (a1), Value.int .i64 (a2), Value.slice sa3 (a3).length sc3] w (Ret fun u w => u = Value.bool (r) ∧ Sep.St [R] w0 w) := by
  unfold signalmanlaw13_BacklogPlays.f at H
  refine calls_enter Try.func6 rfl rfl ?_
  have H : _ = some r := H
  replace HS := St.more 0 HS rfl ht3 tie.pers
  have HS : Sep.St [tie signalmanlaw13_Act.El sd3 (a3), R] w0 w := HS
  refine V.seq ?_
  refine V.region ?_
  refine W.rd (X.assign rfl) rfl rfl rfl ?_
  refine W.nil ?_
  refine At.next ?_
  refine V.keep [(0, Value.int .i64 (a0)), (1, Value.int .i64 (a1)), (2, Value.int .i64 (a2)), (3, Value.slice sa3 (a3).length sc3)] ⟨rfl, rfl, rfl, rfl, trivial⟩ ?_
  refine V.seq ?_
  refine V.region ?_
  obtain ⟨t1, A2, H⟩ := bind_s H
  refine W.ev (Y.call Try.func7 (by kernel_rfl) rfl (vs := []) rfl (signalmanlaw13_alive.calls  _ w0 _  t1  A2 (Sep.St.tailJoin (m := []) (r := [tie signalmanlaw13_Act.El sd3 (a3), R]) HS))) rfl rfl rfl ?_
  rintro _ w ⟨rfl, HS⟩
  replace HS := Sep.St.tailOpen (m := []) (r := [tie signalmanlaw13_Act.El sd3 (a3), R]) HS
  have HS : Sep.St [tie signalmanlaw13_Act.El sd3 (a3), R] w0 w := HS
  refine W.rd (X.assign rfl) rfl rfl rfl ?_
  refine W.nil ?_
  refine At.next ?_
  refine V.keep [(0, Value.int .i64 (a0)), (1, Value.int .i64 (a1)), (2, Value.int .i64 (a2)), (3, Value.slice sa3 (a3).length sc3), (9, Value.bool (t1))] ⟨rfl, rfl, rfl, rfl, rfl, trivial⟩ ?_
  refine V.seq ?_
  refine V.meet (σ := Bool) (fun st w => match st with | x4 => Sep.St [tie signalmanlaw13_Act.El sd3 (a3), R] w0 w ∧ ∃ kf5, kf5 ≤ k ∧ signalmanlaw13_BacklogPlays.j0 kf5 a0 a1 a2 a3 t1 x4 = some r) (fun st => match st with | x4 => [(0, Value.int .i64 (a0)), (1, Value.int .i64 (a1)), (2, Value.int .i64 (a2)), (3, Value.slice sa3 (a3).length sc3), (9, Value.bool (t1)), (36, Value.bool (x4))]) ?_ ?_
  · refine V.region ?_
    refine W.rd (X.move rfl) rfl rfl rfl ?_
    refine W.rd (X.not rfl) rfl rfl rfl ?_
    refine W.rd (X.move rfl) rfl rfl rfl ?_
    by_cases c117 : t1 = true
    · replace H := ite_t c117 H
      refine W.want 32 rfl (sb (n_t c117)) ?_
      refine W.rd (X.move rfl) rfl rfl rfl ?_
      refine W.want 32 rfl (sb (n_t c117)) ?_
      refine W.rd (X.lenSl Try.underlying40 rfl) rfl rfl rfl ?_
      refine W.want 32 rfl (sb (n_t c117)) ?_
      refine W.rd (X.cmp (decide (((a3).length : Int) > 100)) rfl rfl rfl rfl) rfl rfl rfl ?_
      refine W.rd (X.pickF (sb (n_t c117)) rfl) rfl rfl rfl ?_
      refine W.nil ?_
      exact At.meet (decide (((a3).length : Int) > 100)) ⟨rfl, rfl, rfl, rfl, rfl, rfl, trivial⟩ ⟨HS, k, by omega, H⟩
    · replace H := ite_f c117 H
      refine W.pass 32 rfl (sb (n_f (b_f c117))) rfl rfl ?_
      refine W.pass 32 rfl (sb (n_f (b_f c117))) rfl rfl ?_
      refine W.pass 32 rfl (sb (n_f (b_f c117))) rfl rfl ?_
      refine W.rd (X.pickT (sb (n_f (b_f c117))) rfl) rfl rfl rfl ?_
      refine W.nil ?_
      exact At.meet (true) ⟨rfl, rfl, rfl, rfl, rfl, rfl, trivial⟩ ⟨HS, k, by omega, H⟩
  · rintro x4 w ⟨HS, kf5, hkkf5, H⟩
    unfold signalmanlaw13_BacklogPlays.j0 at H
    have HS : Sep.St [tie signalmanlaw13_Act.El sd3 (a3), R] w0 w := HS
    by_cases c6 : x4 = true
    · replace H := ite_t c6 H
      refine V.condT (sb c6) ?_
      refine V.seq ?_
      refine V.region ?_
      refine W.rd (X.move rfl) rfl rfl rfl ?_
      refine W.rd (X.assign rfl) rfl rfl rfl ?_
      refine W.nil ?_
      refine At.next ?_
      refine V.keep [(8, Value.bool (t1))] ⟨rfl, trivial⟩ ?_
      refine V.ret ?_
      refine At.thenRet ?_
      replace HS := HS.sel [1] [0] (by kernel_rfl)
      cases H
      exact At.ret1 rfl rfl ⟨_, rfl, rfl, HS⟩
    · replace H := ite_f c6 H
      refine V.condF (sb (b_f c6)) ?_
      refine V.skip ?_
      refine At.next ?_
      refine V.keep [(0, Value.int .i64 (a0)), (1, Value.int .i64 (a1)), (2, Value.int .i64 (a2)), (3, Value.slice sa3 (a3).length sc3)] ⟨rfl, rfl, rfl, rfl, trivial⟩ ?_
      refine V.seq ?_
      refine V.region ?_
      refine W.rd (X.move rfl) rfl rfl rfl ?_
      refine W.rd (X.move rfl) rfl rfl rfl ?_
      refine W.rd (X.move rfl) rfl rfl rfl ?_
      obtain ⟨t7, A8, H⟩ := bind_s H
      refine W.ev (Y.call Try.func8 (by kernel_rfl) rfl (vs := [Value.int .i64 (a0), Value.int .i64 (a1), Value.int .i64 (a2)]) rfl (backlog_New.calls a0 a1 a2 _ w0 _  t7  A8 (Sep.St.tailJoin (m := []) (r := [tie signalmanlaw13_Act.El sd3 (a3), R]) HS))) rfl rfl rfl ?_
      rintro _ w ⟨bt7_0, rfl, HS⟩
      replace HS := Sep.St.tailOpen (m := [backlog_Log.at bt7_0 (t7)]) (r := [tie signalmanlaw13_Act.El sd3 (a3), R]) HS
      have HS : Sep.St [backlog_Log.at bt7_0 (t7), tie signalmanlaw13_Act.El sd3 (a3), R] w0 w := HS
      refine W.rd (X.assign rfl) rfl rfl rfl ?_
      refine W.nil ?_
      refine At.next ?_
      refine V.keep [(0, Value.int .i64 (a0)), (1, Value.int .i64 (a1)), (2, Value.int .i64 (a2)), (3, Value.slice sa3 (a3).length sc3), (10, Value.pointer (some ⟨bt7_0, 0, none⟩))] ⟨rfl, rfl, rfl, rfl, rfl, trivial⟩ ?_
      refine V.seq ?_
      refine V.region ?_
      obtain ⟨t9, A10, H⟩ := bind_s H
      refine W.ev (Y.call Try.func8 (by kernel_rfl) rfl (vs := [Value.int .i64 (8), Value.int .i64 (1), Value.int .i64 (2)]) rfl (backlog_New.calls 8 1 2 _ w0 _  t9  A10 (Sep.St.tailJoin (m := []) (r := [backlog_Log.at bt7_0 (t7), tie signalmanlaw13_Act.El sd3 (a3), R]) HS))) rfl rfl rfl ?_
      rintro _ w ⟨bt9_0, rfl, HS⟩
      replace HS := Sep.St.tailOpen (m := [backlog_Log.at bt9_0 (t9)]) (r := [backlog_Log.at bt7_0 (t7), tie signalmanlaw13_Act.El sd3 (a3), R]) HS
      have HS : Sep.St [backlog_Log.at bt9_0 (t9), backlog_Log.at bt7_0 (t7), tie signalmanlaw13_Act.El sd3 (a3), R] w0 w := HS
      refine W.rd (X.assign rfl) rfl rfl rfl ?_
      refine W.nil ?_
      refine At.next ?_
      refine V.keep [(0, Value.int .i64 (a0)), (1, Value.int .i64 (a1)), (2, Value.int .i64 (a2)), (3, Value.slice sa3 (a3).length sc3), (10, Value.pointer (some ⟨bt7_0, 0, none⟩)), (11, Value.pointer (some ⟨bt9_0, 0, none⟩))] ⟨rfl, rfl, rfl, rfl, rfl, rfl, trivial⟩ ?_
      refine V.seq ?_
      refine V.region ?_
      refine W.rd (X.move rfl) rfl rfl rfl ?_
      refine W.rd (X.move rfl) rfl rfl rfl ?_
      refine W.rd (X.move rfl) rfl rfl rfl ?_
      obtain ⟨t11, A12, H⟩ := bind_s H
      refine W.ev (Y.call Try.func17 (by kernel_rfl) rfl (vs := [Value.int .i64 (a0), Value.int .i64 (a1), Value.int .i64 (a2)]) rfl (signalmanref6_NewLog.calls a0 a1 a2 _ w0 _  t11  A12 (Sep.St.tailJoin (m := []) (r := [backlog_Log.at bt9_0 (t9), backlog_Log.at bt7_0 (t7), tie signalmanlaw13_Act.El sd3 (a3), R]) HS))) rfl rfl rfl ?_
      rintro _ w ⟨bt11_0, rfl, HS⟩
      replace HS := Sep.St.tailOpen (m := [signalmanref6_Log.at bt11_0 (t11)]) (r := [backlog_Log.at bt9_0 (t9), backlog_Log.at bt7_0 (t7), tie signalmanlaw13_Act.El sd3 (a3), R]) HS
      have HS : Sep.St [signalmanref6_Log.at bt11_0 (t11), backlog_Log.at bt9_0 (t9), backlog_Log.at bt7_0 (t7), tie signalmanlaw13_Act.El sd3 (a3), R] w0 w := HS
      refine W.rd (X.assign rfl) rfl rfl rfl ?_
      refine W.nil ?_
      refine At.next ?_
      refine V.keep [(3, Value.slice sa3 (a3).length sc3), (10, Value.pointer (some ⟨bt7_0, 0, none⟩)), (11, Value.pointer (some ⟨bt9_0, 0, none⟩)), (12, Value.pointer (some ⟨bt11_0, 0, none⟩))] ⟨rfl, rfl, rfl, rfl, trivial⟩ ?_
      refine V.seq ?_
      refine V.seq ?_
      refine V.region ?_
      refine W.rd (X.assign rfl) rfl rfl rfl ?_
      refine W.nil ?_
      refine At.next ?_
      refine V.keep [(3, Value.slice sa3 (a3).length sc3), (10, Value.pointer (some ⟨bt7_0, 0, none⟩)), (11, Value.pointer (some ⟨bt9_0, 0, none⟩)), (12, Value.pointer (some ⟨bt11_0, 0, none⟩)), (13, Value.int .i64 (0))] ⟨rfl, rfl, rfl, rfl, rfl, trivial⟩ ?_
      refine V.block ?_
      refine V.loop (σ := Int × signalmanref6_Log × backlog_Log × backlog_Log) (fun kq (st : Int × signalmanref6_Log × backlog_Log × backlog_Log) w => match st with | (x16, x17, x18, x19) => Sep.St [signalmanref6_Log.at bt11_0 (x17), backlog_Log.at bt9_0 (x18), backlog_Log.at bt7_0 (x19), tie signalmanlaw13_Act.El sd3 (a3), R] w0 w ∧ signalmanlaw13_BacklogPlays.l1 kq a3 x16 x17 x18 x19 = some r ∧ kq ≤ kf5) (fun st => match st with | (x16, x17, x18, x19) => [(3, Value.slice sa3 (a3).length sc3), (10, Value.pointer (some ⟨bt7_0, 0, none⟩)), (11, Value.pointer (some ⟨bt9_0, 0, none⟩)), (12, Value.pointer (some ⟨bt11_0, 0, none⟩)), (13, Value.int .i64 (x16))]) kf5 (0, t11, t9, t7) ⟨rfl, rfl, rfl, rfl, rfl, trivial⟩ ⟨HS, H, Nat.le_refl _⟩ ?_
      rintro kq20 ⟨x16, x17, x18, x19⟩ w ⟨HS, H, hk21⟩
      cases kq20 with
      | zero => exact absurd H (by simp [signalmanlaw13_BacklogPlays.l1])
      | succ kq20 =>
        simp only [signalmanlaw13_BacklogPlays.l1] at H
        have HS : Sep.St [signalmanref6_Log.at bt11_0 (x17), backlog_Log.at bt9_0 (x18), backlog_Log.at bt7_0 (x19), tie signalmanlaw13_Act.El sd3 (a3), R] w0 w := HS
        refine V.seq ?_
        refine V.seq ?_
        refine V.region ?_
        refine W.rd (X.move rfl) rfl rfl rfl ?_
        refine W.rd (X.move rfl) rfl rfl rfl ?_
        refine W.rd (X.lenSl Try.underlying40 rfl) rfl rfl rfl ?_
        refine W.rd (X.cmp (decide (x16 < ((a3).length : Int))) rfl rfl rfl rfl) rfl rfl rfl ?_
        refine W.nil ?_
        refine At.next ?_
        refine V.keep [(3, Value.slice sa3 (a3).length sc3), (10, Value.pointer (some ⟨bt7_0, 0, none⟩)), (11, Value.pointer (some ⟨bt9_0, 0, none⟩)), (12, Value.pointer (some ⟨bt11_0, 0, none⟩)), (13, Value.int .i64 (x16)), (50, Value.bool (decide (x16 < ((a3).length : Int))))] ⟨rfl, rfl, rfl, rfl, rfl, rfl, trivial⟩ ?_
        by_cases c22 : x16 < ((a3).length : Int)
        · replace H := ite_t c22 H
          refine V.condT (sb (decide_eq_true c22)) ?_
          refine V.skip ?_
          refine At.next ?_
          refine V.keep [(3, Value.slice sa3 (a3).length sc3), (10, Value.pointer (some ⟨bt7_0, 0, none⟩)), (11, Value.pointer (some ⟨bt9_0, 0, none⟩)), (12, Value.pointer (some ⟨bt11_0, 0, none⟩)), (13, Value.int .i64 (x16))] ⟨rfl, rfl, rfl, rfl, rfl, trivial⟩ ?_
          refine V.seq ?_
          refine V.block ?_
          refine V.seq ?_
          refine V.region ?_
          refine W.rd (X.move rfl) rfl rfl rfl ?_
          refine W.rd (X.move rfl) rfl rfl rfl ?_
          obtain ⟨c23, H⟩ := ite_n H
          obtain ⟨eb24, eo25, hh⟩ := ((rdC.at 4 hr3 HS rfl)).some (by decide) c23.1 c23.2; subst hh
          refine W.rd (X.indexSl Try.underlying40 inf44 rfl rfl c23.1 c23.2) rfl rfl rfl ?_
          obtain ⟨ec26, hc27, HS⟩ := St.tie_at 3 HS rfl (default) c23.1 c23.2
          obtain ⟨ea28, em29, he30, HN⟩ := signalmanlaw13_Act.unpack HS; clear HS; subst he30; have HS := HN
          have HS : Sep.St [fsl 1 (.slice ea28 (((a3).getD (x16).toNat default).B).length em29) (((a3).getD (x16).toNat default).B).length ((((a3).getD (x16).toNat default).B).map (Value.int .u8)), signalmanref6_Log.at bt11_0 (x17), backlog_Log.at bt9_0 (x18), backlog_Log.at bt7_0 (x19), tie signalmanlaw13_Act.El sd3 (a3), R] w0 w := HS
          refine W.rd (X.loadEl Try.underlying44 rfl inf44 rfl (vs := [Value.int .i64 (((a3).getD (x16).toNat default).Way), Value.int .i64 (((a3).getD (x16).toNat default).N), Value.slice ea28 (((a3).getD (x16).toNat default).B).length em29]) (((rdC.at 5 hr3 HS rfl)).cellsAt0 (fun j u h => hc27 j u h))) rfl rfl rfl ?_
          refine W.ev (Y.alloc (z := Value.agg (#[Value.int .i64 (0), Value.int .i64 (0), Value.slice none 0 0])) HS ze44) rfl rfl rfl ?_
          rintro _ w ⟨nb31, rfl, HS⟩
          have HS : Sep.St [blk nb31 (#[Value.int .i64 (0), Value.int .i64 (0), Value.slice none 0 0]) 44, fsl 1 (.slice ea28 (((a3).getD (x16).toNat default).B).length em29) (((a3).getD (x16).toNat default).B).length ((((a3).getD (x16).toNat default).B).map (Value.int .u8)), signalmanref6_Log.at bt11_0 (x17), backlog_Log.at bt9_0 (x18), backlog_Log.at bt7_0 (x19), tie signalmanlaw13_Act.El sd3 (a3), R] w0 w := HS
          refine W.ev_none (Y.storeSt (c' := #[Value.int .i64 (((a3).getD (x16).toNat default).Way), Value.int .i64 (((a3).getD (x16).toNat default).N), Value.slice ea28 (((a3).getD (x16).toNat default).B).length em29]) 0 [Value.int .i64 (((a3).getD (x16).toNat default).Way), Value.int .i64 (((a3).getD (x16).toNat default).N), Value.slice ea28 (((a3).getD (x16).toNat default).B).length em29] HS rfl inf44 rfl rfl rfl rfl rfl rfl) rfl rfl ?_
          rintro _ w HS
          have HS : Sep.St [blk nb31 (#[Value.int .i64 (((a3).getD (x16).toNat default).Way), Value.int .i64 (((a3).getD (x16).toNat default).N), Value.slice ea28 (((a3).getD (x16).toNat default).B).length em29]) 44, fsl 1 (.slice ea28 (((a3).getD (x16).toNat default).B).length em29) (((a3).getD (x16).toNat default).B).length ((((a3).getD (x16).toNat default).B).map (Value.int .u8)), signalmanref6_Log.at bt11_0 (x17), backlog_Log.at bt9_0 (x18), backlog_Log.at bt7_0 (x19), tie signalmanlaw13_Act.El sd3 (a3), R] w0 w := HS
          refine W.nil ?_
          refine At.next ?_
          refine V.keep [(3, Value.slice (some ⟨eb24, eo25, none⟩) (a3).length sc3), (10, Value.pointer (some ⟨bt7_0, 0, none⟩)), (11, Value.pointer (some ⟨bt9_0, 0, none⟩)), (12, Value.pointer (some ⟨bt11_0, 0, none⟩)), (13, Value.int .i64 (x16)), (14, Value.pointer (some ⟨nb31, 0, none⟩))] ⟨rfl, rfl, rfl, rfl, rfl, rfl, trivial⟩ ?_
          refine V.seq ?_
          refine V.seq ?_
          refine V.region ?_
          refine W.rd (X.fieldAddr 2 fo44_2 rfl) rfl rfl rfl ?_
          refine W.rd (X.loadAt 0 HS rfl Try.underlying27 rfl rfl rfl) rfl rfl rfl ?_
          refine W.rd (X.lenSl Try.underlying27 rfl) rfl rfl rfl ?_
          refine W.rd (X.cmp (decide (((((a3).getD (x16).toNat default).B).length : Int) > 60)) rfl rfl rfl rfl) rfl rfl rfl ?_
          refine W.nil ?_
          refine At.next ?_
          refine V.keep [(3, Value.slice (some ⟨eb24, eo25, none⟩) (a3).length sc3), (10, Value.pointer (some ⟨bt7_0, 0, none⟩)), (11, Value.pointer (some ⟨bt9_0, 0, none⟩)), (12, Value.pointer (some ⟨bt11_0, 0, none⟩)), (13, Value.int .i64 (x16)), (14, Value.pointer (some ⟨nb31, 0, none⟩)), (60, Value.bool (decide (((((a3).getD (x16).toNat default).B).length : Int) > 60)))] ⟨rfl, rfl, rfl, rfl, rfl, rfl, rfl, trivial⟩ ?_
          by_cases c34 : ((((a3).getD (x16).toNat default).B).length : Int) > 60
          · replace H := ite_t c34 H
            refine V.condT (sb (decide_eq_true c34)) ?_
            refine V.seq ?_
            refine V.region ?_
            refine W.rd (X.assign rfl) rfl rfl rfl ?_
            refine W.nil ?_
            refine At.next ?_
            refine V.keep [(8, Value.bool (true))] ⟨rfl, trivial⟩ ?_
            refine V.ret ?_
            refine At.thenRet ?_
            refine At.blockRet ?_
            refine At.thenRet ?_
            refine At.thenRet ?_
            refine At.blockRet ?_
            refine At.thenRet ?_
            replace HS := HS.sel [6] [0, 1, 2, 3, 4, 5] (by kernel_rfl)
            cases H
            exact At.ret1 rfl rfl ⟨_, rfl, rfl, HS⟩
          · replace H := ite_f c34 H
            refine V.condF (sb (decide_eq_false c34)) ?_
            refine V.skip ?_
            refine At.next ?_
            refine V.keep [(3, Value.slice (some ⟨eb24, eo25, none⟩) (a3).length sc3), (10, Value.pointer (some ⟨bt7_0, 0, none⟩)), (11, Value.pointer (some ⟨bt9_0, 0, none⟩)), (12, Value.pointer (some ⟨bt11_0, 0, none⟩)), (13, Value.int .i64 (x16)), (14, Value.pointer (some ⟨nb31, 0, none⟩))] ⟨rfl, rfl, rfl, rfl, rfl, rfl, trivial⟩ ?_
            refine V.seq ?_
            refine V.region ?_
            refine W.rd (X.move rfl) rfl rfl rfl ?_
            refine W.ev (Y.litB (e := 5) (sz := 1) (vs := #[(0, Value.int .u8 (1))]) [Value.int .u8 (1)] HS (fun a ha => by simp only [List.map_toArray, List.map_cons, List.map_nil]; try rfl) rfl (by decide) (fun _ => by kernel_rfl)) rfl rfl rfl ?_
            rintro _ w ⟨lb37, rfl, HS⟩
            have HS : Sep.St [row 5 1 (.slice (some ⟨lb37, 0, none⟩) (([1] : List Int)).length 1) (([1] : List Int)).length ((([1] : List Int)).map (Value.int .u8)), blk nb31 (#[Value.int .i64 (((a3).getD (x16).toNat default).Way), Value.int .i64 (((a3).getD (x16).toNat default).N), Value.slice ea28 (((a3).getD (x16).toNat default).B).length em29]) 44, fsl 1 (.slice ea28 (((a3).getD (x16).toNat default).B).length em29) (((a3).getD (x16).toNat default).B).length ((((a3).getD (x16).toNat default).B).map (Value.int .u8)), signalmanref6_Log.at bt11_0 (x17), backlog_Log.at bt9_0 (x18), backlog_Log.at bt7_0 (x19), tie signalmanlaw13_Act.El sd3 (a3), R] w0 w := HS
            obtain ⟨t38, A39, H⟩ := bind_s H
            replace HS := HS.re [4, 0, 1, 2, 3, 5, 6, 7] (by kernel_rfl)
            have HS : Sep.St [backlog_Log.at bt9_0 (x18), row 5 1 (.slice (some ⟨lb37, 0, none⟩) (([1] : List Int)).length 1) (([1] : List Int)).length ((([1] : List Int)).map (Value.int .u8)), blk nb31 (#[Value.int .i64 (((a3).getD (x16).toNat default).Way), Value.int .i64 (((a3).getD (x16).toNat default).N), Value.slice ea28 (((a3).getD (x16).toNat default).B).length em29]) 44, fsl 1 (.slice ea28 (((a3).getD (x16).toNat default).B).length em29) (((a3).getD (x16).toNat default).B).length ((((a3).getD (x16).toNat default).B).map (Value.int .u8)), signalmanref6_Log.at bt11_0 (x17), backlog_Log.at bt7_0 (x19), tie signalmanlaw13_Act.El sd3 (a3), R] w0 w := HS
            refine W.ev (Y.call Try.func9 (by kernel_rfl) rfl (vs := [Value.pointer (some ⟨bt9_0, 0, none⟩), Value.slice (some ⟨lb37, 0, none⟩) (([1] : List Int)).length 1]) rfl (backlog_Log_Add.calls x18 ([1] : List Int) _ w0 _ bt9_0 (some ⟨lb37, 0, none⟩) 1 t38 (rdC.part 0 row_rd rfl) A39 (Sep.St.tailJoin (m := [backlog_Log.at bt9_0 (x18)]) (r := [row 5 1 (.slice (some ⟨lb37, 0, none⟩) (([1] : List Int)).length 1) (([1] : List Int)).length ((([1] : List Int)).map (Value.int .u8)), blk nb31 (#[Value.int .i64 (((a3).getD (x16).toNat default).Way), Value.int .i64 (((a3).getD (x16).toNat default).N), Value.slice ea28 (((a3).getD (x16).toNat default).B).length em29]) 44, fsl 1 (.slice ea28 (((a3).getD (x16).toNat default).B).length em29) (((a3).getD (x16).toNat default).B).length ((((a3).getD (x16).toNat default).B).map (Value.int .u8)), signalmanref6_Log.at bt11_0 (x17), backlog_Log.at bt7_0 (x19), tie signalmanlaw13_Act.El sd3 (a3), R]) HS))) rfl rfl rfl ?_
            rintro _ w ⟨rfl, HS⟩
            replace HS := Sep.St.tailOpen (m := [backlog_Log.at bt9_0 (t38.2)]) (r := [row 5 1 (.slice (some ⟨lb37, 0, none⟩) (([1] : List Int)).length 1) (([1] : List Int)).length ((([1] : List Int)).map (Value.int .u8)), blk nb31 (#[Value.int .i64 (((a3).getD (x16).toNat default).Way), Value.int .i64 (((a3).getD (x16).toNat default).N), Value.slice ea28 (((a3).getD (x16).toNat default).B).length em29]) 44, fsl 1 (.slice ea28 (((a3).getD (x16).toNat default).B).length em29) (((a3).getD (x16).toNat default).B).length ((((a3).getD (x16).toNat default).B).map (Value.int .u8)), signalmanref6_Log.at bt11_0 (x17), backlog_Log.at bt7_0 (x19), tie signalmanlaw13_Act.El sd3 (a3), R]) HS
            have HS : Sep.St [backlog_Log.at bt9_0 (t38.2), row 5 1 (.slice (some ⟨lb37, 0, none⟩) (([1] : List Int)).length 1) (([1] : List Int)).length ((([1] : List Int)).map (Value.int .u8)), blk nb31 (#[Value.int .i64 (((a3).getD (x16).toNat default).Way), Value.int .i64 (((a3).getD (x16).toNat default).N), Value.slice ea28 (((a3).getD (x16).toNat default).B).length em29]) 44, fsl 1 (.slice ea28 (((a3).getD (x16).toNat default).B).length em29) (((a3).getD (x16).toNat default).B).length ((((a3).getD (x16).toNat default).B).map (Value.int .u8)), signalmanref6_Log.at bt11_0 (x17), backlog_Log.at bt7_0 (x19), tie signalmanlaw13_Act.El sd3 (a3), R] w0 w := HS
            refine W.nil ?_
            refine At.next ?_
            refine V.keep [(3, Value.slice (some ⟨eb24, eo25, none⟩) (a3).length sc3), (10, Value.pointer (some ⟨bt7_0, 0, none⟩)), (11, Value.pointer (some ⟨bt9_0, 0, none⟩)), (12, Value.pointer (some ⟨bt11_0, 0, none⟩)), (13, Value.int .i64 (x16)), (14, Value.pointer (some ⟨nb31, 0, none⟩))] ⟨rfl, rfl, rfl, rfl, rfl, rfl, trivial⟩ ?_
            refine V.seq ?_
            refine V.region ?_
            refine W.rd (X.move rfl) rfl rfl rfl ?_
            obtain ⟨t40, A41, H⟩ := bind_s H
            refine W.ev (Y.call Try.func10 (by kernel_rfl) rfl (vs := [Value.pointer (some ⟨bt9_0, 0, none⟩)]) rfl (backlog_Log_Next.calls t38.2 _ w0 _ bt9_0 t40  A41 (Sep.St.tailJoin (m := [backlog_Log.at bt9_0 (t38.2)]) (r := [row 5 1 (.slice (some ⟨lb37, 0, none⟩) (([1] : List Int)).length 1) (([1] : List Int)).length ((([1] : List Int)).map (Value.int .u8)), blk nb31 (#[Value.int .i64 (((a3).getD (x16).toNat default).Way), Value.int .i64 (((a3).getD (x16).toNat default).N), Value.slice ea28 (((a3).getD (x16).toNat default).B).length em29]) 44, fsl 1 (.slice ea28 (((a3).getD (x16).toNat default).B).length em29) (((a3).getD (x16).toNat default).B).length ((((a3).getD (x16).toNat default).B).map (Value.int .u8)), signalmanref6_Log.at bt11_0 (x17), backlog_Log.at bt7_0 (x19), tie signalmanlaw13_Act.El sd3 (a3), R]) HS))) rfl rfl rfl ?_
            rintro _ w ⟨at40_1, ct40_1, rfl, HS⟩
            replace HS := Sep.St.tailOpen (m := [row 5 1 (.slice at40_1 (t40.2.1).length ct40_1) (t40.2.1).length ((t40.2.1).map (Value.int .u8)), backlog_Log.at bt9_0 (t40.2.2.2)]) (r := [row 5 1 (.slice (some ⟨lb37, 0, none⟩) (([1] : List Int)).length 1) (([1] : List Int)).length ((([1] : List Int)).map (Value.int .u8)), blk nb31 (#[Value.int .i64 (((a3).getD (x16).toNat default).Way), Value.int .i64 (((a3).getD (x16).toNat default).N), Value.slice ea28 (((a3).getD (x16).toNat default).B).length em29]) 44, fsl 1 (.slice ea28 (((a3).getD (x16).toNat default).B).length em29) (((a3).getD (x16).toNat default).B).length ((((a3).getD (x16).toNat default).B).map (Value.int .u8)), signalmanref6_Log.at bt11_0 (x17), backlog_Log.at bt7_0 (x19), tie signalmanlaw13_Act.El sd3 (a3), R]) HS
            have HS : Sep.St [row 5 1 (.slice at40_1 (t40.2.1).length ct40_1) (t40.2.1).length ((t40.2.1).map (Value.int .u8)), backlog_Log.at bt9_0 (t40.2.2.2), row 5 1 (.slice (some ⟨lb37, 0, none⟩) (([1] : List Int)).length 1) (([1] : List Int)).length ((([1] : List Int)).map (Value.int .u8)), blk nb31 (#[Value.int .i64 (((a3).getD (x16).toNat default).Way), Value.int .i64 (((a3).getD (x16).toNat default).N), Value.slice ea28 (((a3).getD (x16).toNat default).B).length em29]) 44, fsl 1 (.slice ea28 (((a3).getD (x16).toNat default).B).length em29) (((a3).getD (x16).toNat default).B).length ((((a3).getD (x16).toNat default).B).map (Value.int .u8)), signalmanref6_Log.at bt11_0 (x17), backlog_Log.at bt7_0 (x19), tie signalmanlaw13_Act.El sd3 (a3), R] w0 w := HS
            refine W.nil ?_
            refine At.next ?_
            refine V.keep [(3, Value.slice (some ⟨eb24, eo25, none⟩) (a3).length sc3), (10, Value.pointer (some ⟨bt7_0, 0, none⟩)), (11, Value.pointer (some ⟨bt9_0, 0, none⟩)), (12, Value.pointer (some ⟨bt11_0, 0, none⟩)), (13, Value.int .i64 (x16)), (14, Value.pointer (some ⟨nb31, 0, none⟩))] ⟨rfl, rfl, rfl, rfl, rfl, rfl, trivial⟩ ?_
            refine V.meet (σ := signalmanref6_Log × backlog_Log) (fun st w => match st with | (x44, x45) => Sep.St [signalmanlaw13_Act.at nb31 (((a3).getD (x16).toNat default)), row 5 1 (.slice at40_1 (t40.2.1).length ct40_1) (t40.2.1).length ((t40.2.1).map (Value.int .u8)), backlog_Log.at bt9_0 (t40.2.2.2), row 5 1 (.slice (some ⟨lb37, 0, none⟩) (([1] : List Int)).length 1) (([1] : List Int)).length ((([1] : List Int)).map (Value.int .u8)), fsl 1 (.slice ea28 (((a3).getD (x16).toNat default).B).length em29) (((a3).getD (x16).toNat default).B).length ((((a3).getD (x16).toNat default).B).map (Value.int .u8)), signalmanref6_Log.at bt11_0 (x44), backlog_Log.at bt7_0 (x45), tie signalmanlaw13_Act.El sd3 (a3), R] w0 w ∧ ∃ kf46, kf46 ≤ kq20 ∧ signalmanlaw13_BacklogPlays.j2 kf46 x16 t40 (signalmanlaw13_BacklogPlays.l1 kf46 a3) x44 x45 = some r) (fun st => match st with | (x44, x45) => [(3, Value.slice (some ⟨eb24, eo25, none⟩) (a3).length sc3), (10, Value.pointer (some ⟨bt7_0, 0, none⟩)), (11, Value.pointer (some ⟨bt9_0, 0, none⟩)), (12, Value.pointer (some ⟨bt11_0, 0, none⟩)), (13, Value.int .i64 (x16))]) ?_ ?_
            · refine V.seq ?_
              refine V.region ?_
              refine W.rd (X.fieldAddr 0 fo44_0 rfl) rfl rfl rfl ?_
              refine W.rd (X.loadAt 3 HS rfl Try.underlying3 rfl rfl rfl) rfl rfl rfl ?_
              refine W.nil ?_
              refine At.next ?_
              refine V.keep [(3, Value.slice (some ⟨eb24, eo25, none⟩) (a3).length sc3), (10, Value.pointer (some ⟨bt7_0, 0, none⟩)), (11, Value.pointer (some ⟨bt9_0, 0, none⟩)), (12, Value.pointer (some ⟨bt11_0, 0, none⟩)), (13, Value.int .i64 (x16)), (14, Value.pointer (some ⟨nb31, 0, none⟩)), (67, Value.int .i64 (((a3).getD (x16).toNat default).Way))] ⟨rfl, rfl, rfl, rfl, rfl, rfl, rfl, trivial⟩ ?_
              refine V.block ?_
              refine V.seq ?_
              refine V.region ?_
              refine W.rd (X.cmp (decide ((((a3).getD (x16).toNat default).Way) = 0)) rfl rfl rfl rfl) rfl rfl rfl ?_
              refine W.rd (X.assign rfl) rfl rfl rfl ?_
              refine W.nil ?_
              refine At.next ?_
              refine V.keep [(3, Value.slice (some ⟨eb24, eo25, none⟩) (a3).length sc3), (10, Value.pointer (some ⟨bt7_0, 0, none⟩)), (11, Value.pointer (some ⟨bt9_0, 0, none⟩)), (12, Value.pointer (some ⟨bt11_0, 0, none⟩)), (13, Value.int .i64 (x16)), (14, Value.pointer (some ⟨nb31, 0, none⟩)), (67, Value.int .i64 (((a3).getD (x16).toNat default).Way)), (68, Value.bool (decide ((((a3).getD (x16).toNat default).Way) = 0)))] ⟨rfl, rfl, rfl, rfl, rfl, rfl, rfl, rfl, trivial⟩ ?_
              by_cases c64 : (((a3).getD (x16).toNat default).Way) = 0
              · replace H := ite_t c64 H
                refine V.condT (sb (decide_eq_true c64)) ?_
                refine V.seq ?_
                refine V.draw (es := [3, 4, 5, 9]) (bl := [10]) (f := [(70, Value.pointer (some ⟨bt7_0, 0, none⟩)), (71, Value.pointer (some ⟨nb31, 0 + 2, none⟩)), (72, Value.slice ea28 (((a3).getD (x16).toNat default).B).length em29), (76, Value.pointer (some ⟨bt11_0, 0, none⟩)), (77, Value.pointer (some ⟨nb31, 0 + 2, none⟩)), (78, Value.slice ea28 (((a3).getD (x16).toNat default).B).length em29)]) (fun w => Sep.St [row 5 1 (.slice at40_1 (t40.2.1).length ct40_1) (t40.2.1).length ((t40.2.1).map (Value.int .u8)), backlog_Log.at bt9_0 (t40.2.2.2), row 5 1 (.slice (some ⟨lb37, 0, none⟩) (([1] : List Int)).length 1) (([1] : List Int)).length ((([1] : List Int)).map (Value.int .u8)), blk nb31 (#[Value.int .i64 (((a3).getD (x16).toNat default).Way), Value.int .i64 (((a3).getD (x16).toNat default).N), Value.slice ea28 (((a3).getD (x16).toNat default).B).length em29]) 44, fsl 1 (.slice ea28 (((a3).getD (x16).toNat default).B).length em29) (((a3).getD (x16).toNat default).B).length ((((a3).getD (x16).toNat default).B).map (Value.int .u8)), signalmanref6_Log.at bt11_0 (x17), backlog_Log.at bt7_0 (x19), tie signalmanlaw13_Act.El sd3 (a3), R] w0 w) mo HS.drew rfl ?_
                refine T.event _ [(72, Value.slice ea28 (((a3).getD (x16).toNat default).B).length em29)] rfl rfl ⟨⟨_, Value.pointer (some ⟨bt7_0, 0, none⟩), [(10, Value.pointer (some ⟨bt7_0, 0, none⟩))], 70, rfl, rfl, ⟨.inl ⟨rfl, rfl⟩, trivial⟩, .run rfl (fun w HS => X.move rfl), rfl, rfl, rfl⟩, ⟨_, Value.pointer (some ⟨nb31, 0 + 2, none⟩), [(14, Value.pointer (some ⟨nb31, 0, none⟩))], 71, rfl, rfl, ⟨.inl ⟨rfl, rfl⟩, trivial⟩, .run rfl (fun w HS => X.fieldAddr 2 fo44_2 rfl), rfl, rfl, rfl⟩, ⟨_, Value.slice ea28 (((a3).getD (x16).toNat default).B).length em29, [(71, Value.pointer (some ⟨nb31, 0 + 2, none⟩))], 72, rfl, rfl, ⟨.inr ⟨rfl, rfl⟩, trivial⟩, .run rfl (fun w HS => X.loadAt 3 HS rfl Try.underlying27 rfl rfl rfl), rfl, rfl, rfl⟩, ⟨_, Value.pointer (some ⟨bt11_0, 0, none⟩), [(12, Value.pointer (some ⟨bt11_0, 0, none⟩))], 76, rfl, rfl, ⟨.inl ⟨rfl, rfl⟩, trivial⟩, .run rfl (fun w HS => X.move rfl), rfl, rfl, rfl⟩, ⟨_, Value.pointer (some ⟨nb31, 0 + 2, none⟩), [(14, Value.pointer (some ⟨nb31, 0, none⟩))], 77, rfl, rfl, ⟨.inl ⟨rfl, rfl⟩, trivial⟩, .run rfl (fun w HS => X.fieldAddr 2 fo44_2 rfl), rfl, rfl, rfl⟩, ⟨_, Value.slice ea28 (((a3).getD (x16).toNat default).B).length em29, [(77, Value.pointer (some ⟨nb31, 0 + 2, none⟩))], 78, rfl, rfl, ⟨.inr ⟨rfl, rfl⟩, trivial⟩, .run rfl (fun w HS => X.loadAt 3 HS rfl Try.underlying27 rfl rfl rfl), rfl, rfl, rfl⟩, trivial⟩ rfl ⟨.inr ⟨rfl, rfl⟩, trivial⟩ (Or.inl rfl) (by intro d hd; cases hd; exact ⟨by decide, rfl, rfl⟩) [10] [1, 2] rfl rfl (fun w HS => ?_)
                have HS : Sep.St [row 5 1 (.slice at40_1 (t40.2.1).length ct40_1) (t40.2.1).length ((t40.2.1).map (Value.int .u8)), backlog_Log.at bt9_0 (t40.2.2.2), row 5 1 (.slice (some ⟨lb37, 0, none⟩) (([1] : List Int)).length 1) (([1] : List Int)).length ((([1] : List Int)).map (Value.int .u8)), blk nb31 (#[Value.int .i64 (((a3).getD (x16).toNat default).Way), Value.int .i64 (((a3).getD (x16).toNat default).N), Value.slice ea28 (((a3).getD (x16).toNat default).B).length em29]) 44, fsl 1 (.slice ea28 (((a3).getD (x16).toNat default).B).length em29) (((a3).getD (x16).toNat default).B).length ((((a3).getD (x16).toNat default).B).map (Value.int .u8)), signalmanref6_Log.at bt11_0 (x17), backlog_Log.at bt7_0 (x19), tie signalmanlaw13_Act.El sd3 (a3), R] w0 w := HS
                obtain ⟨c65, H⟩ := ite_n H
                replace HS := row_nil' (e := 5) 1 none HS
                have HS : Sep.St [row 5 1 (.slice none (([] : List Int)).length 0) (([] : List Int)).length ((([] : List Int)).map (Value.int .u8)), row 5 1 (.slice at40_1 (t40.2.1).length ct40_1) (t40.2.1).length ((t40.2.1).map (Value.int .u8)), backlog_Log.at bt9_0 (t40.2.2.2), row 5 1 (.slice (some ⟨lb37, 0, none⟩) (([1] : List Int)).length 1) (([1] : List Int)).length ((([1] : List Int)).map (Value.int .u8)), blk nb31 (#[Value.int .i64 (((a3).getD (x16).toNat default).Way), Value.int .i64 (((a3).getD (x16).toNat default).N), Value.slice ea28 (((a3).getD (x16).toNat default).B).length em29]) 44, fsl 1 (.slice ea28 (((a3).getD (x16).toNat default).B).length em29) (((a3).getD (x16).toNat default).B).length ((((a3).getD (x16).toNat default).B).map (Value.int .u8)), signalmanref6_Log.at bt11_0 (x17), backlog_Log.at bt7_0 (x19), tie signalmanlaw13_Act.El sd3 (a3), R] w0 w := HS
                refine ⟨_, Y.appF (Value.int .u8) (fun _ => rfl) 0 Try.underlying27 ap5 rfl HS rfl rfl rfl (rdC.at 5 fsl.rd HS rfl) (by omega) (by omega), ?_⟩
                rintro _ w ⟨ra66, rc67, rfl, HS⟩
                have HS : Sep.St [row 5 1 (.slice ra66 (([] : List Int) ++ (((a3).getD (x16).toNat default).B)).length rc67) (([] : List Int) ++ (((a3).getD (x16).toNat default).B)).length ((([] : List Int) ++ (((a3).getD (x16).toNat default).B)).map (Value.int .u8)), row 5 1 (.slice at40_1 (t40.2.1).length ct40_1) (t40.2.1).length ((t40.2.1).map (Value.int .u8)), backlog_Log.at bt9_0 (t40.2.2.2), row 5 1 (.slice (some ⟨lb37, 0, none⟩) (([1] : List Int)).length 1) (([1] : List Int)).length ((([1] : List Int)).map (Value.int .u8)), blk nb31 (#[Value.int .i64 (((a3).getD (x16).toNat default).Way), Value.int .i64 (((a3).getD (x16).toNat default).N), Value.slice ea28 (((a3).getD (x16).toNat default).B).length em29]) 44, fsl 1 (.slice ea28 (((a3).getD (x16).toNat default).B).length em29) (((a3).getD (x16).toNat default).B).length ((((a3).getD (x16).toNat default).B).map (Value.int .u8)), signalmanref6_Log.at bt11_0 (x17), backlog_Log.at bt7_0 (x19), tie signalmanlaw13_Act.El sd3 (a3), R] w0 w := HS
                refine ⟨[(73, Value.slice ra66 (([] : List Int) ++ (((a3).getD (x16).toNat default).B)).length rc67)], fun w => Sep.St [row 5 1 (.slice ra66 (([] : List Int) ++ (((a3).getD (x16).toNat default).B)).length rc67) (([] : List Int) ++ (((a3).getD (x16).toNat default).B)).length ((([] : List Int) ++ (((a3).getD (x16).toNat default).B)).map (Value.int .u8)), row 5 1 (.slice at40_1 (t40.2.1).length ct40_1) (t40.2.1).length ((t40.2.1).map (Value.int .u8)), backlog_Log.at bt9_0 (t40.2.2.2), row 5 1 (.slice (some ⟨lb37, 0, none⟩) (([1] : List Int)).length 1) (([1] : List Int)).length ((([1] : List Int)).map (Value.int .u8)), blk nb31 (#[Value.int .i64 (((a3).getD (x16).toNat default).Way), Value.int .i64 (((a3).getD (x16).toNat default).N), Value.slice ea28 (((a3).getD (x16).toNat default).B).length em29]) 44, fsl 1 (.slice ea28 (((a3).getD (x16).toNat default).B).length em29) (((a3).getD (x16).toNat default).B).length ((((a3).getD (x16).toNat default).B).map (Value.int .u8)), signalmanref6_Log.at bt11_0 (x17), backlog_Log.at bt7_0 (x19), tie signalmanlaw13_Act.El sd3 (a3), R] w0 w, ⟨.inl ⟨rfl, rfl⟩, trivial⟩, ?_, HS⟩
                refine T.event _ [(70, Value.pointer (some ⟨bt7_0, 0, none⟩)), (73, Value.slice ra66 (([] : List Int) ++ (((a3).getD (x16).toNat default).B)).length rc67)] rfl rfl ⟨⟨_, Value.pointer (some ⟨bt7_0, 0, none⟩), [(10, Value.pointer (some ⟨bt7_0, 0, none⟩))], 70, rfl, rfl, ⟨.inl ⟨rfl, rfl⟩, trivial⟩, .run rfl (fun w HS => X.move rfl), rfl, rfl, rfl⟩, ⟨_, Value.pointer (some ⟨bt11_0, 0, none⟩), [(12, Value.pointer (some ⟨bt11_0, 0, none⟩))], 76, rfl, rfl, ⟨.inl ⟨rfl, rfl⟩, trivial⟩, .run rfl (fun w HS => X.move rfl), rfl, rfl, rfl⟩, ⟨_, Value.pointer (some ⟨nb31, 0 + 2, none⟩), [(14, Value.pointer (some ⟨nb31, 0, none⟩))], 77, rfl, rfl, ⟨.inl ⟨rfl, rfl⟩, trivial⟩, .run rfl (fun w HS => X.fieldAddr 2 fo44_2 rfl), rfl, rfl, rfl⟩, ⟨_, Value.slice ea28 (((a3).getD (x16).toNat default).B).length em29, [(77, Value.pointer (some ⟨nb31, 0 + 2, none⟩))], 78, rfl, rfl, ⟨.inr ⟨rfl, rfl⟩, trivial⟩, .run rfl (fun w HS => X.loadAt 4 HS rfl Try.underlying27 rfl rfl rfl), rfl, rfl, rfl⟩, trivial⟩ rfl ⟨.inr ⟨rfl, rfl⟩, ⟨.inr ⟨rfl, rfl⟩, trivial⟩⟩ (Or.inl rfl) (by intro d hd; cases hd; exact ⟨by decide, rfl, rfl⟩) [10] [0] rfl rfl (fun w HS => ?_)
                have HS : Sep.St [row 5 1 (.slice ra66 (([] : List Int) ++ (((a3).getD (x16).toNat default).B)).length rc67) (([] : List Int) ++ (((a3).getD (x16).toNat default).B)).length ((([] : List Int) ++ (((a3).getD (x16).toNat default).B)).map (Value.int .u8)), row 5 1 (.slice at40_1 (t40.2.1).length ct40_1) (t40.2.1).length ((t40.2.1).map (Value.int .u8)), backlog_Log.at bt9_0 (t40.2.2.2), row 5 1 (.slice (some ⟨lb37, 0, none⟩) (([1] : List Int)).length 1) (([1] : List Int)).length ((([1] : List Int)).map (Value.int .u8)), blk nb31 (#[Value.int .i64 (((a3).getD (x16).toNat default).Way), Value.int .i64 (((a3).getD (x16).toNat default).N), Value.slice ea28 (((a3).getD (x16).toNat default).B).length em29]) 44, fsl 1 (.slice ea28 (((a3).getD (x16).toNat default).B).length em29) (((a3).getD (x16).toNat default).B).length ((((a3).getD (x16).toNat default).B).map (Value.int .u8)), signalmanref6_Log.at bt11_0 (x17), backlog_Log.at bt7_0 (x19), tie signalmanlaw13_Act.El sd3 (a3), R] w0 w := HS
                obtain ⟨t68, A69, H⟩ := bind_s H
                replace HS := HS.re [7, 0, 1, 2, 3, 4, 5, 6, 8, 9] (by kernel_rfl)
                have HS : Sep.St [backlog_Log.at bt7_0 (x19), row 5 1 (.slice ra66 (([] : List Int) ++ (((a3).getD (x16).toNat default).B)).length rc67) (([] : List Int) ++ (((a3).getD (x16).toNat default).B)).length ((([] : List Int) ++ (((a3).getD (x16).toNat default).B)).map (Value.int .u8)), row 5 1 (.slice at40_1 (t40.2.1).length ct40_1) (t40.2.1).length ((t40.2.1).map (Value.int .u8)), backlog_Log.at bt9_0 (t40.2.2.2), row 5 1 (.slice (some ⟨lb37, 0, none⟩) (([1] : List Int)).length 1) (([1] : List Int)).length ((([1] : List Int)).map (Value.int .u8)), blk nb31 (#[Value.int .i64 (((a3).getD (x16).toNat default).Way), Value.int .i64 (((a3).getD (x16).toNat default).N), Value.slice ea28 (((a3).getD (x16).toNat default).B).length em29]) 44, fsl 1 (.slice ea28 (((a3).getD (x16).toNat default).B).length em29) (((a3).getD (x16).toNat default).B).length ((((a3).getD (x16).toNat default).B).map (Value.int .u8)), signalmanref6_Log.at bt11_0 (x17), tie signalmanlaw13_Act.El sd3 (a3), R] w0 w := HS
                refine ⟨_, Y.call Try.func9 (by kernel_rfl) rfl (vs := [Value.pointer (some ⟨bt7_0, 0, none⟩), Value.slice ra66 (([] : List Int) ++ (((a3).getD (x16).toNat default).B)).length rc67]) rfl (backlog_Log_Add.calls x19 (([] : List Int) ++ (((a3).getD (x16).toNat default).B)) _ w0 _ bt7_0 ra66 rc67 t68 (rdC.part 0 row_rd rfl) A69 (Sep.St.tailJoin (m := [backlog_Log.at bt7_0 (x19)]) (r := [row 5 1 (.slice ra66 (([] : List Int) ++ (((a3).getD (x16).toNat default).B)).length rc67) (([] : List Int) ++ (((a3).getD (x16).toNat default).B)).length ((([] : List Int) ++ (((a3).getD (x16).toNat default).B)).map (Value.int .u8)), row 5 1 (.slice at40_1 (t40.2.1).length ct40_1) (t40.2.1).length ((t40.2.1).map (Value.int .u8)), backlog_Log.at bt9_0 (t40.2.2.2), row 5 1 (.slice (some ⟨lb37, 0, none⟩) (([1] : List Int)).length 1) (([1] : List Int)).length ((([1] : List Int)).map (Value.int .u8)), blk nb31 (#[Value.int .i64 (((a3).getD (x16).toNat default).Way), Value.int .i64 (((a3).getD (x16).toNat default).N), Value.slice ea28 (((a3).getD (x16).toNat default).B).length em29]) 44, fsl 1 (.slice ea28 (((a3).getD (x16).toNat default).B).length em29) (((a3).getD (x16).toNat default).B).length ((((a3).getD (x16).toNat default).B).map (Value.int .u8)), signalmanref6_Log.at bt11_0 (x17), tie signalmanlaw13_Act.El sd3 (a3), R]) HS)), ?_⟩
                rintro _ w ⟨rfl, HS⟩
                replace HS := Sep.St.tailOpen (m := [backlog_Log.at bt7_0 (t68.2)]) (r := [row 5 1 (.slice ra66 (([] : List Int) ++ (((a3).getD (x16).toNat default).B)).length rc67) (([] : List Int) ++ (((a3).getD (x16).toNat default).B)).length ((([] : List Int) ++ (((a3).getD (x16).toNat default).B)).map (Value.int .u8)), row 5 1 (.slice at40_1 (t40.2.1).length ct40_1) (t40.2.1).length ((t40.2.1).map (Value.int .u8)), backlog_Log.at bt9_0 (t40.2.2.2), row 5 1 (.slice (some ⟨lb37, 0, none⟩) (([1] : List Int)).length 1) (([1] : List Int)).length ((([1] : List Int)).map (Value.int .u8)), blk nb31 (#[Value.int .i64 (((a3).getD (x16).toNat default).Way), Value.int .i64 (((a3).getD (x16).toNat default).N), Value.slice ea28 (((a3).getD (x16).toNat default).B).length em29]) 44, fsl 1 (.slice ea28 (((a3).getD (x16).toNat default).B).length em29) (((a3).getD (x16).toNat default).B).length ((((a3).getD (x16).toNat default).B).map (Value.int .u8)), signalmanref6_Log.at bt11_0 (x17), tie signalmanlaw13_Act.El sd3 (a3), R]) HS
                have HS : Sep.St [backlog_Log.at bt7_0 (t68.2), row 5 1 (.slice ra66 (([] : List Int) ++ (((a3).getD (x16).toNat default).B)).length rc67) (([] : List Int) ++ (((a3).getD (x16).toNat default).B)).length ((([] : List Int) ++ (((a3).getD (x16).toNat default).B)).map (Value.int .u8)), row 5 1 (.slice at40_1 (t40.2.1).length ct40_1) (t40.2.1).length ((t40.2.1).map (Value.int .u8)), backlog_Log.at bt9_0 (t40.2.2.2), row 5 1 (.slice (some ⟨lb37, 0, none⟩) (([1] : List Int)).length 1) (([1] : List Int)).length ((([1] : List Int)).map (Value.int .u8)), blk nb31 (#[Value.int .i64 (((a3).getD (x16).toNat default).Way), Value.int .i64 (((a3).getD (x16).toNat default).N), Value.slice ea28 (((a3).getD (x16).toNat default).B).length em29]) 44, fsl 1 (.slice ea28 (((a3).getD (x16).toNat default).B).length em29) (((a3).getD (x16).toNat default).B).length ((((a3).getD (x16).toNat default).B).map (Value.int .u8)), signalmanref6_Log.at bt11_0 (x17), tie signalmanlaw13_Act.El sd3 (a3), R] w0 w := HS
                refine ⟨[(74, Value.int .i64 (t68.1))], fun w => Sep.St [backlog_Log.at bt7_0 (t68.2), row 5 1 (.slice ra66 (([] : List Int) ++ (((a3).getD (x16).toNat default).B)).length rc67) (([] : List Int) ++ (((a3).getD (x16).toNat default).B)).length ((([] : List Int) ++ (((a3).getD (x16).toNat default).B)).map (Value.int .u8)), row 5 1 (.slice at40_1 (t40.2.1).length ct40_1) (t40.2.1).length ((t40.2.1).map (Value.int .u8)), backlog_Log.at bt9_0 (t40.2.2.2), row 5 1 (.slice (some ⟨lb37, 0, none⟩) (([1] : List Int)).length 1) (([1] : List Int)).length ((([1] : List Int)).map (Value.int .u8)), blk nb31 (#[Value.int .i64 (((a3).getD (x16).toNat default).Way), Value.int .i64 (((a3).getD (x16).toNat default).N), Value.slice ea28 (((a3).getD (x16).toNat default).B).length em29]) 44, fsl 1 (.slice ea28 (((a3).getD (x16).toNat default).B).length em29) (((a3).getD (x16).toNat default).B).length ((((a3).getD (x16).toNat default).B).map (Value.int .u8)), signalmanref6_Log.at bt11_0 (x17), tie signalmanlaw13_Act.El sd3 (a3), R] w0 w, ⟨.inl ⟨rfl, rfl⟩, trivial⟩, ?_, HS⟩
                refine T.event _ [(74, Value.int .i64 (t68.1))] rfl rfl ⟨⟨_, Value.pointer (some ⟨bt11_0, 0, none⟩), [(12, Value.pointer (some ⟨bt11_0, 0, none⟩))], 76, rfl, rfl, ⟨.inl ⟨rfl, rfl⟩, trivial⟩, .run rfl (fun w HS => X.move rfl), rfl, rfl, rfl⟩, ⟨_, Value.pointer (some ⟨nb31, 0 + 2, none⟩), [(14, Value.pointer (some ⟨nb31, 0, none⟩))], 77, rfl, rfl, ⟨.inl ⟨rfl, rfl⟩, trivial⟩, .run rfl (fun w HS => X.fieldAddr 2 fo44_2 rfl), rfl, rfl, rfl⟩, ⟨_, Value.slice ea28 (((a3).getD (x16).toNat default).B).length em29, [(77, Value.pointer (some ⟨nb31, 0 + 2, none⟩))], 78, rfl, rfl, ⟨.inr ⟨rfl, rfl⟩, trivial⟩, .run rfl (fun w HS => X.loadAt 5 HS rfl Try.underlying27 rfl rfl rfl), rfl, rfl, rfl⟩, trivial⟩ rfl ⟨.inr ⟨rfl, rfl⟩, trivial⟩ (Or.inl rfl) (by intro d hd; cases hd; exact ⟨by decide, rfl, rfl⟩) [10] [] rfl rfl (fun w HS => ?_)
                have HS : Sep.St [backlog_Log.at bt7_0 (t68.2), row 5 1 (.slice ra66 (([] : List Int) ++ (((a3).getD (x16).toNat default).B)).length rc67) (([] : List Int) ++ (((a3).getD (x16).toNat default).B)).length ((([] : List Int) ++ (((a3).getD (x16).toNat default).B)).map (Value.int .u8)), row 5 1 (.slice at40_1 (t40.2.1).length ct40_1) (t40.2.1).length ((t40.2.1).map (Value.int .u8)), backlog_Log.at bt9_0 (t40.2.2.2), row 5 1 (.slice (some ⟨lb37, 0, none⟩) (([1] : List Int)).length 1) (([1] : List Int)).length ((([1] : List Int)).map (Value.int .u8)), blk nb31 (#[Value.int .i64 (((a3).getD (x16).toNat default).Way), Value.int .i64 (((a3).getD (x16).toNat default).N), Value.slice ea28 (((a3).getD (x16).toNat default).B).length em29]) 44, fsl 1 (.slice ea28 (((a3).getD (x16).toNat default).B).length em29) (((a3).getD (x16).toNat default).B).length ((((a3).getD (x16).toNat default).B).map (Value.int .u8)), signalmanref6_Log.at bt11_0 (x17), tie signalmanlaw13_Act.El sd3 (a3), R] w0 w := HS
                obtain ⟨t70, A71, H⟩ := bind_s H
                refine ⟨_, Y.call Try.func14 (by kernel_rfl) rfl (vs := [Value.int .i64 (t68.1)]) rfl (signalmanlaw13_num.calls t68.1 _ w0 _  t70  A71 (Sep.St.tailJoin (m := []) (r := [backlog_Log.at bt7_0 (t68.2), row 5 1 (.slice ra66 (([] : List Int) ++ (((a3).getD (x16).toNat default).B)).length rc67) (([] : List Int) ++ (((a3).getD (x16).toNat default).B)).length ((([] : List Int) ++ (((a3).getD (x16).toNat default).B)).map (Value.int .u8)), row 5 1 (.slice at40_1 (t40.2.1).length ct40_1) (t40.2.1).length ((t40.2.1).map (Value.int .u8)), backlog_Log.at bt9_0 (t40.2.2.2), row 5 1 (.slice (some ⟨lb37, 0, none⟩) (([1] : List Int)).length 1) (([1] : List Int)).length ((([1] : List Int)).map (Value.int .u8)), blk nb31 (#[Value.int .i64 (((a3).getD (x16).toNat default).Way), Value.int .i64 (((a3).getD (x16).toNat default).N), Value.slice ea28 (((a3).getD (x16).toNat default).B).length em29]) 44, fsl 1 (.slice ea28 (((a3).getD (x16).toNat default).B).length em29) (((a3).getD (x16).toNat default).B).length ((((a3).getD (x16).toNat default).B).map (Value.int .u8)), signalmanref6_Log.at bt11_0 (x17), tie signalmanlaw13_Act.El sd3 (a3), R]) HS)), ?_⟩
                rintro _ w ⟨rfl, HS⟩
                replace HS := Sep.St.tailOpen (m := []) (r := [backlog_Log.at bt7_0 (t68.2), row 5 1 (.slice ra66 (([] : List Int) ++ (((a3).getD (x16).toNat default).B)).length rc67) (([] : List Int) ++ (((a3).getD (x16).toNat default).B)).length ((([] : List Int) ++ (((a3).getD (x16).toNat default).B)).map (Value.int .u8)), row 5 1 (.slice at40_1 (t40.2.1).length ct40_1) (t40.2.1).length ((t40.2.1).map (Value.int .u8)), backlog_Log.at bt9_0 (t40.2.2.2), row 5 1 (.slice (some ⟨lb37, 0, none⟩) (([1] : List Int)).length 1) (([1] : List Int)).length ((([1] : List Int)).map (Value.int .u8)), blk nb31 (#[Value.int .i64 (((a3).getD (x16).toNat default).Way), Value.int .i64 (((a3).getD (x16).toNat default).N), Value.slice ea28 (((a3).getD (x16).toNat default).B).length em29]) 44, fsl 1 (.slice ea28 (((a3).getD (x16).toNat default).B).length em29) (((a3).getD (x16).toNat default).B).length ((((a3).getD (x16).toNat default).B).map (Value.int .u8)), signalmanref6_Log.at bt11_0 (x17), tie signalmanlaw13_Act.El sd3 (a3), R]) HS
                have HS : Sep.St [backlog_Log.at bt7_0 (t68.2), row 5 1 (.slice ra66 (([] : List Int) ++ (((a3).getD (x16).toNat default).B)).length rc67) (([] : List Int) ++ (((a3).getD (x16).toNat default).B)).length ((([] : List Int) ++ (((a3).getD (x16).toNat default).B)).map (Value.int .u8)), row 5 1 (.slice at40_1 (t40.2.1).length ct40_1) (t40.2.1).length ((t40.2.1).map (Value.int .u8)), backlog_Log.at bt9_0 (t40.2.2.2), row 5 1 (.slice (some ⟨lb37, 0, none⟩) (([1] : List Int)).length 1) (([1] : List Int)).length ((([1] : List Int)).map (Value.int .u8)), blk nb31 (#[Value.int .i64 (((a3).getD (x16).toNat default).Way), Value.int .i64 (((a3).getD (x16).toNat default).N), Value.slice ea28 (((a3).getD (x16).toNat default).B).length em29]) 44, fsl 1 (.slice ea28 (((a3).getD (x16).toNat default).B).length em29) (((a3).getD (x16).toNat default).B).length ((((a3).getD (x16).toNat default).B).map (Value.int .u8)), signalmanref6_Log.at bt11_0 (x17), tie signalmanlaw13_Act.El sd3 (a3), R] w0 w := HS
                refine ⟨[(75, Value.int .i64 (t70))], fun w => Sep.St [backlog_Log.at bt7_0 (t68.2), row 5 1 (.slice ra66 (([] : List Int) ++ (((a3).getD (x16).toNat default).B)).length rc67) (([] : List Int) ++ (((a3).getD (x16).toNat default).B)).length ((([] : List Int) ++ (((a3).getD (x16).toNat default).B)).map (Value.int .u8)), row 5 1 (.slice at40_1 (t40.2.1).length ct40_1) (t40.2.1).length ((t40.2.1).map (Value.int .u8)), backlog_Log.at bt9_0 (t40.2.2.2), row 5 1 (.slice (some ⟨lb37, 0, none⟩) (([1] : List Int)).length 1) (([1] : List Int)).length ((([1] : List Int)).map (Value.int .u8)), blk nb31 (#[Value.int .i64 (((a3).getD (x16).toNat default).Way), Value.int .i64 (((a3).getD (x16).toNat default).N), Value.slice ea28 (((a3).getD (x16).toNat default).B).length em29]) 44, fsl 1 (.slice ea28 (((a3).getD (x16).toNat default).B).length em29) (((a3).getD (x16).toNat default).B).length ((((a3).getD (x16).toNat default).B).map (Value.int .u8)), signalmanref6_Log.at bt11_0 (x17), tie signalmanlaw13_Act.El sd3 (a3), R] w0 w, ⟨.inl ⟨rfl, rfl⟩, trivial⟩, ?_, HS⟩
                refine T.event _ [(76, Value.pointer (some ⟨bt11_0, 0, none⟩)), (78, Value.slice ea28 (((a3).getD (x16).toNat default).B).length em29)] rfl rfl ⟨⟨_, Value.pointer (some ⟨bt11_0, 0, none⟩), [(12, Value.pointer (some ⟨bt11_0, 0, none⟩))], 76, rfl, rfl, ⟨.inl ⟨rfl, rfl⟩, trivial⟩, .run rfl (fun w HS => X.move rfl), rfl, rfl, rfl⟩, ⟨_, Value.pointer (some ⟨nb31, 0 + 2, none⟩), [(14, Value.pointer (some ⟨nb31, 0, none⟩))], 77, rfl, rfl, ⟨.inl ⟨rfl, rfl⟩, trivial⟩, .run rfl (fun w HS => X.fieldAddr 2 fo44_2 rfl), rfl, rfl, rfl⟩, ⟨_, Value.slice ea28 (((a3).getD (x16).toNat default).B).length em29, [(77, Value.pointer (some ⟨nb31, 0 + 2, none⟩))], 78, rfl, rfl, ⟨.inr ⟨rfl, rfl⟩, trivial⟩, .run rfl (fun w HS => X.loadAt 5 HS rfl Try.underlying27 rfl rfl rfl), rfl, rfl, rfl⟩, trivial⟩ rfl ⟨.inr ⟨rfl, rfl⟩, ⟨.inr ⟨rfl, rfl⟩, trivial⟩⟩ (Or.inl rfl) (by intro d hd; cases hd; exact ⟨by decide, rfl, rfl⟩) [] [6, 7, 8] rfl rfl (fun w HS => ?_)
                have HS : Sep.St [backlog_Log.at bt7_0 (t68.2), row 5 1 (.slice ra66 (([] : List Int) ++ (((a3).getD (x16).toNat default).B)).length rc67) (([] : List Int) ++ (((a3).getD (x16).toNat default).B)).length ((([] : List Int) ++ (((a3).getD (x16).toNat default).B)).map (Value.int .u8)), row 5 1 (.slice at40_1 (t40.2.1).length ct40_1) (t40.2.1).length ((t40.2.1).map (Value.int .u8)), backlog_Log.at bt9_0 (t40.2.2.2), row 5 1 (.slice (some ⟨lb37, 0, none⟩) (([1] : List Int)).length 1) (([1] : List Int)).length ((([1] : List Int)).map (Value.int .u8)), blk nb31 (#[Value.int .i64 (((a3).getD (x16).toNat default).Way), Value.int .i64 (((a3).getD (x16).toNat default).N), Value.slice ea28 (((a3).getD (x16).toNat default).B).length em29]) 44, fsl 1 (.slice ea28 (((a3).getD (x16).toNat default).B).length em29) (((a3).getD (x16).toNat default).B).length ((((a3).getD (x16).toNat default).B).map (Value.int .u8)), signalmanref6_Log.at bt11_0 (x17), tie signalmanlaw13_Act.El sd3 (a3), R] w0 w := HS
                obtain ⟨t72, A73, H⟩ := bind_s H
                replace HS := HS.re [7, 0, 1, 2, 3, 4, 5, 6, 8, 9] (by kernel_rfl)
                have HS : Sep.St [signalmanref6_Log.at bt11_0 (x17), backlog_Log.at bt7_0 (t68.2), row 5 1 (.slice ra66 (([] : List Int) ++ (((a3).getD (x16).toNat default).B)).length rc67) (([] : List Int) ++ (((a3).getD (x16).toNat default).B)).length ((([] : List Int) ++ (((a3).getD (x16).toNat default).B)).map (Value.int .u8)), row 5 1 (.slice at40_1 (t40.2.1).length ct40_1) (t40.2.1).length ((t40.2.1).map (Value.int .u8)), backlog_Log.at bt9_0 (t40.2.2.2), row 5 1 (.slice (some ⟨lb37, 0, none⟩) (([1] : List Int)).length 1) (([1] : List Int)).length ((([1] : List Int)).map (Value.int .u8)), blk nb31 (#[Value.int .i64 (((a3).getD (x16).toNat default).Way), Value.int .i64 (((a3).getD (x16).toNat default).N), Value.slice ea28 (((a3).getD (x16).toNat default).B).length em29]) 44, fsl 1 (.slice ea28 (((a3).getD (x16).toNat default).B).length em29) (((a3).getD (x16).toNat default).B).length ((((a3).getD (x16).toNat default).B).map (Value.int .u8)), tie signalmanlaw13_Act.El sd3 (a3), R] w0 w := HS
                refine ⟨_, Y.call Try.func18 (by kernel_rfl) rfl (vs := [Value.pointer (some ⟨bt11_0, 0, none⟩), Value.slice ea28 (((a3).getD (x16).toNat default).B).length em29]) rfl (signalmanref6_Log_Add.calls x17 (((a3).getD (x16).toNat default).B) _ w0 _ bt11_0 ea28 em29 t72 (rdC.part 6 fsl.rd rfl) A73 (Sep.St.tailJoin (m := [signalmanref6_Log.at bt11_0 (x17)]) (r := [backlog_Log.at bt7_0 (t68.2), row 5 1 (.slice ra66 (([] : List Int) ++ (((a3).getD (x16).toNat default).B)).length rc67) (([] : List Int) ++ (((a3).getD (x16).toNat default).B)).length ((([] : List Int) ++ (((a3).getD (x16).toNat default).B)).map (Value.int .u8)), row 5 1 (.slice at40_1 (t40.2.1).length ct40_1) (t40.2.1).length ((t40.2.1).map (Value.int .u8)), backlog_Log.at bt9_0 (t40.2.2.2), row 5 1 (.slice (some ⟨lb37, 0, none⟩) (([1] : List Int)).length 1) (([1] : List Int)).length ((([1] : List Int)).map (Value.int .u8)), blk nb31 (#[Value.int .i64 (((a3).getD (x16).toNat default).Way), Value.int .i64 (((a3).getD (x16).toNat default).N), Value.slice ea28 (((a3).getD (x16).toNat default).B).length em29]) 44, fsl 1 (.slice ea28 (((a3).getD (x16).toNat default).B).length em29) (((a3).getD (x16).toNat default).B).length ((((a3).getD (x16).toNat default).B).map (Value.int .u8)), tie signalmanlaw13_Act.El sd3 (a3), R]) HS)), ?_⟩
                rintro _ w ⟨rfl, HS⟩
                replace HS := Sep.St.tailOpen (m := [signalmanref6_Log.at bt11_0 (t72.2)]) (r := [backlog_Log.at bt7_0 (t68.2), row 5 1 (.slice ra66 (([] : List Int) ++ (((a3).getD (x16).toNat default).B)).length rc67) (([] : List Int) ++ (((a3).getD (x16).toNat default).B)).length ((([] : List Int) ++ (((a3).getD (x16).toNat default).B)).map (Value.int .u8)), row 5 1 (.slice at40_1 (t40.2.1).length ct40_1) (t40.2.1).length ((t40.2.1).map (Value.int .u8)), backlog_Log.at bt9_0 (t40.2.2.2), row 5 1 (.slice (some ⟨lb37, 0, none⟩) (([1] : List Int)).length 1) (([1] : List Int)).length ((([1] : List Int)).map (Value.int .u8)), blk nb31 (#[Value.int .i64 (((a3).getD (x16).toNat default).Way), Value.int .i64 (((a3).getD (x16).toNat default).N), Value.slice ea28 (((a3).getD (x16).toNat default).B).length em29]) 44, fsl 1 (.slice ea28 (((a3).getD (x16).toNat default).B).length em29) (((a3).getD (x16).toNat default).B).length ((((a3).getD (x16).toNat default).B).map (Value.int .u8)), tie signalmanlaw13_Act.El sd3 (a3), R]) HS
                have HS : Sep.St [signalmanref6_Log.at bt11_0 (t72.2), backlog_Log.at bt7_0 (t68.2), row 5 1 (.slice ra66 (([] : List Int) ++ (((a3).getD (x16).toNat default).B)).length rc67) (([] : List Int) ++ (((a3).getD (x16).toNat default).B)).length ((([] : List Int) ++ (((a3).getD (x16).toNat default).B)).map (Value.int .u8)), row 5 1 (.slice at40_1 (t40.2.1).length ct40_1) (t40.2.1).length ((t40.2.1).map (Value.int .u8)), backlog_Log.at bt9_0 (t40.2.2.2), row 5 1 (.slice (some ⟨lb37, 0, none⟩) (([1] : List Int)).length 1) (([1] : List Int)).length ((([1] : List Int)).map (Value.int .u8)), blk nb31 (#[Value.int .i64 (((a3).getD (x16).toNat default).Way), Value.int .i64 (((a3).getD (x16).toNat default).N), Value.slice ea28 (((a3).getD (x16).toNat default).B).length em29]) 44, fsl 1 (.slice ea28 (((a3).getD (x16).toNat default).B).length em29) (((a3).getD (x16).toNat default).B).length ((((a3).getD (x16).toNat default).B).map (Value.int .u8)), tie signalmanlaw13_Act.El sd3 (a3), R] w0 w := HS
                refine ⟨[(79, Value.int .i64 (t72.1)), (80, Value.bool (!(decide (t70 = t72.1))))], fun w => Sep.St [signalmanref6_Log.at bt11_0 (t72.2), backlog_Log.at bt7_0 (t68.2), row 5 1 (.slice ra66 (([] : List Int) ++ (((a3).getD (x16).toNat default).B)).length rc67) (([] : List Int) ++ (((a3).getD (x16).toNat default).B)).length ((([] : List Int) ++ (((a3).getD (x16).toNat default).B)).map (Value.int .u8)), row 5 1 (.slice at40_1 (t40.2.1).length ct40_1) (t40.2.1).length ((t40.2.1).map (Value.int .u8)), backlog_Log.at bt9_0 (t40.2.2.2), row 5 1 (.slice (some ⟨lb37, 0, none⟩) (([1] : List Int)).length 1) (([1] : List Int)).length ((([1] : List Int)).map (Value.int .u8)), blk nb31 (#[Value.int .i64 (((a3).getD (x16).toNat default).Way), Value.int .i64 (((a3).getD (x16).toNat default).N), Value.slice ea28 (((a3).getD (x16).toNat default).B).length em29]) 44, fsl 1 (.slice ea28 (((a3).getD (x16).toNat default).B).length em29) (((a3).getD (x16).toNat default).B).length ((((a3).getD (x16).toNat default).B).map (Value.int .u8)), tie signalmanlaw13_Act.El sd3 (a3), R] w0 w, ⟨.inl ⟨rfl, rfl⟩, ⟨.inr ⟨by decide, rfl⟩, trivial⟩⟩, ?_, HS⟩
                refine T.fin [(3, Value.slice (some ⟨eb24, eo25, none⟩) (a3).length sc3), (10, Value.pointer (some ⟨bt7_0, 0, none⟩)), (11, Value.pointer (some ⟨bt9_0, 0, none⟩)), (12, Value.pointer (some ⟨bt11_0, 0, none⟩)), (13, Value.int .i64 (x16)), (80, Value.bool (!(decide (t70 = t72.1))))] rfl ⟨⟨_, Value.bool (!(decide (t70 = t72.1))), [(75, Value.int .i64 (t70)), (79, Value.int .i64 (t72.1))], 80, rfl, rfl, ⟨.inr ⟨rfl, rfl⟩, ⟨.inr ⟨rfl, rfl⟩, trivial⟩⟩, .run rfl (fun w HS => X.cmp (!(decide (t70 = t72.1))) rfl rfl rfl rfl), rfl, rfl, rfl⟩, trivial⟩ ⟨.inl ⟨rfl, rfl⟩, ⟨.inl ⟨rfl, rfl⟩, ⟨.inl ⟨rfl, rfl⟩, ⟨.inl ⟨rfl, rfl⟩, ⟨.inl ⟨rfl, rfl⟩, ⟨.inr ⟨rfl, rfl⟩, trivial⟩⟩⟩⟩⟩⟩ (fun w HS => ?_)
                have HS : Sep.St [signalmanref6_Log.at bt11_0 (t72.2), backlog_Log.at bt7_0 (t68.2), row 5 1 (.slice ra66 (([] : List Int) ++ (((a3).getD (x16).toNat default).B)).length rc67) (([] : List Int) ++ (((a3).getD (x16).toNat default).B)).length ((([] : List Int) ++ (((a3).getD (x16).toNat default).B)).map (Value.int .u8)), row 5 1 (.slice at40_1 (t40.2.1).length ct40_1) (t40.2.1).length ((t40.2.1).map (Value.int .u8)), backlog_Log.at bt9_0 (t40.2.2.2), row 5 1 (.slice (some ⟨lb37, 0, none⟩) (([1] : List Int)).length 1) (([1] : List Int)).length ((([1] : List Int)).map (Value.int .u8)), blk nb31 (#[Value.int .i64 (((a3).getD (x16).toNat default).Way), Value.int .i64 (((a3).getD (x16).toNat default).N), Value.slice ea28 (((a3).getD (x16).toNat default).B).length em29]) 44, fsl 1 (.slice ea28 (((a3).getD (x16).toNat default).B).length em29) (((a3).getD (x16).toNat default).B).length ((((a3).getD (x16).toNat default).B).map (Value.int .u8)), tie signalmanlaw13_Act.El sd3 (a3), R] w0 w := HS
                refine At.next ?_
                refine V.keep [(3, Value.slice (some ⟨eb24, eo25, none⟩) (a3).length sc3), (10, Value.pointer (some ⟨bt7_0, 0, none⟩)), (11, Value.pointer (some ⟨bt9_0, 0, none⟩)), (12, Value.pointer (some ⟨bt11_0, 0, none⟩)), (13, Value.int .i64 (x16)), (80, Value.bool (!(decide (t70 = t72.1))))] ⟨rfl, rfl, rfl, rfl, rfl, rfl, trivial⟩ ?_
                by_cases c74 : t70 = t72.1
                · replace H := ite_t c74 H
                  refine V.condF (sb (n_t (decide_eq_true c74))) ?_
                  refine V.skip ?_
                  refine At.blockEnd ?_
                  replace HS := HS.more 7 rfl (fun _ t => t) fsl.pers
                  have HS : Sep.St [fsl 1 (.slice ea28 (((a3).getD (x16).toNat default).B).length em29) (((a3).getD (x16).toNat default).B).length ((((a3).getD (x16).toNat default).B).map (Value.int .u8)), signalmanref6_Log.at bt11_0 (t72.2), backlog_Log.at bt7_0 (t68.2), row 5 1 (.slice ra66 (([] : List Int) ++ (((a3).getD (x16).toNat default).B)).length rc67) (([] : List Int) ++ (((a3).getD (x16).toNat default).B)).length ((([] : List Int) ++ (((a3).getD (x16).toNat default).B)).map (Value.int .u8)), row 5 1 (.slice at40_1 (t40.2.1).length ct40_1) (t40.2.1).length ((t40.2.1).map (Value.int .u8)), backlog_Log.at bt9_0 (t40.2.2.2), row 5 1 (.slice (some ⟨lb37, 0, none⟩) (([1] : List Int)).length 1) (([1] : List Int)).length ((([1] : List Int)).map (Value.int .u8)), blk nb31 (#[Value.int .i64 (((a3).getD (x16).toNat default).Way), Value.int .i64 (((a3).getD (x16).toNat default).N), Value.slice ea28 (((a3).getD (x16).toNat default).B).length em29]) 44, fsl 1 (.slice ea28 (((a3).getD (x16).toNat default).B).length em29) (((a3).getD (x16).toNat default).B).length ((((a3).getD (x16).toNat default).B).map (Value.int .u8)), tie signalmanlaw13_Act.El sd3 (a3), R] w0 w := HS
                  replace HS := HS.re [7, 0, 1, 2, 3, 4, 5, 6, 8, 9, 10] (by kernel_rfl)
                  have HS : Sep.St [blk nb31 (#[Value.int .i64 (((a3).getD (x16).toNat default).Way), Value.int .i64 (((a3).getD (x16).toNat default).N), Value.slice ea28 (((a3).getD (x16).toNat default).B).length em29]) 44, fsl 1 (.slice ea28 (((a3).getD (x16).toNat default).B).length em29) (((a3).getD (x16).toNat default).B).length ((((a3).getD (x16).toNat default).B).map (Value.int .u8)), signalmanref6_Log.at bt11_0 (t72.2), backlog_Log.at bt7_0 (t68.2), row 5 1 (.slice ra66 (([] : List Int) ++ (((a3).getD (x16).toNat default).B)).length rc67) (([] : List Int) ++ (((a3).getD (x16).toNat default).B)).length ((([] : List Int) ++ (((a3).getD (x16).toNat default).B)).map (Value.int .u8)), row 5 1 (.slice at40_1 (t40.2.1).length ct40_1) (t40.2.1).length ((t40.2.1).map (Value.int .u8)), backlog_Log.at bt9_0 (t40.2.2.2), row 5 1 (.slice (some ⟨lb37, 0, none⟩) (([1] : List Int)).length 1) (([1] : List Int)).length ((([1] : List Int)).map (Value.int .u8)), fsl 1 (.slice ea28 (((a3).getD (x16).toNat default).B).length em29) (((a3).getD (x16).toNat default).B).length ((((a3).getD (x16).toNat default).B).map (Value.int .u8)), tie signalmanlaw13_Act.El sd3 (a3), R] w0 w := HS
                  replace HS := signalmanlaw13_Act.close (((a3).getD (x16).toNat default)) trivial HS
                  have HS : Sep.St [signalmanlaw13_Act.at nb31 (((a3).getD (x16).toNat default)), signalmanref6_Log.at bt11_0 (t72.2), backlog_Log.at bt7_0 (t68.2), row 5 1 (.slice ra66 (([] : List Int) ++ (((a3).getD (x16).toNat default).B)).length rc67) (([] : List Int) ++ (((a3).getD (x16).toNat default).B)).length ((([] : List Int) ++ (((a3).getD (x16).toNat default).B)).map (Value.int .u8)), row 5 1 (.slice at40_1 (t40.2.1).length ct40_1) (t40.2.1).length ((t40.2.1).map (Value.int .u8)), backlog_Log.at bt9_0 (t40.2.2.2), row 5 1 (.slice (some ⟨lb37, 0, none⟩) (([1] : List Int)).length 1) (([1] : List Int)).length ((([1] : List Int)).map (Value.int .u8)), fsl 1 (.slice ea28 (((a3).getD (x16).toNat default).B).length em29) (((a3).getD (x16).toNat default).B).length ((((a3).getD (x16).toNat default).B).map (Value.int .u8)), tie signalmanlaw13_Act.El sd3 (a3), R] w0 w := HS
                  replace HS := HS.sel [0, 4, 5, 6, 7, 1, 2, 8, 9] [3] (by kernel_rfl)
                  exact At.meet (t72.2, t68.2) ⟨rfl, rfl, rfl, rfl, rfl, trivial⟩ ⟨HS, kq20, by omega, H⟩
                · replace H := ite_f c74 H
                  refine V.condT (sb (n_f (decide_eq_false c74))) ?_
                  refine V.seq ?_
                  refine V.region ?_
                  refine W.rd (X.assign rfl) rfl rfl rfl ?_
                  refine W.nil ?_
                  refine At.next ?_
                  refine V.keep [(8, Value.bool (false))] ⟨rfl, trivial⟩ ?_
                  refine V.ret ?_
                  refine At.blockRet ?_
                  refine At.thenRet ?_
                  refine At.blockRet ?_
                  refine At.thenRet ?_
                  refine At.thenRet ?_
                  refine At.blockRet ?_
                  refine At.thenRet ?_
                  replace HS := HS.sel [9] [0, 1, 2, 3, 4, 5, 6, 7, 8] (by kernel_rfl)
                  cases H
                  exact At.ret1 rfl rfl ⟨_, rfl, rfl, HS⟩
              · replace H := ite_f c64 H
                refine V.condF (sb (decide_eq_false c64)) ?_
                refine V.seq ?_
                refine V.region ?_
                refine W.rd (X.cmp (decide ((((a3).getD (x16).toNat default).Way) = 1)) rfl rfl rfl rfl) rfl rfl rfl ?_
                refine W.rd (X.assign rfl) rfl rfl rfl ?_
                refine W.nil ?_
                refine At.next ?_
                refine V.keep [(3, Value.slice (some ⟨eb24, eo25, none⟩) (a3).length sc3), (10, Value.pointer (some ⟨bt7_0, 0, none⟩)), (11, Value.pointer (some ⟨bt9_0, 0, none⟩)), (12, Value.pointer (some ⟨bt11_0, 0, none⟩)), (13, Value.int .i64 (x16)), (14, Value.pointer (some ⟨nb31, 0, none⟩)), (67, Value.int .i64 (((a3).getD (x16).toNat default).Way)), (81, Value.bool (decide ((((a3).getD (x16).toNat default).Way) = 1)))] ⟨rfl, rfl, rfl, rfl, rfl, rfl, rfl, rfl, trivial⟩ ?_
                by_cases c75 : (((a3).getD (x16).toNat default).Way) = 1
                · replace H := ite_t c75 H
                  refine V.condT (sb (decide_eq_true c75)) ?_
                  refine V.seq ?_
                  refine V.region ?_
                  refine W.rd (X.move rfl) rfl rfl rfl ?_
                  obtain ⟨t76, A77, H⟩ := bind_s H
                  replace HS := HS.re [6, 0, 1, 2, 3, 4, 5, 7, 8] (by kernel_rfl)
                  have HS : Sep.St [backlog_Log.at bt7_0 (x19), row 5 1 (.slice at40_1 (t40.2.1).length ct40_1) (t40.2.1).length ((t40.2.1).map (Value.int .u8)), backlog_Log.at bt9_0 (t40.2.2.2), row 5 1 (.slice (some ⟨lb37, 0, none⟩) (([1] : List Int)).length 1) (([1] : List Int)).length ((([1] : List Int)).map (Value.int .u8)), blk nb31 (#[Value.int .i64 (((a3).getD (x16).toNat default).Way), Value.int .i64 (((a3).getD (x16).toNat default).N), Value.slice ea28 (((a3).getD (x16).toNat default).B).length em29]) 44, fsl 1 (.slice ea28 (((a3).getD (x16).toNat default).B).length em29) (((a3).getD (x16).toNat default).B).length ((((a3).getD (x16).toNat default).B).map (Value.int .u8)), signalmanref6_Log.at bt11_0 (x17), tie signalmanlaw13_Act.El sd3 (a3), R] w0 w := HS
                  refine W.ev (Y.call Try.func10 (by kernel_rfl) rfl (vs := [Value.pointer (some ⟨bt7_0, 0, none⟩)]) rfl (backlog_Log_Next.calls x19 _ w0 _ bt7_0 t76  A77 (Sep.St.tailJoin (m := [backlog_Log.at bt7_0 (x19)]) (r := [row 5 1 (.slice at40_1 (t40.2.1).length ct40_1) (t40.2.1).length ((t40.2.1).map (Value.int .u8)), backlog_Log.at bt9_0 (t40.2.2.2), row 5 1 (.slice (some ⟨lb37, 0, none⟩) (([1] : List Int)).length 1) (([1] : List Int)).length ((([1] : List Int)).map (Value.int .u8)), blk nb31 (#[Value.int .i64 (((a3).getD (x16).toNat default).Way), Value.int .i64 (((a3).getD (x16).toNat default).N), Value.slice ea28 (((a3).getD (x16).toNat default).B).length em29]) 44, fsl 1 (.slice ea28 (((a3).getD (x16).toNat default).B).length em29) (((a3).getD (x16).toNat default).B).length ((((a3).getD (x16).toNat default).B).map (Value.int .u8)), signalmanref6_Log.at bt11_0 (x17), tie signalmanlaw13_Act.El sd3 (a3), R]) HS))) rfl rfl rfl ?_
                  rintro _ w ⟨at76_1, ct76_1, rfl, HS⟩
                  replace HS := Sep.St.tailOpen (m := [row 5 1 (.slice at76_1 (t76.2.1).length ct76_1) (t76.2.1).length ((t76.2.1).map (Value.int .u8)), backlog_Log.at bt7_0 (t76.2.2.2)]) (r := [row 5 1 (.slice at40_1 (t40.2.1).length ct40_1) (t40.2.1).length ((t40.2.1).map (Value.int .u8)), backlog_Log.at bt9_0 (t40.2.2.2), row 5 1 (.slice (some ⟨lb37, 0, none⟩) (([1] : List Int)).length 1) (([1] : List Int)).length ((([1] : List Int)).map (Value.int .u8)), blk nb31 (#[Value.int .i64 (((a3).getD (x16).toNat default).Way), Value.int .i64 (((a3).getD (x16).toNat default).N), Value.slice ea28 (((a3).getD (x16).toNat default).B).length em29]) 44, fsl 1 (.slice ea28 (((a3).getD (x16).toNat default).B).length em29) (((a3).getD (x16).toNat default).B).length ((((a3).getD (x16).toNat default).B).map (Value.int .u8)), signalmanref6_Log.at bt11_0 (x17), tie signalmanlaw13_Act.El sd3 (a3), R]) HS
                  have HS : Sep.St [row 5 1 (.slice at76_1 (t76.2.1).length ct76_1) (t76.2.1).length ((t76.2.1).map (Value.int .u8)), backlog_Log.at bt7_0 (t76.2.2.2), row 5 1 (.slice at40_1 (t40.2.1).length ct40_1) (t40.2.1).length ((t40.2.1).map (Value.int .u8)), backlog_Log.at bt9_0 (t40.2.2.2), row 5 1 (.slice (some ⟨lb37, 0, none⟩) (([1] : List Int)).length 1) (([1] : List Int)).length ((([1] : List Int)).map (Value.int .u8)), blk nb31 (#[Value.int .i64 (((a3).getD (x16).toNat default).Way), Value.int .i64 (((a3).getD (x16).toNat default).N), Value.slice ea28 (((a3).getD (x16).toNat default).B).length em29]) 44, fsl 1 (.slice ea28 (((a3).getD (x16).toNat default).B).length em29) (((a3).getD (x16).toNat default).B).length ((((a3).getD (x16).toNat default).B).map (Value.int .u8)), signalmanref6_Log.at bt11_0 (x17), tie signalmanlaw13_Act.El sd3 (a3), R] w0 w := HS
                  refine W.rd (X.move rfl) rfl rfl rfl ?_
                  refine W.rd (X.extract rfl rfl) rfl rfl rfl ?_
                  refine W.rd (X.extract rfl rfl) rfl rfl rfl ?_
                  refine W.rd (X.extract rfl rfl) rfl rfl rfl ?_
                  refine W.rd (X.assign rfl) rfl rfl rfl ?_
                  refine W.rd (X.assign rfl) rfl rfl rfl ?_
                  refine W.rd (X.assign rfl) rfl rfl rfl ?_
                  refine W.nil ?_
                  refine At.next ?_
                  refine V.keep [(3, Value.slice (some ⟨eb24, eo25, none⟩) (a3).length sc3), (10, Value.pointer (some ⟨bt7_0, 0, none⟩)), (11, Value.pointer (some ⟨bt9_0, 0, none⟩)), (12, Value.pointer (some ⟨bt11_0, 0, none⟩)), (13, Value.int .i64 (x16)), (15, Value.int .i64 (t76.1)), (16, Value.slice at76_1 (t76.2.1).length ct76_1), (17, Value.bool (t76.2.2.1))] ⟨rfl, rfl, rfl, rfl, rfl, rfl, rfl, rfl, trivial⟩ ?_
                  refine V.seq ?_
                  refine V.region ?_
                  refine W.rd (X.move rfl) rfl rfl rfl ?_
                  obtain ⟨t78, A79, H⟩ := bind_s H
                  replace HS := HS.re [7, 0, 1, 2, 3, 4, 5, 6, 8, 9] (by kernel_rfl)
                  have HS : Sep.St [signalmanref6_Log.at bt11_0 (x17), row 5 1 (.slice at76_1 (t76.2.1).length ct76_1) (t76.2.1).length ((t76.2.1).map (Value.int .u8)), backlog_Log.at bt7_0 (t76.2.2.2), row 5 1 (.slice at40_1 (t40.2.1).length ct40_1) (t40.2.1).length ((t40.2.1).map (Value.int .u8)), backlog_Log.at bt9_0 (t40.2.2.2), row 5 1 (.slice (some ⟨lb37, 0, none⟩) (([1] : List Int)).length 1) (([1] : List Int)).length ((([1] : List Int)).map (Value.int .u8)), blk nb31 (#[Value.int .i64 (((a3).getD (x16).toNat default).Way), Value.int .i64 (((a3).getD (x16).toNat default).N), Value.slice ea28 (((a3).getD (x16).toNat default).B).length em29]) 44, fsl 1 (.slice ea28 (((a3).getD (x16).toNat default).B).length em29) (((a3).getD (x16).toNat default).B).length ((((a3).getD (x16).toNat default).B).map (Value.int .u8)), tie signalmanlaw13_Act.El sd3 (a3), R] w0 w := HS
                  refine W.ev (Y.call Try.func19 (by kernel_rfl) rfl (vs := [Value.pointer (some ⟨bt11_0, 0, none⟩)]) rfl (signalmanref6_Log_Next.calls x17 _ w0 _ bt11_0 t78  A79 (Sep.St.tailJoin (m := [signalmanref6_Log.at bt11_0 (x17)]) (r := [row 5 1 (.slice at76_1 (t76.2.1).length ct76_1) (t76.2.1).length ((t76.2.1).map (Value.int .u8)), backlog_Log.at bt7_0 (t76.2.2.2), row 5 1 (.slice at40_1 (t40.2.1).length ct40_1) (t40.2.1).length ((t40.2.1).map (Value.int .u8)), backlog_Log.at bt9_0 (t40.2.2.2), row 5 1 (.slice (some ⟨lb37, 0, none⟩) (([1] : List Int)).length 1) (([1] : List Int)).length ((([1] : List Int)).map (Value.int .u8)), blk nb31 (#[Value.int .i64 (((a3).getD (x16).toNat default).Way), Value.int .i64 (((a3).getD (x16).toNat default).N), Value.slice ea28 (((a3).getD (x16).toNat default).B).length em29]) 44, fsl 1 (.slice ea28 (((a3).getD (x16).toNat default).B).length em29) (((a3).getD (x16).toNat default).B).length ((((a3).getD (x16).toNat default).B).map (Value.int .u8)), tie signalmanlaw13_Act.El sd3 (a3), R]) HS))) rfl rfl rfl ?_
                  rintro _ w ⟨at78_1, ct78_1, rfl, HS⟩
                  replace HS := Sep.St.tailOpen (m := [row 5 1 (.slice at78_1 (t78.2.1).length ct78_1) (t78.2.1).length ((t78.2.1).map (Value.int .u8)), signalmanref6_Log.at bt11_0 (t78.2.2.2)]) (r := [row 5 1 (.slice at76_1 (t76.2.1).length ct76_1) (t76.2.1).length ((t76.2.1).map (Value.int .u8)), backlog_Log.at bt7_0 (t76.2.2.2), row 5 1 (.slice at40_1 (t40.2.1).length ct40_1) (t40.2.1).length ((t40.2.1).map (Value.int .u8)), backlog_Log.at bt9_0 (t40.2.2.2), row 5 1 (.slice (some ⟨lb37, 0, none⟩) (([1] : List Int)).length 1) (([1] : List Int)).length ((([1] : List Int)).map (Value.int .u8)), blk nb31 (#[Value.int .i64 (((a3).getD (x16).toNat default).Way), Value.int .i64 (((a3).getD (x16).toNat default).N), Value.slice ea28 (((a3).getD (x16).toNat default).B).length em29]) 44, fsl 1 (.slice ea28 (((a3).getD (x16).toNat default).B).length em29) (((a3).getD (x16).toNat default).B).length ((((a3).getD (x16).toNat default).B).map (Value.int .u8)), tie signalmanlaw13_Act.El sd3 (a3), R]) HS
                  have HS : Sep.St [row 5 1 (.slice at78_1 (t78.2.1).length ct78_1) (t78.2.1).length ((t78.2.1).map (Value.int .u8)), signalmanref6_Log.at bt11_0 (t78.2.2.2), row 5 1 (.slice at76_1 (t76.2.1).length ct76_1) (t76.2.1).length ((t76.2.1).map (Value.int .u8)), backlog_Log.at bt7_0 (t76.2.2.2), row 5 1 (.slice at40_1 (t40.2.1).length ct40_1) (t40.2.1).length ((t40.2.1).map (Value.int .u8)), backlog_Log.at bt9_0 (t40.2.2.2), row 5 1 (.slice (some ⟨lb37, 0, none⟩) (([1] : List Int)).length 1) (([1] : List Int)).length ((([1] : List Int)).map (Value.int .u8)), blk nb31 (#[Value.int .i64 (((a3).getD (x16).toNat default).Way), Value.int .i64 (((a3).getD (x16).toNat default).N), Value.slice ea28 (((a3).getD (x16).toNat default).B).length em29]) 44, fsl 1 (.slice ea28 (((a3).getD (x16).toNat default).B).length em29) (((a3).getD (x16).toNat default).B).length ((((a3).getD (x16).toNat default).B).map (Value.int .u8)), tie signalmanlaw13_Act.El sd3 (a3), R] w0 w := HS
                  refine W.rd (X.move rfl) rfl rfl rfl ?_
                  refine W.rd (X.extract rfl rfl) rfl rfl rfl ?_
                  refine W.rd (X.extract rfl rfl) rfl rfl rfl ?_
                  refine W.rd (X.extract rfl rfl) rfl rfl rfl ?_
                  refine W.rd (X.assign rfl) rfl rfl rfl ?_
                  refine W.rd (X.assign rfl) rfl rfl rfl ?_
                  refine W.rd (X.assign rfl) rfl rfl rfl ?_
                  refine W.nil ?_
                  refine At.next ?_
                  refine V.keep [(3, Value.slice (some ⟨eb24, eo25, none⟩) (a3).length sc3), (10, Value.pointer (some ⟨bt7_0, 0, none⟩)), (11, Value.pointer (some ⟨bt9_0, 0, none⟩)), (12, Value.pointer (some ⟨bt11_0, 0, none⟩)), (13, Value.int .i64 (x16)), (15, Value.int .i64 (t76.1)), (16, Value.slice at76_1 (t76.2.1).length ct76_1), (17, Value.bool (t76.2.2.1)), (18, Value.int .i64 (t78.1)), (19, Value.slice at78_1 (t78.2.1).length ct78_1), (20, Value.bool (t78.2.2.1))] ⟨rfl, rfl, rfl, rfl, rfl, rfl, rfl, rfl, rfl, rfl, rfl, trivial⟩ ?_
                  refine V.seq ?_
                  refine V.region ?_
                  refine W.rd (X.move rfl) rfl rfl rfl ?_
                  refine W.rd (X.move rfl) rfl rfl rfl ?_
                  refine W.rd (X.cmp (!(decide (t76.1 = t78.1))) rfl rfl rfl rfl) rfl rfl rfl ?_
                  refine W.rd (X.move rfl) rfl rfl rfl ?_
                  by_cases c82 : t76.1 = t78.1
                  · replace H := ite_t c82 H
                    refine W.want 98 rfl (sb (n_t (decide_eq_true c82))) ?_
                    refine W.rd (X.move rfl) rfl rfl rfl ?_
                    refine W.want 98 rfl (sb (n_t (decide_eq_true c82))) ?_
                    refine W.rd (X.bytesStr Try.underlying27 Try.underlying5 Try.underlying9 rfl (rdC.at 2 row_rd HS rfl)) rfl rfl rfl ?_
                    refine W.want 98 rfl (sb (n_t (decide_eq_true c82))) ?_
                    refine W.rd (X.move rfl) rfl rfl rfl ?_
                    refine W.want 98 rfl (sb (n_t (decide_eq_true c82))) ?_
                    refine W.rd (X.bytesStr Try.underlying27 Try.underlying5 Try.underlying9 rfl (rdC.at 0 row_rd HS rfl)) rfl rfl rfl ?_
                    refine W.want 98 rfl (sb (n_t (decide_eq_true c82))) ?_
                    refine W.rd (X.neStr (a := t76.2.1) (b := t78.2.1) rfl rfl) rfl rfl rfl ?_
                    refine W.rd (X.pickF (sb (n_t (decide_eq_true c82))) rfl) rfl rfl rfl ?_
                    refine W.rd (X.move rfl) rfl rfl rfl ?_
                    by_cases c83 : sEq (t76.2.1) (t78.2.1) = true
                    · replace H := ite_t c83 H
                      refine W.want 105 rfl (sb (n_t c83)) ?_
                      refine W.rd (X.move rfl) rfl rfl rfl ?_
                      refine W.want 105 rfl (sb (n_t c83)) ?_
                      refine W.rd (X.move rfl) rfl rfl rfl ?_
                      refine W.want 105 rfl (sb (n_t c83)) ?_
                      refine W.rd (X.neB Try.underlying4 rfl rfl) rfl rfl rfl ?_
                      refine W.rd (X.pickF (sb (n_t c83)) rfl) rfl rfl rfl ?_
                      refine W.nil ?_
                      refine At.next ?_
                      refine V.keep [(3, Value.slice (some ⟨eb24, eo25, none⟩) (a3).length sc3), (10, Value.pointer (some ⟨bt7_0, 0, none⟩)), (11, Value.pointer (some ⟨bt9_0, 0, none⟩)), (12, Value.pointer (some ⟨bt11_0, 0, none⟩)), (13, Value.int .i64 (x16)), (99, Value.slice at76_1 (t76.2.1).length ct76_1), (100, Value.string (strOf (t76.2.1))), (101, Value.slice at78_1 (t78.2.1).length ct78_1), (102, Value.string (strOf (t78.2.1))), (103, Value.bool (!(sEq (t76.2.1) (t78.2.1)))), (106, Value.bool (t76.2.2.1)), (107, Value.bool (t78.2.2.1)), (108, Value.bool (((t76.2.2.1) != (t78.2.2.1)))), (109, Value.bool (((t76.2.2.1) != (t78.2.2.1))))] ⟨rfl, rfl, rfl, rfl, rfl, rfl, rfl, rfl, rfl, rfl, rfl, rfl, rfl, rfl, trivial⟩ ?_
                      by_cases c84 : ((t76.2.2.1) != (t78.2.2.1)) = true
                      · replace H := ite_t c84 H
                        refine V.condT (sb c84) ?_
                        refine V.seq ?_
                        refine V.region ?_
                        refine W.rd (X.assign rfl) rfl rfl rfl ?_
                        refine W.nil ?_
                        refine At.next ?_
                        refine V.keep [(8, Value.bool (false))] ⟨rfl, trivial⟩ ?_
                        refine V.ret ?_
                        refine At.blockRet ?_
                        refine At.thenRet ?_
                        refine At.blockRet ?_
                        refine At.thenRet ?_
                        refine At.thenRet ?_
                        refine At.blockRet ?_
                        refine At.thenRet ?_
                        replace HS := HS.sel [10] [0, 1, 2, 3, 4, 5, 6, 7, 8, 9] (by kernel_rfl)
                        cases H
                        exact At.ret1 rfl rfl ⟨_, rfl, rfl, HS⟩
                      · replace H := ite_f c84 H
                        refine V.condF (sb (b_f c84)) ?_
                        refine V.skip ?_
                        refine At.blockEnd ?_
                        replace HS := HS.more 8 rfl (fun _ t => t) fsl.pers
                        have HS : Sep.St [fsl 1 (.slice ea28 (((a3).getD (x16).toNat default).B).length em29) (((a3).getD (x16).toNat default).B).length ((((a3).getD (x16).toNat default).B).map (Value.int .u8)), row 5 1 (.slice at78_1 (t78.2.1).length ct78_1) (t78.2.1).length ((t78.2.1).map (Value.int .u8)), signalmanref6_Log.at bt11_0 (t78.2.2.2), row 5 1 (.slice at76_1 (t76.2.1).length ct76_1) (t76.2.1).length ((t76.2.1).map (Value.int .u8)), backlog_Log.at bt7_0 (t76.2.2.2), row 5 1 (.slice at40_1 (t40.2.1).length ct40_1) (t40.2.1).length ((t40.2.1).map (Value.int .u8)), backlog_Log.at bt9_0 (t40.2.2.2), row 5 1 (.slice (some ⟨lb37, 0, none⟩) (([1] : List Int)).length 1) (([1] : List Int)).length ((([1] : List Int)).map (Value.int .u8)), blk nb31 (#[Value.int .i64 (((a3).getD (x16).toNat default).Way), Value.int .i64 (((a3).getD (x16).toNat default).N), Value.slice ea28 (((a3).getD (x16).toNat default).B).length em29]) 44, fsl 1 (.slice ea28 (((a3).getD (x16).toNat default).B).length em29) (((a3).getD (x16).toNat default).B).length ((((a3).getD (x16).toNat default).B).map (Value.int .u8)), tie signalmanlaw13_Act.El sd3 (a3), R] w0 w := HS
                        replace HS := HS.re [8, 0, 1, 2, 3, 4, 5, 6, 7, 9, 10, 11] (by kernel_rfl)
                        have HS : Sep.St [blk nb31 (#[Value.int .i64 (((a3).getD (x16).toNat default).Way), Value.int .i64 (((a3).getD (x16).toNat default).N), Value.slice ea28 (((a3).getD (x16).toNat default).B).length em29]) 44, fsl 1 (.slice ea28 (((a3).getD (x16).toNat default).B).length em29) (((a3).getD (x16).toNat default).B).length ((((a3).getD (x16).toNat default).B).map (Value.int .u8)), row 5 1 (.slice at78_1 (t78.2.1).length ct78_1) (t78.2.1).length ((t78.2.1).map (Value.int .u8)), signalmanref6_Log.at bt11_0 (t78.2.2.2), row 5 1 (.slice at76_1 (t76.2.1).length ct76_1) (t76.2.1).length ((t76.2.1).map (Value.int .u8)), backlog_Log.at bt7_0 (t76.2.2.2), row 5 1 (.slice at40_1 (t40.2.1).length ct40_1) (t40.2.1).length ((t40.2.1).map (Value.int .u8)), backlog_Log.at bt9_0 (t40.2.2.2), row 5 1 (.slice (some ⟨lb37, 0, none⟩) (([1] : List Int)).length 1) (([1] : List Int)).length ((([1] : List Int)).map (Value.int .u8)), fsl 1 (.slice ea28 (((a3).getD (x16).toNat default).B).length em29) (((a3).getD (x16).toNat default).B).length ((((a3).getD (x16).toNat default).B).map (Value.int .u8)), tie signalmanlaw13_Act.El sd3 (a3), R] w0 w := HS
                        replace HS := signalmanlaw13_Act.close (((a3).getD (x16).toNat default)) trivial HS
                        have HS : Sep.St [signalmanlaw13_Act.at nb31 (((a3).getD (x16).toNat default)), row 5 1 (.slice at78_1 (t78.2.1).length ct78_1) (t78.2.1).length ((t78.2.1).map (Value.int .u8)), signalmanref6_Log.at bt11_0 (t78.2.2.2), row 5 1 (.slice at76_1 (t76.2.1).length ct76_1) (t76.2.1).length ((t76.2.1).map (Value.int .u8)), backlog_Log.at bt7_0 (t76.2.2.2), row 5 1 (.slice at40_1 (t40.2.1).length ct40_1) (t40.2.1).length ((t40.2.1).map (Value.int .u8)), backlog_Log.at bt9_0 (t40.2.2.2), row 5 1 (.slice (some ⟨lb37, 0, none⟩) (([1] : List Int)).length 1) (([1] : List Int)).length ((([1] : List Int)).map (Value.int .u8)), fsl 1 (.slice ea28 (((a3).getD (x16).toNat default).B).length em29) (((a3).getD (x16).toNat default).B).length ((((a3).getD (x16).toNat default).B).map (Value.int .u8)), tie signalmanlaw13_Act.El sd3 (a3), R] w0 w := HS
                        replace HS := HS.sel [0, 5, 6, 7, 8, 2, 4, 9, 10] [1, 3] (by kernel_rfl)
                        exact At.meet (t78.2.2.2, t76.2.2.2) ⟨rfl, rfl, rfl, rfl, rfl, trivial⟩ ⟨HS, kq20, by omega, H⟩
                    · replace H := ite_f c83 H
                      refine W.pass 105 rfl (sb (n_f (b_f c83))) rfl rfl ?_
                      refine W.pass 105 rfl (sb (n_f (b_f c83))) rfl rfl ?_
                      refine W.pass 105 rfl (sb (n_f (b_f c83))) rfl rfl ?_
                      refine W.rd (X.pickT (sb (n_f (b_f c83))) rfl) rfl rfl rfl ?_
                      refine W.nil ?_
                      refine At.next ?_
                      refine V.keep [(3, Value.slice (some ⟨eb24, eo25, none⟩) (a3).length sc3), (10, Value.pointer (some ⟨bt7_0, 0, none⟩)), (11, Value.pointer (some ⟨bt9_0, 0, none⟩)), (12, Value.pointer (some ⟨bt11_0, 0, none⟩)), (13, Value.int .i64 (x16)), (99, Value.slice at76_1 (t76.2.1).length ct76_1), (100, Value.string (strOf (t76.2.1))), (101, Value.slice at78_1 (t78.2.1).length ct78_1), (102, Value.string (strOf (t78.2.1))), (103, Value.bool (!(sEq (t76.2.1) (t78.2.1)))), (106, undef), (107, undef), (108, undef), (109, Value.bool (true))] ⟨rfl, rfl, rfl, rfl, rfl, rfl, rfl, rfl, rfl, rfl, rfl, rfl, rfl, rfl, trivial⟩ ?_
                      refine V.condT rfl ?_
                      refine V.seq ?_
                      refine V.region ?_
                      refine W.rd (X.assign rfl) rfl rfl rfl ?_
                      refine W.nil ?_
                      refine At.next ?_
                      refine V.keep [(8, Value.bool (false))] ⟨rfl, trivial⟩ ?_
                      refine V.ret ?_
                      refine At.blockRet ?_
                      refine At.thenRet ?_
                      refine At.blockRet ?_
                      refine At.thenRet ?_
                      refine At.thenRet ?_
                      refine At.blockRet ?_
                      refine At.thenRet ?_
                      replace HS := HS.sel [10] [0, 1, 2, 3, 4, 5, 6, 7, 8, 9] (by kernel_rfl)
                      cases H
                      exact At.ret1 rfl rfl ⟨_, rfl, rfl, HS⟩
                  · replace H := ite_f c82 H
                    refine W.pass 98 rfl (sb (n_f (decide_eq_false c82))) rfl rfl ?_
                    refine W.pass 98 rfl (sb (n_f (decide_eq_false c82))) rfl rfl ?_
                    refine W.pass 98 rfl (sb (n_f (decide_eq_false c82))) rfl rfl ?_
                    refine W.pass 98 rfl (sb (n_f (decide_eq_false c82))) rfl rfl ?_
                    refine W.pass 98 rfl (sb (n_f (decide_eq_false c82))) rfl rfl ?_
                    refine W.rd (X.pickT (sb (n_f (decide_eq_false c82))) rfl) rfl rfl rfl ?_
                    refine W.rd (X.move rfl) rfl rfl rfl ?_
                    refine W.pass 105 rfl rfl rfl rfl ?_
                    refine W.pass 105 rfl rfl rfl rfl ?_
                    refine W.pass 105 rfl rfl rfl rfl ?_
                    refine W.rd (X.pickT rfl rfl) rfl rfl rfl ?_
                    refine W.nil ?_
                    refine At.next ?_
                    refine V.keep [(3, Value.slice (some ⟨eb24, eo25, none⟩) (a3).length sc3), (10, Value.pointer (some ⟨bt7_0, 0, none⟩)), (11, Value.pointer (some ⟨bt9_0, 0, none⟩)), (12, Value.pointer (some ⟨bt11_0, 0, none⟩)), (13, Value.int .i64 (x16)), (99, undef), (100, undef), (101, undef), (102, undef), (103, undef), (106, undef), (107, undef), (108, undef), (109, Value.bool (true))] ⟨rfl, rfl, rfl, rfl, rfl, rfl, rfl, rfl, rfl, rfl, rfl, rfl, rfl, rfl, trivial⟩ ?_
                    refine V.condT rfl ?_
                    refine V.seq ?_
                    refine V.region ?_
                    refine W.rd (X.assign rfl) rfl rfl rfl ?_
                    refine W.nil ?_
                    refine At.next ?_
                    refine V.keep [(8, Value.bool (false))] ⟨rfl, trivial⟩ ?_
                    refine V.ret ?_
                    refine At.blockRet ?_
                    refine At.thenRet ?_
                    refine At.blockRet ?_
                    refine At.thenRet ?_
                    refine At.thenRet ?_
                    refine At.blockRet ?_
                    refine At.thenRet ?_
                    replace HS := HS.sel [10] [0, 1, 2, 3, 4, 5, 6, 7, 8, 9] (by kernel_rfl)
                    cases H
                    exact At.ret1 rfl rfl ⟨_, rfl, rfl, HS⟩
                · replace H := ite_f c75 H
                  refine V.condF (sb (decide_eq_false c75)) ?_
                  refine V.seq ?_
                  refine V.region ?_
                  refine W.rd (X.cmp (decide ((((a3).getD (x16).toNat default).Way) = 2)) rfl rfl rfl rfl) rfl rfl rfl ?_
                  refine W.rd (X.assign rfl) rfl rfl rfl ?_
                  refine W.nil ?_
                  refine At.next ?_
                  refine V.keep [(3, Value.slice (some ⟨eb24, eo25, none⟩) (a3).length sc3), (10, Value.pointer (some ⟨bt7_0, 0, none⟩)), (11, Value.pointer (some ⟨bt9_0, 0, none⟩)), (12, Value.pointer (some ⟨bt11_0, 0, none⟩)), (13, Value.int .i64 (x16)), (14, Value.pointer (some ⟨nb31, 0, none⟩)), (67, Value.int .i64 (((a3).getD (x16).toNat default).Way)), (110, Value.bool (decide ((((a3).getD (x16).toNat default).Way) = 2)))] ⟨rfl, rfl, rfl, rfl, rfl, rfl, rfl, rfl, trivial⟩ ?_
                  by_cases c85 : (((a3).getD (x16).toNat default).Way) = 2
                  · replace H := ite_t c85 H
                    refine V.condT (sb (decide_eq_true c85)) ?_
                    refine V.seq ?_
                    refine V.region ?_
                    refine W.rd (X.move rfl) rfl rfl rfl ?_
                    refine W.rd (X.fieldAddr 1 fo44_1 rfl) rfl rfl rfl ?_
                    refine W.rd (X.loadAt 3 HS rfl Try.underlying3 rfl rfl rfl) rfl rfl rfl ?_
                    obtain ⟨t86, A87, H⟩ := bind_s H
                    replace HS := HS.re [6, 0, 1, 2, 3, 4, 5, 7, 8] (by kernel_rfl)
                    have HS : Sep.St [backlog_Log.at bt7_0 (x19), row 5 1 (.slice at40_1 (t40.2.1).length ct40_1) (t40.2.1).length ((t40.2.1).map (Value.int .u8)), backlog_Log.at bt9_0 (t40.2.2.2), row 5 1 (.slice (some ⟨lb37, 0, none⟩) (([1] : List Int)).length 1) (([1] : List Int)).length ((([1] : List Int)).map (Value.int .u8)), blk nb31 (#[Value.int .i64 (((a3).getD (x16).toNat default).Way), Value.int .i64 (((a3).getD (x16).toNat default).N), Value.slice ea28 (((a3).getD (x16).toNat default).B).length em29]) 44, fsl 1 (.slice ea28 (((a3).getD (x16).toNat default).B).length em29) (((a3).getD (x16).toNat default).B).length ((((a3).getD (x16).toNat default).B).map (Value.int .u8)), signalmanref6_Log.at bt11_0 (x17), tie signalmanlaw13_Act.El sd3 (a3), R] w0 w := HS
                    refine W.ev (Y.call Try.func15 (by kernel_rfl) rfl (vs := [Value.pointer (some ⟨bt7_0, 0, none⟩), Value.int .i64 (((a3).getD (x16).toNat default).N)]) rfl (backlog_Log_Ack.calls x19 (((a3).getD (x16).toNat default).N) _ w0 _ bt7_0 t86  A87 (Sep.St.tailJoin (m := [backlog_Log.at bt7_0 (x19)]) (r := [row 5 1 (.slice at40_1 (t40.2.1).length ct40_1) (t40.2.1).length ((t40.2.1).map (Value.int .u8)), backlog_Log.at bt9_0 (t40.2.2.2), row 5 1 (.slice (some ⟨lb37, 0, none⟩) (([1] : List Int)).length 1) (([1] : List Int)).length ((([1] : List Int)).map (Value.int .u8)), blk nb31 (#[Value.int .i64 (((a3).getD (x16).toNat default).Way), Value.int .i64 (((a3).getD (x16).toNat default).N), Value.slice ea28 (((a3).getD (x16).toNat default).B).length em29]) 44, fsl 1 (.slice ea28 (((a3).getD (x16).toNat default).B).length em29) (((a3).getD (x16).toNat default).B).length ((((a3).getD (x16).toNat default).B).map (Value.int .u8)), signalmanref6_Log.at bt11_0 (x17), tie signalmanlaw13_Act.El sd3 (a3), R]) HS))) rfl rfl rfl ?_
                    rintro _ w ⟨rfl, HS⟩
                    replace HS := Sep.St.tailOpen (m := [backlog_Log.at bt7_0 (t86.2.2)]) (r := [row 5 1 (.slice at40_1 (t40.2.1).length ct40_1) (t40.2.1).length ((t40.2.1).map (Value.int .u8)), backlog_Log.at bt9_0 (t40.2.2.2), row 5 1 (.slice (some ⟨lb37, 0, none⟩) (([1] : List Int)).length 1) (([1] : List Int)).length ((([1] : List Int)).map (Value.int .u8)), blk nb31 (#[Value.int .i64 (((a3).getD (x16).toNat default).Way), Value.int .i64 (((a3).getD (x16).toNat default).N), Value.slice ea28 (((a3).getD (x16).toNat default).B).length em29]) 44, fsl 1 (.slice ea28 (((a3).getD (x16).toNat default).B).length em29) (((a3).getD (x16).toNat default).B).length ((((a3).getD (x16).toNat default).B).map (Value.int .u8)), signalmanref6_Log.at bt11_0 (x17), tie signalmanlaw13_Act.El sd3 (a3), R]) HS
                    have HS : Sep.St [backlog_Log.at bt7_0 (t86.2.2), row 5 1 (.slice at40_1 (t40.2.1).length ct40_1) (t40.2.1).length ((t40.2.1).map (Value.int .u8)), backlog_Log.at bt9_0 (t40.2.2.2), row 5 1 (.slice (some ⟨lb37, 0, none⟩) (([1] : List Int)).length 1) (([1] : List Int)).length ((([1] : List Int)).map (Value.int .u8)), blk nb31 (#[Value.int .i64 (((a3).getD (x16).toNat default).Way), Value.int .i64 (((a3).getD (x16).toNat default).N), Value.slice ea28 (((a3).getD (x16).toNat default).B).length em29]) 44, fsl 1 (.slice ea28 (((a3).getD (x16).toNat default).B).length em29) (((a3).getD (x16).toNat default).B).length ((((a3).getD (x16).toNat default).B).map (Value.int .u8)), signalmanref6_Log.at bt11_0 (x17), tie signalmanlaw13_Act.El sd3 (a3), R] w0 w := HS
                    refine W.rd (X.move rfl) rfl rfl rfl ?_
                    refine W.rd (X.extract rfl rfl) rfl rfl rfl ?_
                    refine W.rd (X.extract rfl rfl) rfl rfl rfl ?_
                    refine W.rd (X.assign rfl) rfl rfl rfl ?_
                    refine W.rd (X.assign rfl) rfl rfl rfl ?_
                    refine W.nil ?_
                    refine At.next ?_
                    refine V.keep [(3, Value.slice (some ⟨eb24, eo25, none⟩) (a3).length sc3), (10, Value.pointer (some ⟨bt7_0, 0, none⟩)), (11, Value.pointer (some ⟨bt9_0, 0, none⟩)), (12, Value.pointer (some ⟨bt11_0, 0, none⟩)), (13, Value.int .i64 (x16)), (14, Value.pointer (some ⟨nb31, 0, none⟩)), (21, Value.int .i64 (t86.1)), (22, Value.bool (t86.2.1))] ⟨rfl, rfl, rfl, rfl, rfl, rfl, rfl, rfl, trivial⟩ ?_
                    refine V.seq ?_
                    refine V.region ?_
                    refine W.rd (X.move rfl) rfl rfl rfl ?_
                    refine W.rd (X.fieldAddr 1 fo44_1 rfl) rfl rfl rfl ?_
                    refine W.rd (X.loadAt 4 HS rfl Try.underlying3 rfl rfl rfl) rfl rfl rfl ?_
                    obtain ⟨t88, A89, H⟩ := bind_s H
                    replace HS := HS.re [6, 0, 1, 2, 3, 4, 5, 7, 8] (by kernel_rfl)
                    have HS : Sep.St [signalmanref6_Log.at bt11_0 (x17), backlog_Log.at bt7_0 (t86.2.2), row 5 1 (.slice at40_1 (t40.2.1).length ct40_1) (t40.2.1).length ((t40.2.1).map (Value.int .u8)), backlog_Log.at bt9_0 (t40.2.2.2), row 5 1 (.slice (some ⟨lb37, 0, none⟩) (([1] : List Int)).length 1) (([1] : List Int)).length ((([1] : List Int)).map (Value.int .u8)), blk nb31 (#[Value.int .i64 (((a3).getD (x16).toNat default).Way), Value.int .i64 (((a3).getD (x16).toNat default).N), Value.slice ea28 (((a3).getD (x16).toNat default).B).length em29]) 44, fsl 1 (.slice ea28 (((a3).getD (x16).toNat default).B).length em29) (((a3).getD (x16).toNat default).B).length ((((a3).getD (x16).toNat default).B).map (Value.int .u8)), tie signalmanlaw13_Act.El sd3 (a3), R] w0 w := HS
                    refine W.ev (Y.call Try.func20 (by kernel_rfl) rfl (vs := [Value.pointer (some ⟨bt11_0, 0, none⟩), Value.int .i64 (((a3).getD (x16).toNat default).N)]) rfl (signalmanref6_Log_Ack.calls kq20 x17 (((a3).getD (x16).toNat default).N) _ w0 _ bt11_0 t88  A89 (Sep.St.tailJoin (m := [signalmanref6_Log.at bt11_0 (x17)]) (r := [backlog_Log.at bt7_0 (t86.2.2), row 5 1 (.slice at40_1 (t40.2.1).length ct40_1) (t40.2.1).length ((t40.2.1).map (Value.int .u8)), backlog_Log.at bt9_0 (t40.2.2.2), row 5 1 (.slice (some ⟨lb37, 0, none⟩) (([1] : List Int)).length 1) (([1] : List Int)).length ((([1] : List Int)).map (Value.int .u8)), blk nb31 (#[Value.int .i64 (((a3).getD (x16).toNat default).Way), Value.int .i64 (((a3).getD (x16).toNat default).N), Value.slice ea28 (((a3).getD (x16).toNat default).B).length em29]) 44, fsl 1 (.slice ea28 (((a3).getD (x16).toNat default).B).length em29) (((a3).getD (x16).toNat default).B).length ((((a3).getD (x16).toNat default).B).map (Value.int .u8)), tie signalmanlaw13_Act.El sd3 (a3), R]) HS))) rfl rfl rfl ?_
                    rintro _ w ⟨rfl, HS⟩
                    replace HS := Sep.St.tailOpen (m := [signalmanref6_Log.at bt11_0 (t88.2.2)]) (r := [backlog_Log.at bt7_0 (t86.2.2), row 5 1 (.slice at40_1 (t40.2.1).length ct40_1) (t40.2.1).length ((t40.2.1).map (Value.int .u8)), backlog_Log.at bt9_0 (t40.2.2.2), row 5 1 (.slice (some ⟨lb37, 0, none⟩) (([1] : List Int)).length 1) (([1] : List Int)).length ((([1] : List Int)).map (Value.int .u8)), blk nb31 (#[Value.int .i64 (((a3).getD (x16).toNat default).Way), Value.int .i64 (((a3).getD (x16).toNat default).N), Value.slice ea28 (((a3).getD (x16).toNat default).B).length em29]) 44, fsl 1 (.slice ea28 (((a3).getD (x16).toNat default).B).length em29) (((a3).getD (x16).toNat default).B).length ((((a3).getD (x16).toNat default).B).map (Value.int .u8)), tie signalmanlaw13_Act.El sd3 (a3), R]) HS
                    have HS : Sep.St [signalmanref6_Log.at bt11_0 (t88.2.2), backlog_Log.at bt7_0 (t86.2.2), row 5 1 (.slice at40_1 (t40.2.1).length ct40_1) (t40.2.1).length ((t40.2.1).map (Value.int .u8)), backlog_Log.at bt9_0 (t40.2.2.2), row 5 1 (.slice (some ⟨lb37, 0, none⟩) (([1] : List Int)).length 1) (([1] : List Int)).length ((([1] : List Int)).map (Value.int .u8)), blk nb31 (#[Value.int .i64 (((a3).getD (x16).toNat default).Way), Value.int .i64 (((a3).getD (x16).toNat default).N), Value.slice ea28 (((a3).getD (x16).toNat default).B).length em29]) 44, fsl 1 (.slice ea28 (((a3).getD (x16).toNat default).B).length em29) (((a3).getD (x16).toNat default).B).length ((((a3).getD (x16).toNat default).B).map (Value.int .u8)), tie signalmanlaw13_Act.El sd3 (a3), R] w0 w := HS
                    refine W.rd (X.move rfl) rfl rfl rfl ?_
                    refine W.rd (X.extract rfl rfl) rfl rfl rfl ?_
                    refine W.rd (X.extract rfl rfl) rfl rfl rfl ?_
                    refine W.rd (X.assign rfl) rfl rfl rfl ?_
                    refine W.rd (X.assign rfl) rfl rfl rfl ?_
                    refine W.nil ?_
                    refine At.next ?_
                    refine V.keep [(3, Value.slice (some ⟨eb24, eo25, none⟩) (a3).length sc3), (10, Value.pointer (some ⟨bt7_0, 0, none⟩)), (11, Value.pointer (some ⟨bt9_0, 0, none⟩)), (12, Value.pointer (some ⟨bt11_0, 0, none⟩)), (13, Value.int .i64 (x16)), (21, Value.int .i64 (t86.1)), (22, Value.bool (t86.2.1)), (23, Value.int .i64 (t88.1)), (24, Value.bool (t88.2.1))] ⟨rfl, rfl, rfl, rfl, rfl, rfl, rfl, rfl, rfl, trivial⟩ ?_
                    refine V.seq ?_
                    refine V.region ?_
                    refine W.rd (X.move rfl) rfl rfl rfl ?_
                    refine W.rd (X.move rfl) rfl rfl rfl ?_
                    refine W.rd (X.cmp (!(decide (t86.1 = t88.1))) rfl rfl rfl rfl) rfl rfl rfl ?_
                    refine W.rd (X.move rfl) rfl rfl rfl ?_
                    by_cases c90 : t86.1 = t88.1
                    · replace H := ite_t c90 H
                      refine W.want 129 rfl (sb (n_t (decide_eq_true c90))) ?_
                      refine W.rd (X.move rfl) rfl rfl rfl ?_
                      refine W.want 129 rfl (sb (n_t (decide_eq_true c90))) ?_
                      refine W.rd (X.move rfl) rfl rfl rfl ?_
                      refine W.want 129 rfl (sb (n_t (decide_eq_true c90))) ?_
                      refine W.rd (X.neB Try.underlying4 rfl rfl) rfl rfl rfl ?_
                      refine W.rd (X.pickF (sb (n_t (decide_eq_true c90))) rfl) rfl rfl rfl ?_
                      refine W.nil ?_
                      refine At.next ?_
                      refine V.keep [(3, Value.slice (some ⟨eb24, eo25, none⟩) (a3).length sc3), (10, Value.pointer (some ⟨bt7_0, 0, none⟩)), (11, Value.pointer (some ⟨bt9_0, 0, none⟩)), (12, Value.pointer (some ⟨bt11_0, 0, none⟩)), (13, Value.int .i64 (x16)), (130, Value.bool (t86.2.1)), (131, Value.bool (t88.2.1)), (132, Value.bool (((t86.2.1) != (t88.2.1)))), (133, Value.bool (((t86.2.1) != (t88.2.1))))] ⟨rfl, rfl, rfl, rfl, rfl, rfl, rfl, rfl, rfl, trivial⟩ ?_
                      by_cases c91 : ((t86.2.1) != (t88.2.1)) = true
                      · replace H := ite_t c91 H
                        refine V.condT (sb c91) ?_
                        refine V.seq ?_
                        refine V.region ?_
                        refine W.rd (X.assign rfl) rfl rfl rfl ?_
                        refine W.nil ?_
                        refine At.next ?_
                        refine V.keep [(8, Value.bool (false))] ⟨rfl, trivial⟩ ?_
                        refine V.ret ?_
                        refine At.blockRet ?_
                        refine At.thenRet ?_
                        refine At.blockRet ?_
                        refine At.thenRet ?_
                        refine At.thenRet ?_
                        refine At.blockRet ?_
                        refine At.thenRet ?_
                        replace HS := HS.sel [8] [0, 1, 2, 3, 4, 5, 6, 7] (by kernel_rfl)
                        cases H
                        exact At.ret1 rfl rfl ⟨_, rfl, rfl, HS⟩
                      · replace H := ite_f c91 H
                        refine V.condF (sb (b_f c91)) ?_
                        refine V.skip ?_
                        refine At.blockEnd ?_
                        replace HS := HS.more 6 rfl (fun _ t => t) fsl.pers
                        have HS : Sep.St [fsl 1 (.slice ea28 (((a3).getD (x16).toNat default).B).length em29) (((a3).getD (x16).toNat default).B).length ((((a3).getD (x16).toNat default).B).map (Value.int .u8)), signalmanref6_Log.at bt11_0 (t88.2.2), backlog_Log.at bt7_0 (t86.2.2), row 5 1 (.slice at40_1 (t40.2.1).length ct40_1) (t40.2.1).length ((t40.2.1).map (Value.int .u8)), backlog_Log.at bt9_0 (t40.2.2.2), row 5 1 (.slice (some ⟨lb37, 0, none⟩) (([1] : List Int)).length 1) (([1] : List Int)).length ((([1] : List Int)).map (Value.int .u8)), blk nb31 (#[Value.int .i64 (((a3).getD (x16).toNat default).Way), Value.int .i64 (((a3).getD (x16).toNat default).N), Value.slice ea28 (((a3).getD (x16).toNat default).B).length em29]) 44, fsl 1 (.slice ea28 (((a3).getD (x16).toNat default).B).length em29) (((a3).getD (x16).toNat default).B).length ((((a3).getD (x16).toNat default).B).map (Value.int .u8)), tie signalmanlaw13_Act.El sd3 (a3), R] w0 w := HS
                        replace HS := HS.re [6, 0, 1, 2, 3, 4, 5, 7, 8, 9] (by kernel_rfl)
                        have HS : Sep.St [blk nb31 (#[Value.int .i64 (((a3).getD (x16).toNat default).Way), Value.int .i64 (((a3).getD (x16).toNat default).N), Value.slice ea28 (((a3).getD (x16).toNat default).B).length em29]) 44, fsl 1 (.slice ea28 (((a3).getD (x16).toNat default).B).length em29) (((a3).getD (x16).toNat default).B).length ((((a3).getD (x16).toNat default).B).map (Value.int .u8)), signalmanref6_Log.at bt11_0 (t88.2.2), backlog_Log.at bt7_0 (t86.2.2), row 5 1 (.slice at40_1 (t40.2.1).length ct40_1) (t40.2.1).length ((t40.2.1).map (Value.int .u8)), backlog_Log.at bt9_0 (t40.2.2.2), row 5 1 (.slice (some ⟨lb37, 0, none⟩) (([1] : List Int)).length 1) (([1] : List Int)).length ((([1] : List Int)).map (Value.int .u8)), fsl 1 (.slice ea28 (((a3).getD (x16).toNat default).B).length em29) (((a3).getD (x16).toNat default).B).length ((((a3).getD (x16).toNat default).B).map (Value.int .u8)), tie signalmanlaw13_Act.El sd3 (a3), R] w0 w := HS
                        replace HS := signalmanlaw13_Act.close (((a3).getD (x16).toNat default)) trivial HS
                        have HS : Sep.St [signalmanlaw13_Act.at nb31 (((a3).getD (x16).toNat default)), signalmanref6_Log.at bt11_0 (t88.2.2), backlog_Log.at bt7_0 (t86.2.2), row 5 1 (.slice at40_1 (t40.2.1).length ct40_1) (t40.2.1).length ((t40.2.1).map (Value.int .u8)), backlog_Log.at bt9_0 (t40.2.2.2), row 5 1 (.slice (some ⟨lb37, 0, none⟩) (([1] : List Int)).length 1) (([1] : List Int)).length ((([1] : List Int)).map (Value.int .u8)), fsl 1 (.slice ea28 (((a3).getD (x16).toNat default).B).length em29) (((a3).getD (x16).toNat default).B).length ((((a3).getD (x16).toNat default).B).map (Value.int .u8)), tie signalmanlaw13_Act.El sd3 (a3), R] w0 w := HS
                        replace HS := HS.sel [0, 3, 4, 5, 6, 1, 2, 7, 8] [] (by kernel_rfl)
                        exact At.meet (t88.2.2, t86.2.2) ⟨rfl, rfl, rfl, rfl, rfl, trivial⟩ ⟨HS, kq20, by omega, H⟩
                    · replace H := ite_f c90 H
                      refine W.pass 129 rfl (sb (n_f (decide_eq_false c90))) rfl rfl ?_
                      refine W.pass 129 rfl (sb (n_f (decide_eq_false c90))) rfl rfl ?_
                      refine W.pass 129 rfl (sb (n_f (decide_eq_false c90))) rfl rfl ?_
                      refine W.rd (X.pickT (sb (n_f (decide_eq_false c90))) rfl) rfl rfl rfl ?_
                      refine W.nil ?_
                      refine At.next ?_
                      refine V.keep [(3, Value.slice (some ⟨eb24, eo25, none⟩) (a3).length sc3), (10, Value.pointer (some ⟨bt7_0, 0, none⟩)), (11, Value.pointer (some ⟨bt9_0, 0, none⟩)), (12, Value.pointer (some ⟨bt11_0, 0, none⟩)), (13, Value.int .i64 (x16)), (130, undef), (131, undef), (132, undef), (133, Value.bool (true))] ⟨rfl, rfl, rfl, rfl, rfl, rfl, rfl, rfl, rfl, trivial⟩ ?_
                      refine V.condT rfl ?_
                      refine V.seq ?_
                      refine V.region ?_
                      refine W.rd (X.assign rfl) rfl rfl rfl ?_
                      refine W.nil ?_
                      refine At.next ?_
                      refine V.keep [(8, Value.bool (false))] ⟨rfl, trivial⟩ ?_
                      refine V.ret ?_
                      refine At.blockRet ?_
                      refine At.thenRet ?_
                      refine At.blockRet ?_
                      refine At.thenRet ?_
                      refine At.thenRet ?_
                      refine At.blockRet ?_
                      refine At.thenRet ?_
                      replace HS := HS.sel [8] [0, 1, 2, 3, 4, 5, 6, 7] (by kernel_rfl)
                      cases H
                      exact At.ret1 rfl rfl ⟨_, rfl, rfl, HS⟩
                  · replace H := ite_f c85 H
                    refine V.condF (sb (decide_eq_false c85)) ?_
                    refine V.seq ?_
                    refine V.region ?_
                    refine W.rd (X.cmp (decide ((((a3).getD (x16).toNat default).Way) = 3)) rfl rfl rfl rfl) rfl rfl rfl ?_
                    refine W.rd (X.assign rfl) rfl rfl rfl ?_
                    refine W.nil ?_
                    refine At.next ?_
                    refine V.keep [(3, Value.slice (some ⟨eb24, eo25, none⟩) (a3).length sc3), (10, Value.pointer (some ⟨bt7_0, 0, none⟩)), (11, Value.pointer (some ⟨bt9_0, 0, none⟩)), (12, Value.pointer (some ⟨bt11_0, 0, none⟩)), (13, Value.int .i64 (x16)), (14, Value.pointer (some ⟨nb31, 0, none⟩)), (67, Value.int .i64 (((a3).getD (x16).toNat default).Way)), (134, Value.bool (decide ((((a3).getD (x16).toNat default).Way) = 3)))] ⟨rfl, rfl, rfl, rfl, rfl, rfl, rfl, rfl, trivial⟩ ?_
                    by_cases c92 : (((a3).getD (x16).toNat default).Way) = 3
                    · replace H := ite_t c92 H
                      refine V.condT (sb (decide_eq_true c92)) ?_
                      refine V.seq ?_
                      refine V.region ?_
                      refine W.rd (X.move rfl) rfl rfl rfl ?_
                      refine W.rd (X.fieldAddr 1 fo44_1 rfl) rfl rfl rfl ?_
                      refine W.rd (X.loadAt 3 HS rfl Try.underlying3 rfl rfl rfl) rfl rfl rfl ?_
                      replace HS := HS.front 6 rfl
                      have HS : Sep.St [backlog_Log.at bt7_0 (x19), row 5 1 (.slice at40_1 (t40.2.1).length ct40_1) (t40.2.1).length ((t40.2.1).map (Value.int .u8)), backlog_Log.at bt9_0 (t40.2.2.2), row 5 1 (.slice (some ⟨lb37, 0, none⟩) (([1] : List Int)).length 1) (([1] : List Int)).length ((([1] : List Int)).map (Value.int .u8)), blk nb31 (#[Value.int .i64 (((a3).getD (x16).toNat default).Way), Value.int .i64 (((a3).getD (x16).toNat default).N), Value.slice ea28 (((a3).getD (x16).toNat default).B).length em29]) 44, fsl 1 (.slice ea28 (((a3).getD (x16).toNat default).B).length em29) (((a3).getD (x16).toNat default).B).length ((((a3).getD (x16).toNat default).B).map (Value.int .u8)), signalmanref6_Log.at bt11_0 (x17), tie signalmanlaw13_Act.El sd3 (a3), R] w0 w := HS
                      obtain ⟨a5_93, c5_93, d5_93, hi94, HS⟩ := backlog_Log.open HS
                      have HS : Sep.St [blk bt7_0 (#[Value.int .i64 ((x19).m), Value.int .i64 ((x19).window), Value.int .i64 ((x19).queue), Value.int .i64 ((x19).first), Value.int .i64 ((x19).out), Value.slice a5_93 ((x19).l).length c5_93]) 54, row 27 1 (.slice a5_93 ((x19).l).length c5_93) ((x19).l).length d5_93, tie (El.sl (El.int .u8)) d5_93 ((x19).l), row 5 1 (.slice at40_1 (t40.2.1).length ct40_1) (t40.2.1).length ((t40.2.1).map (Value.int .u8)), backlog_Log.at bt9_0 (t40.2.2.2), row 5 1 (.slice (some ⟨lb37, 0, none⟩) (([1] : List Int)).length 1) (([1] : List Int)).length ((([1] : List Int)).map (Value.int .u8)), blk nb31 (#[Value.int .i64 (((a3).getD (x16).toNat default).Way), Value.int .i64 (((a3).getD (x16).toNat default).N), Value.slice ea28 (((a3).getD (x16).toNat default).B).length em29]) 44, fsl 1 (.slice ea28 (((a3).getD (x16).toNat default).B).length em29) (((a3).getD (x16).toNat default).B).length ((((a3).getD (x16).toNat default).B).map (Value.int .u8)), signalmanref6_Log.at bt11_0 (x17), tie signalmanlaw13_Act.El sd3 (a3), R] w0 w := HS
                      obtain ⟨t95, A96, H⟩ := bind_s H
                      refine W.ev (Y.call Try.func21 (by kernel_rfl) rfl (vs := [Value.pointer (some ⟨bt7_0, 0, none⟩), Value.int .i64 (((a3).getD (x16).toNat default).N)]) rfl (backlog_Log_Body.calls x19 (((a3).getD (x16).toNat default).N) _ w0 _ bt7_0 a5_93 c5_93 d5_93 t95  A96 (Sep.St.tailJoin (m := [blk bt7_0 (#[Value.int .i64 ((x19).m), Value.int .i64 ((x19).window), Value.int .i64 ((x19).queue), Value.int .i64 ((x19).first), Value.int .i64 ((x19).out), Value.slice a5_93 ((x19).l).length c5_93]) 54, row 27 1 (.slice a5_93 ((x19).l).length c5_93) ((x19).l).length d5_93, tie (El.sl (El.int .u8)) d5_93 ((x19).l)]) (r := [row 5 1 (.slice at40_1 (t40.2.1).length ct40_1) (t40.2.1).length ((t40.2.1).map (Value.int .u8)), backlog_Log.at bt9_0 (t40.2.2.2), row 5 1 (.slice (some ⟨lb37, 0, none⟩) (([1] : List Int)).length 1) (([1] : List Int)).length ((([1] : List Int)).map (Value.int .u8)), blk nb31 (#[Value.int .i64 (((a3).getD (x16).toNat default).Way), Value.int .i64 (((a3).getD (x16).toNat default).N), Value.slice ea28 (((a3).getD (x16).toNat default).B).length em29]) 44, fsl 1 (.slice ea28 (((a3).getD (x16).toNat default).B).length em29) (((a3).getD (x16).toNat default).B).length ((((a3).getD (x16).toNat default).B).map (Value.int .u8)), signalmanref6_Log.at bt11_0 (x17), tie signalmanlaw13_Act.El sd3 (a3), R]) HS))) rfl rfl rfl ?_
                      rintro _ w ⟨at95_0, ct95_0, rfl, HS⟩
                      replace HS := Sep.St.tailOpen (m := [row 5 1 (.slice at95_0 (t95.1).length ct95_0) (t95.1).length ((t95.1).map (Value.int .u8)), blk bt7_0 (#[Value.int .i64 ((x19).m), Value.int .i64 ((x19).window), Value.int .i64 ((x19).queue), Value.int .i64 ((x19).first), Value.int .i64 ((x19).out), Value.slice a5_93 ((x19).l).length c5_93]) 54, row 27 1 (.slice a5_93 ((x19).l).length c5_93) ((x19).l).length d5_93, tie (El.sl (El.int .u8)) d5_93 ((x19).l)]) (r := [row 5 1 (.slice at40_1 (t40.2.1).length ct40_1) (t40.2.1).length ((t40.2.1).map (Value.int .u8)), backlog_Log.at bt9_0 (t40.2.2.2), row 5 1 (.slice (some ⟨lb37, 0, none⟩) (([1] : List Int)).length 1) (([1] : List Int)).length ((([1] : List Int)).map (Value.int .u8)), blk nb31 (#[Value.int .i64 (((a3).getD (x16).toNat default).Way), Value.int .i64 (((a3).getD (x16).toNat default).N), Value.slice ea28 (((a3).getD (x16).toNat default).B).length em29]) 44, fsl 1 (.slice ea28 (((a3).getD (x16).toNat default).B).length em29) (((a3).getD (x16).toNat default).B).length ((((a3).getD (x16).toNat default).B).map (Value.int .u8)), signalmanref6_Log.at bt11_0 (x17), tie signalmanlaw13_Act.El sd3 (a3), R]) HS
                      have HS : Sep.St [row 5 1 (.slice at95_0 (t95.1).length ct95_0) (t95.1).length ((t95.1).map (Value.int .u8)), blk bt7_0 (#[Value.int .i64 ((x19).m), Value.int .i64 ((x19).window), Value.int .i64 ((x19).queue), Value.int .i64 ((x19).first), Value.int .i64 ((x19).out), Value.slice a5_93 ((x19).l).length c5_93]) 54, row 27 1 (.slice a5_93 ((x19).l).length c5_93) ((x19).l).length d5_93, tie (El.sl (El.int .u8)) d5_93 ((x19).l), row 5 1 (.slice at40_1 (t40.2.1).length ct40_1) (t40.2.1).length ((t40.2.1).map (Value.int .u8)), backlog_Log.at bt9_0 (t40.2.2.2), row 5 1 (.slice (some ⟨lb37, 0, none⟩) (([1] : List Int)).length 1) (([1] : List Int)).length ((([1] : List Int)).map (Value.int .u8)), blk nb31 (#[Value.int .i64 (((a3).getD (x16).toNat default).Way), Value.int .i64 (((a3).getD (x16).toNat default).N), Value.slice ea28 (((a3).getD (x16).toNat default).B).length em29]) 44, fsl 1 (.slice ea28 (((a3).getD (x16).toNat default).B).length em29) (((a3).getD (x16).toNat default).B).length ((((a3).getD (x16).toNat default).B).map (Value.int .u8)), signalmanref6_Log.at bt11_0 (x17), tie signalmanlaw13_Act.El sd3 (a3), R] w0 w := HS
                      refine W.rd (X.move rfl) rfl rfl rfl ?_
                      refine W.rd (X.extract rfl rfl) rfl rfl rfl ?_
                      refine W.rd (X.extract rfl rfl) rfl rfl rfl ?_
                      refine W.rd (X.assign rfl) rfl rfl rfl ?_
                      refine W.rd (X.assign rfl) rfl rfl rfl ?_
                      refine W.nil ?_
                      refine At.next ?_
                      refine V.keep [(3, Value.slice (some ⟨eb24, eo25, none⟩) (a3).length sc3), (10, Value.pointer (some ⟨bt7_0, 0, none⟩)), (11, Value.pointer (some ⟨bt9_0, 0, none⟩)), (12, Value.pointer (some ⟨bt11_0, 0, none⟩)), (13, Value.int .i64 (x16)), (14, Value.pointer (some ⟨nb31, 0, none⟩)), (25, Value.slice at95_0 (t95.1).length ct95_0), (26, Value.bool (t95.2))] ⟨rfl, rfl, rfl, rfl, rfl, rfl, rfl, rfl, trivial⟩ ?_
                      refine V.seq ?_
                      refine V.region ?_
                      refine W.rd (X.move rfl) rfl rfl rfl ?_
                      refine W.rd (X.fieldAddr 1 fo44_1 rfl) rfl rfl rfl ?_
                      refine W.rd (X.loadAt 7 HS rfl Try.underlying3 rfl rfl rfl) rfl rfl rfl ?_
                      replace HS := HS.front 9 rfl
                      have HS : Sep.St [signalmanref6_Log.at bt11_0 (x17), row 5 1 (.slice at95_0 (t95.1).length ct95_0) (t95.1).length ((t95.1).map (Value.int .u8)), blk bt7_0 (#[Value.int .i64 ((x19).m), Value.int .i64 ((x19).window), Value.int .i64 ((x19).queue), Value.int .i64 ((x19).first), Value.int .i64 ((x19).out), Value.slice a5_93 ((x19).l).length c5_93]) 54, row 27 1 (.slice a5_93 ((x19).l).length c5_93) ((x19).l).length d5_93, tie (El.sl (El.int .u8)) d5_93 ((x19).l), row 5 1 (.slice at40_1 (t40.2.1).length ct40_1) (t40.2.1).length ((t40.2.1).map (Value.int .u8)), backlog_Log.at bt9_0 (t40.2.2.2), row 5 1 (.slice (some ⟨lb37, 0, none⟩) (([1] : List Int)).length 1) (([1] : List Int)).length ((([1] : List Int)).map (Value.int .u8)), blk nb31 (#[Value.int .i64 (((a3).getD (x16).toNat default).Way), Value.int .i64 (((a3).getD (x16).toNat default).N), Value.slice ea28 (((a3).getD (x16).toNat default).B).length em29]) 44, fsl 1 (.slice ea28 (((a3).getD (x16).toNat default).B).length em29) (((a3).getD (x16).toNat default).B).length ((((a3).getD (x16).toNat default).B).map (Value.int .u8)), tie signalmanlaw13_Act.El sd3 (a3), R] w0 w := HS
                      obtain ⟨a4_97, c4_97, d4_97, a5_97, c5_97, d5_97, hi98, HS⟩ := signalmanref6_Log.open HS
                      have HS : Sep.St [blk bt11_0 (#[Value.int .i64 ((x17).m), Value.int .i64 ((x17).window), Value.int .i64 ((x17).queue), Value.int .i64 ((x17).next), Value.slice a4_97 ((x17).out).length c4_97, Value.slice a5_97 ((x17).wait).length c5_97]) 61, row 63 2 (.slice a4_97 ((x17).out).length c4_97) ((x17).out).length d4_97, tie signalmanref6_message.El d4_97 ((x17).out), row 27 1 (.slice a5_97 ((x17).wait).length c5_97) ((x17).wait).length d5_97, tie (El.sl (El.int .u8)) d5_97 ((x17).wait), row 5 1 (.slice at95_0 (t95.1).length ct95_0) (t95.1).length ((t95.1).map (Value.int .u8)), blk bt7_0 (#[Value.int .i64 ((x19).m), Value.int .i64 ((x19).window), Value.int .i64 ((x19).queue), Value.int .i64 ((x19).first), Value.int .i64 ((x19).out), Value.slice a5_93 ((x19).l).length c5_93]) 54, row 27 1 (.slice a5_93 ((x19).l).length c5_93) ((x19).l).length d5_93, tie (El.sl (El.int .u8)) d5_93 ((x19).l), row 5 1 (.slice at40_1 (t40.2.1).length ct40_1) (t40.2.1).length ((t40.2.1).map (Value.int .u8)), backlog_Log.at bt9_0 (t40.2.2.2), row 5 1 (.slice (some ⟨lb37, 0, none⟩) (([1] : List Int)).length 1) (([1] : List Int)).length ((([1] : List Int)).map (Value.int .u8)), blk nb31 (#[Value.int .i64 (((a3).getD (x16).toNat default).Way), Value.int .i64 (((a3).getD (x16).toNat default).N), Value.slice ea28 (((a3).getD (x16).toNat default).B).length em29]) 44, fsl 1 (.slice ea28 (((a3).getD (x16).toNat default).B).length em29) (((a3).getD (x16).toNat default).B).length ((((a3).getD (x16).toNat default).B).map (Value.int .u8)), tie signalmanlaw13_Act.El sd3 (a3), R] w0 w := HS
                      obtain ⟨t99, A100, H⟩ := bind_s H
                      refine W.ev (Y.call Try.func22 (by kernel_rfl) rfl (vs := [Value.pointer (some ⟨bt11_0, 0, none⟩), Value.int .i64 (((a3).getD (x16).toNat default).N)]) rfl (signalmanref6_Log_Body.calls kq20 x17 (((a3).getD (x16).toNat default).N) _ w0 _ bt11_0 a4_97 c4_97 d4_97 a5_97 c5_97 d5_97 t99  A100 (Sep.St.tailJoin (m := [blk bt11_0 (#[Value.int .i64 ((x17).m), Value.int .i64 ((x17).window), Value.int .i64 ((x17).queue), Value.int .i64 ((x17).next), Value.slice a4_97 ((x17).out).length c4_97, Value.slice a5_97 ((x17).wait).length c5_97]) 61, row 63 2 (.slice a4_97 ((x17).out).length c4_97) ((x17).out).length d4_97, tie signalmanref6_message.El d4_97 ((x17).out), row 27 1 (.slice a5_97 ((x17).wait).length c5_97) ((x17).wait).length d5_97, tie (El.sl (El.int .u8)) d5_97 ((x17).wait)]) (r := [row 5 1 (.slice at95_0 (t95.1).length ct95_0) (t95.1).length ((t95.1).map (Value.int .u8)), blk bt7_0 (#[Value.int .i64 ((x19).m), Value.int .i64 ((x19).window), Value.int .i64 ((x19).queue), Value.int .i64 ((x19).first), Value.int .i64 ((x19).out), Value.slice a5_93 ((x19).l).length c5_93]) 54, row 27 1 (.slice a5_93 ((x19).l).length c5_93) ((x19).l).length d5_93, tie (El.sl (El.int .u8)) d5_93 ((x19).l), row 5 1 (.slice at40_1 (t40.2.1).length ct40_1) (t40.2.1).length ((t40.2.1).map (Value.int .u8)), backlog_Log.at bt9_0 (t40.2.2.2), row 5 1 (.slice (some ⟨lb37, 0, none⟩) (([1] : List Int)).length 1) (([1] : List Int)).length ((([1] : List Int)).map (Value.int .u8)), blk nb31 (#[Value.int .i64 (((a3).getD (x16).toNat default).Way), Value.int .i64 (((a3).getD (x16).toNat default).N), Value.slice ea28 (((a3).getD (x16).toNat default).B).length em29]) 44, fsl 1 (.slice ea28 (((a3).getD (x16).toNat default).B).length em29) (((a3).getD (x16).toNat default).B).length ((((a3).getD (x16).toNat default).B).map (Value.int .u8)), tie signalmanlaw13_Act.El sd3 (a3), R]) HS))) rfl rfl rfl ?_
                      rintro _ w ⟨at99_0, ct99_0, rfl, HS⟩
                      replace HS := Sep.St.tailOpen (m := [row 5 1 (.slice at99_0 (t99.1).length ct99_0) (t99.1).length ((t99.1).map (Value.int .u8)), blk bt11_0 (#[Value.int .i64 ((x17).m), Value.int .i64 ((x17).window), Value.int .i64 ((x17).queue), Value.int .i64 ((x17).next), Value.slice a4_97 ((x17).out).length c4_97, Value.slice a5_97 ((x17).wait).length c5_97]) 61, row 63 2 (.slice a4_97 ((x17).out).length c4_97) ((x17).out).length d4_97, tie signalmanref6_message.El d4_97 ((x17).out), row 27 1 (.slice a5_97 ((x17).wait).length c5_97) ((x17).wait).length d5_97, tie (El.sl (El.int .u8)) d5_97 ((x17).wait)]) (r := [row 5 1 (.slice at95_0 (t95.1).length ct95_0) (t95.1).length ((t95.1).map (Value.int .u8)), blk bt7_0 (#[Value.int .i64 ((x19).m), Value.int .i64 ((x19).window), Value.int .i64 ((x19).queue), Value.int .i64 ((x19).first), Value.int .i64 ((x19).out), Value.slice a5_93 ((x19).l).length c5_93]) 54, row 27 1 (.slice a5_93 ((x19).l).length c5_93) ((x19).l).length d5_93, tie (El.sl (El.int .u8)) d5_93 ((x19).l), row 5 1 (.slice at40_1 (t40.2.1).length ct40_1) (t40.2.1).length ((t40.2.1).map (Value.int .u8)), backlog_Log.at bt9_0 (t40.2.2.2), row 5 1 (.slice (some ⟨lb37, 0, none⟩) (([1] : List Int)).length 1) (([1] : List Int)).length ((([1] : List Int)).map (Value.int .u8)), blk nb31 (#[Value.int .i64 (((a3).getD (x16).toNat default).Way), Value.int .i64 (((a3).getD (x16).toNat default).N), Value.slice ea28 (((a3).getD (x16).toNat default).B).length em29]) 44, fsl 1 (.slice ea28 (((a3).getD (x16).toNat default).B).length em29) (((a3).getD (x16).toNat default).B).length ((((a3).getD (x16).toNat default).B).map (Value.int .u8)), tie signalmanlaw13_Act.El sd3 (a3), R]) HS
                      have HS : Sep.St [row 5 1 (.slice at99_0 (t99.1).length ct99_0) (t99.1).length ((t99.1).map (Value.int .u8)), blk bt11_0 (#[Value.int .i64 ((x17).m), Value.int .i64 ((x17).window), Value.int .i64 ((x17).queue), Value.int .i64 ((x17).next), Value.slice a4_97 ((x17).out).length c4_97, Value.slice a5_97 ((x17).wait).length c5_97]) 61, row 63 2 (.slice a4_97 ((x17).out).length c4_97) ((x17).out).length d4_97, tie signalmanref6_message.El d4_97 ((x17).out), row 27 1 (.slice a5_97 ((x17).wait).length c5_97) ((x17).wait).length d5_97, tie (El.sl (El.int .u8)) d5_97 ((x17).wait), row 5 1 (.slice at95_0 (t95.1).length ct95_0) (t95.1).length ((t95.1).map (Value.int .u8)), blk bt7_0 (#[Value.int .i64 ((x19).m), Value.int .i64 ((x19).window), Value.int .i64 ((x19).queue), Value.int .i64 ((x19).first), Value.int .i64 ((x19).out), Value.slice a5_93 ((x19).l).length c5_93]) 54, row 27 1 (.slice a5_93 ((x19).l).length c5_93) ((x19).l).length d5_93, tie (El.sl (El.int .u8)) d5_93 ((x19).l), row 5 1 (.slice at40_1 (t40.2.1).length ct40_1) (t40.2.1).length ((t40.2.1).map (Value.int .u8)), backlog_Log.at bt9_0 (t40.2.2.2), row 5 1 (.slice (some ⟨lb37, 0, none⟩) (([1] : List Int)).length 1) (([1] : List Int)).length ((([1] : List Int)).map (Value.int .u8)), blk nb31 (#[Value.int .i64 (((a3).getD (x16).toNat default).Way), Value.int .i64 (((a3).getD (x16).toNat default).N), Value.slice ea28 (((a3).getD (x16).toNat default).B).length em29]) 44, fsl 1 (.slice ea28 (((a3).getD (x16).toNat default).B).length em29) (((a3).getD (x16).toNat default).B).length ((((a3).getD (x16).toNat default).B).map (Value.int .u8)), tie signalmanlaw13_Act.El sd3 (a3), R] w0 w := HS
                      refine W.rd (X.move rfl) rfl rfl rfl ?_
                      refine W.rd (X.extract rfl rfl) rfl rfl rfl ?_
                      refine W.rd (X.extract rfl rfl) rfl rfl rfl ?_
                      refine W.rd (X.assign rfl) rfl rfl rfl ?_
                      refine W.rd (X.assign rfl) rfl rfl rfl ?_
                      refine W.nil ?_
                      refine At.next ?_
                      refine V.keep [(3, Value.slice (some ⟨eb24, eo25, none⟩) (a3).length sc3), (10, Value.pointer (some ⟨bt7_0, 0, none⟩)), (11, Value.pointer (some ⟨bt9_0, 0, none⟩)), (12, Value.pointer (some ⟨bt11_0, 0, none⟩)), (13, Value.int .i64 (x16)), (25, Value.slice at95_0 (t95.1).length ct95_0), (26, Value.bool (t95.2)), (27, Value.slice at99_0 (t99.1).length ct99_0), (28, Value.bool (t99.2))] ⟨rfl, rfl, rfl, rfl, rfl, rfl, rfl, rfl, rfl, trivial⟩ ?_
                      refine V.seq ?_
                      refine V.region ?_
                      refine W.rd (X.move rfl) rfl rfl rfl ?_
                      refine W.rd (X.bytesStr Try.underlying27 Try.underlying5 Try.underlying9 rfl (rdC.at 6 row_rd HS rfl)) rfl rfl rfl ?_
                      refine W.rd (X.move rfl) rfl rfl rfl ?_
                      refine W.rd (X.bytesStr Try.underlying27 Try.underlying5 Try.underlying9 rfl (rdC.at 0 row_rd HS rfl)) rfl rfl rfl ?_
                      refine W.rd (X.neStr (a := t95.1) (b := t99.1) rfl rfl) rfl rfl rfl ?_
                      refine W.rd (X.move rfl) rfl rfl rfl ?_
                      by_cases c109 : sEq (t95.1) (t99.1) = true
                      · replace H := ite_t c109 H
                        refine W.want 155 rfl (sb (n_t c109)) ?_
                        refine W.rd (X.move rfl) rfl rfl rfl ?_
                        refine W.want 155 rfl (sb (n_t c109)) ?_
                        refine W.rd (X.move rfl) rfl rfl rfl ?_
                        refine W.want 155 rfl (sb (n_t c109)) ?_
                        refine W.rd (X.neB Try.underlying4 rfl rfl) rfl rfl rfl ?_
                        refine W.rd (X.pickF (sb (n_t c109)) rfl) rfl rfl rfl ?_
                        refine W.nil ?_
                        refine At.next ?_
                        refine V.keep [(3, Value.slice (some ⟨eb24, eo25, none⟩) (a3).length sc3), (10, Value.pointer (some ⟨bt7_0, 0, none⟩)), (11, Value.pointer (some ⟨bt9_0, 0, none⟩)), (12, Value.pointer (some ⟨bt11_0, 0, none⟩)), (13, Value.int .i64 (x16)), (156, Value.bool (t95.2)), (157, Value.bool (t99.2)), (158, Value.bool (((t95.2) != (t99.2)))), (159, Value.bool (((t95.2) != (t99.2))))] ⟨rfl, rfl, rfl, rfl, rfl, rfl, rfl, rfl, rfl, trivial⟩ ?_
                        by_cases c110 : ((t95.2) != (t99.2)) = true
                        · replace H := ite_t c110 H
                          refine V.condT (sb c110) ?_
                          refine V.seq ?_
                          refine V.region ?_
                          refine W.rd (X.assign rfl) rfl rfl rfl ?_
                          refine W.nil ?_
                          refine At.next ?_
                          refine V.keep [(8, Value.bool (false))] ⟨rfl, trivial⟩ ?_
                          refine V.ret ?_
                          refine At.blockRet ?_
                          refine At.thenRet ?_
                          refine At.blockRet ?_
                          refine At.thenRet ?_
                          refine At.thenRet ?_
                          refine At.blockRet ?_
                          refine At.thenRet ?_
                          replace HS := HS.sel [16] [0, 1, 2, 3, 4, 5, 6, 7, 8, 9, 10, 11, 12, 13, 14, 15] (by kernel_rfl)
                          cases H
                          exact At.ret1 rfl rfl ⟨_, rfl, rfl, HS⟩
                        · replace H := ite_f c110 H
                          refine V.condF (sb (b_f c110)) ?_
                          refine V.skip ?_
                          refine At.blockEnd ?_
                          replace HS := HS.more 14 rfl (fun _ t => t) fsl.pers
                          have HS : Sep.St [fsl 1 (.slice ea28 (((a3).getD (x16).toNat default).B).length em29) (((a3).getD (x16).toNat default).B).length ((((a3).getD (x16).toNat default).B).map (Value.int .u8)), row 5 1 (.slice at99_0 (t99.1).length ct99_0) (t99.1).length ((t99.1).map (Value.int .u8)), blk bt11_0 (#[Value.int .i64 ((x17).m), Value.int .i64 ((x17).window), Value.int .i64 ((x17).queue), Value.int .i64 ((x17).next), Value.slice a4_97 ((x17).out).length c4_97, Value.slice a5_97 ((x17).wait).length c5_97]) 61, row 63 2 (.slice a4_97 ((x17).out).length c4_97) ((x17).out).length d4_97, tie signalmanref6_message.El d4_97 ((x17).out), row 27 1 (.slice a5_97 ((x17).wait).length c5_97) ((x17).wait).length d5_97, tie (El.sl (El.int .u8)) d5_97 ((x17).wait), row 5 1 (.slice at95_0 (t95.1).length ct95_0) (t95.1).length ((t95.1).map (Value.int .u8)), blk bt7_0 (#[Value.int .i64 ((x19).m), Value.int .i64 ((x19).window), Value.int .i64 ((x19).queue), Value.int .i64 ((x19).first), Value.int .i64 ((x19).out), Value.slice a5_93 ((x19).l).length c5_93]) 54, row 27 1 (.slice a5_93 ((x19).l).length c5_93) ((x19).l).length d5_93, tie (El.sl (El.int .u8)) d5_93 ((x19).l), row 5 1 (.slice at40_1 (t40.2.1).length ct40_1) (t40.2.1).length ((t40.2.1).map (Value.int .u8)), backlog_Log.at bt9_0 (t40.2.2.2), row 5 1 (.slice (some ⟨lb37, 0, none⟩) (([1] : List Int)).length 1) (([1] : List Int)).length ((([1] : List Int)).map (Value.int .u8)), blk nb31 (#[Value.int .i64 (((a3).getD (x16).toNat default).Way), Value.int .i64 (((a3).getD (x16).toNat default).N), Value.slice ea28 (((a3).getD (x16).toNat default).B).length em29]) 44, fsl 1 (.slice ea28 (((a3).getD (x16).toNat default).B).length em29) (((a3).getD (x16).toNat default).B).length ((((a3).getD (x16).toNat default).B).map (Value.int .u8)), tie signalmanlaw13_Act.El sd3 (a3), R] w0 w := HS
                          replace HS := HS.re [14, 0, 1, 2, 3, 4, 5, 6, 7, 8, 9, 10, 11, 12, 13, 15, 16, 17] (by kernel_rfl)
                          have HS : Sep.St [blk nb31 (#[Value.int .i64 (((a3).getD (x16).toNat default).Way), Value.int .i64 (((a3).getD (x16).toNat default).N), Value.slice ea28 (((a3).getD (x16).toNat default).B).length em29]) 44, fsl 1 (.slice ea28 (((a3).getD (x16).toNat default).B).length em29) (((a3).getD (x16).toNat default).B).length ((((a3).getD (x16).toNat default).B).map (Value.int .u8)), row 5 1 (.slice at99_0 (t99.1).length ct99_0) (t99.1).length ((t99.1).map (Value.int .u8)), blk bt11_0 (#[Value.int .i64 ((x17).m), Value.int .i64 ((x17).window), Value.int .i64 ((x17).queue), Value.int .i64 ((x17).next), Value.slice a4_97 ((x17).out).length c4_97, Value.slice a5_97 ((x17).wait).length c5_97]) 61, row 63 2 (.slice a4_97 ((x17).out).length c4_97) ((x17).out).length d4_97, tie signalmanref6_message.El d4_97 ((x17).out), row 27 1 (.slice a5_97 ((x17).wait).length c5_97) ((x17).wait).length d5_97, tie (El.sl (El.int .u8)) d5_97 ((x17).wait), row 5 1 (.slice at95_0 (t95.1).length ct95_0) (t95.1).length ((t95.1).map (Value.int .u8)), blk bt7_0 (#[Value.int .i64 ((x19).m), Value.int .i64 ((x19).window), Value.int .i64 ((x19).queue), Value.int .i64 ((x19).first), Value.int .i64 ((x19).out), Value.slice a5_93 ((x19).l).length c5_93]) 54, row 27 1 (.slice a5_93 ((x19).l).length c5_93) ((x19).l).length d5_93, tie (El.sl (El.int .u8)) d5_93 ((x19).l), row 5 1 (.slice at40_1 (t40.2.1).length ct40_1) (t40.2.1).length ((t40.2.1).map (Value.int .u8)), backlog_Log.at bt9_0 (t40.2.2.2), row 5 1 (.slice (some ⟨lb37, 0, none⟩) (([1] : List Int)).length 1) (([1] : List Int)).length ((([1] : List Int)).map (Value.int .u8)), fsl 1 (.slice ea28 (((a3).getD (x16).toNat default).B).length em29) (((a3).getD (x16).toNat default).B).length ((((a3).getD (x16).toNat default).B).map (Value.int .u8)), tie signalmanlaw13_Act.El sd3 (a3), R] w0 w := HS
                          replace HS := signalmanlaw13_Act.close (((a3).getD (x16).toNat default)) trivial HS
                          have HS : Sep.St [signalmanlaw13_Act.at nb31 (((a3).getD (x16).toNat default)), row 5 1 (.slice at99_0 (t99.1).length ct99_0) (t99.1).length ((t99.1).map (Value.int .u8)), blk bt11_0 (#[Value.int .i64 ((x17).m), Value.int .i64 ((x17).window), Value.int .i64 ((x17).queue), Value.int .i64 ((x17).next), Value.slice a4_97 ((x17).out).length c4_97, Value.slice a5_97 ((x17).wait).length c5_97]) 61, row 63 2 (.slice a4_97 ((x17).out).length c4_97) ((x17).out).length d4_97, tie signalmanref6_message.El d4_97 ((x17).out), row 27 1 (.slice a5_97 ((x17).wait).length c5_97) ((x17).wait).length d5_97, tie (El.sl (El.int .u8)) d5_97 ((x17).wait), row 5 1 (.slice at95_0 (t95.1).length ct95_0) (t95.1).length ((t95.1).map (Value.int .u8)), blk bt7_0 (#[Value.int .i64 ((x19).m), Value.int .i64 ((x19).window), Value.int .i64 ((x19).queue), Value.int .i64 ((x19).first), Value.int .i64 ((x19).out), Value.slice a5_93 ((x19).l).length c5_93]) 54, row 27 1 (.slice a5_93 ((x19).l).length c5_93) ((x19).l).length d5_93, tie (El.sl (El.int .u8)) d5_93 ((x19).l), row 5 1 (.slice at40_1 (t40.2.1).length ct40_1) (t40.2.1).length ((t40.2.1).map (Value.int .u8)), backlog_Log.at bt9_0 (t40.2.2.2), row 5 1 (.slice (some ⟨lb37, 0, none⟩) (([1] : List Int)).length 1) (([1] : List Int)).length ((([1] : List Int)).map (Value.int .u8)), fsl 1 (.slice ea28 (((a3).getD (x16).toNat default).B).length em29) (((a3).getD (x16).toNat default).B).length ((((a3).getD (x16).toNat default).B).map (Value.int .u8)), tie signalmanlaw13_Act.El sd3 (a3), R] w0 w := HS
                          replace HS := HS.re [2, 3, 4, 5, 6, 0, 1, 7, 8, 9, 10, 11, 12, 13, 14, 15, 16] (by kernel_rfl)
                          have HS : Sep.St [blk bt11_0 (#[Value.int .i64 ((x17).m), Value.int .i64 ((x17).window), Value.int .i64 ((x17).queue), Value.int .i64 ((x17).next), Value.slice a4_97 ((x17).out).length c4_97, Value.slice a5_97 ((x17).wait).length c5_97]) 61, row 63 2 (.slice a4_97 ((x17).out).length c4_97) ((x17).out).length d4_97, tie signalmanref6_message.El d4_97 ((x17).out), row 27 1 (.slice a5_97 ((x17).wait).length c5_97) ((x17).wait).length d5_97, tie (El.sl (El.int .u8)) d5_97 ((x17).wait), signalmanlaw13_Act.at nb31 (((a3).getD (x16).toNat default)), row 5 1 (.slice at99_0 (t99.1).length ct99_0) (t99.1).length ((t99.1).map (Value.int .u8)), row 5 1 (.slice at95_0 (t95.1).length ct95_0) (t95.1).length ((t95.1).map (Value.int .u8)), blk bt7_0 (#[Value.int .i64 ((x19).m), Value.int .i64 ((x19).window), Value.int .i64 ((x19).queue), Value.int .i64 ((x19).first), Value.int .i64 ((x19).out), Value.slice a5_93 ((x19).l).length c5_93]) 54, row 27 1 (.slice a5_93 ((x19).l).length c5_93) ((x19).l).length d5_93, tie (El.sl (El.int .u8)) d5_93 ((x19).l), row 5 1 (.slice at40_1 (t40.2.1).length ct40_1) (t40.2.1).length ((t40.2.1).map (Value.int .u8)), backlog_Log.at bt9_0 (t40.2.2.2), row 5 1 (.slice (some ⟨lb37, 0, none⟩) (([1] : List Int)).length 1) (([1] : List Int)).length ((([1] : List Int)).map (Value.int .u8)), fsl 1 (.slice ea28 (((a3).getD (x16).toNat default).B).length em29) (((a3).getD (x16).toNat default).B).length ((((a3).getD (x16).toNat default).B).map (Value.int .u8)), tie signalmanlaw13_Act.El sd3 (a3), R] w0 w := HS
                          replace HS := signalmanref6_Log.close (x17) trivial HS
                          have HS : Sep.St [signalmanref6_Log.at bt11_0 (x17), signalmanlaw13_Act.at nb31 (((a3).getD (x16).toNat default)), row 5 1 (.slice at99_0 (t99.1).length ct99_0) (t99.1).length ((t99.1).map (Value.int .u8)), row 5 1 (.slice at95_0 (t95.1).length ct95_0) (t95.1).length ((t95.1).map (Value.int .u8)), blk bt7_0 (#[Value.int .i64 ((x19).m), Value.int .i64 ((x19).window), Value.int .i64 ((x19).queue), Value.int .i64 ((x19).first), Value.int .i64 ((x19).out), Value.slice a5_93 ((x19).l).length c5_93]) 54, row 27 1 (.slice a5_93 ((x19).l).length c5_93) ((x19).l).length d5_93, tie (El.sl (El.int .u8)) d5_93 ((x19).l), row 5 1 (.slice at40_1 (t40.2.1).length ct40_1) (t40.2.1).length ((t40.2.1).map (Value.int .u8)), backlog_Log.at bt9_0 (t40.2.2.2), row 5 1 (.slice (some ⟨lb37, 0, none⟩) (([1] : List Int)).length 1) (([1] : List Int)).length ((([1] : List Int)).map (Value.int .u8)), fsl 1 (.slice ea28 (((a3).getD (x16).toNat default).B).length em29) (((a3).getD (x16).toNat default).B).length ((((a3).getD (x16).toNat default).B).map (Value.int .u8)), tie signalmanlaw13_Act.El sd3 (a3), R] w0 w := HS
                          replace HS := HS.re [4, 5, 6, 0, 1, 2, 3, 7, 8, 9, 10, 11, 12] (by kernel_rfl)
                          have HS : Sep.St [blk bt7_0 (#[Value.int .i64 ((x19).m), Value.int .i64 ((x19).window), Value.int .i64 ((x19).queue), Value.int .i64 ((x19).first), Value.int .i64 ((x19).out), Value.slice a5_93 ((x19).l).length c5_93]) 54, row 27 1 (.slice a5_93 ((x19).l).length c5_93) ((x19).l).length d5_93, tie (El.sl (El.int .u8)) d5_93 ((x19).l), signalmanref6_Log.at bt11_0 (x17), signalmanlaw13_Act.at nb31 (((a3).getD (x16).toNat default)), row 5 1 (.slice at99_0 (t99.1).length ct99_0) (t99.1).length ((t99.1).map (Value.int .u8)), row 5 1 (.slice at95_0 (t95.1).length ct95_0) (t95.1).length ((t95.1).map (Value.int .u8)), row 5 1 (.slice at40_1 (t40.2.1).length ct40_1) (t40.2.1).length ((t40.2.1).map (Value.int .u8)), backlog_Log.at bt9_0 (t40.2.2.2), row 5 1 (.slice (some ⟨lb37, 0, none⟩) (([1] : List Int)).length 1) (([1] : List Int)).length ((([1] : List Int)).map (Value.int .u8)), fsl 1 (.slice ea28 (((a3).getD (x16).toNat default).B).length em29) (((a3).getD (x16).toNat default).B).length ((((a3).getD (x16).toNat default).B).map (Value.int .u8)), tie signalmanlaw13_Act.El sd3 (a3), R] w0 w := HS
                          replace HS := backlog_Log.close (x19) trivial HS
                          have HS : Sep.St [backlog_Log.at bt7_0 (x19), signalmanref6_Log.at bt11_0 (x17), signalmanlaw13_Act.at nb31 (((a3).getD (x16).toNat default)), row 5 1 (.slice at99_0 (t99.1).length ct99_0) (t99.1).length ((t99.1).map (Value.int .u8)), row 5 1 (.slice at95_0 (t95.1).length ct95_0) (t95.1).length ((t95.1).map (Value.int .u8)), row 5 1 (.slice at40_1 (t40.2.1).length ct40_1) (t40.2.1).length ((t40.2.1).map (Value.int .u8)), backlog_Log.at bt9_0 (t40.2.2.2), row 5 1 (.slice (some ⟨lb37, 0, none⟩) (([1] : List Int)).length 1) (([1] : List Int)).length ((([1] : List Int)).map (Value.int .u8)), fsl 1 (.slice ea28 (((a3).getD (x16).toNat default).B).length em29) (((a3).getD (x16).toNat default).B).length ((((a3).getD (x16).toNat default).B).map (Value.int .u8)), tie signalmanlaw13_Act.El sd3 (a3), R] w0 w := HS
                          replace HS := HS.sel [2, 5, 6, 7, 8, 1, 0, 9, 10] [3, 4] (by kernel_rfl)
                          exact At.meet (x17, x19) ⟨rfl, rfl, rfl, rfl, rfl, trivial⟩ ⟨HS, kq20, by omega, H⟩
                      · replace H := ite_f c109 H
                        refine W.pass 155 rfl (sb (n_f (b_f c109))) rfl rfl ?_
                        refine W.pass 155 rfl (sb (n_f (b_f c109))) rfl rfl ?_
                        refine W.pass 155 rfl (sb (n_f (b_f c109))) rfl rfl ?_
                        refine W.rd (X.pickT (sb (n_f (b_f c109))) rfl) rfl rfl rfl ?_
                        refine W.nil ?_
                        refine At.next ?_
                        refine V.keep [(3, Value.slice (some ⟨eb24, eo25, none⟩) (a3).length sc3), (10, Value.pointer (some ⟨bt7_0, 0, none⟩)), (11, Value.pointer (some ⟨bt9_0, 0, none⟩)), (12, Value.pointer (some ⟨bt11_0, 0, none⟩)), (13, Value.int .i64 (x16)), (156, undef), (157, undef), (158, undef), (159, Value.bool (true))] ⟨rfl, rfl, rfl, rfl, rfl, rfl, rfl, rfl, rfl, trivial⟩ ?_
                        refine V.condT rfl ?_
                        refine V.seq ?_
                        refine V.region ?_
                        refine W.rd (X.assign rfl) rfl rfl rfl ?_
                        refine W.nil ?_
                        refine At.next ?_
                        refine V.keep [(8, Value.bool (false))] ⟨rfl, trivial⟩ ?_
                        refine V.ret ?_
                        refine At.blockRet ?_
                        refine At.thenRet ?_
                        refine At.blockRet ?_
                        refine At.thenRet ?_
                        refine At.thenRet ?_
                        refine At.blockRet ?_
                        refine At.thenRet ?_
                        replace HS := HS.sel [16] [0, 1, 2, 3, 4, 5, 6, 7, 8, 9, 10, 11, 12, 13, 14, 15] (by kernel_rfl)
                        cases H
                        exact At.ret1 rfl rfl ⟨_, rfl, rfl, HS⟩
                    · replace H := ite_f c92 H
                      refine V.condF (sb (decide_eq_false c92)) ?_
                      refine V.seq ?_
                      refine V.region ?_
                      refine W.rd (X.cmp (decide ((((a3).getD (x16).toNat default).Way) = 4)) rfl rfl rfl rfl) rfl rfl rfl ?_
                      refine W.rd (X.assign rfl) rfl rfl rfl ?_
                      refine W.nil ?_
                      refine At.next ?_
                      refine V.keep [(3, Value.slice (some ⟨eb24, eo25, none⟩) (a3).length sc3), (10, Value.pointer (some ⟨bt7_0, 0, none⟩)), (11, Value.pointer (some ⟨bt9_0, 0, none⟩)), (12, Value.pointer (some ⟨bt11_0, 0, none⟩)), (13, Value.int .i64 (x16)), (160, Value.bool (decide ((((a3).getD (x16).toNat default).Way) = 4)))] ⟨rfl, rfl, rfl, rfl, rfl, rfl, trivial⟩ ?_
                      by_cases c111 : (((a3).getD (x16).toNat default).Way) = 4
                      · replace H := ite_t c111 H
                        refine V.condT (sb (decide_eq_true c111)) ?_
                        refine V.seq ?_
                        refine V.region ?_
                        refine W.rd (X.move rfl) rfl rfl rfl ?_
                        obtain ⟨t112, A113, H⟩ := bind_s H
                        replace HS := HS.re [6, 0, 1, 2, 3, 4, 5, 7, 8] (by kernel_rfl)
                        have HS : Sep.St [backlog_Log.at bt7_0 (x19), row 5 1 (.slice at40_1 (t40.2.1).length ct40_1) (t40.2.1).length ((t40.2.1).map (Value.int .u8)), backlog_Log.at bt9_0 (t40.2.2.2), row 5 1 (.slice (some ⟨lb37, 0, none⟩) (([1] : List Int)).length 1) (([1] : List Int)).length ((([1] : List Int)).map (Value.int .u8)), blk nb31 (#[Value.int .i64 (((a3).getD (x16).toNat default).Way), Value.int .i64 (((a3).getD (x16).toNat default).N), Value.slice ea28 (((a3).getD (x16).toNat default).B).length em29]) 44, fsl 1 (.slice ea28 (((a3).getD (x16).toNat default).B).length em29) (((a3).getD (x16).toNat default).B).length ((((a3).getD (x16).toNat default).B).map (Value.int .u8)), signalmanref6_Log.at bt11_0 (x17), tie signalmanlaw13_Act.El sd3 (a3), R] w0 w := HS
                        refine W.ev (Y.call Try.func11 (by kernel_rfl) rfl (vs := [Value.pointer (some ⟨bt7_0, 0, none⟩)]) rfl (backlog_Log_Clear.calls x19 _ w0 _ bt7_0 t112  A113 (Sep.St.tailJoin (m := [backlog_Log.at bt7_0 (x19)]) (r := [row 5 1 (.slice at40_1 (t40.2.1).length ct40_1) (t40.2.1).length ((t40.2.1).map (Value.int .u8)), backlog_Log.at bt9_0 (t40.2.2.2), row 5 1 (.slice (some ⟨lb37, 0, none⟩) (([1] : List Int)).length 1) (([1] : List Int)).length ((([1] : List Int)).map (Value.int .u8)), blk nb31 (#[Value.int .i64 (((a3).getD (x16).toNat default).Way), Value.int .i64 (((a3).getD (x16).toNat default).N), Value.slice ea28 (((a3).getD (x16).toNat default).B).length em29]) 44, fsl 1 (.slice ea28 (((a3).getD (x16).toNat default).B).length em29) (((a3).getD (x16).toNat default).B).length ((((a3).getD (x16).toNat default).B).map (Value.int .u8)), signalmanref6_Log.at bt11_0 (x17), tie signalmanlaw13_Act.El sd3 (a3), R]) HS))) rfl rfl rfl ?_
                        rintro _ w ⟨rfl, HS⟩
                        replace HS := Sep.St.tailOpen (m := [backlog_Log.at bt7_0 (t112.2)]) (r := [row 5 1 (.slice at40_1 (t40.2.1).length ct40_1) (t40.2.1).length ((t40.2.1).map (Value.int .u8)), backlog_Log.at bt9_0 (t40.2.2.2), row 5 1 (.slice (some ⟨lb37, 0, none⟩) (([1] : List Int)).length 1) (([1] : List Int)).length ((([1] : List Int)).map (Value.int .u8)), blk nb31 (#[Value.int .i64 (((a3).getD (x16).toNat default).Way), Value.int .i64 (((a3).getD (x16).toNat default).N), Value.slice ea28 (((a3).getD (x16).toNat default).B).length em29]) 44, fsl 1 (.slice ea28 (((a3).getD (x16).toNat default).B).length em29) (((a3).getD (x16).toNat default).B).length ((((a3).getD (x16).toNat default).B).map (Value.int .u8)), signalmanref6_Log.at bt11_0 (x17), tie signalmanlaw13_Act.El sd3 (a3), R]) HS
                        have HS : Sep.St [backlog_Log.at bt7_0 (t112.2), row 5 1 (.slice at40_1 (t40.2.1).length ct40_1) (t40.2.1).length ((t40.2.1).map (Value.int .u8)), backlog_Log.at bt9_0 (t40.2.2.2), row 5 1 (.slice (some ⟨lb37, 0, none⟩) (([1] : List Int)).length 1) (([1] : List Int)).length ((([1] : List Int)).map (Value.int .u8)), blk nb31 (#[Value.int .i64 (((a3).getD (x16).toNat default).Way), Value.int .i64 (((a3).getD (x16).toNat default).N), Value.slice ea28 (((a3).getD (x16).toNat default).B).length em29]) 44, fsl 1 (.slice ea28 (((a3).getD (x16).toNat default).B).length em29) (((a3).getD (x16).toNat default).B).length ((((a3).getD (x16).toNat default).B).map (Value.int .u8)), signalmanref6_Log.at bt11_0 (x17), tie signalmanlaw13_Act.El sd3 (a3), R] w0 w := HS
                        refine W.rd (X.move rfl) rfl rfl rfl ?_
                        obtain ⟨t114, A115, H⟩ := bind_s H
                        replace HS := HS.re [6, 0, 1, 2, 3, 4, 5, 7, 8] (by kernel_rfl)
                        have HS : Sep.St [signalmanref6_Log.at bt11_0 (x17), backlog_Log.at bt7_0 (t112.2), row 5 1 (.slice at40_1 (t40.2.1).length ct40_1) (t40.2.1).length ((t40.2.1).map (Value.int .u8)), backlog_Log.at bt9_0 (t40.2.2.2), row 5 1 (.slice (some ⟨lb37, 0, none⟩) (([1] : List Int)).length 1) (([1] : List Int)).length ((([1] : List Int)).map (Value.int .u8)), blk nb31 (#[Value.int .i64 (((a3).getD (x16).toNat default).Way), Value.int .i64 (((a3).getD (x16).toNat default).N), Value.slice ea28 (((a3).getD (x16).toNat default).B).length em29]) 44, fsl 1 (.slice ea28 (((a3).getD (x16).toNat default).B).length em29) (((a3).getD (x16).toNat default).B).length ((((a3).getD (x16).toNat default).B).map (Value.int .u8)), tie signalmanlaw13_Act.El sd3 (a3), R] w0 w := HS
                        refine W.ev (Y.call Try.func23 (by kernel_rfl) rfl (vs := [Value.pointer (some ⟨bt11_0, 0, none⟩)]) rfl (signalmanref6_Log_Clear.calls x17 _ w0 _ bt11_0 t114  A115 (Sep.St.tailJoin (m := [signalmanref6_Log.at bt11_0 (x17)]) (r := [backlog_Log.at bt7_0 (t112.2), row 5 1 (.slice at40_1 (t40.2.1).length ct40_1) (t40.2.1).length ((t40.2.1).map (Value.int .u8)), backlog_Log.at bt9_0 (t40.2.2.2), row 5 1 (.slice (some ⟨lb37, 0, none⟩) (([1] : List Int)).length 1) (([1] : List Int)).length ((([1] : List Int)).map (Value.int .u8)), blk nb31 (#[Value.int .i64 (((a3).getD (x16).toNat default).Way), Value.int .i64 (((a3).getD (x16).toNat default).N), Value.slice ea28 (((a3).getD (x16).toNat default).B).length em29]) 44, fsl 1 (.slice ea28 (((a3).getD (x16).toNat default).B).length em29) (((a3).getD (x16).toNat default).B).length ((((a3).getD (x16).toNat default).B).map (Value.int .u8)), tie signalmanlaw13_Act.El sd3 (a3), R]) HS))) rfl rfl rfl ?_
                        rintro _ w ⟨rfl, HS⟩
                        replace HS := Sep.St.tailOpen (m := [signalmanref6_Log.at bt11_0 (t114.2)]) (r := [backlog_Log.at bt7_0 (t112.2), row 5 1 (.slice at40_1 (t40.2.1).length ct40_1) (t40.2.1).length ((t40.2.1).map (Value.int .u8)), backlog_Log.at bt9_0 (t40.2.2.2), row 5 1 (.slice (some ⟨lb37, 0, none⟩) (([1] : List Int)).length 1) (([1] : List Int)).length ((([1] : List Int)).map (Value.int .u8)), blk nb31 (#[Value.int .i64 (((a3).getD (x16).toNat default).Way), Value.int .i64 (((a3).getD (x16).toNat default).N), Value.slice ea28 (((a3).getD (x16).toNat default).B).length em29]) 44, fsl 1 (.slice ea28 (((a3).getD (x16).toNat default).B).length em29) (((a3).getD (x16).toNat default).B).length ((((a3).getD (x16).toNat default).B).map (Value.int .u8)), tie signalmanlaw13_Act.El sd3 (a3), R]) HS
                        have HS : Sep.St [signalmanref6_Log.at bt11_0 (t114.2), backlog_Log.at bt7_0 (t112.2), row 5 1 (.slice at40_1 (t40.2.1).length ct40_1) (t40.2.1).length ((t40.2.1).map (Value.int .u8)), backlog_Log.at bt9_0 (t40.2.2.2), row 5 1 (.slice (some ⟨lb37, 0, none⟩) (([1] : List Int)).length 1) (([1] : List Int)).length ((([1] : List Int)).map (Value.int .u8)), blk nb31 (#[Value.int .i64 (((a3).getD (x16).toNat default).Way), Value.int .i64 (((a3).getD (x16).toNat default).N), Value.slice ea28 (((a3).getD (x16).toNat default).B).length em29]) 44, fsl 1 (.slice ea28 (((a3).getD (x16).toNat default).B).length em29) (((a3).getD (x16).toNat default).B).length ((((a3).getD (x16).toNat default).B).map (Value.int .u8)), tie signalmanlaw13_Act.El sd3 (a3), R] w0 w := HS
                        refine W.rd (X.cmp (!(decide (t112.1 = t114.1))) rfl rfl rfl rfl) rfl rfl rfl ?_
                        refine W.nil ?_
                        refine At.next ?_
                        refine V.keep [(3, Value.slice (some ⟨eb24, eo25, none⟩) (a3).length sc3), (10, Value.pointer (some ⟨bt7_0, 0, none⟩)), (11, Value.pointer (some ⟨bt9_0, 0, none⟩)), (12, Value.pointer (some ⟨bt11_0, 0, none⟩)), (13, Value.int .i64 (x16)), (166, Value.bool (!(decide (t112.1 = t114.1))))] ⟨rfl, rfl, rfl, rfl, rfl, rfl, trivial⟩ ?_
                        by_cases c116 : t112.1 = t114.1
                        · replace H := ite_t c116 H
                          refine V.condF (sb (n_t (decide_eq_true c116))) ?_
                          refine V.skip ?_
                          refine At.blockEnd ?_
                          replace HS := HS.more 6 rfl (fun _ t => t) fsl.pers
                          have HS : Sep.St [fsl 1 (.slice ea28 (((a3).getD (x16).toNat default).B).length em29) (((a3).getD (x16).toNat default).B).length ((((a3).getD (x16).toNat default).B).map (Value.int .u8)), signalmanref6_Log.at bt11_0 (t114.2), backlog_Log.at bt7_0 (t112.2), row 5 1 (.slice at40_1 (t40.2.1).length ct40_1) (t40.2.1).length ((t40.2.1).map (Value.int .u8)), backlog_Log.at bt9_0 (t40.2.2.2), row 5 1 (.slice (some ⟨lb37, 0, none⟩) (([1] : List Int)).length 1) (([1] : List Int)).length ((([1] : List Int)).map (Value.int .u8)), blk nb31 (#[Value.int .i64 (((a3).getD (x16).toNat default).Way), Value.int .i64 (((a3).getD (x16).toNat default).N), Value.slice ea28 (((a3).getD (x16).toNat default).B).length em29]) 44, fsl 1 (.slice ea28 (((a3).getD (x16).toNat default).B).length em29) (((a3).getD (x16).toNat default).B).length ((((a3).getD (x16).toNat default).B).map (Value.int .u8)), tie signalmanlaw13_Act.El sd3 (a3), R] w0 w := HS
                          replace HS := HS.re [6, 0, 1, 2, 3, 4, 5, 7, 8, 9] (by kernel_rfl)
                          have HS : Sep.St [blk nb31 (#[Value.int .i64 (((a3).getD (x16).toNat default).Way), Value.int .i64 (((a3).getD (x16).toNat default).N), Value.slice ea28 (((a3).getD (x16).toNat default).B).length em29]) 44, fsl 1 (.slice ea28 (((a3).getD (x16).toNat default).B).length em29) (((a3).getD (x16).toNat default).B).length ((((a3).getD (x16).toNat default).B).map (Value.int .u8)), signalmanref6_Log.at bt11_0 (t114.2), backlog_Log.at bt7_0 (t112.2), row 5 1 (.slice at40_1 (t40.2.1).length ct40_1) (t40.2.1).length ((t40.2.1).map (Value.int .u8)), backlog_Log.at bt9_0 (t40.2.2.2), row 5 1 (.slice (some ⟨lb37, 0, none⟩) (([1] : List Int)).length 1) (([1] : List Int)).length ((([1] : List Int)).map (Value.int .u8)), fsl 1 (.slice ea28 (((a3).getD (x16).toNat default).B).length em29) (((a3).getD (x16).toNat default).B).length ((((a3).getD (x16).toNat default).B).map (Value.int .u8)), tie signalmanlaw13_Act.El sd3 (a3), R] w0 w := HS
                          replace HS := signalmanlaw13_Act.close (((a3).getD (x16).toNat default)) trivial HS
                          have HS : Sep.St [signalmanlaw13_Act.at nb31 (((a3).getD (x16).toNat default)), signalmanref6_Log.at bt11_0 (t114.2), backlog_Log.at bt7_0 (t112.2), row 5 1 (.slice at40_1 (t40.2.1).length ct40_1) (t40.2.1).length ((t40.2.1).map (Value.int .u8)), backlog_Log.at bt9_0 (t40.2.2.2), row 5 1 (.slice (some ⟨lb37, 0, none⟩) (([1] : List Int)).length 1) (([1] : List Int)).length ((([1] : List Int)).map (Value.int .u8)), fsl 1 (.slice ea28 (((a3).getD (x16).toNat default).B).length em29) (((a3).getD (x16).toNat default).B).length ((((a3).getD (x16).toNat default).B).map (Value.int .u8)), tie signalmanlaw13_Act.El sd3 (a3), R] w0 w := HS
                          replace HS := HS.sel [0, 3, 4, 5, 6, 1, 2, 7, 8] [] (by kernel_rfl)
                          exact At.meet (t114.2, t112.2) ⟨rfl, rfl, rfl, rfl, rfl, trivial⟩ ⟨HS, kq20, by omega, H⟩
                        · replace H := ite_f c116 H
                          refine V.condT (sb (n_f (decide_eq_false c116))) ?_
                          refine V.seq ?_
                          refine V.region ?_
                          refine W.rd (X.assign rfl) rfl rfl rfl ?_
                          refine W.nil ?_
                          refine At.next ?_
                          refine V.keep [(8, Value.bool (false))] ⟨rfl, trivial⟩ ?_
                          refine V.ret ?_
                          refine At.blockRet ?_
                          refine At.thenRet ?_
                          refine At.blockRet ?_
                          refine At.thenRet ?_
                          refine At.thenRet ?_
                          refine At.blockRet ?_
                          refine At.thenRet ?_
                          replace HS := HS.sel [8] [0, 1, 2, 3, 4, 5, 6, 7] (by kernel_rfl)
                          cases H
                          exact At.ret1 rfl rfl ⟨_, rfl, rfl, HS⟩
                      · replace H := ite_f c111 H
                        refine V.condF (sb (decide_eq_false c111)) ?_
                        refine V.skip ?_
                        refine At.blockEnd ?_
                        replace HS := HS.more 4 rfl (fun _ t => t) fsl.pers
                        have HS : Sep.St [fsl 1 (.slice ea28 (((a3).getD (x16).toNat default).B).length em29) (((a3).getD (x16).toNat default).B).length ((((a3).getD (x16).toNat default).B).map (Value.int .u8)), row 5 1 (.slice at40_1 (t40.2.1).length ct40_1) (t40.2.1).length ((t40.2.1).map (Value.int .u8)), backlog_Log.at bt9_0 (t40.2.2.2), row 5 1 (.slice (some ⟨lb37, 0, none⟩) (([1] : List Int)).length 1) (([1] : List Int)).length ((([1] : List Int)).map (Value.int .u8)), blk nb31 (#[Value.int .i64 (((a3).getD (x16).toNat default).Way), Value.int .i64 (((a3).getD (x16).toNat default).N), Value.slice ea28 (((a3).getD (x16).toNat default).B).length em29]) 44, fsl 1 (.slice ea28 (((a3).getD (x16).toNat default).B).length em29) (((a3).getD (x16).toNat default).B).length ((((a3).getD (x16).toNat default).B).map (Value.int .u8)), signalmanref6_Log.at bt11_0 (x17), backlog_Log.at bt7_0 (x19), tie signalmanlaw13_Act.El sd3 (a3), R] w0 w := HS
                        replace HS := HS.re [4, 0, 1, 2, 3, 5, 6, 7, 8, 9] (by kernel_rfl)
                        have HS : Sep.St [blk nb31 (#[Value.int .i64 (((a3).getD (x16).toNat default).Way), Value.int .i64 (((a3).getD (x16).toNat default).N), Value.slice ea28 (((a3).getD (x16).toNat default).B).length em29]) 44, fsl 1 (.slice ea28 (((a3).getD (x16).toNat default).B).length em29) (((a3).getD (x16).toNat default).B).length ((((a3).getD (x16).toNat default).B).map (Value.int .u8)), row 5 1 (.slice at40_1 (t40.2.1).length ct40_1) (t40.2.1).length ((t40.2.1).map (Value.int .u8)), backlog_Log.at bt9_0 (t40.2.2.2), row 5 1 (.slice (some ⟨lb37, 0, none⟩) (([1] : List Int)).length 1) (([1] : List Int)).length ((([1] : List Int)).map (Value.int .u8)), fsl 1 (.slice ea28 (((a3).getD (x16).toNat default).B).length em29) (((a3).getD (x16).toNat default).B).length ((((a3).getD (x16).toNat default).B).map (Value.int .u8)), signalmanref6_Log.at bt11_0 (x17), backlog_Log.at bt7_0 (x19), tie signalmanlaw13_Act.El sd3 (a3), R] w0 w := HS
                        replace HS := signalmanlaw13_Act.close (((a3).getD (x16).toNat default)) trivial HS
                        have HS : Sep.St [signalmanlaw13_Act.at nb31 (((a3).getD (x16).toNat default)), row 5 1 (.slice at40_1 (t40.2.1).length ct40_1) (t40.2.1).length ((t40.2.1).map (Value.int .u8)), backlog_Log.at bt9_0 (t40.2.2.2), row 5 1 (.slice (some ⟨lb37, 0, none⟩) (([1] : List Int)).length 1) (([1] : List Int)).length ((([1] : List Int)).map (Value.int .u8)), fsl 1 (.slice ea28 (((a3).getD (x16).toNat default).B).length em29) (((a3).getD (x16).toNat default).B).length ((((a3).getD (x16).toNat default).B).map (Value.int .u8)), signalmanref6_Log.at bt11_0 (x17), backlog_Log.at bt7_0 (x19), tie signalmanlaw13_Act.El sd3 (a3), R] w0 w := HS
                        exact At.meet (x17, x19) ⟨rfl, rfl, rfl, rfl, rfl, trivial⟩ ⟨HS, kq20, by omega, H⟩
            · rintro ⟨x44, x45⟩ w ⟨HS, kf46, hkkf46, H⟩
              unfold signalmanlaw13_BacklogPlays.j2 at H
              have HS : Sep.St [signalmanlaw13_Act.at nb31 (((a3).getD (x16).toNat default)), row 5 1 (.slice at40_1 (t40.2.1).length ct40_1) (t40.2.1).length ((t40.2.1).map (Value.int .u8)), backlog_Log.at bt9_0 (t40.2.2.2), row 5 1 (.slice (some ⟨lb37, 0, none⟩) (([1] : List Int)).length 1) (([1] : List Int)).length ((([1] : List Int)).map (Value.int .u8)), fsl 1 (.slice ea28 (((a3).getD (x16).toNat default).B).length em29) (((a3).getD (x16).toNat default).B).length ((((a3).getD (x16).toNat default).B).map (Value.int .u8)), signalmanref6_Log.at bt11_0 (x44), backlog_Log.at bt7_0 (x45), tie signalmanlaw13_Act.El sd3 (a3), R] w0 w := HS
              refine V.seq ?_
              refine V.region ?_
              refine W.rd (X.move rfl) rfl rfl rfl ?_
              replace HS := HS.front 6 rfl
              have HS : Sep.St [backlog_Log.at bt7_0 (x45), signalmanlaw13_Act.at nb31 (((a3).getD (x16).toNat default)), row 5 1 (.slice at40_1 (t40.2.1).length ct40_1) (t40.2.1).length ((t40.2.1).map (Value.int .u8)), backlog_Log.at bt9_0 (t40.2.2.2), row 5 1 (.slice (some ⟨lb37, 0, none⟩) (([1] : List Int)).length 1) (([1] : List Int)).length ((([1] : List Int)).map (Value.int .u8)), fsl 1 (.slice ea28 (((a3).getD (x16).toNat default).B).length em29) (((a3).getD (x16).toNat default).B).length ((((a3).getD (x16).toNat default).B).map (Value.int .u8)), signalmanref6_Log.at bt11_0 (x44), tie signalmanlaw13_Act.El sd3 (a3), R] w0 w := HS
              obtain ⟨a5_48, c5_48, d5_48, hi49, HS⟩ := backlog_Log.open HS
              have HS : Sep.St [blk bt7_0 (#[Value.int .i64 ((x45).m), Value.int .i64 ((x45).window), Value.int .i64 ((x45).queue), Value.int .i64 ((x45).first), Value.int .i64 ((x45).out), Value.slice a5_48 ((x45).l).length c5_48]) 54, row 27 1 (.slice a5_48 ((x45).l).length c5_48) ((x45).l).length d5_48, tie (El.sl (El.int .u8)) d5_48 ((x45).l), signalmanlaw13_Act.at nb31 (((a3).getD (x16).toNat default)), row 5 1 (.slice at40_1 (t40.2.1).length ct40_1) (t40.2.1).length ((t40.2.1).map (Value.int .u8)), backlog_Log.at bt9_0 (t40.2.2.2), row 5 1 (.slice (some ⟨lb37, 0, none⟩) (([1] : List Int)).length 1) (([1] : List Int)).length ((([1] : List Int)).map (Value.int .u8)), fsl 1 (.slice ea28 (((a3).getD (x16).toNat default).B).length em29) (((a3).getD (x16).toNat default).B).length ((((a3).getD (x16).toNat default).B).map (Value.int .u8)), signalmanref6_Log.at bt11_0 (x44), tie signalmanlaw13_Act.El sd3 (a3), R] w0 w := HS
              obtain ⟨t50, A51, H⟩ := bind_s H
              refine W.ev (Y.call Try.func13 (by kernel_rfl) rfl (vs := [Value.pointer (some ⟨bt7_0, 0, none⟩)]) rfl (backlog_Log_Out.calls kf46 x45 _ w0 _ bt7_0 a5_48 c5_48 d5_48 t50  A51 (Sep.St.tailJoin (m := [blk bt7_0 (#[Value.int .i64 ((x45).m), Value.int .i64 ((x45).window), Value.int .i64 ((x45).queue), Value.int .i64 ((x45).first), Value.int .i64 ((x45).out), Value.slice a5_48 ((x45).l).length c5_48]) 54, row 27 1 (.slice a5_48 ((x45).l).length c5_48) ((x45).l).length d5_48, tie (El.sl (El.int .u8)) d5_48 ((x45).l)]) (r := [signalmanlaw13_Act.at nb31 (((a3).getD (x16).toNat default)), row 5 1 (.slice at40_1 (t40.2.1).length ct40_1) (t40.2.1).length ((t40.2.1).map (Value.int .u8)), backlog_Log.at bt9_0 (t40.2.2.2), row 5 1 (.slice (some ⟨lb37, 0, none⟩) (([1] : List Int)).length 1) (([1] : List Int)).length ((([1] : List Int)).map (Value.int .u8)), fsl 1 (.slice ea28 (((a3).getD (x16).toNat default).B).length em29) (((a3).getD (x16).toNat default).B).length ((((a3).getD (x16).toNat default).B).map (Value.int .u8)), signalmanref6_Log.at bt11_0 (x44), tie signalmanlaw13_Act.El sd3 (a3), R]) HS))) rfl rfl rfl ?_
              rintro _ w ⟨at50_0, ct50_0, rfl, HS⟩
              replace HS := Sep.St.tailOpen (m := [row 3 1 (.slice at50_0 (t50).length ct50_0) (t50).length ((t50).map (Value.int .i64)), blk bt7_0 (#[Value.int .i64 ((x45).m), Value.int .i64 ((x45).window), Value.int .i64 ((x45).queue), Value.int .i64 ((x45).first), Value.int .i64 ((x45).out), Value.slice a5_48 ((x45).l).length c5_48]) 54, row 27 1 (.slice a5_48 ((x45).l).length c5_48) ((x45).l).length d5_48, tie (El.sl (El.int .u8)) d5_48 ((x45).l)]) (r := [signalmanlaw13_Act.at nb31 (((a3).getD (x16).toNat default)), row 5 1 (.slice at40_1 (t40.2.1).length ct40_1) (t40.2.1).length ((t40.2.1).map (Value.int .u8)), backlog_Log.at bt9_0 (t40.2.2.2), row 5 1 (.slice (some ⟨lb37, 0, none⟩) (([1] : List Int)).length 1) (([1] : List Int)).length ((([1] : List Int)).map (Value.int .u8)), fsl 1 (.slice ea28 (((a3).getD (x16).toNat default).B).length em29) (((a3).getD (x16).toNat default).B).length ((((a3).getD (x16).toNat default).B).map (Value.int .u8)), signalmanref6_Log.at bt11_0 (x44), tie signalmanlaw13_Act.El sd3 (a3), R]) HS
              have HS : Sep.St [row 3 1 (.slice at50_0 (t50).length ct50_0) (t50).length ((t50).map (Value.int .i64)), blk bt7_0 (#[Value.int .i64 ((x45).m), Value.int .i64 ((x45).window), Value.int .i64 ((x45).queue), Value.int .i64 ((x45).first), Value.int .i64 ((x45).out), Value.slice a5_48 ((x45).l).length c5_48]) 54, row 27 1 (.slice a5_48 ((x45).l).length c5_48) ((x45).l).length d5_48, tie (El.sl (El.int .u8)) d5_48 ((x45).l), signalmanlaw13_Act.at nb31 (((a3).getD (x16).toNat default)), row 5 1 (.slice at40_1 (t40.2.1).length ct40_1) (t40.2.1).length ((t40.2.1).map (Value.int .u8)), backlog_Log.at bt9_0 (t40.2.2.2), row 5 1 (.slice (some ⟨lb37, 0, none⟩) (([1] : List Int)).length 1) (([1] : List Int)).length ((([1] : List Int)).map (Value.int .u8)), fsl 1 (.slice ea28 (((a3).getD (x16).toNat default).B).length em29) (((a3).getD (x16).toNat default).B).length ((((a3).getD (x16).toNat default).B).map (Value.int .u8)), signalmanref6_Log.at bt11_0 (x44), tie signalmanlaw13_Act.El sd3 (a3), R] w0 w := HS
              refine W.rd (X.move rfl) rfl rfl rfl ?_
              replace HS := HS.front 9 rfl
              have HS : Sep.St [signalmanref6_Log.at bt11_0 (x44), row 3 1 (.slice at50_0 (t50).length ct50_0) (t50).length ((t50).map (Value.int .i64)), blk bt7_0 (#[Value.int .i64 ((x45).m), Value.int .i64 ((x45).window), Value.int .i64 ((x45).queue), Value.int .i64 ((x45).first), Value.int .i64 ((x45).out), Value.slice a5_48 ((x45).l).length c5_48]) 54, row 27 1 (.slice a5_48 ((x45).l).length c5_48) ((x45).l).length d5_48, tie (El.sl (El.int .u8)) d5_48 ((x45).l), signalmanlaw13_Act.at nb31 (((a3).getD (x16).toNat default)), row 5 1 (.slice at40_1 (t40.2.1).length ct40_1) (t40.2.1).length ((t40.2.1).map (Value.int .u8)), backlog_Log.at bt9_0 (t40.2.2.2), row 5 1 (.slice (some ⟨lb37, 0, none⟩) (([1] : List Int)).length 1) (([1] : List Int)).length ((([1] : List Int)).map (Value.int .u8)), fsl 1 (.slice ea28 (((a3).getD (x16).toNat default).B).length em29) (((a3).getD (x16).toNat default).B).length ((((a3).getD (x16).toNat default).B).map (Value.int .u8)), tie signalmanlaw13_Act.El sd3 (a3), R] w0 w := HS
              obtain ⟨a4_52, c4_52, d4_52, a5_52, c5_52, d5_52, hi53, HS⟩ := signalmanref6_Log.open HS
              have HS : Sep.St [blk bt11_0 (#[Value.int .i64 ((x44).m), Value.int .i64 ((x44).window), Value.int .i64 ((x44).queue), Value.int .i64 ((x44).next), Value.slice a4_52 ((x44).out).length c4_52, Value.slice a5_52 ((x44).wait).length c5_52]) 61, row 63 2 (.slice a4_52 ((x44).out).length c4_52) ((x44).out).length d4_52, tie signalmanref6_message.El d4_52 ((x44).out), row 27 1 (.slice a5_52 ((x44).wait).length c5_52) ((x44).wait).length d5_52, tie (El.sl (El.int .u8)) d5_52 ((x44).wait), row 3 1 (.slice at50_0 (t50).length ct50_0) (t50).length ((t50).map (Value.int .i64)), blk bt7_0 (#[Value.int .i64 ((x45).m), Value.int .i64 ((x45).window), Value.int .i64 ((x45).queue), Value.int .i64 ((x45).first), Value.int .i64 ((x45).out), Value.slice a5_48 ((x45).l).length c5_48]) 54, row 27 1 (.slice a5_48 ((x45).l).length c5_48) ((x45).l).length d5_48, tie (El.sl (El.int .u8)) d5_48 ((x45).l), signalmanlaw13_Act.at nb31 (((a3).getD (x16).toNat default)), row 5 1 (.slice at40_1 (t40.2.1).length ct40_1) (t40.2.1).length ((t40.2.1).map (Value.int .u8)), backlog_Log.at bt9_0 (t40.2.2.2), row 5 1 (.slice (some ⟨lb37, 0, none⟩) (([1] : List Int)).length 1) (([1] : List Int)).length ((([1] : List Int)).map (Value.int .u8)), fsl 1 (.slice ea28 (((a3).getD (x16).toNat default).B).length em29) (((a3).getD (x16).toNat default).B).length ((((a3).getD (x16).toNat default).B).map (Value.int .u8)), tie signalmanlaw13_Act.El sd3 (a3), R] w0 w := HS
              obtain ⟨t54, A55, H⟩ := bind_s H
              refine W.ev (Y.call Try.func25 (by kernel_rfl) rfl (vs := [Value.pointer (some ⟨bt11_0, 0, none⟩)]) rfl (signalmanref6_Log_Out.calls kf46 x44 _ w0 _ bt11_0 a4_52 c4_52 d4_52 a5_52 c5_52 d5_52 t54  A55 (Sep.St.tailJoin (m := [blk bt11_0 (#[Value.int .i64 ((x44).m), Value.int .i64 ((x44).window), Value.int .i64 ((x44).queue), Value.int .i64 ((x44).next), Value.slice a4_52 ((x44).out).length c4_52, Value.slice a5_52 ((x44).wait).length c5_52]) 61, row 63 2 (.slice a4_52 ((x44).out).length c4_52) ((x44).out).length d4_52, tie signalmanref6_message.El d4_52 ((x44).out), row 27 1 (.slice a5_52 ((x44).wait).length c5_52) ((x44).wait).length d5_52, tie (El.sl (El.int .u8)) d5_52 ((x44).wait)]) (r := [row 3 1 (.slice at50_0 (t50).length ct50_0) (t50).length ((t50).map (Value.int .i64)), blk bt7_0 (#[Value.int .i64 ((x45).m), Value.int .i64 ((x45).window), Value.int .i64 ((x45).queue), Value.int .i64 ((x45).first), Value.int .i64 ((x45).out), Value.slice a5_48 ((x45).l).length c5_48]) 54, row 27 1 (.slice a5_48 ((x45).l).length c5_48) ((x45).l).length d5_48, tie (El.sl (El.int .u8)) d5_48 ((x45).l), signalmanlaw13_Act.at nb31 (((a3).getD (x16).toNat default)), row 5 1 (.slice at40_1 (t40.2.1).length ct40_1) (t40.2.1).length ((t40.2.1).map (Value.int .u8)), backlog_Log.at bt9_0 (t40.2.2.2), row 5 1 (.slice (some ⟨lb37, 0, none⟩) (([1] : List Int)).length 1) (([1] : List Int)).length ((([1] : List Int)).map (Value.int .u8)), fsl 1 (.slice ea28 (((a3).getD (x16).toNat default).B).length em29) (((a3).getD (x16).toNat default).B).length ((((a3).getD (x16).toNat default).B).map (Value.int .u8)), tie signalmanlaw13_Act.El sd3 (a3), R]) HS))) rfl rfl rfl ?_
              rintro _ w ⟨at54_0, ct54_0, rfl, HS⟩
              replace HS := Sep.St.tailOpen (m := [row 3 1 (.slice at54_0 (t54).length ct54_0) (t54).length ((t54).map (Value.int .i64)), blk bt11_0 (#[Value.int .i64 ((x44).m), Value.int .i64 ((x44).window), Value.int .i64 ((x44).queue), Value.int .i64 ((x44).next), Value.slice a4_52 ((x44).out).length c4_52, Value.slice a5_52 ((x44).wait).length c5_52]) 61, row 63 2 (.slice a4_52 ((x44).out).length c4_52) ((x44).out).length d4_52, tie signalmanref6_message.El d4_52 ((x44).out), row 27 1 (.slice a5_52 ((x44).wait).length c5_52) ((x44).wait).length d5_52, tie (El.sl (El.int .u8)) d5_52 ((x44).wait)]) (r := [row 3 1 (.slice at50_0 (t50).length ct50_0) (t50).length ((t50).map (Value.int .i64)), blk bt7_0 (#[Value.int .i64 ((x45).m), Value.int .i64 ((x45).window), Value.int .i64 ((x45).queue), Value.int .i64 ((x45).first), Value.int .i64 ((x45).out), Value.slice a5_48 ((x45).l).length c5_48]) 54, row 27 1 (.slice a5_48 ((x45).l).length c5_48) ((x45).l).length d5_48, tie (El.sl (El.int .u8)) d5_48 ((x45).l), signalmanlaw13_Act.at nb31 (((a3).getD (x16).toNat default)), row 5 1 (.slice at40_1 (t40.2.1).length ct40_1) (t40.2.1).length ((t40.2.1).map (Value.int .u8)), backlog_Log.at bt9_0 (t40.2.2.2), row 5 1 (.slice (some ⟨lb37, 0, none⟩) (([1] : List Int)).length 1) (([1] : List Int)).length ((([1] : List Int)).map (Value.int .u8)), fsl 1 (.slice ea28 (((a3).getD (x16).toNat default).B).length em29) (((a3).getD (x16).toNat default).B).length ((((a3).getD (x16).toNat default).B).map (Value.int .u8)), tie signalmanlaw13_Act.El sd3 (a3), R]) HS
              have HS : Sep.St [row 3 1 (.slice at54_0 (t54).length ct54_0) (t54).length ((t54).map (Value.int .i64)), blk bt11_0 (#[Value.int .i64 ((x44).m), Value.int .i64 ((x44).window), Value.int .i64 ((x44).queue), Value.int .i64 ((x44).next), Value.slice a4_52 ((x44).out).length c4_52, Value.slice a5_52 ((x44).wait).length c5_52]) 61, row 63 2 (.slice a4_52 ((x44).out).length c4_52) ((x44).out).length d4_52, tie signalmanref6_message.El d4_52 ((x44).out), row 27 1 (.slice a5_52 ((x44).wait).length c5_52) ((x44).wait).length d5_52, tie (El.sl (El.int .u8)) d5_52 ((x44).wait), row 3 1 (.slice at50_0 (t50).length ct50_0) (t50).length ((t50).map (Value.int .i64)), blk bt7_0 (#[Value.int .i64 ((x45).m), Value.int .i64 ((x45).window), Value.int .i64 ((x45).queue), Value.int .i64 ((x45).first), Value.int .i64 ((x45).out), Value.slice a5_48 ((x45).l).length c5_48]) 54, row 27 1 (.slice a5_48 ((x45).l).length c5_48) ((x45).l).length d5_48, tie (El.sl (El.int .u8)) d5_48 ((x45).l), signalmanlaw13_Act.at nb31 (((a3).getD (x16).toNat default)), row 5 1 (.slice at40_1 (t40.2.1).length ct40_1) (t40.2.1).length ((t40.2.1).map (Value.int .u8)), backlog_Log.at bt9_0 (t40.2.2.2), row 5 1 (.slice (some ⟨lb37, 0, none⟩) (([1] : List Int)).length 1) (([1] : List Int)).length ((([1] : List Int)).map (Value.int .u8)), fsl 1 (.slice ea28 (((a3).getD (x16).toNat default).B).length em29) (((a3).getD (x16).toNat default).B).length ((((a3).getD (x16).toNat default).B).map (Value.int .u8)), tie signalmanlaw13_Act.El sd3 (a3), R] w0 w := HS
              obtain ⟨t56, A57, H⟩ := bind_s H
              refine W.ev (Y.call Try.func24 (by kernel_rfl) rfl (vs := [Value.slice at50_0 (t50).length ct50_0, Value.slice at54_0 (t54).length ct54_0]) rfl (signalmanref6_SameInts.calls kf46 t50 t54 _ w0 _ at50_0 ct50_0 at54_0 ct54_0 t56 (rdC.part 6 row_rd rfl) (rdC.part 0 row_rd rfl) A57 (Sep.St.tailJoin (m := []) (r := [row 3 1 (.slice at54_0 (t54).length ct54_0) (t54).length ((t54).map (Value.int .i64)), blk bt11_0 (#[Value.int .i64 ((x44).m), Value.int .i64 ((x44).window), Value.int .i64 ((x44).queue), Value.int .i64 ((x44).next), Value.slice a4_52 ((x44).out).length c4_52, Value.slice a5_52 ((x44).wait).length c5_52]) 61, row 63 2 (.slice a4_52 ((x44).out).length c4_52) ((x44).out).length d4_52, tie signalmanref6_message.El d4_52 ((x44).out), row 27 1 (.slice a5_52 ((x44).wait).length c5_52) ((x44).wait).length d5_52, tie (El.sl (El.int .u8)) d5_52 ((x44).wait), row 3 1 (.slice at50_0 (t50).length ct50_0) (t50).length ((t50).map (Value.int .i64)), blk bt7_0 (#[Value.int .i64 ((x45).m), Value.int .i64 ((x45).window), Value.int .i64 ((x45).queue), Value.int .i64 ((x45).first), Value.int .i64 ((x45).out), Value.slice a5_48 ((x45).l).length c5_48]) 54, row 27 1 (.slice a5_48 ((x45).l).length c5_48) ((x45).l).length d5_48, tie (El.sl (El.int .u8)) d5_48 ((x45).l), signalmanlaw13_Act.at nb31 (((a3).getD (x16).toNat default)), row 5 1 (.slice at40_1 (t40.2.1).length ct40_1) (t40.2.1).length ((t40.2.1).map (Value.int .u8)), backlog_Log.at bt9_0 (t40.2.2.2), row 5 1 (.slice (some ⟨lb37, 0, none⟩) (([1] : List Int)).length 1) (([1] : List Int)).length ((([1] : List Int)).map (Value.int .u8)), fsl 1 (.slice ea28 (((a3).getD (x16).toNat default).B).length em29) (((a3).getD (x16).toNat default).B).length ((((a3).getD (x16).toNat default).B).map (Value.int .u8)), tie signalmanlaw13_Act.El sd3 (a3), R]) HS))) rfl rfl rfl ?_
              rintro _ w ⟨rfl, HS⟩
              replace HS := Sep.St.tailOpen (m := []) (r := [row 3 1 (.slice at54_0 (t54).length ct54_0) (t54).length ((t54).map (Value.int .i64)), blk bt11_0 (#[Value.int .i64 ((x44).m), Value.int .i64 ((x44).window), Value.int .i64 ((x44).queue), Value.int .i64 ((x44).next), Value.slice a4_52 ((x44).out).length c4_52, Value.slice a5_52 ((x44).wait).length c5_52]) 61, row 63 2 (.slice a4_52 ((x44).out).length c4_52) ((x44).out).length d4_52, tie signalmanref6_message.El d4_52 ((x44).out), row 27 1 (.slice a5_52 ((x44).wait).length c5_52) ((x44).wait).length d5_52, tie (El.sl (El.int .u8)) d5_52 ((x44).wait), row 3 1 (.slice at50_0 (t50).length ct50_0) (t50).length ((t50).map (Value.int .i64)), blk bt7_0 (#[Value.int .i64 ((x45).m), Value.int .i64 ((x45).window), Value.int .i64 ((x45).queue), Value.int .i64 ((x45).first), Value.int .i64 ((x45).out), Value.slice a5_48 ((x45).l).length c5_48]) 54, row 27 1 (.slice a5_48 ((x45).l).length c5_48) ((x45).l).length d5_48, tie (El.sl (El.int .u8)) d5_48 ((x45).l), signalmanlaw13_Act.at nb31 (((a3).getD (x16).toNat default)), row 5 1 (.slice at40_1 (t40.2.1).length ct40_1) (t40.2.1).length ((t40.2.1).map (Value.int .u8)), backlog_Log.at bt9_0 (t40.2.2.2), row 5 1 (.slice (some ⟨lb37, 0, none⟩) (([1] : List Int)).length 1) (([1] : List Int)).length ((([1] : List Int)).map (Value.int .u8)), fsl 1 (.slice ea28 (((a3).getD (x16).toNat default).B).length em29) (((a3).getD (x16).toNat default).B).length ((((a3).getD (x16).toNat default).B).map (Value.int .u8)), tie signalmanlaw13_Act.El sd3 (a3), R]) HS
              have HS : Sep.St [row 3 1 (.slice at54_0 (t54).length ct54_0) (t54).length ((t54).map (Value.int .i64)), blk bt11_0 (#[Value.int .i64 ((x44).m), Value.int .i64 ((x44).window), Value.int .i64 ((x44).queue), Value.int .i64 ((x44).next), Value.slice a4_52 ((x44).out).length c4_52, Value.slice a5_52 ((x44).wait).length c5_52]) 61, row 63 2 (.slice a4_52 ((x44).out).length c4_52) ((x44).out).length d4_52, tie signalmanref6_message.El d4_52 ((x44).out), row 27 1 (.slice a5_52 ((x44).wait).length c5_52) ((x44).wait).length d5_52, tie (El.sl (El.int .u8)) d5_52 ((x44).wait), row 3 1 (.slice at50_0 (t50).length ct50_0) (t50).length ((t50).map (Value.int .i64)), blk bt7_0 (#[Value.int .i64 ((x45).m), Value.int .i64 ((x45).window), Value.int .i64 ((x45).queue), Value.int .i64 ((x45).first), Value.int .i64 ((x45).out), Value.slice a5_48 ((x45).l).length c5_48]) 54, row 27 1 (.slice a5_48 ((x45).l).length c5_48) ((x45).l).length d5_48, tie (El.sl (El.int .u8)) d5_48 ((x45).l), signalmanlaw13_Act.at nb31 (((a3).getD (x16).toNat default)), row 5 1 (.slice at40_1 (t40.2.1).length ct40_1) (t40.2.1).length ((t40.2.1).map (Value.int .u8)), backlog_Log.at bt9_0 (t40.2.2.2), row 5 1 (.slice (some ⟨lb37, 0, none⟩) (([1] : List Int)).length 1) (([1] : List Int)).length ((([1] : List Int)).map (Value.int .u8)), fsl 1 (.slice ea28 (((a3).getD (x16).toNat default).B).length em29) (((a3).getD (x16).toNat default).B).length ((((a3).getD (x16).toNat default).B).map (Value.int .u8)), tie signalmanlaw13_Act.El sd3 (a3), R] w0 w := HS
              refine W.rd (X.not rfl) rfl rfl rfl ?_
              refine W.rd (X.move rfl) rfl rfl rfl ?_
              by_cases c58 : t56 = true
              · replace H := ite_t c58 H
                refine W.want 173 rfl (sb (n_t c58)) ?_
                refine W.rd (X.move rfl) rfl rfl rfl ?_
                refine W.want 173 rfl (sb (n_t c58)) ?_
                obtain ⟨t59, A60, H⟩ := bind_s H
                replace HS := HS.re [7, 8, 9, 0, 1, 2, 3, 4, 5, 6, 10, 11, 12, 13, 14, 15, 16] (by kernel_rfl)
                have HS : Sep.St [blk bt7_0 (#[Value.int .i64 ((x45).m), Value.int .i64 ((x45).window), Value.int .i64 ((x45).queue), Value.int .i64 ((x45).first), Value.int .i64 ((x45).out), Value.slice a5_48 ((x45).l).length c5_48]) 54, row 27 1 (.slice a5_48 ((x45).l).length c5_48) ((x45).l).length d5_48, tie (El.sl (El.int .u8)) d5_48 ((x45).l), row 3 1 (.slice at54_0 (t54).length ct54_0) (t54).length ((t54).map (Value.int .i64)), blk bt11_0 (#[Value.int .i64 ((x44).m), Value.int .i64 ((x44).window), Value.int .i64 ((x44).queue), Value.int .i64 ((x44).next), Value.slice a4_52 ((x44).out).length c4_52, Value.slice a5_52 ((x44).wait).length c5_52]) 61, row 63 2 (.slice a4_52 ((x44).out).length c4_52) ((x44).out).length d4_52, tie signalmanref6_message.El d4_52 ((x44).out), row 27 1 (.slice a5_52 ((x44).wait).length c5_52) ((x44).wait).length d5_52, tie (El.sl (El.int .u8)) d5_52 ((x44).wait), row 3 1 (.slice at50_0 (t50).length ct50_0) (t50).length ((t50).map (Value.int .i64)), signalmanlaw13_Act.at nb31 (((a3).getD (x16).toNat default)), row 5 1 (.slice at40_1 (t40.2.1).length ct40_1) (t40.2.1).length ((t40.2.1).map (Value.int .u8)), backlog_Log.at bt9_0 (t40.2.2.2), row 5 1 (.slice (some ⟨lb37, 0, none⟩) (([1] : List Int)).length 1) (([1] : List Int)).length ((([1] : List Int)).map (Value.int .u8)), fsl 1 (.slice ea28 (((a3).getD (x16).toNat default).B).length em29) (((a3).getD (x16).toNat default).B).length ((((a3).getD (x16).toNat default).B).map (Value.int .u8)), tie signalmanlaw13_Act.El sd3 (a3), R] w0 w := HS
                refine W.ev (Y.call Try.func12 (by kernel_rfl) rfl (vs := [Value.pointer (some ⟨bt7_0, 0, none⟩)]) rfl (backlog_Log_Len.calls x45 _ w0 _ bt7_0 a5_48 c5_48 d5_48 t59  A60 (Sep.St.tailJoin (m := [blk bt7_0 (#[Value.int .i64 ((x45).m), Value.int .i64 ((x45).window), Value.int .i64 ((x45).queue), Value.int .i64 ((x45).first), Value.int .i64 ((x45).out), Value.slice a5_48 ((x45).l).length c5_48]) 54, row 27 1 (.slice a5_48 ((x45).l).length c5_48) ((x45).l).length d5_48, tie (El.sl (El.int .u8)) d5_48 ((x45).l)]) (r := [row 3 1 (.slice at54_0 (t54).length ct54_0) (t54).length ((t54).map (Value.int .i64)), blk bt11_0 (#[Value.int .i64 ((x44).m), Value.int .i64 ((x44).window), Value.int .i64 ((x44).queue), Value.int .i64 ((x44).next), Value.slice a4_52 ((x44).out).length c4_52, Value.slice a5_52 ((x44).wait).length c5_52]) 61, row 63 2 (.slice a4_52 ((x44).out).length c4_52) ((x44).out).length d4_52, tie signalmanref6_message.El d4_52 ((x44).out), row 27 1 (.slice a5_52 ((x44).wait).length c5_52) ((x44).wait).length d5_52, tie (El.sl (El.int .u8)) d5_52 ((x44).wait), row 3 1 (.slice at50_0 (t50).length ct50_0) (t50).length ((t50).map (Value.int .i64)), signalmanlaw13_Act.at nb31 (((a3).getD (x16).toNat default)), row 5 1 (.slice at40_1 (t40.2.1).length ct40_1) (t40.2.1).length ((t40.2.1).map (Value.int .u8)), backlog_Log.at bt9_0 (t40.2.2.2), row 5 1 (.slice (some ⟨lb37, 0, none⟩) (([1] : List Int)).length 1) (([1] : List Int)).length ((([1] : List Int)).map (Value.int .u8)), fsl 1 (.slice ea28 (((a3).getD (x16).toNat default).B).length em29) (((a3).getD (x16).toNat default).B).length ((((a3).getD (x16).toNat default).B).map (Value.int .u8)), tie signalmanlaw13_Act.El sd3 (a3), R]) HS))) rfl rfl rfl ?_
                rintro _ w ⟨rfl, HS⟩
                replace HS := Sep.St.tailOpen (m := [blk bt7_0 (#[Value.int .i64 ((x45).m), Value.int .i64 ((x45).window), Value.int .i64 ((x45).queue), Value.int .i64 ((x45).first), Value.int .i64 ((x45).out), Value.slice a5_48 ((x45).l).length c5_48]) 54, row 27 1 (.slice a5_48 ((x45).l).length c5_48) ((x45).l).length d5_48, tie (El.sl (El.int .u8)) d5_48 ((x45).l)]) (r := [row 3 1 (.slice at54_0 (t54).length ct54_0) (t54).length ((t54).map (Value.int .i64)), blk bt11_0 (#[Value.int .i64 ((x44).m), Value.int .i64 ((x44).window), Value.int .i64 ((x44).queue), Value.int .i64 ((x44).next), Value.slice a4_52 ((x44).out).length c4_52, Value.slice a5_52 ((x44).wait).length c5_52]) 61, row 63 2 (.slice a4_52 ((x44).out).length c4_52) ((x44).out).length d4_52, tie signalmanref6_message.El d4_52 ((x44).out), row 27 1 (.slice a5_52 ((x44).wait).length c5_52) ((x44).wait).length d5_52, tie (El.sl (El.int .u8)) d5_52 ((x44).wait), row 3 1 (.slice at50_0 (t50).length ct50_0) (t50).length ((t50).map (Value.int .i64)), signalmanlaw13_Act.at nb31 (((a3).getD (x16).toNat default)), row 5 1 (.slice at40_1 (t40.2.1).length ct40_1) (t40.2.1).length ((t40.2.1).map (Value.int .u8)), backlog_Log.at bt9_0 (t40.2.2.2), row 5 1 (.slice (some ⟨lb37, 0, none⟩) (([1] : List Int)).length 1) (([1] : List Int)).length ((([1] : List Int)).map (Value.int .u8)), fsl 1 (.slice ea28 (((a3).getD (x16).toNat default).B).length em29) (((a3).getD (x16).toNat default).B).length ((((a3).getD (x16).toNat default).B).map (Value.int .u8)), tie signalmanlaw13_Act.El sd3 (a3), R]) HS
                have HS : Sep.St [blk bt7_0 (#[Value.int .i64 ((x45).m), Value.int .i64 ((x45).window), Value.int .i64 ((x45).queue), Value.int .i64 ((x45).first), Value.int .i64 ((x45).out), Value.slice a5_48 ((x45).l).length c5_48]) 54, row 27 1 (.slice a5_48 ((x45).l).length c5_48) ((x45).l).length d5_48, tie (El.sl (El.int .u8)) d5_48 ((x45).l), row 3 1 (.slice at54_0 (t54).length ct54_0) (t54).length ((t54).map (Value.int .i64)), blk bt11_0 (#[Value.int .i64 ((x44).m), Value.int .i64 ((x44).window), Value.int .i64 ((x44).queue), Value.int .i64 ((x44).next), Value.slice a4_52 ((x44).out).length c4_52, Value.slice a5_52 ((x44).wait).length c5_52]) 61, row 63 2 (.slice a4_52 ((x44).out).length c4_52) ((x44).out).length d4_52, tie signalmanref6_message.El d4_52 ((x44).out), row 27 1 (.slice a5_52 ((x44).wait).length c5_52) ((x44).wait).length d5_52, tie (El.sl (El.int .u8)) d5_52 ((x44).wait), row 3 1 (.slice at50_0 (t50).length ct50_0) (t50).length ((t50).map (Value.int .i64)), signalmanlaw13_Act.at nb31 (((a3).getD (x16).toNat default)), row 5 1 (.slice at40_1 (t40.2.1).length ct40_1) (t40.2.1).length ((t40.2.1).map (Value.int .u8)), backlog_Log.at bt9_0 (t40.2.2.2), row 5 1 (.slice (some ⟨lb37, 0, none⟩) (([1] : List Int)).length 1) (([1] : List Int)).length ((([1] : List Int)).map (Value.int .u8)), fsl 1 (.slice ea28 (((a3).getD (x16).toNat default).B).length em29) (((a3).getD (x16).toNat default).B).length ((((a3).getD (x16).toNat default).B).map (Value.int .u8)), tie signalmanlaw13_Act.El sd3 (a3), R] w0 w := HS
                refine W.want 173 rfl (sb (n_t c58)) ?_
                refine W.rd (X.move rfl) rfl rfl rfl ?_
                refine W.want 173 rfl (sb (n_t c58)) ?_
                obtain ⟨t61, A62, H⟩ := bind_s H
                replace HS := HS.re [4, 5, 6, 7, 8, 0, 1, 2, 3, 9, 10, 11, 12, 13, 14, 15, 16] (by kernel_rfl)
                have HS : Sep.St [blk bt11_0 (#[Value.int .i64 ((x44).m), Value.int .i64 ((x44).window), Value.int .i64 ((x44).queue), Value.int .i64 ((x44).next), Value.slice a4_52 ((x44).out).length c4_52, Value.slice a5_52 ((x44).wait).length c5_52]) 61, row 63 2 (.slice a4_52 ((x44).out).length c4_52) ((x44).out).length d4_52, tie signalmanref6_message.El d4_52 ((x44).out), row 27 1 (.slice a5_52 ((x44).wait).length c5_52) ((x44).wait).length d5_52, tie (El.sl (El.int .u8)) d5_52 ((x44).wait), blk bt7_0 (#[Value.int .i64 ((x45).m), Value.int .i64 ((x45).window), Value.int .i64 ((x45).queue), Value.int .i64 ((x45).first), Value.int .i64 ((x45).out), Value.slice a5_48 ((x45).l).length c5_48]) 54, row 27 1 (.slice a5_48 ((x45).l).length c5_48) ((x45).l).length d5_48, tie (El.sl (El.int .u8)) d5_48 ((x45).l), row 3 1 (.slice at54_0 (t54).length ct54_0) (t54).length ((t54).map (Value.int .i64)), row 3 1 (.slice at50_0 (t50).length ct50_0) (t50).length ((t50).map (Value.int .i64)), signalmanlaw13_Act.at nb31 (((a3).getD (x16).toNat default)), row 5 1 (.slice at40_1 (t40.2.1).length ct40_1) (t40.2.1).length ((t40.2.1).map (Value.int .u8)), backlog_Log.at bt9_0 (t40.2.2.2), row 5 1 (.slice (some ⟨lb37, 0, none⟩) (([1] : List Int)).length 1) (([1] : List Int)).length ((([1] : List Int)).map (Value.int .u8)), fsl 1 (.slice ea28 (((a3).getD (x16).toNat default).B).length em29) (((a3).getD (x16).toNat default).B).length ((((a3).getD (x16).toNat default).B).map (Value.int .u8)), tie signalmanlaw13_Act.El sd3 (a3), R] w0 w := HS
                refine W.ev (Y.call Try.func26 (by kernel_rfl) rfl (vs := [Value.pointer (some ⟨bt11_0, 0, none⟩)]) rfl (signalmanref6_Log_Len.calls x44 _ w0 _ bt11_0 a4_52 c4_52 d4_52 a5_52 c5_52 d5_52 t61  A62 (Sep.St.tailJoin (m := [blk bt11_0 (#[Value.int .i64 ((x44).m), Value.int .i64 ((x44).window), Value.int .i64 ((x44).queue), Value.int .i64 ((x44).next), Value.slice a4_52 ((x44).out).length c4_52, Value.slice a5_52 ((x44).wait).length c5_52]) 61, row 63 2 (.slice a4_52 ((x44).out).length c4_52) ((x44).out).length d4_52, tie signalmanref6_message.El d4_52 ((x44).out), row 27 1 (.slice a5_52 ((x44).wait).length c5_52) ((x44).wait).length d5_52, tie (El.sl (El.int .u8)) d5_52 ((x44).wait)]) (r := [blk bt7_0 (#[Value.int .i64 ((x45).m), Value.int .i64 ((x45).window), Value.int .i64 ((x45).queue), Value.int .i64 ((x45).first), Value.int .i64 ((x45).out), Value.slice a5_48 ((x45).l).length c5_48]) 54, row 27 1 (.slice a5_48 ((x45).l).length c5_48) ((x45).l).length d5_48, tie (El.sl (El.int .u8)) d5_48 ((x45).l), row 3 1 (.slice at54_0 (t54).length ct54_0) (t54).length ((t54).map (Value.int .i64)), row 3 1 (.slice at50_0 (t50).length ct50_0) (t50).length ((t50).map (Value.int .i64)), signalmanlaw13_Act.at nb31 (((a3).getD (x16).toNat default)), row 5 1 (.slice at40_1 (t40.2.1).length ct40_1) (t40.2.1).length ((t40.2.1).map (Value.int .u8)), backlog_Log.at bt9_0 (t40.2.2.2), row 5 1 (.slice (some ⟨lb37, 0, none⟩) (([1] : List Int)).length 1) (([1] : List Int)).length ((([1] : List Int)).map (Value.int .u8)), fsl 1 (.slice ea28 (((a3).getD (x16).toNat default).B).length em29) (((a3).getD (x16).toNat default).B).length ((((a3).getD (x16).toNat default).B).map (Value.int .u8)), tie signalmanlaw13_Act.El sd3 (a3), R]) HS))) rfl rfl rfl ?_
                rintro _ w ⟨rfl, HS⟩
                replace HS := Sep.St.tailOpen (m := [blk bt11_0 (#[Value.int .i64 ((x44).m), Value.int .i64 ((x44).window), Value.int .i64 ((x44).queue), Value.int .i64 ((x44).next), Value.slice a4_52 ((x44).out).length c4_52, Value.slice a5_52 ((x44).wait).length c5_52]) 61, row 63 2 (.slice a4_52 ((x44).out).length c4_52) ((x44).out).length d4_52, tie signalmanref6_message.El d4_52 ((x44).out), row 27 1 (.slice a5_52 ((x44).wait).length c5_52) ((x44).wait).length d5_52, tie (El.sl (El.int .u8)) d5_52 ((x44).wait)]) (r := [blk bt7_0 (#[Value.int .i64 ((x45).m), Value.int .i64 ((x45).window), Value.int .i64 ((x45).queue), Value.int .i64 ((x45).first), Value.int .i64 ((x45).out), Value.slice a5_48 ((x45).l).length c5_48]) 54, row 27 1 (.slice a5_48 ((x45).l).length c5_48) ((x45).l).length d5_48, tie (El.sl (El.int .u8)) d5_48 ((x45).l), row 3 1 (.slice at54_0 (t54).length ct54_0) (t54).length ((t54).map (Value.int .i64)), row 3 1 (.slice at50_0 (t50).length ct50_0) (t50).length ((t50).map (Value.int .i64)), signalmanlaw13_Act.at nb31 (((a3).getD (x16).toNat default)), row 5 1 (.slice at40_1 (t40.2.1).length ct40_1) (t40.2.1).length ((t40.2.1).map (Value.int .u8)), backlog_Log.at bt9_0 (t40.2.2.2), row 5 1 (.slice (some ⟨lb37, 0, none⟩) (([1] : List Int)).length 1) (([1] : List Int)).length ((([1] : List Int)).map (Value.int .u8)), fsl 1 (.slice ea28 (((a3).getD (x16).toNat default).B).length em29) (((a3).getD (x16).toNat default).B).length ((((a3).getD (x16).toNat default).B).map (Value.int .u8)), tie signalmanlaw13_Act.El sd3 (a3), R]) HS
                have HS : Sep.St [blk bt11_0 (#[Value.int .i64 ((x44).m), Value.int .i64 ((x44).window), Value.int .i64 ((x44).queue), Value.int .i64 ((x44).next), Value.slice a4_52 ((x44).out).length c4_52, Value.slice a5_52 ((x44).wait).length c5_52]) 61, row 63 2 (.slice a4_52 ((x44).out).length c4_52) ((x44).out).length d4_52, tie signalmanref6_message.El d4_52 ((x44).out), row 27 1 (.slice a5_52 ((x44).wait).length c5_52) ((x44).wait).length d5_52, tie (El.sl (El.int .u8)) d5_52 ((x44).wait), blk bt7_0 (#[Value.int .i64 ((x45).m), Value.int .i64 ((x45).window), Value.int .i64 ((x45).queue), Value.int .i64 ((x45).first), Value.int .i64 ((x45).out), Value.slice a5_48 ((x45).l).length c5_48]) 54, row 27 1 (.slice a5_48 ((x45).l).length c5_48) ((x45).l).length d5_48, tie (El.sl (El.int .u8)) d5_48 ((x45).l), row 3 1 (.slice at54_0 (t54).length ct54_0) (t54).length ((t54).map (Value.int .i64)), row 3 1 (.slice at50_0 (t50).length ct50_0) (t50).length ((t50).map (Value.int .i64)), signalmanlaw13_Act.at nb31 (((a3).getD (x16).toNat default)), row 5 1 (.slice at40_1 (t40.2.1).length ct40_1) (t40.2.1).length ((t40.2.1).map (Value.int .u8)), backlog_Log.at bt9_0 (t40.2.2.2), row 5 1 (.slice (some ⟨lb37, 0, none⟩) (([1] : List Int)).length 1) (([1] : List Int)).length ((([1] : List Int)).map (Value.int .u8)), fsl 1 (.slice ea28 (((a3).getD (x16).toNat default).B).length em29) (((a3).getD (x16).toNat default).B).length ((((a3).getD (x16).toNat default).B).map (Value.int .u8)), tie signalmanlaw13_Act.El sd3 (a3), R] w0 w := HS
                refine W.want 173 rfl (sb (n_t c58)) ?_
                refine W.rd (X.cmp (!(decide (t59 = t61))) rfl rfl rfl rfl) rfl rfl rfl ?_
                refine W.rd (X.pickF (sb (n_t c58)) rfl) rfl rfl rfl ?_
                refine W.nil ?_
                refine At.next ?_
                refine V.keep [(3, Value.slice (some ⟨eb24, eo25, none⟩) (a3).length sc3), (10, Value.pointer (some ⟨bt7_0, 0, none⟩)), (11, Value.pointer (some ⟨bt9_0, 0, none⟩)), (12, Value.pointer (some ⟨bt11_0, 0, none⟩)), (13, Value.int .i64 (x16)), (174, Value.pointer (some ⟨bt7_0, 0, none⟩)), (175, Value.int .i64 (t59)), (176, Value.pointer (some ⟨bt11_0, 0, none⟩)), (177, Value.int .i64 (t61)), (178, Value.bool (!(decide (t59 = t61)))), (179, Value.bool (!(decide (t59 = t61))))] ⟨rfl, rfl, rfl, rfl, rfl, rfl, rfl, rfl, rfl, rfl, rfl, trivial⟩ ?_
                by_cases c63 : t59 = t61
                · replace H := ite_t c63 H
                  refine V.condF (sb (n_t (decide_eq_true c63))) ?_
                  refine V.skip ?_
                  refine At.blockEnd ?_
                  refine At.next ?_
                  refine V.keep [(3, Value.slice (some ⟨eb24, eo25, none⟩) (a3).length sc3), (10, Value.pointer (some ⟨bt7_0, 0, none⟩)), (11, Value.pointer (some ⟨bt9_0, 0, none⟩)), (12, Value.pointer (some ⟨bt11_0, 0, none⟩)), (13, Value.int .i64 (x16)), (174, Value.pointer (some ⟨bt7_0, 0, none⟩)), (175, Value.int .i64 (t59)), (176, Value.pointer (some ⟨bt11_0, 0, none⟩)), (177, Value.int .i64 (t61)), (178, Value.bool (!(decide (t59 = t61))))] ⟨rfl, rfl, rfl, rfl, rfl, rfl, rfl, rfl, rfl, rfl, trivial⟩ ?_
                  refine V.region ?_
                  refine W.rd (X.move rfl) rfl rfl rfl ?_
                  refine W.rd (X.add rfl rfl) rfl rfl rfl ?_
                  refine W.rd (X.assign rfl) rfl rfl rfl ?_
                  refine W.nil ?_
                  replace HS := signalmanref6_Log.close (x44) trivial HS
                  have HS : Sep.St [signalmanref6_Log.at bt11_0 (x44), blk bt7_0 (#[Value.int .i64 ((x45).m), Value.int .i64 ((x45).window), Value.int .i64 ((x45).queue), Value.int .i64 ((x45).first), Value.int .i64 ((x45).out), Value.slice a5_48 ((x45).l).length c5_48]) 54, row 27 1 (.slice a5_48 ((x45).l).length c5_48) ((x45).l).length d5_48, tie (El.sl (El.int .u8)) d5_48 ((x45).l), row 3 1 (.slice at54_0 (t54).length ct54_0) (t54).length ((t54).map (Value.int .i64)), row 3 1 (.slice at50_0 (t50).length ct50_0) (t50).length ((t50).map (Value.int .i64)), signalmanlaw13_Act.at nb31 (((a3).getD (x16).toNat default)), row 5 1 (.slice at40_1 (t40.2.1).length ct40_1) (t40.2.1).length ((t40.2.1).map (Value.int .u8)), backlog_Log.at bt9_0 (t40.2.2.2), row 5 1 (.slice (some ⟨lb37, 0, none⟩) (([1] : List Int)).length 1) (([1] : List Int)).length ((([1] : List Int)).map (Value.int .u8)), fsl 1 (.slice ea28 (((a3).getD (x16).toNat default).B).length em29) (((a3).getD (x16).toNat default).B).length ((((a3).getD (x16).toNat default).B).map (Value.int .u8)), tie signalmanlaw13_Act.El sd3 (a3), R] w0 w := HS
                  replace HS := HS.re [1, 2, 3, 0, 4, 5, 6, 7, 8, 9, 10, 11, 12] (by kernel_rfl)
                  have HS : Sep.St [blk bt7_0 (#[Value.int .i64 ((x45).m), Value.int .i64 ((x45).window), Value.int .i64 ((x45).queue), Value.int .i64 ((x45).first), Value.int .i64 ((x45).out), Value.slice a5_48 ((x45).l).length c5_48]) 54, row 27 1 (.slice a5_48 ((x45).l).length c5_48) ((x45).l).length d5_48, tie (El.sl (El.int .u8)) d5_48 ((x45).l), signalmanref6_Log.at bt11_0 (x44), row 3 1 (.slice at54_0 (t54).length ct54_0) (t54).length ((t54).map (Value.int .i64)), row 3 1 (.slice at50_0 (t50).length ct50_0) (t50).length ((t50).map (Value.int .i64)), signalmanlaw13_Act.at nb31 (((a3).getD (x16).toNat default)), row 5 1 (.slice at40_1 (t40.2.1).length ct40_1) (t40.2.1).length ((t40.2.1).map (Value.int .u8)), backlog_Log.at bt9_0 (t40.2.2.2), row 5 1 (.slice (some ⟨lb37, 0, none⟩) (([1] : List Int)).length 1) (([1] : List Int)).length ((([1] : List Int)).map (Value.int .u8)), fsl 1 (.slice ea28 (((a3).getD (x16).toNat default).B).length em29) (((a3).getD (x16).toNat default).B).length ((((a3).getD (x16).toNat default).B).map (Value.int .u8)), tie signalmanlaw13_Act.El sd3 (a3), R] w0 w := HS
                  replace HS := backlog_Log.close (x45) trivial HS
                  have HS : Sep.St [backlog_Log.at bt7_0 (x45), signalmanref6_Log.at bt11_0 (x44), row 3 1 (.slice at54_0 (t54).length ct54_0) (t54).length ((t54).map (Value.int .i64)), row 3 1 (.slice at50_0 (t50).length ct50_0) (t50).length ((t50).map (Value.int .i64)), signalmanlaw13_Act.at nb31 (((a3).getD (x16).toNat default)), row 5 1 (.slice at40_1 (t40.2.1).length ct40_1) (t40.2.1).length ((t40.2.1).map (Value.int .u8)), backlog_Log.at bt9_0 (t40.2.2.2), row 5 1 (.slice (some ⟨lb37, 0, none⟩) (([1] : List Int)).length 1) (([1] : List Int)).length ((([1] : List Int)).map (Value.int .u8)), fsl 1 (.slice ea28 (((a3).getD (x16).toNat default).B).length em29) (((a3).getD (x16).toNat default).B).length ((((a3).getD (x16).toNat default).B).map (Value.int .u8)), tie signalmanlaw13_Act.El sd3 (a3), R] w0 w := HS
                  replace HS := HS.sel [1, 6, 0, 9, 10] [2, 3, 4, 5, 7, 8] (by kernel_rfl)
                  exact At.round kf46 (by omega) (w64 (x16 + 1), x44, t40.2.2.2, x45) ⟨rfl, rfl, rfl, rfl, rfl, trivial⟩ ⟨HS, H, by omega⟩
                · replace H := ite_f c63 H
                  refine V.condT (sb (n_f (decide_eq_false c63))) ?_
                  refine V.seq ?_
                  refine V.region ?_
                  refine W.rd (X.assign rfl) rfl rfl rfl ?_
                  refine W.nil ?_
                  refine At.next ?_
                  refine V.keep [(8, Value.bool (false))] ⟨rfl, trivial⟩ ?_
                  refine V.ret ?_
                  refine At.blockRet ?_
                  refine At.thenRet ?_
                  refine At.thenRet ?_
                  refine At.blockRet ?_
                  refine At.thenRet ?_
                  replace HS := HS.sel [16] [0, 1, 2, 3, 4, 5, 6, 7, 8, 9, 10, 11, 12, 13, 14, 15] (by kernel_rfl)
                  cases H
                  exact At.ret1 rfl rfl ⟨_, rfl, rfl, HS⟩
              · replace H := ite_f c58 H
                refine W.pass 173 rfl (sb (n_f (b_f c58))) rfl rfl ?_
                refine W.pass 173 rfl (sb (n_f (b_f c58))) rfl rfl ?_
                refine W.pass 173 rfl (sb (n_f (b_f c58))) rfl rfl ?_
                refine W.pass 173 rfl (sb (n_f (b_f c58))) rfl rfl ?_
                refine W.pass 173 rfl (sb (n_f (b_f c58))) rfl rfl ?_
                refine W.rd (X.pickT (sb (n_f (b_f c58))) rfl) rfl rfl rfl ?_
                refine W.nil ?_
                refine At.next ?_
                refine V.keep [(3, Value.slice (some ⟨eb24, eo25, none⟩) (a3).length sc3), (10, Value.pointer (some ⟨bt7_0, 0, none⟩)), (11, Value.pointer (some ⟨bt9_0, 0, none⟩)), (12, Value.pointer (some ⟨bt11_0, 0, none⟩)), (13, Value.int .i64 (x16)), (174, undef), (175, undef), (176, undef), (177, undef), (178, undef), (179, Value.bool (true))] ⟨rfl, rfl, rfl, rfl, rfl, rfl, rfl, rfl, rfl, rfl, rfl, trivial⟩ ?_
                refine V.condT rfl ?_
                refine V.seq ?_
                refine V.region ?_
                refine W.rd (X.assign rfl) rfl rfl rfl ?_
                refine W.nil ?_
                refine At.next ?_
                refine V.keep [(8, Value.bool (false))] ⟨rfl, trivial⟩ ?_
                refine V.ret ?_
                refine At.blockRet ?_
                refine At.thenRet ?_
                refine At.thenRet ?_
                refine At.blockRet ?_
                refine At.thenRet ?_
                replace HS := HS.sel [16] [0, 1, 2, 3, 4, 5, 6, 7, 8, 9, 10, 11, 12, 13, 14, 15] (by kernel_rfl)
                cases H
                exact At.ret1 rfl rfl ⟨_, rfl, rfl, HS⟩
        · replace H := ite_f c22 H
          refine V.condF (sb (decide_eq_false c22)) ?_
          refine V.exit ?_
          refine At.thenExit ?_
          refine At.thenExit ?_
          refine At.blockExit ?_
          refine At.next ?_
          refine V.keep [] trivial ?_
          refine V.seq ?_
          refine V.region ?_
          refine W.rd (X.assign rfl) rfl rfl rfl ?_
          refine W.nil ?_
          refine At.next ?_
          refine V.keep [(8, Value.bool (true))] ⟨rfl, trivial⟩ ?_
          refine V.ret ?_
          replace HS := HS.sel [4] [0, 1, 2, 3] (by kernel_rfl)
          cases H
          exact At.ret1 rfl rfl ⟨_, rfl, rfl, HS⟩

def signalmanlaw13_BacklogPlays.Pure : Prop := ∀ (a0 : Int) (a1 : Int) (a2 : Int) (a3 : List signalmanlaw13_Act), (Lit.int .i64 a0).wf = true → (Lit.int .i64 a1).wf = true → (Lit.int .i64 a2).wf = true → (∀ z ∈ a3, ((Lit.int .i64 z.Way).wf = true ∧ ((Lit.int .i64 z.N).wf = true ∧ (((∀ z3 ∈ z.B, (Lit.int .u8 z3).wf = true) ∧ (z.B.length : Int) ≤ 9223372036854775807) ∧ True)))) → (a3.length : Int) ≤ 9223372036854775807 → ∃ k, signalmanlaw13_BacklogPlays.f k a0 a1 a2 a3 = some true
end Go.Proofs.Ytdnfojgnbhcijaa

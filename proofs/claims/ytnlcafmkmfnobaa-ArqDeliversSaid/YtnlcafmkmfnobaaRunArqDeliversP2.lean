/- ArqDelivers: the functions that its law reaches, as plain functions, and that the machine's calls come to what these say. Conditions: those that stand at each. -/
import Derived.Test.YtnlcafmkmfnobaaRunArqDeliversP1
set_option linter.all false
set_option maxRecDepth 100000
set_option maxHeartbeats 4000000
set_option synthInstance.maxSize 100000
set_option synthInstance.maxHeartbeats 1000000
namespace Go.Proofs.Ytnlcafmkmfnobaa
open Go.RowKit Go.Proofs.Ytnlcafmkmfnobaa.Sep Go.Proofs.Ytnlcafmkmfnobaa.Walk
mutual
def backlog_Log_Ack.j0 (a0 : backlog_Log) (t3 : Int) (x8 : Bool) : Option (Int × Bool × backlog_Log) := (if x8 = true then some (0, false, a0) else ((slices_Delete_SSbyteSbyte.f a0.l 0 t3).bind fun t13 => ((backlog_Log_number.f ({ a0 with out := w64 (a0.out - t3), l := t13 } : backlog_Log) t3).bind fun t15 => some (t3, true, ({ a0 with first := t15, out := w64 (a0.out - t3), l := t13 } : backlog_Log)))))
end
def backlog_Log_Ack.f (a0 : backlog_Log) (a1 : Int) : Option (Int × Bool × backlog_Log) := ((serial_Dist.f a0.first a1 a0.m).bind fun t3 => (if a1 < 0 then (backlog_Log_Ack.j0 a0 t3 true) else (if a1 ≥ a0.m then (backlog_Log_Ack.j0 a0 t3 true) else (backlog_Log_Ack.j0 a0 t3 (decide (t3 > a0.out))))))
theorem backlog_Log_Ack.calls {a0 : backlog_Log} {a1 : Int} {R : As} {w0 w : World} {b0 : Nat} {r : Int × Bool × backlog_Log} (H : backlog_Log_Ack.f a0 a1 = some r) (HS : Sep.St [backlog_Log.at b0 a0, R] w0 w)  : Calls Try.prog 101 #[Value.pointer (some ⟨b0, 0, none⟩), Value.int .i64 a1] w (Ret fun u w => u = Value.tuple #[Value.int .i64 r.1, Value.bool r.2.1] ∧ Sep.St [backlog_Log.at b0 r.2.2, R] w0 w) := by
 unfold backlog_Log_Ack.f at H
 refine calls_enter Try.func101 rfl rfl ?_
 have H : _ = some r := H
 refine V.seq (V.region (W.as rfl (W.as rfl (W.nx (V.seq ?_)))))
 obtain ⟨a5_1, c5_1, d5_1, hi2, HS⟩ := backlog_Log.open HS
 refine V.dr [9] [10] [(7, Value.pointer (some ⟨b0, 0, none⟩)), (8, Value.pointer (some ⟨b0, 0, none⟩)), (9, Value.pointer (some ⟨b0, 0 + 3, none⟩)), (10, Value.int .i64 a0.first), (11, Value.int .i64 a1), (12, Value.pointer (some ⟨b0, 0, none⟩)), (13, Value.pointer (some ⟨b0, 0, none⟩)), (14, Value.pointer (some ⟨b0, 0 + 0, none⟩)), (15, Value.int .i64 a0.m)] mo HS ?_
 refine T.ev [(10, _), (11, _), (15, _)] [] [0, 1, 2, 3, 4, 5, 6, 7, 8] ⟨rfl, rfl, rfl, trivial⟩ ⟨.mv 0, .nc 7, .fa 8 fo103_3, .ld 9 0 Try.underlying3, .mv 1, .mv 0, .nc 12, .fa 13 fo103_0, .ld 14 0 Try.underlying3, trivial⟩ rfl (fun w HS => ?_)
 obtain ⟨t3, A4, H⟩ := bind_s H
 refine ⟨_, Y.cl Try.func100 (serial_Dist.calls A4 HS.j0), ?_⟩
 rintro _ w ⟨rfl, HS⟩
 replace HS := HS.o0
 refine T.nm [(16, Value.int .i64 t3), (6, Value.int .i64 t3)] HS ⟨.inl ⟨rfl, rfl⟩, ⟨.inr ⟨by decide, rfl⟩, trivial⟩⟩ ?_
 refine T.fn [(0, _), (1, _), (6, _)] ⟨rfl, rfl, rfl, trivial⟩ ⟨.as 16, trivial⟩ (fun w HS => ?_)
 refine At.next (V.seq (V.meet (σ := Bool) (fun st w => match st with | x8 => Sep.St [backlog_Log.at b0 a0, R] w0 w ∧ backlog_Log_Ack.j0 a0 t3 x8 = some r) (fun st => match st with | x8 => [(0, Value.pointer (some ⟨b0, 0, none⟩)), (6, Value.int .i64 t3), (34, Value.bool x8)]) ?_ ?_))
 ·refine V.region (W.mv rfl (W.r (X.cmp (decide (a1 < 0)) rfl rfl rfl rfl) rfl (W.mv rfl ?_)))
  by_cases c17 : a1 < 0
  ·replace H := ite_t c17 H
   refine W.pass 19 rfl (sb (decide_eq_true c17)) rfl rfl (W.pass 19 rfl (sb (decide_eq_true c17)) rfl rfl (W.pass 19 rfl (sb (decide_eq_true c17)) rfl rfl (W.pass 19 rfl (sb (decide_eq_true c17)) rfl rfl (W.pass 19 rfl (sb (decide_eq_true c17)) rfl rfl (W.pass 19 rfl (sb (decide_eq_true c17)) rfl rfl (W.r (X.pickT (sb (decide_eq_true c17)) rfl) rfl (W.mv rfl (W.pass 27 rfl rfl rfl rfl (W.pass 27 rfl rfl rfl rfl (W.pass 27 rfl rfl rfl rfl (W.pass 27 rfl rfl rfl rfl (W.pass 27 rfl rfl rfl rfl (W.pass 27 rfl rfl rfl rfl (W.r (X.pickT rfl rfl) rfl (W.nil ?_)))))))))))))))
   replace HS := backlog_Log.close trivial HS
   exact At.meet true ⟨rfl, rfl, rfl, trivial⟩ ⟨HS, H⟩
  ·replace H := ite_f c17 H
   refine W.want 19 rfl (sb (decide_eq_false c17)) (W.mv rfl (W.want 19 rfl (sb (decide_eq_false c17)) (W.mv rfl (W.want 19 rfl (sb (decide_eq_false c17)) (W.nc rfl (W.want 19 rfl (sb (decide_eq_false c17)) (W.fa fo103_0 rfl (W.want 19 rfl (sb (decide_eq_false c17)) (W.ld 0 HS Try.underlying3 rfl rfl rfl rfl (W.want 19 rfl (sb (decide_eq_false c17)) (W.r (X.cmp (decide (a1 ≥ a0.m)) rfl rfl rfl rfl) rfl (W.r (X.pickF (sb (decide_eq_false c17)) rfl) rfl (W.mv rfl ?_)))))))))))))
   by_cases c18 : a1 ≥ a0.m
   ·replace H := ite_t c18 H
    refine W.pass 27 rfl (sb (decide_eq_true c18)) rfl rfl (W.pass 27 rfl (sb (decide_eq_true c18)) rfl rfl (W.pass 27 rfl (sb (decide_eq_true c18)) rfl rfl (W.pass 27 rfl (sb (decide_eq_true c18)) rfl rfl (W.pass 27 rfl (sb (decide_eq_true c18)) rfl rfl (W.pass 27 rfl (sb (decide_eq_true c18)) rfl rfl (W.r (X.pickT (sb (decide_eq_true c18)) rfl) rfl (W.nil ?_)))))))
    replace HS := backlog_Log.close trivial HS
    exact At.meet true ⟨rfl, rfl, rfl, trivial⟩ ⟨HS, H⟩
   ·replace H := ite_f c18 H
    refine W.want 27 rfl (sb (decide_eq_false c18)) (W.mv rfl (W.want 27 rfl (sb (decide_eq_false c18)) (W.mv rfl (W.want 27 rfl (sb (decide_eq_false c18)) (W.nc rfl (W.want 27 rfl (sb (decide_eq_false c18)) (W.fa fo103_4 rfl (W.want 27 rfl (sb (decide_eq_false c18)) (W.ld 0 HS Try.underlying3 rfl rfl rfl rfl (W.want 27 rfl (sb (decide_eq_false c18)) (W.r (X.cmp (decide (t3 > a0.out)) rfl rfl rfl rfl) rfl (W.r (X.pickF (sb (decide_eq_false c18)) rfl) rfl (W.nil ?_)))))))))))))
    replace HS := backlog_Log.close trivial HS
    exact At.meet (decide (t3 > a0.out)) ⟨rfl, rfl, rfl, trivial⟩ ⟨HS, H⟩
 ·rintro x8 w ⟨HS, H⟩
  unfold backlog_Log_Ack.j0 at H
  by_cases c10 : x8 = true
  ·replace H := ite_t c10 H
   refine V.condT (sb c10) (V.seq (V.region (W.as rfl (W.as rfl (W.nx (V.ret (At.thenRet ?_)))))))
   cases H
   exact At.ret2 rfl rfl rfl ⟨_, rfl, rfl, HS⟩
  ·replace H := ite_f c10 H
   refine V.condF (sb (b_f c10)) (V.skip (At.next (V.seq (V.region (W.mv rfl (W.mv rfl (W.nc rfl ?_)))))))
   obtain ⟨a5_11, c5_11, d5_11, hi12, HS⟩ := backlog_Log.open HS
   refine W.fa fo103_5 rfl (W.ld 0 HS Try.underlying30 rfl rfl rfl rfl (W.mv rfl ?_))
   obtain ⟨t13, A14, H⟩ := bind_s H
   replace HS := HS.pm [1, 2, 0, 3]
   refine W.e (Y.cl Try.func108 (slices_Delete_SSbyteSbyte.calls A14 HS.j2)) rfl ?_
   rintro _ w ⟨at13_0, ct13_0, dt13_0, rfl, HS⟩
   replace HS := HS.o2
   refine W.nc rfl (W.fa fo103_5 rfl (W.st 2 5 HS inf30 rfl rfl rfl rfl rfl rfl fun w HS => ?_))
   refine W.nx (V.seq (V.region (W.mv rfl (W.nc rfl (W.fa fo103_4 rfl (W.ld 2 HS Try.underlying3 rfl rfl rfl rfl (W.mv rfl (W.r (X.sub rfl rfl) rfl (W.nc rfl (W.fa fo103_4 rfl (W.st 2 4 HS inf3 rfl rfl rfl rfl rfl rfl fun w HS => ?_)))))))))))
   refine W.nx (V.seq (V.region (W.mv rfl (W.mv rfl (W.mv rfl ?_)))))
   obtain ⟨t15, A16, H⟩ := bind_s H
   replace HS := HS.pm [2, 0, 1, 3]
   refine W.e (Y.cl Try.func98 (backlog_Log_number.calls A16 HS.j3)) rfl ?_
   rintro _ w ⟨rfl, HS⟩
   replace HS := HS.o3
   refine W.nc rfl (W.fa fo103_3 rfl (W.st 0 3 HS inf3 rfl rfl rfl rfl rfl rfl fun w HS => ?_))
   refine W.nx (V.seq (V.region (W.mv rfl (W.as rfl (W.as rfl (W.nx (V.ret ?_)))))))
   replace HS := backlog_Log.close trivial HS
   cases H
   exact At.ret2 rfl rfl rfl ⟨_, rfl, rfl, HS⟩
mutual
def backlog_Log_Out.l0 : Nat → backlog_Log → Int → (List Int) → Option (List Int)
 | 0, _, _, _ => none
 | k + 1, a0, x5, x8 => (if x5 < a0.out then ((backlog_Log_number.f a0 x5).bind fun t12 => (if (x8.length : Int) + ([t12] : List Int).length ≤ 1099511627776 then (backlog_Log_Out.l0 k a0 (w64 (x5 + 1)) (x8 ++ ([t12] : List Int))) else none)) else some x8)
end
def backlog_Log_Out.f (k : Nat) (a0 : backlog_Log) : Option (List Int) := (backlog_Log_Out.l0 k a0 0 ([] : List Int))
theorem backlog_Log_Out.calls {k : Nat} {a0 : backlog_Log} {R : As} {w0 w : World} {b0 : Nat} {a5_p0 : Option Addr} {c5_p0 : Nat} {d5_p0 : List Value} {r : List Int} (H : backlog_Log_Out.f k a0 = some r) (HS : Sep.St [blk b0 (#[Value.int .i64 a0.m, Value.int .i64 a0.window, Value.int .i64 a0.queue, Value.int .i64 a0.first, Value.int .i64 a0.out, Value.slice a5_p0 a0.l.length c5_p0]) 103, row 39 1 (.slice a5_p0 a0.l.length c5_p0) a0.l.length d5_p0, tie (El.sl (El.int .u8)) d5_p0 a0.l, R] w0 w)  : Calls Try.prog 82 #[Value.pointer (some ⟨b0, 0, none⟩)] w (Ret fun u w => ∃ (aq0 : Option Addr) (cq0 : Nat), u = Value.slice aq0 r.length cq0 ∧ Sep.St [row 3 1 (.slice aq0 r.length cq0) r.length (r.map (Value.int .i64)), blk b0 (#[Value.int .i64 a0.m, Value.int .i64 a0.window, Value.int .i64 a0.queue, Value.int .i64 a0.first, Value.int .i64 a0.out, Value.slice a5_p0 a0.l.length c5_p0]) 103, row 39 1 (.slice a5_p0 a0.l.length c5_p0) a0.l.length d5_p0, tie (El.sl (El.int .u8)) d5_p0 a0.l, R] w0 w) := by
 unfold backlog_Log_Out.f at H
 refine calls_enter Try.func82 rfl rfl ?_
 have H : _ = some r := H
 refine V.seq (V.region (W.as rfl (W.nx (V.seq (V.region (W.as rfl (W.nx (V.seq (V.seq (V.region (W.mv rfl (W.nc rfl (W.fa fo103_4 rfl (W.ld 0 HS Try.underlying3 rfl rfl rfl rfl (W.mv rfl (W.nx (V.block ?_)))))))))))))))))
 replace HS := row_nilF (Value.int .i64) 3 1 HS
 refine V.loop (σ := Int × Option Addr × Nat × List Int) (fun kq (st : Int × Option Addr × Nat × List Int) w => match st with | (x5, ra6, rc7, x8) => Sep.St [row 3 1 (.slice ra6 x8.length rc7) x8.length (x8.map (Value.int .i64)), blk b0 (#[Value.int .i64 a0.m, Value.int .i64 a0.window, Value.int .i64 a0.queue, Value.int .i64 a0.first, Value.int .i64 a0.out, Value.slice a5_p0 a0.l.length c5_p0]) 103, row 39 1 (.slice a5_p0 a0.l.length c5_p0) a0.l.length d5_p0, tie (El.sl (El.int .u8)) d5_p0 a0.l, R] w0 w ∧ backlog_Log_Out.l0 kq a0 x5 x8 = some r ∧ kq ≤ k) (fun st => match st with | (x5, ra6, rc7, x8) => [(0, Value.pointer (some ⟨b0, 0, none⟩)), (3, Value.slice ra6 x8.length rc7), (8, Value.int .i64 a0.out), (9, Value.int .i64 x5)]) k (0, none, 0, ([] : List Int)) ⟨rfl, rfl, rfl, rfl, trivial⟩ ⟨HS, H, Nat.le_refl _⟩ ?_
 rintro kq9 ⟨x5, ra6, rc7, x8⟩ w ⟨HS, H, hk10⟩
 cases kq9 with
 | zero => exact absurd H (by simp [backlog_Log_Out.l0])
 | succ kq9 =>
  simp only [backlog_Log_Out.l0] at H
  refine V.seq (V.region (W.r (X.cmp (decide (x5 < a0.out)) rfl rfl rfl rfl) rfl (W.nx (V.seq ?_))))
  by_cases c11 : x5 < a0.out
  ·replace H := ite_t c11 H
   refine V.condT (sb (decide_eq_true c11)) (V.skip (At.next (V.seq (V.block (V.seq (V.region (W.mv rfl (W.as rfl (W.nx (V.region (W.mv rfl (W.mv rfl (W.mv rfl ?_)))))))))))))
   obtain ⟨t12, A13, H⟩ := bind_s H
   replace HS := HS.pm [1, 2, 3, 0, 4]
   refine W.e (Y.cl Try.func98 (backlog_Log_number.calls A13 HS.j3)) rfl ?_
   rintro _ w ⟨rfl, HS⟩
   replace HS := HS.o3
   refine W.e (Y.ls (e := 3) (Value.int .i64) ([t12] : List Int) HS rfl rfl (fun _ => by kernel_rfl)) rfl ?_
   rintro _ w ⟨lb16, rfl, HS⟩
   obtain ⟨c17, H⟩ := ite_n H
   refine W.e (Y.appF (Value.int .i64) (fun _ => rfl) 4 Try.underlying34 ap3 rfl HS rfl rfl rfl (rdC.at 0 row_rd HS rfl) (by omega) (by omega)) rfl ?_
   rintro _ w ⟨ra18, rc19, rfl, HS⟩
   refine W.as rfl (W.nil (At.blockEnd (At.next (V.region (W.r (X.add rfl rfl) rfl (W.mv rfl (W.nil ?_)))))))
   replace HS := HS.pk [4, 1, 2, 3, 5] [0]
   exact At.round kq9 (by omega) (w64 (x5 + 1), ra18, rc19, x8 ++ ([t12] : List Int)) ⟨rfl, rfl, rfl, rfl, trivial⟩ ⟨HS, H, by omega⟩
  ·replace H := ite_f c11 H
   refine V.condF (sb (decide_eq_false c11)) (V.exit (At.thenExit (At.thenExit (At.blockExit (At.next (V.seq (V.region (W.mv rfl (W.as rfl (W.nx (V.ret ?_)))))))))))
   cases H
   exact At.ret1 rfl rfl ⟨_, rfl, ra6, rc7, rfl, HS⟩
def arq_Arq_acknowledged.f (k : Nat) (a0 : arq_Arq) (a1 : Int) : Option (Bool × arq_Arq) := ((backlog_Log_Ack.f a0.log a1).bind fun t3 => (if t3.1 = 0 then some (t3.2.1, ({ a0 with log := t3.2.2 } : arq_Arq)) else ((clock_Set_Stop.f a0.timers 0).bind fun t13 => ((backlog_Log_Out.f k t3.2.2).bind fun t17 => (if (t17.length : Int) > 0 then ((arq_Arq_start.f ({ a0 with tries := 0, log := t3.2.2, timers := t13.2, acked := w64 (a0.acked + t3.1) } : arq_Arq)).bind fun t20 => some (t3.2.1, t20)) else some (t3.2.1, ({ a0 with tries := 0, log := t3.2.2, timers := t13.2, acked := w64 (a0.acked + t3.1) } : arq_Arq)))))))
theorem arq_Arq_acknowledged.calls {k : Nat} {a0 : arq_Arq} {a1 : Int} {R : As} {w0 w : World} {b0 : Nat} {r : Bool × arq_Arq} (H : arq_Arq_acknowledged.f k a0 a1 = some r) (HS : Sep.St [arq_Arq.at b0 a0, R] w0 w)  : Calls Try.prog 90 #[Value.pointer (some ⟨b0, 0, none⟩), Value.int .i64 a1] w (Ret fun u w => u = Value.bool r.1 ∧ Sep.St [arq_Arq.at b0 r.2, R] w0 w) := by
 unfold arq_Arq_acknowledged.f at H
 refine calls_enter Try.func90 rfl rfl ?_
 have H : _ = some r := H
 refine V.seq (V.region (W.as rfl (W.nx (V.seq (V.region (W.mv rfl (W.nc rfl ?_)))))))
 obtain ⟨b8_1, b9_1, b10_1, a11_1, c11_1, d11_1, a12_1, c12_1, hi2, HS⟩ := arq_Arq.open HS
 refine W.fa fo82_8 rfl (W.ld 0 HS Try.underlying74 rfl rfl rfl rfl (W.mv rfl ?_))
 obtain ⟨t3, A4, H⟩ := bind_s H
 replace HS := HS.pm [1, 0, 2, 3, 4, 5, 6, 7]
 refine W.e (Y.cl Try.func101 (backlog_Log_Ack.calls A4 HS.j1)) rfl ?_
 rintro _ w ⟨rfl, HS⟩
 replace HS := HS.o1
 refine W.mv rfl (W.r (X.extract rfl rfl) rfl (W.r (X.extract rfl rfl) rfl (W.as rfl (W.as rfl (W.nx (V.seq (V.seq (V.region (W.mv rfl (W.r (X.cmp (decide (t3.1 = 0)) rfl rfl rfl rfl) rfl (W.nx ?_)))))))))))
 by_cases c12 : t3.1 = 0
 ·replace H := ite_t c12 H
  refine V.condT (sb (decide_eq_true c12)) (V.seq (V.region (W.mv rfl (W.as rfl (W.nx (V.ret (At.thenRet ?_)))))))
  replace HS := HS.pm [1, 0, 2, 3, 4, 5, 6, 7]
  replace HS := arq_Arq.close trivial HS
  cases H
  exact At.ret1 rfl rfl ⟨_, rfl, rfl, HS⟩
 ·replace H := ite_f c12 H
  refine V.condF (sb (decide_eq_false c12)) (V.skip (At.next (V.seq (V.region (W.mv rfl (W.nc rfl (W.fa fo82_14 rfl (W.ld 1 HS Try.underlying3 rfl rfl rfl rfl (W.mv rfl (W.r (X.add rfl rfl) rfl (W.nc rfl (W.fa fo82_14 rfl (W.st 1 14 HS inf3 rfl rfl rfl rfl rfl rfl fun w HS => ?_)))))))))))))
  refine W.nx (V.seq (V.region (W.mv rfl (W.nc rfl (W.fa fo82_6 rfl (W.st 1 6 HS inf3 rfl rfl rfl rfl rfl rfl fun w HS => ?_))))))
  refine W.nx (V.seq (V.region (W.mv rfl (W.nc rfl (W.fa fo82_10 rfl (W.ld 1 HS Try.underlying78 rfl rfl rfl rfl ?_))))))
  obtain ⟨t13, A14, H⟩ := bind_s H
  replace HS := HS.pm [3, 0, 1, 2, 4, 5, 6, 7]
  refine W.e (Y.cl Try.func78 (clock_Set_Stop.calls A14 HS.j1)) rfl ?_
  rintro _ w ⟨rfl, HS⟩
  replace HS := HS.o1
  refine W.nx (V.seq (V.seq (V.region (W.mv rfl (W.nc rfl (W.fa fo82_8 rfl (W.ld 2 HS Try.underlying74 rfl rfl rfl rfl ?_)))))))
  replace HS := HS.fr 1
  obtain ⟨a5_15, c5_15, d5_15, hi16, HS⟩ := backlog_Log.open HS
  obtain ⟨t17, A18, H⟩ := bind_s H
  refine W.e (Y.cl Try.func82 (backlog_Log_Out.calls A18 HS.j3)) rfl ?_
  rintro _ w ⟨at17_0, ct17_0, rfl, HS⟩
  replace HS := HS.o4
  refine W.r (X.lenSl Try.underlying34 rfl) rfl (W.r (X.cmp (decide ((t17.length : Int) > 0)) rfl rfl rfl rfl) rfl (W.nx ?_))
  by_cases c19 : (t17.length : Int) > 0
  ·replace H := ite_t c19 H
   refine V.condT (sb (decide_eq_true c19)) (V.region (W.mv rfl ?_))
   replace HS := HS.pm [1, 2, 3, 0, 4, 5, 6, 7, 8, 9, 10]
   replace HS := backlog_Log.close trivial HS
   replace HS := HS.pm [3, 0, 4, 2, 5, 6, 7, 1, 8]
   replace HS := arq_Arq.close trivial HS
   obtain ⟨t20, A21, H⟩ := bind_s H
   refine W.e (Y.cl Try.func47 (arq_Arq_start.calls A21 HS.j1)) rfl ?_
   rintro _ w ⟨rfl, HS⟩
   replace HS := HS.o1
   refine W.nx (V.seq (V.region (W.mv rfl (W.as rfl (W.nx (V.ret ?_))))))
   replace HS := HS.pk [0, 2] [1]
   cases H
   exact At.ret1 rfl rfl ⟨_, rfl, rfl, HS⟩
  ·replace H := ite_f c19 H
   refine V.condF (sb (decide_eq_false c19)) (V.skip (At.next (V.seq (V.region (W.mv rfl (W.as rfl (W.nx (V.ret ?_))))))))
   replace HS := HS.pm [1, 2, 3, 0, 4, 5, 6, 7, 8, 9, 10]
   replace HS := backlog_Log.close trivial HS
   replace HS := HS.pm [3, 0, 4, 2, 5, 6, 7, 1, 8]
   replace HS := arq_Arq.close trivial HS
   replace HS := HS.pk [0, 2] [1]
   cases H
   exact At.ret1 rfl rfl ⟨_, rfl, rfl, HS⟩
mutual
def backlog_Log_Body.j0 (a0 : backlog_Log) (t1 : Int) (x6 : Bool) : Option (List Int × Bool) := (if x6 = true then some (([] : List Int), false) else (if 0 ≤ t1 ∧ t1 < (a0.l.length : Int) then ((slices_Clone_Sbytebyte.f (a0.l.getD t1.toNat [])).bind fun t18 => some (t18, true)) else none))
end
def backlog_Log_Body.f (a0 : backlog_Log) (a1 : Int) : Option (List Int × Bool) := ((serial_Dist.f a0.first a1 a0.m).bind fun t1 => (if a1 < 0 then (backlog_Log_Body.j0 a0 t1 true) else (if a1 ≥ a0.m then (backlog_Log_Body.j0 a0 t1 true) else (backlog_Log_Body.j0 a0 t1 (decide (t1 ≥ a0.out))))))
theorem backlog_Log_Body.calls {a0 : backlog_Log} {a1 : Int} {R : As} {w0 w : World} {b0 : Nat} {a5_p0 : Option Addr} {c5_p0 : Nat} {d5_p0 : List Value} {r : List Int × Bool} (H : backlog_Log_Body.f a0 a1 = some r) (HS : Sep.St [blk b0 (#[Value.int .i64 a0.m, Value.int .i64 a0.window, Value.int .i64 a0.queue, Value.int .i64 a0.first, Value.int .i64 a0.out, Value.slice a5_p0 a0.l.length c5_p0]) 103, row 39 1 (.slice a5_p0 a0.l.length c5_p0) a0.l.length d5_p0, tie (El.sl (El.int .u8)) d5_p0 a0.l, R] w0 w)  : Calls Try.prog 99 #[Value.pointer (some ⟨b0, 0, none⟩), Value.int .i64 a1] w (Ret fun u w => ∃ (aq0 : Option Addr) (cq0 : Nat), u = Value.tuple #[Value.slice aq0 r.1.length cq0, Value.bool r.2] ∧ Sep.St [row 5 1 (.slice aq0 r.1.length cq0) r.1.length (r.1.map (Value.int .u8)), blk b0 (#[Value.int .i64 a0.m, Value.int .i64 a0.window, Value.int .i64 a0.queue, Value.int .i64 a0.first, Value.int .i64 a0.out, Value.slice a5_p0 a0.l.length c5_p0]) 103, row 39 1 (.slice a5_p0 a0.l.length c5_p0) a0.l.length d5_p0, tie (El.sl (El.int .u8)) d5_p0 a0.l, R] w0 w) := by
 unfold backlog_Log_Body.f at H
 refine calls_enter Try.func99 rfl rfl ?_
 have H : _ = some r := H
 refine V.seq (V.region (W.as rfl (W.as rfl (W.nx (V.seq (V.dr [9] [10] [(7, Value.pointer (some ⟨b0, 0, none⟩)), (8, Value.pointer (some ⟨b0, 0, none⟩)), (9, Value.pointer (some ⟨b0, 0 + 3, none⟩)), (10, Value.int .i64 a0.first), (11, Value.int .i64 a1), (12, Value.pointer (some ⟨b0, 0, none⟩)), (13, Value.pointer (some ⟨b0, 0, none⟩)), (14, Value.pointer (some ⟨b0, 0 + 0, none⟩)), (15, Value.int .i64 a0.m)] mo HS ?_))))))
 refine T.ev [(10, _), (11, _), (15, _)] [] [0, 1, 2, 3, 4, 5, 6, 7, 8] ⟨rfl, rfl, rfl, trivial⟩ ⟨.mv 0, .nc 7, .fa 8 fo103_3, .ld 9 0 Try.underlying3, .mv 1, .mv 0, .nc 12, .fa 13 fo103_0, .ld 14 0 Try.underlying3, trivial⟩ rfl (fun w HS => ?_)
 obtain ⟨t1, A2, H⟩ := bind_s H
 refine ⟨_, Y.cl Try.func100 (serial_Dist.calls A2 HS.j0), ?_⟩
 rintro _ w ⟨rfl, HS⟩
 replace HS := HS.o0
 refine T.nm [(16, Value.int .i64 t1), (6, Value.int .i64 t1)] HS ⟨.inl ⟨rfl, rfl⟩, ⟨.inr ⟨by decide, rfl⟩, trivial⟩⟩ ?_
 refine T.fn [(0, _), (1, _), (6, _)] ⟨rfl, rfl, rfl, trivial⟩ ⟨.as 16, trivial⟩ (fun w HS => ?_)
 refine At.next (V.seq (V.meet (σ := Bool) (fun st w => match st with | x6 => Sep.St [blk b0 (#[Value.int .i64 a0.m, Value.int .i64 a0.window, Value.int .i64 a0.queue, Value.int .i64 a0.first, Value.int .i64 a0.out, Value.slice a5_p0 a0.l.length c5_p0]) 103, row 39 1 (.slice a5_p0 a0.l.length c5_p0) a0.l.length d5_p0, tie (El.sl (El.int .u8)) d5_p0 a0.l, R] w0 w ∧ backlog_Log_Body.j0 a0 t1 x6 = some r) (fun st => match st with | x6 => [(0, Value.pointer (some ⟨b0, 0, none⟩)), (6, Value.int .i64 t1), (34, Value.bool x6)]) ?_ ?_))
 ·refine V.region (W.mv rfl (W.r (X.cmp (decide (a1 < 0)) rfl rfl rfl rfl) rfl (W.mv rfl ?_)))
  by_cases c20 : a1 < 0
  ·replace H := ite_t c20 H
   refine W.pass 19 rfl (sb (decide_eq_true c20)) rfl rfl (W.pass 19 rfl (sb (decide_eq_true c20)) rfl rfl (W.pass 19 rfl (sb (decide_eq_true c20)) rfl rfl (W.pass 19 rfl (sb (decide_eq_true c20)) rfl rfl (W.pass 19 rfl (sb (decide_eq_true c20)) rfl rfl (W.pass 19 rfl (sb (decide_eq_true c20)) rfl rfl (W.r (X.pickT (sb (decide_eq_true c20)) rfl) rfl (W.mv rfl (W.pass 27 rfl rfl rfl rfl (W.pass 27 rfl rfl rfl rfl (W.pass 27 rfl rfl rfl rfl (W.pass 27 rfl rfl rfl rfl (W.pass 27 rfl rfl rfl rfl (W.pass 27 rfl rfl rfl rfl (W.r (X.pickT rfl rfl) rfl (W.nil ?_)))))))))))))))
   exact At.meet true ⟨rfl, rfl, rfl, trivial⟩ ⟨HS, H⟩
  ·replace H := ite_f c20 H
   refine W.want 19 rfl (sb (decide_eq_false c20)) (W.mv rfl (W.want 19 rfl (sb (decide_eq_false c20)) (W.mv rfl (W.want 19 rfl (sb (decide_eq_false c20)) (W.nc rfl (W.want 19 rfl (sb (decide_eq_false c20)) (W.fa fo103_0 rfl (W.want 19 rfl (sb (decide_eq_false c20)) (W.ld 0 HS Try.underlying3 rfl rfl rfl rfl (W.want 19 rfl (sb (decide_eq_false c20)) (W.r (X.cmp (decide (a1 ≥ a0.m)) rfl rfl rfl rfl) rfl (W.r (X.pickF (sb (decide_eq_false c20)) rfl) rfl (W.mv rfl ?_)))))))))))))
   by_cases c21 : a1 ≥ a0.m
   ·replace H := ite_t c21 H
    refine W.pass 27 rfl (sb (decide_eq_true c21)) rfl rfl (W.pass 27 rfl (sb (decide_eq_true c21)) rfl rfl (W.pass 27 rfl (sb (decide_eq_true c21)) rfl rfl (W.pass 27 rfl (sb (decide_eq_true c21)) rfl rfl (W.pass 27 rfl (sb (decide_eq_true c21)) rfl rfl (W.pass 27 rfl (sb (decide_eq_true c21)) rfl rfl (W.r (X.pickT (sb (decide_eq_true c21)) rfl) rfl (W.nil ?_)))))))
    exact At.meet true ⟨rfl, rfl, rfl, trivial⟩ ⟨HS, H⟩
   ·replace H := ite_f c21 H
    refine W.want 27 rfl (sb (decide_eq_false c21)) (W.mv rfl (W.want 27 rfl (sb (decide_eq_false c21)) (W.mv rfl (W.want 27 rfl (sb (decide_eq_false c21)) (W.nc rfl (W.want 27 rfl (sb (decide_eq_false c21)) (W.fa fo103_4 rfl (W.want 27 rfl (sb (decide_eq_false c21)) (W.ld 0 HS Try.underlying3 rfl rfl rfl rfl (W.want 27 rfl (sb (decide_eq_false c21)) (W.r (X.cmp (decide (t1 ≥ a0.out)) rfl rfl rfl rfl) rfl (W.r (X.pickF (sb (decide_eq_false c21)) rfl) rfl (W.nil ?_)))))))))))))
    exact At.meet (decide (t1 ≥ a0.out)) ⟨rfl, rfl, rfl, trivial⟩ ⟨HS, H⟩
 ·rintro x6 w ⟨HS, H⟩
  unfold backlog_Log_Body.j0 at H
  by_cases c8 : x6 = true
  ·replace H := ite_t c8 H
   refine V.condT (sb c8) (V.seq (V.region (W.as rfl (W.as rfl (W.nx (V.ret (At.thenRet ?_)))))))
   replace HS := row_nilF (Value.int .u8) 5 1 HS
   cases H
   exact At.ret2 rfl rfl rfl ⟨_, rfl, none, 0, rfl, HS⟩
  ·replace H := ite_f c8 H
   refine V.condF (sb (b_f c8)) (V.skip (At.next (V.seq (V.region (W.mv rfl (W.nc rfl (W.fa fo103_5 rfl (W.ld 0 HS Try.underlying30 rfl rfl rfl rfl (W.mv rfl ?_)))))))))
   obtain ⟨c9, H⟩ := ite_n H
   obtain ⟨eb10, eo11, hh⟩ := (rdC.at 1 row_rd HS rfl).some (by decide) c9.1 c9.2; subst hh
   refine W.r (X.indexSl Try.underlying30 inf39 rfl rfl c9.1 c9.2) rfl ?_
   obtain ⟨ec12, hc13, HS⟩ := St.tie_at 2 HS rfl ([]) c9.1 c9.2
   obtain ⟨ea14, em15, he17, HN⟩ := St.sl_openF (Value.int .u8) (fun t => tie_int t) HS; clear HS; subst he17; have HS := HN
   refine W.r (X.load Try.underlying39 rfl rfl ((rdC.at 2 row_rd HS rfl).cellEl0 (hc13 0 _ rfl))) rfl ?_
   obtain ⟨t18, A19, H⟩ := bind_s H
   refine W.e (Y.cl Try.func93 (slices_Clone_Sbytebyte.calls A19 HS.j0 (rdC.part 0 fsl.rd rfl))) rfl ?_
   rintro _ w ⟨at18_0, ct18_0, rfl, HS⟩
   replace HS := HS.o1
   refine W.as rfl (W.as rfl (W.nx (V.ret ?_)))
   replace HS := HS.pk [0, 2, 3, 4, 5] [1]
   cases H
   exact At.ret2 rfl rfl rfl ⟨_, rfl, at18_0, ct18_0, rfl, HS⟩
def arq_Arq_repeat.f (k : Nat) (a0 : arq_Arq) (a1 : Int) (a2 : Bool) : Option arq_Arq := ((backlog_Log_Body.f a0.log a1).bind fun t5 => ((arq_Arq_message.f k a0 a1 t5.1 a2).bind fun t7 => some t7))
theorem arq_Arq_repeat.calls {k : Nat} {a0 : arq_Arq} {a1 : Int} {a2 : Bool} {R : As} {w0 w : World} {b0 : Nat} {r : arq_Arq} (H : arq_Arq_repeat.f k a0 a1 a2 = some r) (HS : Sep.St [arq_Arq.at b0 a0, R] w0 w)  : Calls Try.prog 83 #[Value.pointer (some ⟨b0, 0, none⟩), Value.int .i64 a1, Value.bool a2] w (Ret fun u w => u = Value.tuple #[] ∧ Sep.St [arq_Arq.at b0 r, R] w0 w) := by
 unfold arq_Arq_repeat.f at H
 refine calls_enter Try.func83 rfl rfl ?_
 have H : _ = some r := H
 refine V.seq (V.region (W.mv rfl (W.nc rfl ?_)))
 obtain ⟨b8_1, b9_1, b10_1, a11_1, c11_1, d11_1, a12_1, c12_1, hi2, HS⟩ := arq_Arq.open HS
 refine W.fa fo82_8 rfl (W.ld 0 HS Try.underlying74 rfl rfl rfl rfl (W.mv rfl ?_))
 replace HS := HS.fr 1
 obtain ⟨a5_3, c5_3, d5_3, hi4, HS⟩ := backlog_Log.open HS
 obtain ⟨t5, A6, H⟩ := bind_s H
 refine W.e (Y.cl Try.func99 (backlog_Log_Body.calls A6 HS.j3)) rfl ?_
 rintro _ w ⟨at5_0, ct5_0, rfl, HS⟩
 replace HS := HS.o4
 refine W.mv rfl (W.r (X.extract rfl rfl) rfl (W.r (X.extract rfl rfl) rfl (W.as rfl (W.as rfl (W.nx (V.region (W.mv rfl (W.mv rfl (W.mv rfl (W.mv rfl ?_))))))))))
 replace HS := HS.pm [1, 2, 3, 0, 4, 5, 6, 7, 8, 9, 10]
 replace HS := backlog_Log.close trivial HS
 replace HS := HS.pm [2, 0, 3, 4, 5, 6, 7, 1, 8]
 replace HS := arq_Arq.close trivial HS
 replace HS := HS.fr 1
 replace HS := St.row_freeze HS
 obtain ⟨t7, A8, H⟩ := bind_s H
 replace HS := HS.pm [1, 0, 2]
 refine W.e (Y.cl Try.func95 (arq_Arq_message.calls A8 HS.j2)) rfl ?_
 rintro _ w ⟨rfl, HS⟩
 replace HS := HS.o1
 refine W.nil ?_
 cases H
 exact At.end0 rfl ⟨_, rfl, rfl, HS⟩
mutual
def arq_Arq_resend.l0 : Nat → (List Int) → Int → arq_Arq → Option arq_Arq
 | 0, _, _, _ => none
 | k + 1, t5, x17, x18 => (if x17 < (t5.length : Int) then (if 0 ≤ x17 ∧ x17 < (t5.length : Int) then ((arq_Arq_repeat.f k x18 (t5.getD x17.toNat 0) false).bind fun t25 => (arq_Arq_resend.l0 k t5 (w64 (x17 + 1)) t25)) else none) else (if (t5.length : Int) > 0 then ((arq_Arq_start.f x18).bind fun t28 => some t28) else some x18))
end
def arq_Arq_resend.f (k : Nat) (a0 : arq_Arq) : Option arq_Arq := ((backlog_Log_Out.f k a0.log).bind fun t5 => (arq_Arq_resend.l0 k t5 0 a0))
theorem arq_Arq_resend.calls {k : Nat} {a0 : arq_Arq} {R : As} {w0 w : World} {b0 : Nat} {r : arq_Arq} (H : arq_Arq_resend.f k a0 = some r) (HS : Sep.St [arq_Arq.at b0 a0, R] w0 w)  : Calls Try.prog 71 #[Value.pointer (some ⟨b0, 0, none⟩)] w (Ret fun u w => u = Value.tuple #[] ∧ Sep.St [arq_Arq.at b0 r, R] w0 w) := by
 unfold arq_Arq_resend.f at H
 refine calls_enter Try.func71 rfl rfl ?_
 have H : _ = some r := H
 refine V.seq (V.region (W.mv rfl (W.nc rfl ?_)))
 obtain ⟨b8_1, b9_1, b10_1, a11_1, c11_1, d11_1, a12_1, c12_1, hi2, HS⟩ := arq_Arq.open HS
 refine W.fa fo82_8 rfl (W.ld 0 HS Try.underlying74 rfl rfl rfl rfl ?_)
 replace HS := HS.fr 1
 obtain ⟨a5_3, c5_3, d5_3, hi4, HS⟩ := backlog_Log.open HS
 obtain ⟨t5, A6, H⟩ := bind_s H
 refine W.e (Y.cl Try.func82 (backlog_Log_Out.calls A6 HS.j3)) rfl ?_
 rintro _ w ⟨at5_0, ct5_0, rfl, HS⟩
 replace HS := HS.o4
 refine W.as rfl (W.nx (V.seq (V.seq (V.region (W.mv rfl (W.r (X.lenSl Try.underlying34 rfl) rfl (W.mv rfl (W.nx (V.block ?_)))))))))
 replace HS := HS.pm [1, 2, 3, 0, 4, 5, 6, 7, 8, 9, 10]
 replace HS := backlog_Log.close trivial HS
 replace HS := HS.pm [2, 0, 3, 4, 5, 6, 7, 1, 8]
 replace HS := arq_Arq.close trivial HS
 refine V.loop (σ := Int × arq_Arq) (fun kq (st : Int × arq_Arq) w => match st with | (x17, x18) => Sep.St [arq_Arq.at b0 x18, row 3 1 (.slice at5_0 t5.length ct5_0) t5.length (t5.map (Value.int .i64)), R] w0 w ∧ arq_Arq_resend.l0 kq t5 x17 x18 = some r ∧ kq ≤ k) (fun st => match st with | (x17, x18) => [(0, Value.pointer (some ⟨b0, 0, none⟩)), (2, Value.slice at5_0 t5.length ct5_0), (10, Value.slice at5_0 t5.length ct5_0), (11, Value.int .i64 (t5.length : Int)), (12, Value.int .i64 x17)]) k (0, a0) ⟨rfl, rfl, rfl, rfl, rfl, trivial⟩ ⟨HS, H, Nat.le_refl _⟩ ?_
 rintro kq19 ⟨x17, x18⟩ w ⟨HS, H, hk20⟩
 cases kq19 with
 | zero => exact absurd H (by simp [arq_Arq_resend.l0])
 | succ kq19 =>
  simp only [arq_Arq_resend.l0] at H
  refine V.seq (V.region (W.r (X.cmp (decide (x17 < (t5.length : Int))) rfl rfl rfl rfl) rfl (W.nx (V.seq ?_))))
  by_cases c21 : x17 < (t5.length : Int)
  ·replace H := ite_t c21 H
   refine V.condT (sb (decide_eq_true c21)) (V.skip (At.next (V.seq (V.block (V.seq (V.region ?_))))))
   obtain ⟨c22, H⟩ := ite_n H
   obtain ⟨eb23, eo24, hh⟩ := (rdC.at 1 row_rd HS rfl).some (by decide) c22.1 c22.2; subst hh
   refine W.r (X.indexSl Try.underlying34 inf3 rfl rfl c22.1 c22.2) rfl (W.r (X.load Try.underlying3 rfl rfl ((rdC.at 1 row_rd HS rfl).cellI c22.1 c22.2)) rfl (W.as rfl (W.nx (V.region (W.mv rfl (W.mv rfl ?_))))))
   obtain ⟨t25, A26, H⟩ := bind_s H
   refine W.e (Y.cl Try.func83 (arq_Arq_repeat.calls A26 HS.j1)) rfl ?_
   rintro _ w ⟨rfl, HS⟩
   replace HS := HS.o1
   refine W.nil (At.blockEnd (At.next (V.region (W.r (X.add rfl rfl) rfl (W.mv rfl (W.nil ?_))))))
   exact At.round kq19 (by omega) (w64 (x17 + 1), t25) ⟨rfl, rfl, rfl, rfl, rfl, trivial⟩ ⟨HS, H, by omega⟩
  ·replace H := ite_f c21 H
   refine V.condF (sb (decide_eq_false c21)) (V.exit (At.thenExit (At.thenExit (At.blockExit (At.next (V.seq (V.region (W.mv rfl (W.r (X.lenSl Try.underlying34 rfl) rfl (W.r (X.cmp (decide ((t5.length : Int) > 0)) rfl rfl rfl rfl) rfl (W.nx ?_)))))))))))
   by_cases c27 : (t5.length : Int) > 0
   ·replace H := ite_t c27 H
    refine V.condT (sb (decide_eq_true c27)) (V.region (W.mv rfl ?_))
    obtain ⟨t28, A29, H⟩ := bind_s H
    refine W.e (Y.cl Try.func47 (arq_Arq_start.calls A29 HS.j1)) rfl ?_
    rintro _ w ⟨rfl, HS⟩
    replace HS := HS.o1
    refine W.nil ?_
    replace HS := HS.pk [0, 2] [1]
    cases H
    exact At.end0 rfl ⟨_, rfl, rfl, HS⟩
   ·replace H := ite_f c27 H
    refine V.condF (sb (decide_eq_false c27)) (V.skip ?_)
    replace HS := HS.pk [0, 2] [1]
    cases H
    exact At.end0 rfl ⟨_, rfl, rfl, HS⟩
mutual
def reorder_Order_Put.l0 : Nat → Int → Bool → reorder_Order → (List Int) → Option (Int × reorder_Order)
 | 0, _, _, _, _ => none
 | k + 1, x26, x27, x28, x31 => (if x27 = true then (if (x28.ready.length : Int) + (([x31] : List (List Int))).length ≤ 1099511627776 then ((serial_Next.f x28.next x28.m).bind fun t43 => (reorder_Order_Put.l0 k (w64 (x26 + 1)) (mhas (mdel x28.kept x28.next) t43) ({ m := x28.m, window := x28.window, next := t43, kept := mdel x28.kept x28.next, ready := x28.ready ++ ([x31] : List (List Int)) } : reorder_Order) (mget (mdel x28.kept x28.next) t43 []))) else none) else some (x26, x28))
end
def reorder_Order_Put.f (k : Nat) (a0 : reorder_Order) (a1 : Int) (a2 : List Int) : Option (Int × reorder_Order) := ((serial_Dist.f a0.next a1 a0.m).bind fun t3 => (if ¬ (a0.m = 0) then (if t3 ≥ a0.window then some ((-1), a0) else (if mhas a0.kept ((w64 (a0.next + t3)).tmod a0.m) = true then some (0, a0) else ((slices_Clone_Sbytebyte.f a2).bind fun t17 => (reorder_Order_Put.l0 k 0 (mhas (mput a0.kept ((w64 (a0.next + t3)).tmod a0.m) t17) a0.next) ({ a0 with kept := mput a0.kept ((w64 (a0.next + t3)).tmod a0.m) t17 } : reorder_Order) (mget (mput a0.kept ((w64 (a0.next + t3)).tmod a0.m) t17) a0.next []))))) else none))
theorem reorder_Order_Put.calls {k : Nat} {a0 : reorder_Order} {a1 : Int} {a2 : List Int} {R : As} {w0 w : World} {b0 : Nat} {sa2 : Option Addr} {sc2 : Nat} {r : Int × reorder_Order} (H : reorder_Order_Put.f k a0 a1 a2 = some r) (HS : Sep.St [reorder_Order.at b0 a0, R] w0 w) (hr2 : rdC R 1 (.slice sa2 a2.length sc2) a2.length (a2.map (Value.int .u8))) : Calls Try.prog 102 #[Value.pointer (some ⟨b0, 0, none⟩), Value.int .i64 a1, Value.slice sa2 a2.length sc2] w (Ret fun u w => u = Value.int .i64 r.1 ∧ Sep.St [reorder_Order.at b0 r.2, R] w0 w) := by
 unfold reorder_Order_Put.f at H
 refine calls_enter Try.func102 rfl rfl ?_
 have H : _ = some r := H
 refine V.seq (V.region (W.as rfl (W.nx (V.seq ?_))))
 obtain ⟨b3_1, k3_1, a4_1, c4_1, d4_1, hi2, HS⟩ := reorder_Order.open HS
 refine V.dr [9] [10] [(13, Value.pointer (some ⟨b0, 0, none⟩)), (14, Value.pointer (some ⟨b0, 0, none⟩)), (15, Value.pointer (some ⟨b0, 0 + 2, none⟩)), (16, Value.int .i64 a0.next), (17, Value.int .i64 a1), (18, Value.pointer (some ⟨b0, 0, none⟩)), (19, Value.pointer (some ⟨b0, 0, none⟩)), (20, Value.pointer (some ⟨b0, 0 + 0, none⟩)), (21, Value.int .i64 a0.m)] mo HS ?_
 refine T.ev [(16, _), (17, _), (21, _)] [] [0, 1, 2, 3, 4, 5, 6, 7, 8] ⟨rfl, rfl, rfl, trivial⟩ ⟨.mv 0, .nc 13, .fa 14 fo106_2, .ld 15 0 Try.underlying3, .mv 1, .mv 0, .nc 18, .fa 19 fo106_0, .ld 20 0 Try.underlying3, trivial⟩ rfl (fun w HS => ?_)
 obtain ⟨t3, A4, H⟩ := bind_s H
 refine ⟨_, Y.cl Try.func100 (serial_Dist.calls A4 HS.j0), ?_⟩
 rintro _ w ⟨rfl, HS⟩
 replace HS := HS.o0
 refine T.nm [(22, Value.int .i64 t3), (7, Value.int .i64 t3)] HS ⟨.inl ⟨rfl, rfl⟩, ⟨.inr ⟨by decide, rfl⟩, trivial⟩⟩ ?_
 refine T.fn [(0, _), (2, _), (7, _)] ⟨rfl, rfl, rfl, trivial⟩ ⟨.as 22, trivial⟩ (fun w HS => ?_)
 refine At.next (V.seq ?_)
 obtain ⟨c5, H⟩ := ite_n H
 refine V.dr [] [] [(23, Value.pointer (some ⟨b0, 0, none⟩)), (24, Value.pointer (some ⟨b0, 0, none⟩)), (25, Value.pointer (some ⟨b0, 0 + 2, none⟩)), (26, Value.int .i64 a0.next), (27, Value.int .i64 t3), (28, Value.int .i64 (w64 (a0.next + t3))), (29, Value.pointer (some ⟨b0, 0, none⟩)), (30, Value.pointer (some ⟨b0, 0, none⟩)), (31, Value.pointer (some ⟨b0, 0 + 0, none⟩)), (32, Value.int .i64 a0.m), (33, Value.int .i64 ((w64 (a0.next + t3)).tmod a0.m)), (1, Value.int .i64 ((w64 (a0.next + t3)).tmod a0.m))] mo HS ?_
 refine T.fn [(0, _), (1, _), (2, _), (7, _)] ⟨rfl, rfl, rfl, rfl, trivial⟩ ⟨.mv 0, .nc 23, .fa 24 fo106_2, .ld 25 0 Try.underlying3, .mv 7, .n2 26 27 rfl rfl rfl (fun w HS => X.add rfl rfl), .mv 0, .nc 29, .fa 30 fo106_0, .ld 31 0 Try.underlying3, .n2 28 32 rfl rfl rfl (fun w HS => X.rem rfl rfl c5), .as 33, trivial⟩ (fun w HS => ?_)
 refine At.next (V.seq (V.seq (V.region (W.mv rfl (W.mv rfl (W.nc rfl (W.fa fo106_1 rfl (W.ld 0 HS Try.underlying3 rfl rfl rfl rfl (W.r (X.cmp (decide (t3 ≥ a0.window)) rfl rfl rfl rfl) rfl (W.nx ?_))))))))))
 by_cases c11 : t3 ≥ a0.window
 ·replace H := ite_t c11 H
  refine V.condT (sb (decide_eq_true c11)) (V.seq (V.region (W.as rfl (W.nx (V.ret (At.thenRet ?_))))))
  replace HS := reorder_Order.close trivial HS
  cases H
  exact At.ret1 rfl rfl ⟨_, rfl, rfl, HS⟩
 ·replace H := ite_f c11 H
  refine V.condF (sb (decide_eq_false c11)) (V.skip (At.next (V.seq (V.seq (V.region (W.mv rfl (W.nc rfl (W.fa fo106_3 rfl (W.ld 0 HS Try.underlying104 rfl rfl rfl rfl (W.mv rfl ?_))))))))))
  have hm12 := St.tieM_has 2 ((w64 (a0.next + t3)).tmod a0.m) HS rfl
  replace HS := St.tieM_get 2 ((w64 (a0.next + t3)).tmod a0.m) (z := .slice none 0 0) (d := []) sl_zero HS rfl
  obtain ⟨ea14, em15, hu13, HS⟩ := St.sl_openF (Value.int .u8) (fun t => tie_int t) HS
  refine W.r (X.lookup (z := .slice none 0 0) 2 Try.underlying104 Try.underlying3 ze39 HS rfl rfl rfl hu13 hm12) rfl (W.mv rfl (W.r (X.extract rfl rfl) rfl (W.r (X.extract rfl rfl) rfl (W.as rfl (W.as rfl (W.nx (V.seq (V.region (W.mv rfl (W.nx ?_))))))))))
  by_cases c16 : mhas a0.kept ((w64 (a0.next + t3)).tmod a0.m) = true
  ·replace H := ite_t c16 H
   refine V.condT (sb c16) (V.seq (V.region (W.as rfl (W.nx (V.ret (At.thenRet ?_))))))
   replace HS := HS.pm [1, 2, 3, 4, 5, 0, 6]
   replace HS := reorder_Order.close trivial HS
   replace HS := HS.pk [0, 2] [1]
   cases H
   exact At.ret1 rfl rfl ⟨_, rfl, rfl, HS⟩
  ·replace H := ite_f c16 H
   refine V.condF (sb (b_f c16)) (V.skip (At.next (V.seq (V.dr [6, 7] [] [(50, Value.pointer (some ⟨b0, 0, none⟩)), (51, Value.pointer (some ⟨b0, 0, none⟩)), (52, Value.pointer (some ⟨b0, 0 + 3, none⟩)), (53, Value.map (some b3_1)), (54, Value.int .i64 ((w64 (a0.next + t3)).tmod a0.m)), (55, Value.slice sa2 a2.length sc2)] mo HS ?_))))
   refine T.ev [(55, _)] [] [5] ⟨rfl, trivial⟩ ⟨.mv 0, .nc 50, .fa 51 fo106_3, .ld 52 1 Try.underlying104, .mv 1, .mv 2, trivial⟩ rfl (fun w HS => ?_)
   obtain ⟨t17, A18, H⟩ := bind_s H
   refine ⟨_, Y.cl Try.func93 (slices_Clone_Sbytebyte.calls A18 HS.j0 (rdC.part 6 hr2 rfl)), ?_⟩
   rintro _ w ⟨at17_0, ct17_0, rfl, HS⟩
   replace HS := HS.o1
   refine T.nw HS ?_
   refine T.ev [(53, _), (54, _), (56, _)] [] [0, 1, 2, 3, 4] ⟨rfl, rfl, rfl, trivial⟩ ⟨.mv 0, .nc 50, .fa 51 fo106_3, .ld 52 2 Try.underlying104, .mv 1, trivial⟩ rfl (fun w HS => ?_)
   replace HS := St.row_freeze HS
   replace HS := HS.more 0 rfl (fun _ t => t) fsl.pers
   replace HS := St.put (A := tie (El.int .u8) (t17.map (Value.int .u8)) t17) (fun _ => int_tie) HS
   replace HS := St.swap HS
   replace HS := St.sl_close (E := (El.int .u8)) HS
   replace HS := HS.pm [0, 5, 1, 2, 3, 4, 6, 7, 8]
   replace HS := St.tieM_put ((w64 (a0.next + t3)).tmod a0.m) HS
   refine ⟨_, Y.mapUpdate 4 Try.underlying104 Try.underlying3 HS rfl rfl rfl rfl, ?_⟩
   rintro _ w HS
   refine T.nn HS ?_
   refine T.fn [(0, _)] ⟨rfl, trivial⟩ trivial (fun w HS => ?_)
   refine At.next (V.seq (V.region (W.as rfl (W.nx (V.seq (V.seq ?_))))))
   have hm19 := St.tieM_has 0 a0.next HS rfl
   replace HS := St.tieM_get 0 a0.next (z := .slice none 0 0) (d := []) sl_zero HS rfl
   obtain ⟨ea21, em22, hu20, HS⟩ := St.sl_openF (Value.int .u8) (fun t => tie_int t) HS
   refine V.dr [] [] [(58, Value.pointer (some ⟨b0, 0, none⟩)), (59, Value.pointer (some ⟨b0, 0, none⟩)), (60, Value.pointer (some ⟨b0, 0 + 3, none⟩)), (61, Value.map (some b3_1)), (62, Value.pointer (some ⟨b0, 0, none⟩)), (63, Value.pointer (some ⟨b0, 0, none⟩)), (64, Value.pointer (some ⟨b0, 0 + 2, none⟩)), (65, Value.int .i64 a0.next), (66, Value.tuple #[Value.slice ea21 (mget (mput a0.kept ((w64 (a0.next + t3)).tmod a0.m) t17) a0.next []).length em22, Value.bool (mhas (mput a0.kept ((w64 (a0.next + t3)).tmod a0.m) t17) a0.next)]), (57, Value.tuple #[Value.slice ea21 (mget (mput a0.kept ((w64 (a0.next + t3)).tmod a0.m) t17) a0.next []).length em22, Value.bool (mhas (mput a0.kept ((w64 (a0.next + t3)).tmod a0.m) t17) a0.next)]), (67, Value.slice ea21 (mget (mput a0.kept ((w64 (a0.next + t3)).tmod a0.m) t17) a0.next []).length em22), (68, Value.bool (mhas (mput a0.kept ((w64 (a0.next + t3)).tmod a0.m) t17) a0.next)), (11, Value.slice ea21 (mget (mput a0.kept ((w64 (a0.next + t3)).tmod a0.m) t17) a0.next []).length em22), (12, Value.bool (mhas (mput a0.kept ((w64 (a0.next + t3)).tmod a0.m) t17) a0.next))] mo HS ?_
   refine T.fn [(0, _), (10, _), (11, _), (12, _)] ⟨rfl, rfl, rfl, rfl, trivial⟩ ⟨.mv 0, .nc 58, .fa 59 fo106_3, .ld 60 4 Try.underlying104, .mv 0, .nc 62, .fa 63 fo106_2, .ld 64 4 Try.underlying3, .n2 61 65 rfl rfl rfl (fun w HS => X.lookup (z := .slice none 0 0) 5 Try.underlying104 Try.underlying3 ze39 HS rfl rfl rfl hu20 hm19), .mv 66, .n1 57 rfl rfl (fun w HS => X.extract rfl rfl), .n1 57 rfl rfl (fun w HS => X.extract rfl rfl), .as 67, .as 68, trivial⟩ (fun w HS => ?_)
   refine At.next (V.block ?_)
   replace HS := HS.pm [4, 5, 1, 6, 7, 0, 2, 3, 8]
   replace HS := reorder_Order.close trivial HS
   refine V.loop (σ := Int × Bool × reorder_Order × Option Addr × Nat × List Int) (fun kq (st : Int × Bool × reorder_Order × Option Addr × Nat × List Int) w => match st with | (x26, x27, x28, ra29, rc30, x31) => Sep.St [reorder_Order.at b0 x28, fsl 1 (.slice ra29 x31.length rc30) x31.length (x31.map (Value.int .u8)), fsl 1 (.slice at17_0 t17.length ct17_0) t17.length (t17.map (Value.int .u8)), fsl 1 (.slice ea14 (mget a0.kept ((w64 (a0.next + t3)).tmod a0.m) []).length em15) (mget a0.kept ((w64 (a0.next + t3)).tmod a0.m) []).length ((mget a0.kept ((w64 (a0.next + t3)).tmod a0.m) []).map (Value.int .u8)), R] w0 w ∧ reorder_Order_Put.l0 kq x26 x27 x28 x31 = some r ∧ kq ≤ k) (fun st => match st with | (x26, x27, x28, ra29, rc30, x31) => [(0, Value.pointer (some ⟨b0, 0, none⟩)), (10, Value.int .i64 x26), (11, Value.slice ra29 x31.length rc30), (12, Value.bool x27)]) k (0, mhas (mput a0.kept ((w64 (a0.next + t3)).tmod a0.m) t17) a0.next, ({ a0 with kept := mput a0.kept ((w64 (a0.next + t3)).tmod a0.m) t17 } : reorder_Order), ea21, em22, mget (mput a0.kept ((w64 (a0.next + t3)).tmod a0.m) t17) a0.next []) ⟨rfl, rfl, rfl, rfl, trivial⟩ ⟨HS, H, Nat.le_refl _⟩ ?_
   rintro kq32 ⟨x26, x27, x28, ra29, rc30, x31⟩ w ⟨HS, H, hk33⟩
   cases kq32 with
   | zero => exact absurd H (by simp [reorder_Order_Put.l0])
   | succ kq32 =>
    simp only [reorder_Order_Put.l0] at H
    refine V.seq (V.seq (V.region (W.mv rfl (W.nx ?_))))
    by_cases c34 : x27 = true
    ·replace H := ite_t c34 H
     refine V.condT (sb c34) (V.skip (At.next (V.seq (V.block (V.seq ?_)))))
     obtain ⟨b3_35, k3_35, a4_35, c4_35, d4_35, hi36, HS⟩ := reorder_Order.open HS
     refine V.dr [8] [] [(82, Value.pointer (some ⟨b0, 0, none⟩)), (83, Value.pointer (some ⟨b0, 0, none⟩)), (84, Value.pointer (some ⟨b0, 0 + 3, none⟩)), (85, Value.map (some b3_35)), (86, Value.pointer (some ⟨b0, 0, none⟩)), (87, Value.pointer (some ⟨b0, 0, none⟩)), (88, Value.pointer (some ⟨b0, 0 + 2, none⟩)), (89, Value.int .i64 x28.next)] mo HS ?_
     refine T.ev [(85, _), (89, _)] [] [0, 1, 2, 3, 4, 5, 6, 7] ⟨rfl, rfl, trivial⟩ ⟨.mv 0, .nc 82, .fa 83 fo106_3, .ld 84 0 Try.underlying104, .mv 0, .nc 86, .fa 87 fo106_2, .ld 88 0 Try.underlying3, trivial⟩ rfl (fun w HS => ?_)
     replace HS := HS.fr 2
     replace HS := St.tieM_del x28.next HS
     refine ⟨_, Y.delete 2 Try.underlying104 Try.underlying3 HS rfl rfl rfl, ?_⟩
     rintro _ w HS
     refine T.nn HS ?_
     refine T.fn [(0, _), (10, _), (11, _)] ⟨rfl, rfl, rfl, trivial⟩ trivial (fun w HS => ?_)
     refine At.next (V.seq (V.region (W.mv rfl (W.mv rfl (W.nc rfl (W.fa fo106_4 rfl (W.ld 1 HS Try.underlying30 rfl rfl rfl rfl (W.mv rfl (W.e (Y.lc (e := 39) (sz := 1) [Value.slice ra29 x31.length rc30] HS rfl rfl (fun _ => by kernel_rfl)) rfl ?_)))))))))
     rintro _ w ⟨lb37, rfl, HS⟩
     replace HS := St.put (A := tie (El.sl (El.int .u8)) ([]) (([] : List (List Int)))) (fun _ => tie.nil) HS
     replace HS := HS.more 7 rfl (fun _ t => t) fsl.pers
     replace HS := St.put (A := tie (El.int .u8) (x31.map (Value.int .u8)) x31) (fun _ => int_tie) HS
     replace HS := St.swap HS
     replace HS := St.sl_close (E := (El.int .u8)) HS
     replace HS := HS.fr 1
     replace HS := HS.fr 1
     replace HS := St.tie_cons HS
     obtain ⟨c40, H⟩ := ite_n H
     refine W.e (Y.app (xs := x28.ready) (ys := ([x31] : List (List Int))) 5 Try.underlying30 ap39 rfl (by decide) HS rfl rfl rfl (rdC.at 1 row_rd HS rfl) (St.tie_one 0 HS rfl) (by omega) (by omega)) rfl ?_
     rintro _ w ⟨ra41, rc42, rfl, HS⟩
     replace HS := HS.fr 6
     replace HS := St.tie_app 1 HS rfl
     refine W.nc rfl (W.fa fo106_4 rfl (W.st 4 4 HS inf30 rfl rfl rfl rfl rfl rfl fun w HS => ?_))
     refine W.nx (V.seq (V.dr [9, 12] [10, 11] [(100, Value.pointer (some ⟨b0, 0, none⟩)), (101, Value.pointer (some ⟨b0, 0, none⟩)), (102, Value.pointer (some ⟨b0, 0, none⟩)), (103, Value.pointer (some ⟨b0, 0 + 2, none⟩)), (104, Value.int .i64 x28.next), (105, Value.pointer (some ⟨b0, 0, none⟩)), (106, Value.pointer (some ⟨b0, 0, none⟩)), (107, Value.pointer (some ⟨b0, 0 + 0, none⟩)), (108, Value.int .i64 x28.m)] mo HS ?_))
     refine T.ev [(104, _), (108, _)] [] [1, 2, 3, 4, 5, 6, 7, 8] ⟨rfl, rfl, trivial⟩ ⟨.mv 0, .mv 0, .nc 101, .fa 102 fo106_2, .ld 103 4 Try.underlying3, .mv 0, .nc 105, .fa 106 fo106_0, .ld 107 4 Try.underlying3, trivial⟩ rfl (fun w HS => ?_)
     obtain ⟨t43, A44, H⟩ := bind_s H
     refine ⟨_, Y.cl Try.func45 (serial_Next.calls A44 HS.j0), ?_⟩
     rintro _ w ⟨rfl, HS⟩
     replace HS := HS.o0
     refine T.nm [(109, Value.int .i64 t43), (110, Value.pointer (some ⟨b0, 0, none⟩)), (111, Value.pointer (some ⟨b0, 0 + 2, none⟩))] HS ⟨.inl ⟨rfl, rfl⟩, ⟨.inr ⟨by decide, rfl⟩, ⟨.inr ⟨by decide, rfl⟩, trivial⟩⟩⟩ ?_
     refine T.ev [(109, _), (111, _)] [] [0, 10, 11] ⟨rfl, rfl, trivial⟩ ⟨.mv 0, .nc 100, .fa 110 fo106_2, trivial⟩ rfl (fun w HS => ?_)
     refine ⟨_, Y.sto 4 2 HS inf3 rfl rfl rfl rfl rfl rfl, ?_⟩
     rintro _ w HS
     refine T.nn HS ?_
     refine T.fn [(0, _), (10, _)] ⟨rfl, rfl, trivial⟩ trivial (fun w HS => ?_)
     refine At.next (V.region (W.mv rfl (W.r (X.add rfl rfl) rfl (W.as rfl (W.nil (At.blockEnd (At.next ?_)))))))
     have hm45 := St.tieM_has 3 t43 HS rfl
     replace HS := St.tieM_get 3 t43 (z := .slice none 0 0) (d := []) sl_zero HS rfl
     obtain ⟨ea47, em48, hu46, HS⟩ := St.sl_openF (Value.int .u8) (fun t => tie_int t) HS
     refine V.dr [] [] [(71, Value.pointer (some ⟨b0, 0, none⟩)), (72, Value.pointer (some ⟨b0, 0, none⟩)), (73, Value.pointer (some ⟨b0, 0 + 3, none⟩)), (74, Value.map (some b3_35)), (75, Value.pointer (some ⟨b0, 0, none⟩)), (76, Value.pointer (some ⟨b0, 0, none⟩)), (77, Value.pointer (some ⟨b0, 0 + 2, none⟩)), (78, Value.int .i64 t43), (79, Value.tuple #[Value.slice ea47 (mget (mdel x28.kept x28.next) t43 []).length em48, Value.bool (mhas (mdel x28.kept x28.next) t43)]), (70, Value.tuple #[Value.slice ea47 (mget (mdel x28.kept x28.next) t43 []).length em48, Value.bool (mhas (mdel x28.kept x28.next) t43)]), (80, Value.slice ea47 (mget (mdel x28.kept x28.next) t43 []).length em48), (81, Value.bool (mhas (mdel x28.kept x28.next) t43)), (11, Value.slice ea47 (mget (mdel x28.kept x28.next) t43 []).length em48), (12, Value.bool (mhas (mdel x28.kept x28.next) t43))] mo HS ?_
     refine T.fn [(0, _), (10, _), (11, _), (12, _)] ⟨rfl, rfl, rfl, rfl, trivial⟩ ⟨.mv 0, .nc 71, .fa 72 fo106_3, .ld 73 5 Try.underlying104, .mv 0, .nc 75, .fa 76 fo106_2, .ld 77 5 Try.underlying3, .n2 74 78 rfl rfl rfl (fun w HS => X.lookup (z := .slice none 0 0) 6 Try.underlying104 Try.underlying3 ze39 HS rfl rfl rfl hu46 hm45), .mv 79, .n1 70 rfl rfl (fun w HS => X.extract rfl rfl), .n1 70 rfl rfl (fun w HS => X.extract rfl rfl), .as 80, .as 81, trivial⟩ (fun w HS => ?_)
     replace HS := HS.pm [5, 6, 4, 7, 1, 0, 2, 3, 8, 9, 10, 11]
     replace HS := reorder_Order.close trivial HS
     replace HS := HS.pk [0, 1, 5, 6, 7] [2, 3, 4]
     exact At.round kq32 (by omega) (w64 (x26 + 1), mhas (mdel x28.kept x28.next) t43, ({ m := x28.m, window := x28.window, next := t43, kept := mdel x28.kept x28.next, ready := x28.ready ++ ([x31] : List (List Int)) } : reorder_Order), ea47, em48, mget (mdel x28.kept x28.next) t43 []) ⟨rfl, rfl, rfl, rfl, trivial⟩ ⟨HS, H, by omega⟩
    ·replace H := ite_f c34 H
     refine V.condF (sb (b_f c34)) (V.exit (At.thenExit (At.thenExit (At.blockExit (At.next (V.seq (V.region (W.mv rfl (W.as rfl (W.nx (V.ret ?_)))))))))))
     replace HS := HS.pk [0, 4] [1, 2, 3]
     cases H
     exact At.ret1 rfl rfl ⟨_, rfl, rfl, HS⟩
def reorder_Order_Gap.f (a0 : reorder_Order) : Option Bool := some (decide ((a0.kept.length : Int) > 0))
theorem reorder_Order_Gap.calls {a0 : reorder_Order} {R : As} {w0 w : World} {b0 : Nat} {b3_p0 : Nat} {k3_p0 : List (Int × Value)} {a4_p0 : Option Addr} {c4_p0 : Nat} {d4_p0 : List Value} {r : Bool} (H : reorder_Order_Gap.f a0 = some r) (HS : Sep.St [blk b0 (#[Value.int .i64 a0.m, Value.int .i64 a0.window, Value.int .i64 a0.next, Value.map (some b3_p0), Value.slice a4_p0 a0.ready.length c4_p0]) 106, mblk b3_p0 k3_p0, tieM (El.sl (El.int .u8)) k3_p0 a0.kept, row 39 1 (.slice a4_p0 a0.ready.length c4_p0) a0.ready.length d4_p0, tie (El.sl (El.int .u8)) d4_p0 a0.ready, R] w0 w)  : Calls Try.prog 104 #[Value.pointer (some ⟨b0, 0, none⟩)] w (Ret fun u w => u = Value.bool r ∧ Sep.St [blk b0 (#[Value.int .i64 a0.m, Value.int .i64 a0.window, Value.int .i64 a0.next, Value.map (some b3_p0), Value.slice a4_p0 a0.ready.length c4_p0]) 106, mblk b3_p0 k3_p0, tieM (El.sl (El.int .u8)) k3_p0 a0.kept, row 39 1 (.slice a4_p0 a0.ready.length c4_p0) a0.ready.length d4_p0, tie (El.sl (El.int .u8)) d4_p0 a0.ready, R] w0 w) := by
 unfold reorder_Order_Gap.f at H
 refine calls_enter Try.func104 rfl rfl ?_
 have H : _ = some r := H
 refine V.seq (V.region (W.as rfl (W.nx (V.seq (V.region (W.mv rfl (W.nc rfl (W.fa fo106_3 rfl (W.ld 0 HS Try.underlying104 rfl rfl rfl rfl (W.r (X.lenMap (m := a0.kept) 1 Try.underlying104 HS rfl (St.tieM_len 2 HS rfl) rfl) rfl (W.r (X.cmp (decide ((a0.kept.length : Int) > 0)) rfl rfl rfl rfl) rfl (W.as rfl (W.nx (V.ret ?_))))))))))))))
 cases H
 exact At.ret1 rfl rfl ⟨_, rfl, rfl, HS⟩
mutual
def arq_Arq_come.j2 (k : Nat)  (x10 : arq_Arq) (x11 : api_Ctl) : Option arq_Arq := ((arq_Arq_tell.f k x10 x11).bind fun t15 => some t15)
def arq_Arq_come.j3 (k : Nat) (x4 : arq_Arq) (x7 : api_Ctl) (x17 : Bool) : Option arq_Arq := (if x17 = true then (arq_Arq_come.j2 k ({ x4 with rejected := true } : arq_Arq) ({ Kind := 2, Ns := x7.Ns, Nr := x7.Nr, Poll := false } : api_Ctl)) else (arq_Arq_come.j2 k x4 x7))
def arq_Arq_come.j1 (k : Nat) (x4 : arq_Arq) (x7 : api_Ctl) : Option arq_Arq := ((reorder_Order_Gap.f x4.order).bind fun t28 => (if t28 = true then (arq_Arq_come.j3 k x4 x7 (!x4.rejected)) else (arq_Arq_come.j3 k x4 x7 false)))
def arq_Arq_come.j0 (k : Nat) (a1 : api_Ctl) (x4 : arq_Arq) : Option arq_Arq := ((reorder_Order_Next.f x4.order).bind fun t37 => (arq_Arq_come.j1 k x4 ({ Kind := 1, Ns := 0, Nr := t37, Poll := a1.Poll } : api_Ctl)))
end
def arq_Arq_come.f (k : Nat) (a0 : arq_Arq) (a1 : api_Ctl) (a2 : List Int) : Option arq_Arq := ((reorder_Order_Put.f k a0.order a1.Ns a2).bind fun t47 => (if t47.1 > 0 then (arq_Arq_come.j0 k a1 ({ a0 with rejected := false, order := t47.2 } : arq_Arq)) else (arq_Arq_come.j0 k a1 ({ a0 with order := t47.2 } : arq_Arq))))
theorem arq_Arq_come.calls {k : Nat} {a0 : arq_Arq} {a1 : api_Ctl} {a2 : List Int} {R : As} {w0 w : World} {b0 : Nat} {sa2 : Option Addr} {sc2 : Nat} {r : arq_Arq} (H : arq_Arq_come.f k a0 a1 a2 = some r) (HS : Sep.St [arq_Arq.at b0 a0, R] w0 w) (hr2 : rdC R 1 (.slice sa2 a2.length sc2) a2.length (a2.map (Value.int .u8))) : Calls Try.prog 91 #[Value.pointer (some ⟨b0, 0, none⟩), Value.agg #[Value.int .i64 a1.Kind, Value.int .i64 a1.Ns, Value.int .i64 a1.Nr, Value.bool a1.Poll], Value.slice sa2 a2.length sc2] w (Ret fun u w => u = Value.tuple #[] ∧ Sep.St [arq_Arq.at b0 r, R] w0 w) := by
 unfold arq_Arq_come.f at H
 refine calls_enter Try.func91 rfl rfl ?_
 have H : _ = some r := H
 refine V.seq (V.region (W.e (Y.box HS rfl) rfl ?_))
 rintro _ w ⟨nb1, rfl, HS⟩
 refine W.nx (V.meet (σ := arq_Arq) (fun st w => match st with | x4 => Sep.St [api_Ctl.at nb1 a1, arq_Arq.at b0 x4, R] w0 w ∧ ∃ kf5, kf5 ≤ k ∧ arq_Arq_come.j0 kf5 a1 x4 = some r) (fun st => match st with | x4 => [(0, Value.pointer (some ⟨b0, 0, none⟩)), (4, Value.pointer (some ⟨nb1, 0, none⟩))]) ?_ ?_)
 ·refine V.seq ?_
  replace HS := HS.fr 1
  obtain ⟨b8_45, b9_45, b10_45, a11_45, c11_45, d11_45, a12_45, c12_45, hi46, HS⟩ := arq_Arq.open HS
  refine V.dr [7] [8] [(7, Value.pointer (some ⟨b0, 0, none⟩)), (8, Value.pointer (some ⟨b0, 0, none⟩)), (9, Value.pointer (some ⟨b0, 0 + 9, none⟩)), (10, Value.pointer (some ⟨b9_45, 0, none⟩)), (11, Value.pointer (some ⟨nb1, 0 + 1, none⟩)), (12, Value.int .i64 a1.Ns), (13, Value.slice sa2 a2.length sc2)] mo HS ?_
  refine T.ev [(10, _), (12, _), (13, _)] [] [0, 1, 2, 3, 4, 5, 6] ⟨rfl, rfl, rfl, trivial⟩ ⟨.mv 0, .nc 7, .fa 8 fo82_9, .ld 9 0 Try.underlying76, .fa 4 fo42_1, .ld 11 7 Try.underlying3, .mv 2, trivial⟩ rfl (fun w HS => ?_)
  obtain ⟨t47, A48, H⟩ := bind_s H
  replace HS := HS.pm [2, 0, 1, 3, 4, 5, 6, 7, 8]
  refine ⟨_, Y.cl Try.func102 (reorder_Order_Put.calls A48 HS.j1 (rdC.part 7 hr2 rfl)), ?_⟩
  rintro _ w ⟨rfl, HS⟩
  replace HS := HS.o1
  refine T.nm [(14, Value.int .i64 t47.1), (15, Value.bool (decide (t47.1 > 0)))] HS ⟨.inl ⟨rfl, rfl⟩, ⟨.inr ⟨by decide, rfl⟩, trivial⟩⟩ ?_
  refine T.fn [(0, _), (4, _), (15, _)] ⟨rfl, rfl, rfl, trivial⟩ ⟨.n1 14 rfl rfl (fun w HS => X.cmp (decide (t47.1 > 0)) rfl rfl rfl rfl), trivial⟩ (fun w HS => ?_)
  refine At.next ?_
  by_cases c49 : t47.1 > 0
  ·replace H := ite_t c49 H
   refine V.condT (sb (decide_eq_true c49)) (V.region (W.mv rfl (W.nc rfl (W.fa fo82_7 rfl (W.st 1 7 HS inf4 rfl rfl rfl rfl rfl rfl fun w HS => ?_)))))
   refine W.nil ?_
   replace HS := HS.pm [7, 0, 1, 2, 3, 4, 5, 6, 8]
   replace HS := api_Ctl.close trivial HS
   replace HS := HS.pm [2, 3, 1, 4, 5, 6, 7, 0, 8]
   replace HS := arq_Arq.close trivial HS
   replace HS := HS.pk [1, 0, 2] []
   exact At.meet ({ a0 with rejected := false, order := t47.2 } : arq_Arq) ⟨rfl, rfl, trivial⟩ ⟨HS, k, by omega, H⟩
  ·replace H := ite_f c49 H
   refine V.condF (sb (decide_eq_false c49)) (V.skip ?_)
   replace HS := HS.pm [7, 0, 1, 2, 3, 4, 5, 6, 8]
   replace HS := api_Ctl.close trivial HS
   replace HS := HS.pm [2, 3, 1, 4, 5, 6, 7, 0, 8]
   replace HS := arq_Arq.close trivial HS
   replace HS := HS.pk [1, 0, 2] []
   exact At.meet ({ a0 with order := t47.2 } : arq_Arq) ⟨rfl, rfl, trivial⟩ ⟨HS, k, by omega, H⟩
 ·rintro x4 w ⟨HS, kf5, hkkf5, H⟩
  unfold arq_Arq_come.j0 at H
  refine V.meet (σ := Nat × api_Ctl) (fun st w => match st with | (nb6, x7) => Sep.St [api_Ctl.at nb6 x7, api_Ctl.at nb1 a1, arq_Arq.at b0 x4, R] w0 w ∧ ∃ kf8, kf8 ≤ kf5 ∧ arq_Arq_come.j1 kf8 x4 x7 = some r) (fun st => match st with | (nb6, x7) => [(0, Value.pointer (some ⟨b0, 0, none⟩)), (6, Value.pointer (some ⟨nb6, 0, none⟩))]) ?_ ?_
  ·replace HS := HS.fr 1
   obtain ⟨b8_31, b9_31, b10_31, a11_31, c11_31, d11_31, a12_31, c12_31, hi32, HS⟩ := arq_Arq.open HS
   replace HS := HS.fr 7
   obtain ⟨hi34, HS⟩ := api_Ctl.open HS
   refine V.dr [4, 8, 9] [7] [(19, Value.pointer (some ⟨b0, 0, none⟩)), (20, Value.pointer (some ⟨b0, 0, none⟩)), (21, Value.pointer (some ⟨b0, 0 + 9, none⟩)), (22, Value.pointer (some ⟨b9_31, 0, none⟩)), (24, Value.pointer (some ⟨nb1, 0 + 3, none⟩)), (25, Value.bool a1.Poll)] mo HS ?_
   refine T.two rfl rfl ⟨.mv 0, .nc 19, .fa 20 fo82_9, .ld 21 1 Try.underlying76, .fa 4 fo42_3, .ld 24 0 Try.underlying4, trivial⟩ (T.step (es := [8, 9]) _ [(22, Value.pointer (some ⟨b9_31, 0, none⟩))] rfl ⟨.inr ⟨rfl, rfl⟩, trivial⟩ (Or.inl rfl) (by intro d hd; cases hd; exact ⟨by decide, rfl, rfl⟩) [] [0, 1, 2, 3] rfl rfl rfl rfl rfl (fun w HS => ?_)) (T.step (es := [4, 9]) _ [] rfl trivial (Or.inl rfl) (by intro d hd; cases hd; exact ⟨by decide, rfl, rfl⟩) [7] [] rfl rfl rfl rfl rfl (fun w HS => ?_))
   ·have HS : Sep.St [blk nb1 (#[Value.int .i64 a1.Kind, Value.int .i64 a1.Ns, Value.int .i64 a1.Nr, Value.bool a1.Poll]) 42, blk b0 (#[Value.int .i64 x4.m, Value.int .i64 x4.t1, Value.int .i64 x4.n2, Value.int .i64 x4.size, Value.int .i64 x4.state, Value.int .i64 x4.tag, Value.int .i64 x4.tries, Value.bool x4.rejected, Value.pointer (some ⟨b8_31, 0, none⟩), Value.pointer (some ⟨b9_31, 0, none⟩), Value.pointer (some ⟨b10_31, 0, none⟩), Value.slice a11_31 x4.out.length c11_31, Value.slice a12_31 x4.inds.length c12_31, Value.int .i64 x4.sent, Value.int .i64 x4.acked, Value.int .i64 x4.lost]) 82, backlog_Log.at b8_31 x4.log, reorder_Order.at b9_31 x4.order, clock_Set.at b10_31 x4.timers, row 39 1 (.slice a11_31 x4.out.length c11_31) x4.out.length d11_31, tie (El.sl (El.int .u8)) d11_31 x4.out, row 3 1 (.slice a12_31 x4.inds.length c12_31) x4.inds.length (x4.inds.map (Value.int .i64)), R] w0 w := HS
    replace HS := HS.fr 3
    obtain ⟨b3_35, k3_35, a4_35, c4_35, d4_35, hi36, HS⟩ := reorder_Order.open HS
    obtain ⟨t37, A38, H⟩ := bind_s H
    refine ⟨_, Y.cl Try.func103 (reorder_Order_Next.calls A38 HS.j5), ?_⟩
    rintro _ w ⟨rfl, HS⟩
    replace HS := HS.o5
    refine T.nm [(23, Value.int .i64 t37), (26, Value.agg #[Value.int .i64 (1), Value.int .i64 (0), Value.int .i64 t37, Value.bool a1.Poll])] HS ⟨.inl ⟨rfl, rfl⟩, ⟨.inr ⟨by decide, rfl⟩, trivial⟩⟩ ?_
    refine T.ev [] [] [] trivial ⟨.fa 4 fo42_3, .ld 24 5 Try.underlying4, .n2 23 25 rfl rfl rfl (fun w HS => X.bd (Value.agg #[Value.int .i64 (1), Value.int .i64 (0), Value.int .i64 t37, Value.bool a1.Poll]) rfl (fun _ => by kernel_rfl)), trivial⟩ rfl (fun w HS => ?_)
    refine ⟨_, Y.alloc (z := Value.agg (#[Value.int .i64 (0), Value.int .i64 (0), Value.int .i64 (0), Value.bool false])) HS ze42, ?_⟩
    rintro _ w ⟨nb39, rfl, HS⟩
    refine T.nw HS ?_
    refine T.ev [(6, _), (26, _)] [] [5, 6, 7] ⟨rfl, rfl, trivial⟩ ⟨.fa 4 fo42_3, .ld 24 6 Try.underlying4, .n2 23 25 rfl rfl rfl (fun w HS => X.bd (Value.agg #[Value.int .i64 (1), Value.int .i64 (0), Value.int .i64 t37, Value.bool a1.Poll]) rfl (fun _ => by kernel_rfl)), trivial⟩ rfl (fun w HS => ?_)
    refine ⟨_, Y.storeSt (c' := #[Value.int .i64 (1), Value.int .i64 (0), Value.int .i64 t37, Value.bool a1.Poll]) 0 [Value.int .i64 (1), Value.int .i64 (0), Value.int .i64 t37, Value.bool a1.Poll] HS rfl inf42 rfl rfl rfl rfl rfl rfl, ?_⟩
    rintro _ w HS
    refine T.nn HS ?_
    refine T.fn [(0, _), (6, _)] ⟨rfl, rfl, trivial⟩ trivial (fun w HS => ?_)
    replace HS := api_Ctl.close trivial HS
    replace HS := HS.pm [6, 0, 1, 2, 3, 4, 5, 7, 8, 9, 10, 11, 12, 13]
    replace HS := api_Ctl.close trivial HS
    replace HS := HS.pm [2, 3, 4, 5, 6, 0, 1, 7, 8, 9, 10, 11, 12, 13]
    replace HS := reorder_Order.close trivial HS
    replace HS := HS.pm [3, 4, 0, 5, 6, 7, 8, 1, 2, 9]
    replace HS := arq_Arq.close trivial HS
    replace HS := HS.pk [2, 1, 0, 3] []
    exact At.meet (nb39, ({ Kind := 1, Ns := 0, Nr := t37, Poll := a1.Poll } : api_Ctl)) ⟨rfl, rfl, trivial⟩ ⟨HS, kf5, by omega, H⟩
   ·have HS : Sep.St [blk nb1 (#[Value.int .i64 a1.Kind, Value.int .i64 a1.Ns, Value.int .i64 a1.Nr, Value.bool a1.Poll]) 42, blk b0 (#[Value.int .i64 x4.m, Value.int .i64 x4.t1, Value.int .i64 x4.n2, Value.int .i64 x4.size, Value.int .i64 x4.state, Value.int .i64 x4.tag, Value.int .i64 x4.tries, Value.bool x4.rejected, Value.pointer (some ⟨b8_31, 0, none⟩), Value.pointer (some ⟨b9_31, 0, none⟩), Value.pointer (some ⟨b10_31, 0, none⟩), Value.slice a11_31 x4.out.length c11_31, Value.slice a12_31 x4.inds.length c12_31, Value.int .i64 x4.sent, Value.int .i64 x4.acked, Value.int .i64 x4.lost]) 82, backlog_Log.at b8_31 x4.log, reorder_Order.at b9_31 x4.order, clock_Set.at b10_31 x4.timers, row 39 1 (.slice a11_31 x4.out.length c11_31) x4.out.length d11_31, tie (El.sl (El.int .u8)) d11_31 x4.out, row 3 1 (.slice a12_31 x4.inds.length c12_31) x4.inds.length (x4.inds.map (Value.int .i64)), R] w0 w := HS
    refine ⟨_, Y.alloc (z := Value.agg (#[Value.int .i64 (0), Value.int .i64 (0), Value.int .i64 (0), Value.bool false])) HS ze42, ?_⟩
    rintro _ w ⟨nb40, rfl, HS⟩
    refine T.nw HS ?_
    refine T.ev [(22, _)] [] [0, 1, 2, 3] ⟨rfl, trivial⟩ ⟨.mv 0, .nc 19, .fa 20 fo82_9, .ld 21 2 Try.underlying76, .fa 4 fo42_3, .ld 24 1 Try.underlying4, trivial⟩ rfl (fun w HS => ?_)
    replace HS := HS.fr 4
    obtain ⟨b3_41, k3_41, a4_41, c4_41, d4_41, hi42, HS⟩ := reorder_Order.open HS
    obtain ⟨t43, A44, H⟩ := bind_s H
    refine ⟨_, Y.cl Try.func103 (reorder_Order_Next.calls A44 HS.j5), ?_⟩
    rintro _ w ⟨rfl, HS⟩
    replace HS := HS.o5
    refine T.nm [(23, Value.int .i64 t43), (26, Value.agg #[Value.int .i64 (1), Value.int .i64 (0), Value.int .i64 t43, Value.bool a1.Poll])] HS ⟨.inl ⟨rfl, rfl⟩, ⟨.inr ⟨by decide, rfl⟩, trivial⟩⟩ ?_
    refine T.ev [(6, _), (26, _)] [] [5, 6, 7] ⟨rfl, rfl, trivial⟩ ⟨.fa 4 fo42_3, .ld 24 6 Try.underlying4, .n2 23 25 rfl rfl rfl (fun w HS => X.bd (Value.agg #[Value.int .i64 (1), Value.int .i64 (0), Value.int .i64 t43, Value.bool a1.Poll]) rfl (fun _ => by kernel_rfl)), trivial⟩ rfl (fun w HS => ?_)
    refine ⟨_, Y.storeSt (c' := #[Value.int .i64 (1), Value.int .i64 (0), Value.int .i64 t43, Value.bool a1.Poll]) 5 [Value.int .i64 (1), Value.int .i64 (0), Value.int .i64 t43, Value.bool a1.Poll] HS rfl inf42 rfl rfl rfl rfl rfl rfl, ?_⟩
    rintro _ w HS
    refine T.nn HS ?_
    refine T.fn [(0, _), (6, _)] ⟨rfl, rfl, trivial⟩ trivial (fun w HS => ?_)
    replace HS := HS.pm [5, 0, 1, 2, 3, 4, 6, 7, 8, 9, 10, 11, 12, 13]
    replace HS := api_Ctl.close trivial HS
    replace HS := HS.pm [6, 0, 1, 2, 3, 4, 5, 7, 8, 9, 10, 11, 12, 13]
    replace HS := api_Ctl.close trivial HS
    replace HS := HS.pm [2, 3, 4, 5, 6, 0, 1, 7, 8, 9, 10, 11, 12, 13]
    replace HS := reorder_Order.close trivial HS
    replace HS := HS.pm [3, 4, 0, 5, 6, 7, 8, 1, 2, 9]
    replace HS := arq_Arq.close trivial HS
    replace HS := HS.pk [2, 1, 0, 3] []
    exact At.meet (nb40, ({ Kind := 1, Ns := 0, Nr := t43, Poll := a1.Poll } : api_Ctl)) ⟨rfl, rfl, trivial⟩ ⟨HS, kf5, by omega, H⟩
  ·rintro ⟨nb6, x7⟩ w ⟨HS, kf8, hkkf8, H⟩
   unfold arq_Arq_come.j1 at H
   refine V.meet (σ := arq_Arq × api_Ctl) (fun st w => match st with | (x10, x11) => Sep.St [api_Ctl.at nb6 x11, api_Ctl.at nb1 a1, arq_Arq.at b0 x10, R] w0 w ∧ ∃ kf12, kf12 ≤ kf8 ∧ arq_Arq_come.j2 kf12 x10 x11 = some r) (fun st => match st with | (x10, x11) => [(0, Value.pointer (some ⟨b0, 0, none⟩)), (6, Value.pointer (some ⟨nb6, 0, none⟩))]) ?_ ?_
   ·refine V.meet (σ := Bool) (fun st w => match st with | x17 => Sep.St [api_Ctl.at nb6 x7, api_Ctl.at nb1 a1, arq_Arq.at b0 x4, R] w0 w ∧ ∃ kf18, kf18 ≤ kf8 ∧ arq_Arq_come.j3 kf18 x4 x7 x17 = some r) (fun st => match st with | x17 => [(0, Value.pointer (some ⟨b0, 0, none⟩)), (6, Value.pointer (some ⟨nb6, 0, none⟩)), (38, Value.bool x17)]) ?_ ?_
    ·refine V.region (W.mv rfl (W.nc rfl ?_))
     replace HS := HS.fr 2
     obtain ⟨b8_24, b9_24, b10_24, a11_24, c11_24, d11_24, a12_24, c12_24, hi25, HS⟩ := arq_Arq.open HS
     refine W.fa fo82_9 rfl (W.ld 0 HS Try.underlying76 rfl rfl rfl rfl ?_)
     replace HS := HS.fr 2
     obtain ⟨b3_26, k3_26, a4_26, c4_26, d4_26, hi27, HS⟩ := reorder_Order.open HS
     obtain ⟨t28, A29, H⟩ := bind_s H
     refine W.e (Y.cl Try.func104 (reorder_Order_Gap.calls A29 HS.j5)) rfl ?_
     rintro _ w ⟨rfl, HS⟩
     replace HS := HS.o5
     refine W.mv rfl ?_
     by_cases c30 : t28 = true
     ·replace H := ite_t c30 H
      refine W.want 32 rfl (sb c30) (W.mv rfl (W.want 32 rfl (sb c30) (W.nc rfl (W.want 32 rfl (sb c30) (W.fa fo82_7 rfl (W.want 32 rfl (sb c30) (W.ld 5 HS Try.underlying4 rfl rfl rfl rfl (W.want 32 rfl (sb c30) (W.r (X.not rfl) rfl (W.r (X.pickT (sb c30) rfl) rfl (W.nil ?_)))))))))))
      replace HS := reorder_Order.close trivial HS
      replace HS := HS.pm [1, 2, 0, 3, 4, 5, 6, 7, 8, 9]
      replace HS := arq_Arq.close trivial HS
      replace HS := HS.pk [1, 2, 0, 3] []
      exact At.meet (!x4.rejected) ⟨rfl, rfl, rfl, trivial⟩ ⟨HS, kf8, by omega, H⟩
     ·replace H := ite_f c30 H
      refine W.pass 32 rfl (sb (b_f c30)) rfl rfl (W.pass 32 rfl (sb (b_f c30)) rfl rfl (W.pass 32 rfl (sb (b_f c30)) rfl rfl (W.pass 32 rfl (sb (b_f c30)) rfl rfl (W.pass 32 rfl (sb (b_f c30)) rfl rfl (W.r (X.pickF (sb (b_f c30)) rfl) rfl (W.nil ?_))))))
      replace HS := reorder_Order.close trivial HS
      replace HS := HS.pm [1, 2, 0, 3, 4, 5, 6, 7, 8, 9]
      replace HS := arq_Arq.close trivial HS
      replace HS := HS.pk [1, 2, 0, 3] []
      exact At.meet false ⟨rfl, rfl, rfl, trivial⟩ ⟨HS, kf8, by omega, H⟩
    ·rintro x17 w ⟨HS, kf18, hkkf18, H⟩
     unfold arq_Arq_come.j3 at H
     by_cases c19 : x17 = true
     ·replace H := ite_t c19 H
      refine V.condT (sb c19) (V.seq (V.region (W.mv rfl (W.nc rfl ?_))))
      replace HS := HS.fr 2
      obtain ⟨b8_20, b9_20, b10_20, a11_20, c11_20, d11_20, a12_20, c12_20, hi21, HS⟩ := arq_Arq.open HS
      refine W.fa fo82_7 rfl (W.st 0 7 HS inf4 rfl rfl rfl rfl rfl rfl fun w HS => ?_)
      refine W.nx (V.region ?_)
      replace HS := HS.fr 7
      obtain ⟨hi23, HS⟩ := api_Ctl.open HS
      refine W.fa fo42_0 rfl (W.st 0 0 HS inf3 rfl rfl rfl rfl rfl rfl fun w HS => ?_)
      refine W.fa fo42_3 rfl (W.st 0 3 HS inf4 rfl rfl rfl rfl rfl rfl fun w HS => ?_)
      refine W.nil ?_
      replace HS := api_Ctl.close trivial HS
      replace HS := HS.pm [1, 2, 3, 4, 5, 6, 7, 0, 8, 9]
      replace HS := arq_Arq.close trivial HS
      replace HS := HS.pk [1, 2, 0, 3] []
      exact At.meet (({ x4 with rejected := true } : arq_Arq), ({ Kind := 2, Ns := x7.Ns, Nr := x7.Nr, Poll := false } : api_Ctl)) ⟨rfl, rfl, trivial⟩ ⟨HS, kf18, by omega, H⟩
     ·replace H := ite_f c19 H
      refine V.condF (sb (b_f c19)) (V.skip ?_)
      exact At.meet (x4, x7) ⟨rfl, rfl, trivial⟩ ⟨HS, kf18, by omega, H⟩
   ·rintro ⟨x10, x11⟩ w ⟨HS, kf12, hkkf12, H⟩
    unfold arq_Arq_come.j2 at H
    refine V.region (W.mv rfl ?_)
    obtain ⟨hi14, HS⟩ := api_Ctl.open HS
    refine W.r (X.loadSt 0 [Value.int .i64 x11.Kind, Value.int .i64 x11.Ns, Value.int .i64 x11.Nr, Value.bool x11.Poll] HS rfl Try.underlying42 rfl inf42 rfl rfl) rfl ?_
    obtain ⟨t15, A16, H⟩ := bind_s H
    replace HS := HS.pm [2, 0, 1, 3]
    refine W.e (Y.cl Try.func46 (arq_Arq_tell.calls A16 HS.j1)) rfl ?_
    rintro _ w ⟨rfl, HS⟩
    replace HS := HS.o1
    refine W.nil ?_
    replace HS := HS.pk [0, 3] [1, 2]
    cases H
    exact At.end0 rfl ⟨_, rfl, rfl, HS⟩
mutual
def arq_Arq_numbered.j3 (k : Nat)  (x27 : arq_Arq) : Option arq_Arq := ((arq_Arq_pump.f k x27).bind fun t29 => some t29)
def arq_Arq_numbered.j2 (k : Nat) (a2 : api_Ctl) (a3 : List Int) (x25 : arq_Arq) : Option arq_Arq := (if a2.Kind = 0 then ((arq_Arq_come.f k x25 a2 a3).bind fun t34 => (arq_Arq_numbered.j3 k t34)) else (arq_Arq_numbered.j3 k x25))
def arq_Arq_numbered.j4 (k : Nat) (a2 : api_Ctl) (a3 : List Int) (x36 : arq_Arq) (x37 : Bool) : Option arq_Arq := (if x37 = true then ((arq_Arq_resend.f k x36).bind fun t40 => (arq_Arq_numbered.j2 k a2 a3 t40)) else (arq_Arq_numbered.j2 k a2 a3 x36))
def arq_Arq_numbered.j1 (k : Nat) (a0 : arq_Arq) (a2 : api_Ctl) (a3 : List Int) (x18 : Bool) : Option arq_Arq := (if x18 = true then ((arq_Arq_tell.f k a0 ({ Kind := 7, Ns := 0, Nr := 0, Poll := false } : api_Ctl)).bind fun t21 => ((arq_Arq_end.f t21).bind fun t23 => some t23)) else ((arq_Arq_acknowledged.f k a0 a2.Nr).bind fun t44 => (if t44.1 = true then (arq_Arq_numbered.j4 k a2 a3 t44.2 (decide (a2.Kind = 2))) else (arq_Arq_numbered.j4 k a2 a3 t44.2 false))))
def arq_Arq_numbered.j0 (k : Nat) (a0 : arq_Arq) (a2 : api_Ctl) (a3 : List Int) (x15 : Bool) : Option arq_Arq := (if x15 = true then some a0 else (if a2.Kind = 0 then (arq_Arq_numbered.j1 k a0 a2 a3 (decide ((a3.length : Int) > a0.size))) else (arq_Arq_numbered.j1 k a0 a2 a3 false)))
end
def arq_Arq_numbered.f (k : Nat) (a0 : arq_Arq) (a1 : Int) (a2 : api_Ctl) (a3 : List Int) : Option arq_Arq := (if a0.state = 0 then ((arq_Arq_put.f k a0 a1 ({ Kind := 6, Ns := 0, Nr := 0, Poll := false } : api_Ctl) ([] : List Int)).bind fun t7 => some t7) else (if a0.state = 2 then (arq_Arq_numbered.j0 k a0 a2 a3 (!(decide (a1 = a0.tag)))) else (arq_Arq_numbered.j0 k a0 a2 a3 true)))
theorem arq_Arq_numbered.calls {k : Nat} {a0 : arq_Arq} {a1 : Int} {a2 : api_Ctl} {a3 : List Int} {R : As} {w0 w : World} {b0 : Nat} {sa3 : Option Addr} {sc3 : Nat} {r : arq_Arq} (H : arq_Arq_numbered.f k a0 a1 a2 a3 = some r) (HS : Sep.St [arq_Arq.at b0 a0, R] w0 w) (hr3 : rdC R 1 (.slice sa3 a3.length sc3) a3.length (a3.map (Value.int .u8))) : Calls Try.prog 58 #[Value.pointer (some ⟨b0, 0, none⟩), Value.int .i64 a1, Value.agg #[Value.int .i64 a2.Kind, Value.int .i64 a2.Ns, Value.int .i64 a2.Nr, Value.bool a2.Poll], Value.slice sa3 a3.length sc3] w (Ret fun u w => u = Value.tuple #[] ∧ Sep.St [arq_Arq.at b0 r, R] w0 w) := by
 unfold arq_Arq_numbered.f at H
 refine calls_enter Try.func58 rfl rfl ?_
 have H : _ = some r := H
 refine V.seq (V.region (W.e (Y.box HS rfl) rfl ?_))
 rintro _ w ⟨nb1, rfl, HS⟩
 refine W.nx (V.seq (V.block (V.seq (V.region (W.mv rfl (W.nc rfl ?_))))))
 replace HS := HS.fr 1
 obtain ⟨b8_4, b9_4, b10_4, a11_4, c11_4, d11_4, a12_4, c12_4, hi5, HS⟩ := arq_Arq.open HS
 refine W.fa fo82_4 rfl (W.ld 0 HS Try.underlying3 rfl rfl rfl rfl (W.r (X.cmp (decide (a0.state = 0)) rfl rfl rfl rfl) rfl (W.as rfl (W.nx ?_))))
 by_cases c6 : a0.state = 0
 ·replace H := ite_t c6 H
  refine V.condT (sb (decide_eq_true c6)) (V.seq (V.region (W.mv rfl (W.mv rfl (W.r (X.bd (Value.agg #[Value.int .i64 (6), Value.int .i64 (0), Value.int .i64 (0), Value.bool false]) rfl (fun _ => by kernel_rfl)) rfl ?_)))))
  replace HS := arq_Arq.close trivial HS
  replace HS := row_nilF (Value.int .u8) 5 1 HS
  replace HS := St.row_freeze HS
  obtain ⟨t7, A8, H⟩ := bind_s H
  replace HS := HS.pm [1, 0, 2, 3]
  refine W.e (Y.cl Try.func74 (arq_Arq_put.calls A8 HS.j2)) rfl ?_
  rintro _ w ⟨rfl, HS⟩
  replace HS := HS.o1
  refine W.nx (V.ret (At.blockRet (At.thenRet ?_)))
  replace HS := HS.pk [0, 2] [1]
  cases H
  exact At.ret0 rfl ⟨_, rfl, rfl, HS⟩
 ·replace H := ite_f c6 H
  refine V.condF (sb (decide_eq_false c6)) (V.meet (σ := Bool) (fun st w => match st with | x15 => Sep.St [api_Ctl.at nb1 a2, arq_Arq.at b0 a0, R] w0 w ∧ ∃ kf16, kf16 ≤ k ∧ arq_Arq_numbered.j0 kf16 a0 a2 a3 x15 = some r) (fun st => match st with | x15 => [(0, Value.pointer (some ⟨b0, 0, none⟩)), (3, Value.slice sa3 a3.length sc3), (6, Value.pointer (some ⟨nb1, 0, none⟩)), (18, Value.bool x15)]) ?_ ?_)
  ·refine V.region (W.mv rfl (W.nc rfl (W.fa fo82_4 rfl (W.ld 0 HS Try.underlying3 rfl rfl rfl rfl (W.r (X.cmp (!(decide (a0.state = 2))) rfl rfl rfl rfl) rfl (W.mv rfl ?_))))))
   by_cases c52 : a0.state = 2
   ·replace H := ite_t c52 H
    refine W.want 24 rfl (sb (n_t (decide_eq_true c52))) (W.mv rfl (W.want 24 rfl (sb (n_t (decide_eq_true c52))) (W.mv rfl (W.want 24 rfl (sb (n_t (decide_eq_true c52))) (W.nc rfl (W.want 24 rfl (sb (n_t (decide_eq_true c52))) (W.fa fo82_5 rfl (W.want 24 rfl (sb (n_t (decide_eq_true c52))) (W.ld 0 HS Try.underlying3 rfl rfl rfl rfl (W.want 24 rfl (sb (n_t (decide_eq_true c52))) (W.r (X.cmp (!(decide (a1 = a0.tag))) rfl rfl rfl rfl) rfl (W.r (X.pickF (sb (n_t (decide_eq_true c52))) rfl) rfl (W.as rfl (W.nil ?_))))))))))))))
    replace HS := HS.pm [7, 0, 1, 2, 3, 4, 5, 6, 8]
    replace HS := api_Ctl.close trivial HS
    replace HS := HS.pm [1, 2, 3, 4, 5, 6, 7, 0, 8]
    replace HS := arq_Arq.close trivial HS
    replace HS := HS.pk [1, 0, 2] []
    exact At.meet (!(decide (a1 = a0.tag))) ⟨rfl, rfl, rfl, rfl, trivial⟩ ⟨HS, k, by omega, H⟩
   ·replace H := ite_f c52 H
    refine W.pass 24 rfl (sb (n_f (decide_eq_false c52))) rfl rfl (W.pass 24 rfl (sb (n_f (decide_eq_false c52))) rfl rfl (W.pass 24 rfl (sb (n_f (decide_eq_false c52))) rfl rfl (W.pass 24 rfl (sb (n_f (decide_eq_false c52))) rfl rfl (W.pass 24 rfl (sb (n_f (decide_eq_false c52))) rfl rfl (W.pass 24 rfl (sb (n_f (decide_eq_false c52))) rfl rfl (W.r (X.pickT (sb (n_f (decide_eq_false c52))) rfl) rfl (W.as rfl (W.nil ?_))))))))
    replace HS := HS.pm [7, 0, 1, 2, 3, 4, 5, 6, 8]
    replace HS := api_Ctl.close trivial HS
    replace HS := HS.pm [1, 2, 3, 4, 5, 6, 7, 0, 8]
    replace HS := arq_Arq.close trivial HS
    replace HS := HS.pk [1, 0, 2] []
    exact At.meet true ⟨rfl, rfl, rfl, rfl, trivial⟩ ⟨HS, k, by omega, H⟩
  ·rintro x15 w ⟨HS, kf16, hkkf16, H⟩
   unfold arq_Arq_numbered.j0 at H
   by_cases c17 : x15 = true
   ·replace H := ite_t c17 H
    refine V.condT (sb c17) (V.ret (At.blockRet (At.thenRet ?_)))
    replace HS := HS.pk [1, 2] [0]
    cases H
    exact At.ret0 rfl ⟨_, rfl, rfl, HS⟩
   ·replace H := ite_f c17 H
    refine V.condF (sb (b_f c17)) (V.meet (σ := Bool) (fun st w => match st with | x18 => Sep.St [api_Ctl.at nb1 a2, arq_Arq.at b0 a0, R] w0 w ∧ ∃ kf19, kf19 ≤ kf16 ∧ arq_Arq_numbered.j1 kf19 a0 a2 a3 x18 = some r) (fun st => match st with | x18 => [(0, Value.pointer (some ⟨b0, 0, none⟩)), (3, Value.slice sa3 a3.length sc3), (6, Value.pointer (some ⟨nb1, 0, none⟩)), (32, Value.bool x18)]) ?_ ?_)
    ·refine V.region ?_
     obtain ⟨hi48, HS⟩ := api_Ctl.open HS
     refine W.fa fo42_0 rfl (W.ld 0 HS Try.underlying3 rfl rfl rfl rfl (W.r (X.cmp (decide (a2.Kind = 0)) rfl rfl rfl rfl) rfl (W.mv rfl ?_)))
     by_cases c49 : a2.Kind = 0
     ·replace H := ite_t c49 H
      refine W.want 36 rfl (sb (decide_eq_true c49)) (W.mv rfl (W.want 36 rfl (sb (decide_eq_true c49)) (W.r (X.lenSl Try.underlying39 rfl) rfl (W.want 36 rfl (sb (decide_eq_true c49)) (W.mv rfl (W.want 36 rfl (sb (decide_eq_true c49)) (W.nc rfl (W.want 36 rfl (sb (decide_eq_true c49)) ?_))))))))
      replace HS := HS.fr 1
      obtain ⟨b8_50, b9_50, b10_50, a11_50, c11_50, d11_50, a12_50, c12_50, hi51, HS⟩ := arq_Arq.open HS
      refine W.fa fo82_3 rfl (W.want 36 rfl (sb (decide_eq_true c49)) (W.ld 0 HS Try.underlying3 rfl rfl rfl rfl (W.want 36 rfl (sb (decide_eq_true c49)) (W.r (X.cmp (decide ((a3.length : Int) > a0.size)) rfl rfl rfl rfl) rfl (W.r (X.pickT (sb (decide_eq_true c49)) rfl) rfl (W.as rfl (W.nil ?_)))))))
      replace HS := HS.pm [7, 0, 1, 2, 3, 4, 5, 6, 8]
      replace HS := api_Ctl.close trivial HS
      replace HS := HS.pm [1, 2, 3, 4, 5, 6, 7, 0, 8]
      replace HS := arq_Arq.close trivial HS
      replace HS := HS.pk [1, 0, 2] []
      exact At.meet (decide ((a3.length : Int) > a0.size)) ⟨rfl, rfl, rfl, rfl, trivial⟩ ⟨HS, kf16, by omega, H⟩
     ·replace H := ite_f c49 H
      refine W.pass 36 rfl (sb (decide_eq_false c49)) rfl rfl (W.pass 36 rfl (sb (decide_eq_false c49)) rfl rfl (W.pass 36 rfl (sb (decide_eq_false c49)) rfl rfl (W.pass 36 rfl (sb (decide_eq_false c49)) rfl rfl (W.pass 36 rfl (sb (decide_eq_false c49)) rfl rfl (W.pass 36 rfl (sb (decide_eq_false c49)) rfl rfl (W.pass 36 rfl (sb (decide_eq_false c49)) rfl rfl (W.r (X.pickF (sb (decide_eq_false c49)) rfl) rfl (W.as rfl (W.nil ?_)))))))))
      replace HS := api_Ctl.close trivial HS
      exact At.meet false ⟨rfl, rfl, rfl, rfl, trivial⟩ ⟨HS, kf16, by omega, H⟩
    ·rintro x18 w ⟨HS, kf19, hkkf19, H⟩
     unfold arq_Arq_numbered.j1 at H
     by_cases c20 : x18 = true
     ·replace H := ite_t c20 H
      refine V.condT (sb c20) (V.seq (V.region (W.mv rfl (W.r (X.bd (Value.agg #[Value.int .i64 (7), Value.int .i64 (0), Value.int .i64 (0), Value.bool false]) rfl (fun _ => by kernel_rfl)) rfl ?_))))
      obtain ⟨t21, A22, H⟩ := bind_s H
      replace HS := HS.pm [1, 0, 2]
      refine W.e (Y.cl Try.func46 (arq_Arq_tell.calls A22 HS.j1)) rfl ?_
      rintro _ w ⟨rfl, HS⟩
      replace HS := HS.o1
      refine W.nx (V.seq (V.region (W.mv rfl ?_)))
      obtain ⟨t23, A24, H⟩ := bind_s H
      refine W.e (Y.cl Try.func57 (arq_Arq_end.calls A24 HS.j1)) rfl ?_
      rintro _ w ⟨rfl, HS⟩
      replace HS := HS.o1
      refine W.nx (V.ret (At.blockRet (At.thenRet ?_)))
      replace HS := HS.pk [0, 2] [1]
      cases H
      exact At.ret0 rfl ⟨_, rfl, rfl, HS⟩
     ·replace H := ite_f c20 H
      refine V.condF (sb (b_f c20)) (V.skip (At.blockEnd (At.next (V.meet (σ := arq_Arq) (fun st w => match st with | x25 => Sep.St [api_Ctl.at nb1 a2, arq_Arq.at b0 x25, R] w0 w ∧ ∃ kf26, kf26 ≤ kf19 ∧ arq_Arq_numbered.j2 kf26 a2 a3 x25 = some r) (fun st => match st with | x25 => [(0, Value.pointer (some ⟨b0, 0, none⟩)), (3, Value.slice sa3 a3.length sc3), (6, Value.pointer (some ⟨nb1, 0, none⟩))]) ?_ ?_))))
      ·refine V.meet (σ := arq_Arq × Bool) (fun st w => match st with | (x36, x37) => Sep.St [api_Ctl.at nb1 a2, arq_Arq.at b0 x36, R] w0 w ∧ ∃ kf38, kf38 ≤ kf19 ∧ arq_Arq_numbered.j4 kf38 a2 a3 x36 x37 = some r) (fun st => match st with | (x36, x37) => [(0, Value.pointer (some ⟨b0, 0, none⟩)), (3, Value.slice sa3 a3.length sc3), (6, Value.pointer (some ⟨nb1, 0, none⟩)), (58, Value.bool x37)]) ?_ ?_
       ·refine V.region (W.mv rfl ?_)
        obtain ⟨hi43, HS⟩ := api_Ctl.open HS
        refine W.fa fo42_2 rfl (W.ld 0 HS Try.underlying3 rfl rfl rfl rfl ?_)
        obtain ⟨t44, A45, H⟩ := bind_s H
        replace HS := HS.pm [1, 0, 2]
        refine W.e (Y.cl Try.func90 (arq_Arq_acknowledged.calls A45 HS.j1)) rfl ?_
        rintro _ w ⟨rfl, HS⟩
        replace HS := HS.o1
        refine W.mv rfl ?_
        by_cases c46 : t44.1 = true
        ·replace H := ite_t c46 H
         refine W.want 54 rfl (sb c46) (W.fa fo42_0 rfl (W.want 54 rfl (sb c46) (W.ld 1 HS Try.underlying3 rfl rfl rfl rfl (W.want 54 rfl (sb c46) (W.r (X.cmp (decide (a2.Kind = 2)) rfl rfl rfl rfl) rfl (W.r (X.pickT (sb c46) rfl) rfl (W.nil ?_)))))))
         replace HS := HS.pm [1, 0, 2]
         replace HS := api_Ctl.close trivial HS
         exact At.meet (t44.2, decide (a2.Kind = 2)) ⟨rfl, rfl, rfl, rfl, trivial⟩ ⟨HS, kf19, by omega, H⟩
        ·replace H := ite_f c46 H
         refine W.pass 54 rfl (sb (b_f c46)) rfl rfl (W.pass 54 rfl (sb (b_f c46)) rfl rfl (W.pass 54 rfl (sb (b_f c46)) rfl rfl (W.r (X.pickF (sb (b_f c46)) rfl) rfl (W.nil ?_))))
         replace HS := HS.pm [1, 0, 2]
         replace HS := api_Ctl.close trivial HS
         exact At.meet (t44.2, false) ⟨rfl, rfl, rfl, rfl, trivial⟩ ⟨HS, kf19, by omega, H⟩
       ·rintro ⟨x36, x37⟩ w ⟨HS, kf38, hkkf38, H⟩
        unfold arq_Arq_numbered.j4 at H
        by_cases c39 : x37 = true
        ·replace H := ite_t c39 H
         refine V.condT (sb c39) (V.region (W.mv rfl ?_))
         obtain ⟨t40, A41, H⟩ := bind_s H
         replace HS := HS.pm [1, 0, 2]
         refine W.e (Y.cl Try.func71 (arq_Arq_resend.calls A41 HS.j1)) rfl ?_
         rintro _ w ⟨rfl, HS⟩
         replace HS := HS.o1
         refine W.nil ?_
         replace HS := HS.pk [1, 0, 2] []
         exact At.meet t40 ⟨rfl, rfl, rfl, trivial⟩ ⟨HS, kf38, by omega, H⟩
        ·replace H := ite_f c39 H
         refine V.condF (sb (b_f c39)) (V.skip ?_)
         exact At.meet x36 ⟨rfl, rfl, rfl, trivial⟩ ⟨HS, kf38, by omega, H⟩
      ·rintro x25 w ⟨HS, kf26, hkkf26, H⟩
       unfold arq_Arq_numbered.j2 at H
       refine V.meet (σ := arq_Arq) (fun st w => match st with | x27 => Sep.St [api_Ctl.at nb1 a2, arq_Arq.at b0 x27, R] w0 w ∧ ∃ kf28, kf28 ≤ kf26 ∧ arq_Arq_numbered.j3 kf28 x27 = some r) (fun st => match st with | x27 => [(0, Value.pointer (some ⟨b0, 0, none⟩))]) ?_ ?_
       ·refine V.seq (V.region ?_)
        obtain ⟨hi32, HS⟩ := api_Ctl.open HS
        refine W.fa fo42_0 rfl (W.ld 0 HS Try.underlying3 rfl rfl rfl rfl (W.r (X.cmp (decide (a2.Kind = 0)) rfl rfl rfl rfl) rfl (W.nx ?_)))
        by_cases c33 : a2.Kind = 0
        ·replace H := ite_t c33 H
         refine V.condT (sb (decide_eq_true c33)) (V.region (W.mv rfl (W.r (X.loadSt 0 [Value.int .i64 a2.Kind, Value.int .i64 a2.Ns, Value.int .i64 a2.Nr, Value.bool a2.Poll] HS rfl Try.underlying42 rfl inf42 rfl rfl) rfl (W.mv rfl ?_))))
         obtain ⟨t34, A35, H⟩ := bind_s H
         replace HS := HS.pm [1, 0, 2]
         refine W.e (Y.cl Try.func91 (arq_Arq_come.calls A35 HS.j1 (rdC.part 1 hr3 rfl))) rfl ?_
         rintro _ w ⟨rfl, HS⟩
         replace HS := HS.o1
         refine W.nil ?_
         replace HS := HS.pm [1, 0, 2]
         replace HS := api_Ctl.close trivial HS
         exact At.meet t34 ⟨rfl, trivial⟩ ⟨HS, kf26, by omega, H⟩
        ·replace H := ite_f c33 H
         refine V.condF (sb (decide_eq_false c33)) (V.skip ?_)
         replace HS := api_Ctl.close trivial HS
         exact At.meet x25 ⟨rfl, trivial⟩ ⟨HS, kf26, by omega, H⟩
       ·rintro x27 w ⟨HS, kf28, hkkf28, H⟩
        unfold arq_Arq_numbered.j3 at H
        refine V.region (W.mv rfl ?_)
        obtain ⟨t29, A30, H⟩ := bind_s H
        replace HS := HS.pm [1, 0, 2]
        refine W.e (Y.cl Try.func70 (arq_Arq_pump.calls A30 HS.j1)) rfl ?_
        rintro _ w ⟨rfl, HS⟩
        replace HS := HS.o1
        refine W.nil ?_
        replace HS := HS.pk [0, 2] [1]
        cases H
        exact At.end0 rfl ⟨_, rfl, rfl, HS⟩
mutual
def arq_Arq_Input.j1 (a0 : arq_Arq) (x32 : Bool) : Option arq_Arq := (if x32 = true then ((arq_Arq_end.f a0).bind fun t35 => some t35) else some a0)
def arq_Arq_Input.j0 (k : Nat) (a0 : arq_Arq) (a1 : List Int) (x8 : api_Ctl) (x9 : Int) (x10 : Int) : Option arq_Arq := (if x10 = 0 then (if x8.Kind = 3 then ((arq_Arq_asked.f k a0 (ior .i64 (w64 ((w64 (a1.getD (0 : Int).toNat 0)) * 2 ^ (min (8 : Int).toNat IntKind.i64.bits))) (w64 (a1.getD (1 : Int).toNat 0))) x8.Poll).bind fun t17 => some t17) else (if x8.Kind = 4 then (if (ior .i64 (w64 ((w64 (a1.getD (0 : Int).toNat 0)) * 2 ^ (min (8 : Int).toNat IntKind.i64.bits))) (w64 (a1.getD (1 : Int).toNat 0))) = a0.tag then ((arq_Arq_accepted.f k a0).bind fun t23 => some t23) else some a0) else (if x8.Kind = 5 then ((arq_Arq_closed.f k a0 (ior .i64 (w64 ((w64 (a1.getD (0 : Int).toNat 0)) * 2 ^ (min (8 : Int).toNat IntKind.i64.bits))) (w64 (a1.getD (1 : Int).toNat 0))) x8.Poll).bind fun t26 => some t26) else (if x8.Kind = 6 then ((arq_Arq_refused.f a0 (ior .i64 (w64 ((w64 (a1.getD (0 : Int).toNat 0)) * 2 ^ (min (8 : Int).toNat IntKind.i64.bits))) (w64 (a1.getD (1 : Int).toNat 0)))).bind fun t29 => some t29) else (if x8.Kind = 7 then (if (ior .i64 (w64 ((w64 (a1.getD (0 : Int).toNat 0)) * 2 ^ (min (8 : Int).toNat IntKind.i64.bits))) (w64 (a1.getD (1 : Int).toNat 0))) = a0.tag then (arq_Arq_Input.j1 a0 (decide (a0.state = 2))) else (arq_Arq_Input.j1 a0 false)) else (if 0 ≤ w64 (2 + x9) ∧ w64 (2 + x9) ≤ (a1.length : Int) ∧ (a1.length : Int) ≤ (a1.length : Int) then ((arq_Arq_numbered.f k a0 (ior .i64 (w64 ((w64 (a1.getD (0 : Int).toNat 0)) * 2 ^ (min (8 : Int).toNat IntKind.i64.bits))) (w64 (a1.getD (1 : Int).toNat 0))) x8 (cut a1 (w64 (2 + x9)) (a1.length : Int))).bind fun t41 => some t41) else none)))))) else some a0)
end
def arq_Arq_Input.f (k : Nat) (a0 : arq_Arq) (a1 : List Int) : Option arq_Arq := (if (a1.length : Int) < 2 then some a0 else (if 0 ≤ (0 : Int) ∧ (0 : Int) < (a1.length : Int) then (if 0 ≤ (1 : Int) ∧ (1 : Int) < (a1.length : Int) then (if 0 ≤ (2 : Int) ∧ (2 : Int) ≤ (a1.length : Int) ∧ (a1.length : Int) ≤ (a1.length : Int) then ((control_Read.f k (cut a1 (2 : Int) (a1.length : Int)) a0.m).bind fun t46 => (arq_Arq_Input.j0 k a0 a1 t46.1 t46.2.1 t46.2.2)) else none) else none) else none))
theorem arq_Arq_Input.calls {k : Nat} {a0 : arq_Arq} {a1 : List Int} {R : As} {w0 w : World} {b0 : Nat} {sa1 : Option Addr} {sc1 : Nat} {r : arq_Arq} (H : arq_Arq_Input.f k a0 a1 = some r) (HS : Sep.St [arq_Arq.at b0 a0, R] w0 w) (hr1 : rdC R 1 (.slice sa1 a1.length sc1) a1.length (a1.map (Value.int .u8))) : Calls Try.prog 24 #[Value.pointer (some ⟨b0, 0, none⟩), Value.slice sa1 a1.length sc1] w (Ret fun u w => u = Value.tuple #[] ∧ Sep.St [arq_Arq.at b0 r, R] w0 w) := by
 unfold arq_Arq_Input.f at H
 refine calls_enter Try.func24 rfl rfl ?_
 have H : _ = some r := H
 refine V.seq (V.seq (V.region (W.mv rfl (W.r (X.lenSl Try.underlying39 rfl) rfl (W.r (X.cmp (decide ((a1.length : Int) < 2)) rfl rfl rfl rfl) rfl (W.nx ?_))))))
 by_cases c2 : (a1.length : Int) < 2
 ·replace H := ite_t c2 H
  refine V.condT (sb (decide_eq_true c2)) (V.ret (At.thenRet ?_))
  cases H
  exact At.ret0 rfl ⟨_, rfl, rfl, HS⟩
 ·replace H := ite_f c2 H
  refine V.condF (sb (decide_eq_false c2)) (V.skip (At.next (V.seq ?_)))
  obtain ⟨c3, H⟩ := ite_n H
  obtain ⟨eb4, eo5, hh⟩ := (rdC.at 1 hr1 HS rfl).some (by decide) c3.1 c3.2; subst hh
  obtain ⟨c6, H⟩ := ite_n H
  refine V.dr [] [] [(11, Value.slice (some ⟨eb4, eo5, none⟩) a1.length sc1), (12, Value.pointer (some ⟨eb4, eo5 + (0 : Int).toNat * 1, none⟩)), (13, Value.int .u8 (a1.getD (0 : Int).toNat 0)), (14, Value.int .i64 (w64 (a1.getD (0 : Int).toNat 0))), (15, Value.int .i64 (w64 ((w64 (a1.getD (0 : Int).toNat 0)) * 2 ^ (min (8 : Int).toNat IntKind.i64.bits)))), (16, Value.slice (some ⟨eb4, eo5, none⟩) a1.length sc1), (17, Value.pointer (some ⟨eb4, eo5 + (1 : Int).toNat * 1, none⟩)), (18, Value.int .u8 (a1.getD (1 : Int).toNat 0)), (19, Value.int .i64 (w64 (a1.getD (1 : Int).toNat 0))), (20, Value.int .i64 (ior .i64 (w64 ((w64 (a1.getD (0 : Int).toNat 0)) * 2 ^ (min (8 : Int).toNat IntKind.i64.bits))) (w64 (a1.getD (1 : Int).toNat 0)))), (4, Value.int .i64 (ior .i64 (w64 ((w64 (a1.getD (0 : Int).toNat 0)) * 2 ^ (min (8 : Int).toNat IntKind.i64.bits))) (w64 (a1.getD (1 : Int).toNat 0))))] mo HS ?_
  refine T.fn [(0, _), (1, _), (4, _)] ⟨rfl, rfl, rfl, trivial⟩ ⟨.mv 1, .n1 11 rfl rfl (fun w HS => X.indexSl Try.underlying39 inf5 rfl rfl c3.1 c3.2), .n1 12 rfl rfl (fun w HS => X.load Try.underlying5 rfl rfl ((rdC.at 1 hr1 HS rfl).cellI c3.1 c3.2)), .n1 13 rfl rfl (fun w HS => X.conv Try.underlying5 Try.underlying3 rfl), .n1 14 rfl rfl (fun w HS => X.shl rfl rfl (by decide)), .mv 1, .n1 16 rfl rfl (fun w HS => X.indexSl Try.underlying39 inf5 rfl rfl c6.1 c6.2), .n1 17 rfl rfl (fun w HS => X.load Try.underlying5 rfl rfl ((rdC.at 1 hr1 HS rfl).cellI c6.1 c6.2)), .n1 18 rfl rfl (fun w HS => X.conv Try.underlying5 Try.underlying3 rfl), .n2 15 19 rfl rfl rfl (fun w HS => X.or rfl rfl), .as 20, trivial⟩ (fun w HS => ?_)
  refine At.next (V.meet (σ := Nat × api_Ctl × Int × Int) (fun st w => match st with | (nb7, x8, x9, x10) => Sep.St [api_Ctl.at nb7 x8, arq_Arq.at b0 a0, R] w0 w ∧ ∃ kf11, kf11 ≤ k ∧ arq_Arq_Input.j0 kf11 a0 a1 x8 x9 x10 = some r) (fun st => match st with | (nb7, x8, x9, x10) => [(0, Value.pointer (some ⟨b0, 0, none⟩)), (1, Value.slice (some ⟨eb4, eo5, none⟩) a1.length sc1), (4, Value.int .i64 (ior .i64 (w64 ((w64 (a1.getD (0 : Int).toNat 0)) * 2 ^ (min (8 : Int).toNat IntKind.i64.bits))) (w64 (a1.getD (1 : Int).toNat 0)))), (5, Value.pointer (some ⟨nb7, 0, none⟩)), (6, Value.int .i64 x9), (7, Value.int .i64 x10)]) ?_ ?_)
  ·obtain ⟨c43, H⟩ := ite_n H
   obtain ⟨b8_44, b9_44, b10_44, a11_44, c11_44, d11_44, a12_44, c12_44, hi45, HS⟩ := arq_Arq.open HS
   refine V.dr [6, 11, 12] [7, 8, 9, 10, 13, 14] [(22, Value.slice (some ⟨eb4, eo5, none⟩) a1.length sc1), (23, Value.slice (vaddr (some ⟨eb4, eo5, none⟩) sc1 (2 : Int).toNat 1) (cut a1 (2 : Int) (a1.length : Int)).length (sc1 - (2 : Int).toNat)), (24, Value.pointer (some ⟨b0, 0, none⟩)), (25, Value.pointer (some ⟨b0, 0, none⟩)), (26, Value.pointer (some ⟨b0, 0 + 0, none⟩)), (27, Value.int .i64 a0.m)] mo HS ?_
   refine T.two rfl rfl ⟨.mv 1, .n1 22 rfl rfl (fun w HS => X.slL Try.underlying39 inf5 rfl rfl c43), .mv 0, .nc 24, .fa 25 fo82_0, .ld 26 0 Try.underlying3, trivial⟩ (T.step (es := [11, 12]) _ [(23, Value.slice (vaddr (some ⟨eb4, eo5, none⟩) sc1 (2 : Int).toNat 1) (cut a1 (2 : Int) (a1.length : Int)).length (sc1 - (2 : Int).toNat)), (27, Value.int .i64 a0.m)] rfl ⟨.inr ⟨rfl, rfl⟩, ⟨.inr ⟨rfl, rfl⟩, trivial⟩⟩ (Or.inl rfl) (by intro d hd; cases hd; exact ⟨by decide, rfl, rfl⟩) [13, 14] [0, 1, 2, 3, 4, 5] rfl rfl rfl rfl rfl (fun w HS => ?_)) (T.step (es := [6, 12]) _ [] rfl trivial (Or.inl rfl) (by intro d hd; cases hd; exact ⟨by decide, rfl, rfl⟩) [7, 8, 9, 10, 13, 14] [] rfl rfl rfl rfl rfl (fun w HS => ?_))
   ·have HS : Sep.St [blk b0 (#[Value.int .i64 a0.m, Value.int .i64 a0.t1, Value.int .i64 a0.n2, Value.int .i64 a0.size, Value.int .i64 a0.state, Value.int .i64 a0.tag, Value.int .i64 a0.tries, Value.bool a0.rejected, Value.pointer (some ⟨b8_44, 0, none⟩), Value.pointer (some ⟨b9_44, 0, none⟩), Value.pointer (some ⟨b10_44, 0, none⟩), Value.slice a11_44 a0.out.length c11_44, Value.slice a12_44 a0.inds.length c12_44, Value.int .i64 a0.sent, Value.int .i64 a0.acked, Value.int .i64 a0.lost]) 82, backlog_Log.at b8_44 a0.log, reorder_Order.at b9_44 a0.order, clock_Set.at b10_44 a0.timers, row 39 1 (.slice a11_44 a0.out.length c11_44) a0.out.length d11_44, tie (El.sl (El.int .u8)) d11_44 a0.out, row 3 1 (.slice a12_44 a0.inds.length c12_44) a0.inds.length (a0.inds.map (Value.int .i64)), R] w0 w := HS
    obtain ⟨t46, A47, H⟩ := bind_s H
    refine ⟨_, Y.cl Try.func52 (control_Read.calls A47 HS.j0 (rdC.part 7 (rdC.subM hr1 c43) rfl)), ?_⟩
    rintro _ w ⟨rfl, HS⟩
    replace HS := HS.o0
    refine T.nm [(28, Value.tuple #[Value.agg #[Value.int .i64 t46.1.Kind, Value.int .i64 t46.1.Ns, Value.int .i64 t46.1.Nr, Value.bool t46.1.Poll], Value.int .i64 t46.2.1, Value.int .i64 t46.2.2]), (21, Value.tuple #[Value.agg #[Value.int .i64 t46.1.Kind, Value.int .i64 t46.1.Ns, Value.int .i64 t46.1.Nr, Value.bool t46.1.Poll], Value.int .i64 t46.2.1, Value.int .i64 t46.2.2]), (29, Value.agg #[Value.int .i64 t46.1.Kind, Value.int .i64 t46.1.Ns, Value.int .i64 t46.1.Nr, Value.bool t46.1.Poll]), (30, Value.int .i64 t46.2.1), (31, Value.int .i64 t46.2.2)] HS ⟨.inl ⟨rfl, rfl⟩, ⟨.inr ⟨by decide, rfl⟩, ⟨.inr ⟨by decide, rfl⟩, ⟨.inr ⟨by decide, rfl⟩, ⟨.inr ⟨by decide, rfl⟩, trivial⟩⟩⟩⟩⟩ ?_
    refine T.ev [] [13, 14] [] trivial ⟨.mv 28, .n1 21 rfl rfl (fun w HS => X.extract rfl rfl), .n1 21 rfl rfl (fun w HS => X.extract rfl rfl), .n1 21 rfl rfl (fun w HS => X.extract rfl rfl), trivial⟩ rfl (fun w HS => ?_)
    refine ⟨_, Y.alloc (z := Value.agg (#[Value.int .i64 (0), Value.int .i64 (0), Value.int .i64 (0), Value.bool false])) HS ze42, ?_⟩
    rintro _ w ⟨nb48, rfl, HS⟩
    refine T.nw HS ?_
    refine T.ev [(5, _), (29, _)] [] [7, 8] ⟨rfl, rfl, trivial⟩ ⟨.mv 28, .n1 21 rfl rfl (fun w HS => X.extract rfl rfl), .n1 21 rfl rfl (fun w HS => X.extract rfl rfl), .n1 21 rfl rfl (fun w HS => X.extract rfl rfl), trivial⟩ rfl (fun w HS => ?_)
    refine ⟨_, Y.storeSt (c' := #[Value.int .i64 t46.1.Kind, Value.int .i64 t46.1.Ns, Value.int .i64 t46.1.Nr, Value.bool t46.1.Poll]) 0 [Value.int .i64 t46.1.Kind, Value.int .i64 t46.1.Ns, Value.int .i64 t46.1.Nr, Value.bool t46.1.Poll] HS rfl inf42 rfl rfl rfl rfl rfl rfl, ?_⟩
    rintro _ w HS
    refine T.nm [(6, Value.int .i64 t46.2.1), (7, Value.int .i64 t46.2.2)] HS ⟨.inr ⟨by decide, rfl⟩, ⟨.inr ⟨by decide, rfl⟩, trivial⟩⟩ ?_
    refine T.fn [(0, _), (1, _), (4, _), (5, _), (6, _), (7, _)] ⟨rfl, rfl, rfl, rfl, rfl, rfl, trivial⟩ ⟨.n1 21 rfl rfl (fun w HS => X.extract rfl rfl), .n1 21 rfl rfl (fun w HS => X.extract rfl rfl), .as 30, .as 31, trivial⟩ (fun w HS => ?_)
    replace HS := api_Ctl.close trivial HS
    replace HS := HS.pm [1, 2, 3, 4, 5, 6, 7, 0, 8]
    replace HS := arq_Arq.close trivial HS
    replace HS := HS.pk [1, 0, 2] []
    exact At.meet (nb48, t46.1, t46.2.1, t46.2.2) ⟨rfl, rfl, rfl, rfl, rfl, rfl, trivial⟩ ⟨HS, k, by omega, H⟩
   ·have HS : Sep.St [blk b0 (#[Value.int .i64 a0.m, Value.int .i64 a0.t1, Value.int .i64 a0.n2, Value.int .i64 a0.size, Value.int .i64 a0.state, Value.int .i64 a0.tag, Value.int .i64 a0.tries, Value.bool a0.rejected, Value.pointer (some ⟨b8_44, 0, none⟩), Value.pointer (some ⟨b9_44, 0, none⟩), Value.pointer (some ⟨b10_44, 0, none⟩), Value.slice a11_44 a0.out.length c11_44, Value.slice a12_44 a0.inds.length c12_44, Value.int .i64 a0.sent, Value.int .i64 a0.acked, Value.int .i64 a0.lost]) 82, backlog_Log.at b8_44 a0.log, reorder_Order.at b9_44 a0.order, clock_Set.at b10_44 a0.timers, row 39 1 (.slice a11_44 a0.out.length c11_44) a0.out.length d11_44, tie (El.sl (El.int .u8)) d11_44 a0.out, row 3 1 (.slice a12_44 a0.inds.length c12_44) a0.inds.length (a0.inds.map (Value.int .i64)), R] w0 w := HS
    refine ⟨_, Y.alloc (z := Value.agg (#[Value.int .i64 (0), Value.int .i64 (0), Value.int .i64 (0), Value.bool false])) HS ze42, ?_⟩
    rintro _ w ⟨nb49, rfl, HS⟩
    refine T.nw HS ?_
    refine T.ev [(23, _), (27, _)] [13, 14] [0, 1, 2, 3, 4, 5] ⟨rfl, rfl, trivial⟩ ⟨.mv 1, .n1 22 rfl rfl (fun w HS => X.slL Try.underlying39 inf5 rfl rfl c43), .mv 0, .nc 24, .fa 25 fo82_0, .ld 26 1 Try.underlying3, trivial⟩ rfl (fun w HS => ?_)
    obtain ⟨t50, A51, H⟩ := bind_s H
    refine ⟨_, Y.cl Try.func52 (control_Read.calls A51 HS.j0 (rdC.part 8 (rdC.subM hr1 c43) rfl)), ?_⟩
    rintro _ w ⟨rfl, HS⟩
    replace HS := HS.o0
    refine T.nm [(28, Value.tuple #[Value.agg #[Value.int .i64 t50.1.Kind, Value.int .i64 t50.1.Ns, Value.int .i64 t50.1.Nr, Value.bool t50.1.Poll], Value.int .i64 t50.2.1, Value.int .i64 t50.2.2]), (21, Value.tuple #[Value.agg #[Value.int .i64 t50.1.Kind, Value.int .i64 t50.1.Ns, Value.int .i64 t50.1.Nr, Value.bool t50.1.Poll], Value.int .i64 t50.2.1, Value.int .i64 t50.2.2]), (29, Value.agg #[Value.int .i64 t50.1.Kind, Value.int .i64 t50.1.Ns, Value.int .i64 t50.1.Nr, Value.bool t50.1.Poll]), (30, Value.int .i64 t50.2.1), (31, Value.int .i64 t50.2.2)] HS ⟨.inl ⟨rfl, rfl⟩, ⟨.inr ⟨by decide, rfl⟩, ⟨.inr ⟨by decide, rfl⟩, ⟨.inr ⟨by decide, rfl⟩, ⟨.inr ⟨by decide, rfl⟩, trivial⟩⟩⟩⟩⟩ ?_
    refine T.ev [(5, _), (29, _)] [] [7, 8] ⟨rfl, rfl, trivial⟩ ⟨.mv 28, .n1 21 rfl rfl (fun w HS => X.extract rfl rfl), .n1 21 rfl rfl (fun w HS => X.extract rfl rfl), .n1 21 rfl rfl (fun w HS => X.extract rfl rfl), trivial⟩ rfl (fun w HS => ?_)
    refine ⟨_, Y.storeSt (c' := #[Value.int .i64 t50.1.Kind, Value.int .i64 t50.1.Ns, Value.int .i64 t50.1.Nr, Value.bool t50.1.Poll]) 0 [Value.int .i64 t50.1.Kind, Value.int .i64 t50.1.Ns, Value.int .i64 t50.1.Nr, Value.bool t50.1.Poll] HS rfl inf42 rfl rfl rfl rfl rfl rfl, ?_⟩
    rintro _ w HS
    refine T.nm [(6, Value.int .i64 t50.2.1), (7, Value.int .i64 t50.2.2)] HS ⟨.inr ⟨by decide, rfl⟩, ⟨.inr ⟨by decide, rfl⟩, trivial⟩⟩ ?_
    refine T.fn [(0, _), (1, _), (4, _), (5, _), (6, _), (7, _)] ⟨rfl, rfl, rfl, rfl, rfl, rfl, trivial⟩ ⟨.n1 21 rfl rfl (fun w HS => X.extract rfl rfl), .n1 21 rfl rfl (fun w HS => X.extract rfl rfl), .as 30, .as 31, trivial⟩ (fun w HS => ?_)
    replace HS := api_Ctl.close trivial HS
    replace HS := HS.pm [1, 2, 3, 4, 5, 6, 7, 0, 8]
    replace HS := arq_Arq.close trivial HS
    replace HS := HS.pk [1, 0, 2] []
    exact At.meet (nb49, t50.1, t50.2.1, t50.2.2) ⟨rfl, rfl, rfl, rfl, rfl, rfl, trivial⟩ ⟨HS, k, by omega, H⟩
  ·rintro ⟨nb7, x8, x9, x10⟩ w ⟨HS, kf11, hkkf11, H⟩
   unfold arq_Arq_Input.j0 at H
   refine V.seq (V.seq (V.region (W.mv rfl (W.r (X.cmp (!(decide (x10 = 0))) rfl rfl rfl rfl) rfl (W.nx ?_)))))
   by_cases c13 : x10 = 0
   ·replace H := ite_t c13 H
    refine V.condF (sb (n_t (decide_eq_true c13))) (V.skip (At.next (V.seq (V.region ?_))))
    obtain ⟨hi15, HS⟩ := api_Ctl.open HS
    refine W.fa fo42_0 rfl (W.ld 0 HS Try.underlying3 rfl rfl rfl rfl (W.nx (V.block (V.seq (V.region (W.r (X.cmp (decide (x8.Kind = 3)) rfl rfl rfl rfl) rfl (W.as rfl (W.nx ?_))))))))
    by_cases c16 : x8.Kind = 3
    ·replace H := ite_t c16 H
     refine V.condT (sb (decide_eq_true c16)) (V.region (W.mv rfl (W.mv rfl (W.fa fo42_3 rfl (W.ld 0 HS Try.underlying4 rfl rfl rfl rfl ?_)))))
     obtain ⟨t17, A18, H⟩ := bind_s H
     replace HS := HS.pm [1, 0, 2]
     refine W.e (Y.cl Try.func53 (arq_Arq_asked.calls A18 HS.j1)) rfl ?_
     rintro _ w ⟨rfl, HS⟩
     replace HS := HS.o1
     refine W.nil (At.blockEnd ?_)
     replace HS := HS.pk [0, 2] [1]
     cases H
     exact At.end0 rfl ⟨_, rfl, rfl, HS⟩
    ·replace H := ite_f c16 H
     refine V.condF (sb (decide_eq_false c16)) (V.seq (V.region (W.r (X.cmp (decide (x8.Kind = 4)) rfl rfl rfl rfl) rfl (W.as rfl (W.nx ?_)))))
     by_cases c19 : x8.Kind = 4
     ·replace H := ite_t c19 H
      refine V.condT (sb (decide_eq_true c19)) (V.seq (V.region (W.mv rfl (W.mv rfl (W.nc rfl ?_)))))
      replace HS := HS.fr 1
      obtain ⟨b8_20, b9_20, b10_20, a11_20, c11_20, d11_20, a12_20, c12_20, hi21, HS⟩ := arq_Arq.open HS
      refine W.fa fo82_5 rfl (W.ld 0 HS Try.underlying3 rfl rfl rfl rfl (W.r (X.cmp (decide ((ior .i64 (w64 ((w64 (a1.getD (0 : Int).toNat 0)) * 2 ^ (min (8 : Int).toNat IntKind.i64.bits))) (w64 (a1.getD (1 : Int).toNat 0))) = a0.tag)) rfl rfl rfl rfl) rfl (W.nx ?_)))
      by_cases c22 : (ior .i64 (w64 ((w64 (a1.getD (0 : Int).toNat 0)) * 2 ^ (min (8 : Int).toNat IntKind.i64.bits))) (w64 (a1.getD (1 : Int).toNat 0))) = a0.tag
      ·replace H := ite_t c22 H
       refine V.condT (sb (decide_eq_true c22)) (V.region (W.mv rfl ?_))
       replace HS := arq_Arq.close trivial HS
       obtain ⟨t23, A24, H⟩ := bind_s H
       refine W.e (Y.cl Try.func54 (arq_Arq_accepted.calls A24 HS.j1)) rfl ?_
       rintro _ w ⟨rfl, HS⟩
       replace HS := HS.o1
       refine W.nil (At.blockEnd ?_)
       replace HS := HS.pk [0, 2] [1]
       cases H
       exact At.end0 rfl ⟨_, rfl, rfl, HS⟩
      ·replace H := ite_f c22 H
       refine V.condF (sb (decide_eq_false c22)) (V.skip (At.blockEnd ?_))
       replace HS := arq_Arq.close trivial HS
       replace HS := HS.pk [0, 2] [1]
       cases H
       exact At.end0 rfl ⟨_, rfl, rfl, HS⟩
     ·replace H := ite_f c19 H
      refine V.condF (sb (decide_eq_false c19)) (V.seq (V.region (W.r (X.cmp (decide (x8.Kind = 5)) rfl rfl rfl rfl) rfl (W.as rfl (W.nx ?_)))))
      by_cases c25 : x8.Kind = 5
      ·replace H := ite_t c25 H
       refine V.condT (sb (decide_eq_true c25)) (V.region (W.mv rfl (W.mv rfl (W.fa fo42_3 rfl (W.ld 0 HS Try.underlying4 rfl rfl rfl rfl ?_)))))
       obtain ⟨t26, A27, H⟩ := bind_s H
       replace HS := HS.pm [1, 0, 2]
       refine W.e (Y.cl Try.func55 (arq_Arq_closed.calls A27 HS.j1)) rfl ?_
       rintro _ w ⟨rfl, HS⟩
       replace HS := HS.o1
       refine W.nil (At.blockEnd ?_)
       replace HS := HS.pk [0, 2] [1]
       cases H
       exact At.end0 rfl ⟨_, rfl, rfl, HS⟩
      ·replace H := ite_f c25 H
       refine V.condF (sb (decide_eq_false c25)) (V.seq (V.region (W.r (X.cmp (decide (x8.Kind = 6)) rfl rfl rfl rfl) rfl (W.as rfl (W.nx ?_)))))
       by_cases c28 : x8.Kind = 6
       ·replace H := ite_t c28 H
        refine V.condT (sb (decide_eq_true c28)) (V.region (W.mv rfl (W.mv rfl ?_)))
        obtain ⟨t29, A30, H⟩ := bind_s H
        replace HS := HS.pm [1, 0, 2]
        refine W.e (Y.cl Try.func56 (arq_Arq_refused.calls A30 HS.j1)) rfl ?_
        rintro _ w ⟨rfl, HS⟩
        replace HS := HS.o1
        refine W.nil (At.blockEnd ?_)
        replace HS := HS.pk [0, 2] [1]
        cases H
        exact At.end0 rfl ⟨_, rfl, rfl, HS⟩
       ·replace H := ite_f c28 H
        refine V.condF (sb (decide_eq_false c28)) (V.seq (V.region (W.r (X.cmp (decide (x8.Kind = 7)) rfl rfl rfl rfl) rfl (W.as rfl (W.nx ?_)))))
        by_cases c31 : x8.Kind = 7
        ·replace H := ite_t c31 H
         refine V.condT (sb (decide_eq_true c31)) (V.meet (σ := Bool) (fun st w => match st with | x32 => Sep.St [api_Ctl.at nb7 x8, arq_Arq.at b0 a0, R] w0 w ∧ arq_Arq_Input.j1 a0 x32 = some r) (fun st => match st with | x32 => [(0, Value.pointer (some ⟨b0, 0, none⟩)), (87, Value.bool x32)]) ?_ ?_)
         ·refine V.region (W.mv rfl (W.mv rfl (W.nc rfl ?_)))
          replace HS := HS.fr 1
          obtain ⟨b8_37, b9_37, b10_37, a11_37, c11_37, d11_37, a12_37, c12_37, hi38, HS⟩ := arq_Arq.open HS
          refine W.fa fo82_5 rfl (W.ld 0 HS Try.underlying3 rfl rfl rfl rfl (W.r (X.cmp (decide ((ior .i64 (w64 ((w64 (a1.getD (0 : Int).toNat 0)) * 2 ^ (min (8 : Int).toNat IntKind.i64.bits))) (w64 (a1.getD (1 : Int).toNat 0))) = a0.tag)) rfl rfl rfl rfl) rfl (W.mv rfl ?_)))
          by_cases c39 : (ior .i64 (w64 ((w64 (a1.getD (0 : Int).toNat 0)) * 2 ^ (min (8 : Int).toNat IntKind.i64.bits))) (w64 (a1.getD (1 : Int).toNat 0))) = a0.tag
          ·replace H := ite_t c39 H
           refine W.want 81 rfl (sb (decide_eq_true c39)) (W.mv rfl (W.want 81 rfl (sb (decide_eq_true c39)) (W.nc rfl (W.want 81 rfl (sb (decide_eq_true c39)) (W.fa fo82_4 rfl (W.want 81 rfl (sb (decide_eq_true c39)) (W.ld 0 HS Try.underlying3 rfl rfl rfl rfl (W.want 81 rfl (sb (decide_eq_true c39)) (W.r (X.cmp (decide (a0.state = 2)) rfl rfl rfl rfl) rfl (W.r (X.pickT (sb (decide_eq_true c39)) rfl) rfl (W.nil ?_)))))))))))
           replace HS := HS.pm [7, 0, 1, 2, 3, 4, 5, 6, 8]
           replace HS := api_Ctl.close trivial HS
           replace HS := HS.pm [1, 2, 3, 4, 5, 6, 7, 0, 8]
           replace HS := arq_Arq.close trivial HS
           replace HS := HS.pk [1, 0, 2] []
           exact At.meet (decide (a0.state = 2)) ⟨rfl, rfl, trivial⟩ ⟨HS, H⟩
          ·replace H := ite_f c39 H
           refine W.pass 81 rfl (sb (decide_eq_false c39)) rfl rfl (W.pass 81 rfl (sb (decide_eq_false c39)) rfl rfl (W.pass 81 rfl (sb (decide_eq_false c39)) rfl rfl (W.pass 81 rfl (sb (decide_eq_false c39)) rfl rfl (W.pass 81 rfl (sb (decide_eq_false c39)) rfl rfl (W.r (X.pickF (sb (decide_eq_false c39)) rfl) rfl (W.nil ?_))))))
           replace HS := HS.pm [7, 0, 1, 2, 3, 4, 5, 6, 8]
           replace HS := api_Ctl.close trivial HS
           replace HS := HS.pm [1, 2, 3, 4, 5, 6, 7, 0, 8]
           replace HS := arq_Arq.close trivial HS
           replace HS := HS.pk [1, 0, 2] []
           exact At.meet false ⟨rfl, rfl, trivial⟩ ⟨HS, H⟩
         ·rintro x32 w ⟨HS, H⟩
          unfold arq_Arq_Input.j1 at H
          by_cases c34 : x32 = true
          ·replace H := ite_t c34 H
           refine V.condT (sb c34) (V.region (W.mv rfl ?_))
           obtain ⟨t35, A36, H⟩ := bind_s H
           replace HS := HS.pm [1, 0, 2]
           refine W.e (Y.cl Try.func57 (arq_Arq_end.calls A36 HS.j1)) rfl ?_
           rintro _ w ⟨rfl, HS⟩
           replace HS := HS.o1
           refine W.nil (At.blockEnd ?_)
           replace HS := HS.pk [0, 2] [1]
           cases H
           exact At.end0 rfl ⟨_, rfl, rfl, HS⟩
          ·replace H := ite_f c34 H
           refine V.condF (sb (b_f c34)) (V.skip (At.blockEnd ?_))
           replace HS := HS.pk [1, 2] [0]
           cases H
           exact At.end0 rfl ⟨_, rfl, rfl, HS⟩
        ·replace H := ite_f c31 H
         refine V.condF (sb (decide_eq_false c31)) ?_
         obtain ⟨c40, H⟩ := ite_n H
         refine V.dr [7] [] [(36, Value.pointer (some ⟨b0, 0, none⟩)), (37, Value.int .i64 (ior .i64 (w64 ((w64 (a1.getD (0 : Int).toNat 0)) * 2 ^ (min (8 : Int).toNat IntKind.i64.bits))) (w64 (a1.getD (1 : Int).toNat 0)))), (38, Value.agg #[Value.int .i64 x8.Kind, Value.int .i64 x8.Ns, Value.int .i64 x8.Nr, Value.bool x8.Poll]), (39, Value.slice (some ⟨eb4, eo5, none⟩) a1.length sc1), (40, Value.int .i64 x9), (41, Value.int .i64 (w64 (2 + x9))), (42, Value.slice (vaddr (some ⟨eb4, eo5, none⟩) sc1 (w64 (2 + x9)).toNat 1) (cut a1 (w64 (2 + x9)) (a1.length : Int)).length (sc1 - (w64 (2 + x9)).toNat))] mo HS ?_
         refine T.ev [(36, _), (37, _), (38, _), (42, _)] [] [0, 1, 2, 3, 4, 5, 6] ⟨rfl, rfl, rfl, rfl, trivial⟩ ⟨.mv 0, .mv 4, .n1 5 rfl rfl (fun w HS => X.loadSt 0 [Value.int .i64 x8.Kind, Value.int .i64 x8.Ns, Value.int .i64 x8.Nr, Value.bool x8.Poll] HS rfl Try.underlying42 rfl inf42 rfl rfl), .mv 1, .mv 6, .n1 40 rfl rfl (fun w HS => X.add rfl rfl), .n2 39 41 rfl rfl rfl (fun w HS => X.slL Try.underlying39 inf5 rfl rfl c40), trivial⟩ rfl (fun w HS => ?_)
         obtain ⟨t41, A42, H⟩ := bind_s H
         replace HS := HS.pm [1, 0, 2]
         refine ⟨_, Y.cl Try.func58 (arq_Arq_numbered.calls A42 HS.j1 (rdC.part 1 (rdC.subM hr1 c40) rfl)), ?_⟩
         rintro _ w ⟨rfl, HS⟩
         replace HS := HS.o1
         refine T.nw HS ?_
         refine T.fn [] trivial trivial (fun w HS => ?_)
         refine At.blockEnd ?_
         replace HS := HS.pk [0, 2] [1]
         cases H
         exact At.end0 rfl ⟨_, rfl, rfl, HS⟩
   ·replace H := ite_f c13 H
    refine V.condT (sb (n_f (decide_eq_false c13))) (V.ret (At.thenRet ?_))
    replace HS := HS.pk [1, 2] [0]
    cases H
    exact At.ret0 rfl ⟨_, rfl, rfl, HS⟩
def arq_cut.f (a0 : Int) (a1 : Int) (a2 : Int) : Option Int := some (imax a1 (imin a0 a2))
theorem arq_cut.calls {a0 : Int} {a1 : Int} {a2 : Int} {R : As} {w0 w : World}  {r : Int} (H : arq_cut.f a0 a1 a2 = some r) (HS : Sep.St [R] w0 w)  : Calls Try.prog 41 #[Value.int .i64 a0, Value.int .i64 a1, Value.int .i64 a2] w (Ret fun u w => u = Value.int .i64 r ∧ Sep.St [R] w0 w) := by
 unfold arq_cut.f at H
 refine calls_enter Try.func41 rfl rfl ?_
 have H : _ = some r := H
 refine V.seq (V.region (W.as rfl (W.nx (V.seq (V.region (W.mv rfl (W.mv rfl (W.mv rfl (W.r (X.min2 rfl rfl) rfl (W.r (X.max2 rfl rfl) rfl (W.as rfl (W.nx (V.ret ?_)))))))))))))
 cases H
 exact At.ret1 rfl rfl ⟨_, rfl, rfl, HS⟩
mutual
def clock_Set_soonest.l0 : Nat → clock_Set → Int → Bool → Int → Option (Int × Bool)
 | 0, _, _, _, _ => none
 | k + 1, a0, x2, x3, x4 => (if x4 < 32 then (if 0 ≤ x4 ∧ x4 < 32 then (if (a0.left.getD x4.toNat 0) > 0 then (clock_Set_soonest.j1 a0 x2 x3 x4 (clock_Set_soonest.l0 k a0) (decide ((a0.left.getD x4.toNat 0) ≤ x2))) else (clock_Set_soonest.j1 a0 x2 x3 x4 (clock_Set_soonest.l0 k a0) false)) else none) else some (x2, x3))
def clock_Set_soonest.j1 (a0 : clock_Set) (x2 : Int) (x3 : Bool) (x4 : Int) (Lq11 : Int → Bool → Int → Option (Int × Bool)) (x9 : Bool) : Option (Int × Bool) := (if x9 = true then (Lq11 (a0.left.getD x4.toNat 0) true (w64 (x4 + 1))) else (Lq11 x2 x3 (w64 (x4 + 1))))
end
def clock_Set_soonest.f (k : Nat) (a0 : clock_Set) (a1 : Int) : Option (Int × Bool) := (clock_Set_soonest.l0 k a0 a1 false 0)
theorem clock_Set_soonest.calls {k : Nat} {a0 : clock_Set} {a1 : Int} {R : As} {w0 w : World} {b0 : Nat} {r : Int × Bool} (H : clock_Set_soonest.f k a0 a1 = some r) (HS : Sep.St [blk b0 (([Value.int .u32 a0.now] ++ a0.left.map (Value.int .i64)).toArray) 109, R] w0 w) (hv0 : a0.left.length = 32) : Calls Try.prog 80 #[Value.pointer (some ⟨b0, 0, none⟩), Value.int .i64 a1] w (Ret fun u w => u = Value.tuple #[Value.int .i64 r.1, Value.bool r.2] ∧ Sep.St [blk b0 (([Value.int .u32 a0.now] ++ a0.left.map (Value.int .i64)).toArray) 109, R] w0 w) := by
 unfold clock_Set_soonest.f at H
 refine calls_enter Try.func80 rfl rfl ?_
 have H : _ = some r := H
 refine V.seq (V.region (W.as rfl (W.as rfl (W.nx (V.seq (V.region (W.as rfl (W.nx (V.seq (V.seq (V.region (W.mv rfl (W.nc rfl (W.fa fo109_1 rfl (W.r (X.loadArr 0 HS rfl rfl Try.underlying107 rfl inf107 (by first | exact hv0 | (simp only [List.length_set]; exact hv0)) rfl) rfl (W.mv rfl (W.nx (V.block (V.loop (σ := Int × Bool × Int) (fun kq (st : Int × Bool × Int) w => match st with | (x2, x3, x4) => Sep.St [blk b0 (([Value.int .u32 a0.now] ++ a0.left.map (Value.int .i64)).toArray) 109, R] w0 w ∧ clock_Set_soonest.l0 kq a0 x2 x3 x4 = some r ∧ kq ≤ k) (fun st => match st with | (x2, x3, x4) => [(1, Value.int .i64 x2), (6, Value.bool x3), (12, Value.agg (a0.left.map (Value.int .i64)).toArray), (13, Value.int .i64 x4)]) k (a1, false, 0) ⟨rfl, rfl, rfl, rfl, trivial⟩ ⟨HS, H, Nat.le_refl _⟩ ?_)))))))))))))))))))
 rintro kq5 ⟨x2, x3, x4⟩ w ⟨HS, H, hk6⟩
 cases kq5 with
 | zero => exact absurd H (by simp [clock_Set_soonest.l0])
 | succ kq5 =>
  simp only [clock_Set_soonest.l0] at H
  refine V.seq (V.region (W.r (X.cmp (decide (x4 < 32)) rfl rfl rfl rfl) rfl (W.nx (V.seq ?_))))
  by_cases c7 : x4 < 32
  ·replace H := ite_t c7 H
   refine V.condT (sb (decide_eq_true c7)) (V.skip (At.next (V.seq (V.block (V.seq (V.region ?_))))))
   obtain ⟨c8, H⟩ := ite_n H
   refine W.r (X.indexArr Try.underlying107 Try.underlying3 rfl inf3 rfl rfl c8.1 c8.2 (by first | exact hv0 | (simp only [List.length_set]; exact hv0))) rfl (W.as rfl (W.nx (V.meet (σ := Bool) (fun st w => match st with | x9 => Sep.St [blk b0 (([Value.int .u32 a0.now] ++ a0.left.map (Value.int .i64)).toArray) 109, R] w0 w ∧ ∃ kl12, kl12 ≤ kq5 ∧ clock_Set_soonest.j1 a0 x2 x3 x4 (clock_Set_soonest.l0 kl12 a0) x9 = some r) (fun st => match st with | x9 => [(1, Value.int .i64 x2), (6, Value.bool x3), (8, Value.int .i64 (a0.left.getD x4.toNat 0)), (12, Value.agg (a0.left.map (Value.int .i64)).toArray), (13, Value.int .i64 x4), (22, Value.bool x9)]) ?_ ?_)))
   ·refine V.region (W.mv rfl (W.r (X.cmp (decide ((a0.left.getD x4.toNat 0) > 0)) rfl rfl rfl rfl) rfl (W.mv rfl ?_)))
    by_cases c14 : (a0.left.getD x4.toNat 0) > 0
    ·replace H := ite_t c14 H
     refine W.want 18 rfl (sb (decide_eq_true c14)) (W.mv rfl (W.want 18 rfl (sb (decide_eq_true c14)) (W.mv rfl (W.want 18 rfl (sb (decide_eq_true c14)) (W.r (X.cmp (decide ((a0.left.getD x4.toNat 0) ≤ x2)) rfl rfl rfl rfl) rfl (W.r (X.pickT (sb (decide_eq_true c14)) rfl) rfl (W.nil ?_)))))))
     exact At.meet (decide ((a0.left.getD x4.toNat 0) ≤ x2)) ⟨rfl, rfl, rfl, rfl, rfl, rfl, trivial⟩ ⟨HS, kq5, by omega, H⟩
    ·replace H := ite_f c14 H
     refine W.pass 18 rfl (sb (decide_eq_false c14)) rfl rfl (W.pass 18 rfl (sb (decide_eq_false c14)) rfl rfl (W.pass 18 rfl (sb (decide_eq_false c14)) rfl rfl (W.r (X.pickF (sb (decide_eq_false c14)) rfl) rfl (W.nil ?_))))
     exact At.meet false ⟨rfl, rfl, rfl, rfl, rfl, rfl, trivial⟩ ⟨HS, kq5, by omega, H⟩
   ·rintro x9 w ⟨HS, kl12, hkkl12, H⟩
    unfold clock_Set_soonest.j1 at H
    by_cases c13 : x9 = true
    ·replace H := ite_t c13 H
     refine V.condT (sb c13) (V.region (W.mv rfl (W.as rfl (W.as rfl (W.nil (At.blockEnd (At.next (V.region (W.r (X.add rfl rfl) rfl (W.mv rfl (W.nil ?_)))))))))))
     exact At.round kl12 (by omega) (a0.left.getD x4.toNat 0, true, w64 (x4 + 1)) ⟨rfl, rfl, rfl, rfl, trivial⟩ ⟨HS, H, by omega⟩
    ·replace H := ite_f c13 H
     refine V.condF (sb (b_f c13)) (V.skip (At.blockEnd (At.next (V.region (W.r (X.add rfl rfl) rfl (W.mv rfl (W.nil ?_)))))))
     exact At.round kl12 (by omega) (x2, x3, w64 (x4 + 1)) ⟨rfl, rfl, rfl, rfl, trivial⟩ ⟨HS, H, by omega⟩
  ·replace H := ite_f c7 H
   refine V.condF (sb (decide_eq_false c7)) (V.exit (At.thenExit (At.thenExit (At.blockExit (At.next (V.seq (V.region (W.mv rfl (W.mv rfl (W.as rfl (W.as rfl (W.nx (V.ret ?_)))))))))))))
   cases H
   exact At.ret2 rfl rfl rfl ⟨_, rfl, rfl, HS⟩
mutual
def clock_Set_pass.l0 : Nat → clock_Set → Int → Int → clock_Set → (List Int) → Option (List Int × clock_Set)
 | 0, _, _, _, _, _ => none
 | k + 1, a0, a1, x5, x6, x9 => (if x5 < 32 then (if 0 ≤ x5 ∧ x5 < 32 then (if (a0.left.getD x5.toNat 0) = 0 then (clock_Set_pass.l0 k a0 a1 (w64 (x5 + 1)) x6 x9) else (if (a0.left.getD x5.toNat 0) = a1 then (if (x9.length : Int) + ([x5] : List Int).length ≤ 1099511627776 then (clock_Set_pass.l0 k a0 a1 (w64 (x5 + 1)) ({ now := x6.now, left := x6.left.set x5.toNat (w64 ((a0.left.getD x5.toNat 0) - a1)) } : clock_Set) (x9 ++ ([x5] : List Int))) else none) else (clock_Set_pass.l0 k a0 a1 (w64 (x5 + 1)) ({ now := x6.now, left := x6.left.set x5.toNat (w64 ((a0.left.getD x5.toNat 0) - a1)) } : clock_Set) x9))) else none) else some (x9, x6))
end
def clock_Set_pass.f (k : Nat) (a0 : clock_Set) (a1 : Int) : Option (List Int × clock_Set) := (clock_Set_pass.l0 k a0 a1 0 a0 ([] : List Int))
theorem clock_Set_pass.calls {k : Nat} {a0 : clock_Set} {a1 : Int} {R : As} {w0 w : World} {b0 : Nat} {r : List Int × clock_Set} (H : clock_Set_pass.f k a0 a1 = some r) (HS : Sep.St [clock_Set.at b0 a0, R] w0 w)  : Calls Try.prog 81 #[Value.pointer (some ⟨b0, 0, none⟩), Value.int .i64 a1] w (Ret fun u w => ∃ (aq0 : Option Addr) (cq0 : Nat), u = Value.slice aq0 r.1.length cq0 ∧ Sep.St [row 3 1 (.slice aq0 r.1.length cq0) r.1.length (r.1.map (Value.int .i64)), clock_Set.at b0 r.2, R] w0 w) := by
 unfold clock_Set_pass.f at H
 refine calls_enter Try.func81 rfl rfl ?_
 have H : _ = some r := H
 refine V.seq (V.region (W.as rfl (W.nx (V.seq (V.region (W.as rfl (W.nx (V.seq (V.seq (V.region (W.mv rfl (W.nc rfl ?_))))))))))))
 obtain ⟨hi2, HS⟩ := clock_Set.open HS
 refine W.fa fo109_1 rfl (W.r (X.loadArr 0 HS rfl rfl Try.underlying107 rfl inf107 (by first | exact hi2 | (simp only [List.length_set]; exact hi2)) rfl) rfl (W.mv rfl (W.nx (V.block ?_))))
 replace HS := row_nilF (Value.int .i64) 3 1 HS
 replace HS := HS.pm [1, 0, 2]
 replace HS := clock_Set.close (by first | exact hi2 | (simp only [List.length_set]; exact hi2)) HS
 refine V.loop (σ := Int × clock_Set × Option Addr × Nat × List Int) (fun kq (st : Int × clock_Set × Option Addr × Nat × List Int) w => match st with | (x5, x6, ra7, rc8, x9) => Sep.St [clock_Set.at b0 x6, row 3 1 (.slice ra7 x9.length rc8) x9.length (x9.map (Value.int .i64)), R] w0 w ∧ clock_Set_pass.l0 kq a0 a1 x5 x6 x9 = some r ∧ kq ≤ k) (fun st => match st with | (x5, x6, ra7, rc8, x9) => [(0, Value.pointer (some ⟨b0, 0, none⟩)), (1, Value.int .i64 a1), (5, Value.slice ra7 x9.length rc8), (11, Value.agg (a0.left.map (Value.int .i64)).toArray), (12, Value.int .i64 x5)]) k (0, a0, none, 0, ([] : List Int)) ⟨rfl, rfl, rfl, rfl, rfl, trivial⟩ ⟨HS, H, Nat.le_refl _⟩ ?_
 rintro kq10 ⟨x5, x6, ra7, rc8, x9⟩ w ⟨HS, H, hk11⟩
 cases kq10 with
 | zero => exact absurd H (by simp [clock_Set_pass.l0])
 | succ kq10 =>
  simp only [clock_Set_pass.l0] at H
  refine V.seq (V.region (W.r (X.cmp (decide (x5 < 32)) rfl rfl rfl rfl) rfl (W.nx (V.seq ?_))))
  by_cases c12 : x5 < 32
  ·replace H := ite_t c12 H
   refine V.condT (sb (decide_eq_true c12)) (V.skip (At.next (V.seq (V.block (V.seq (V.region (W.mv rfl ?_)))))))
   obtain ⟨c13, H⟩ := ite_n H
   refine W.r (X.indexArr Try.underlying107 Try.underlying3 rfl inf3 rfl rfl c13.1 c13.2 (by first | exact hi2 | (simp only [List.length_set]; exact hi2))) rfl (W.as rfl (W.as rfl (W.nx (V.seq (V.seq (V.region (W.mv rfl (W.r (X.cmp (decide ((a0.left.getD x5.toNat 0) = 0)) rfl rfl rfl rfl) rfl (W.nx ?_)))))))))
   by_cases c14 : (a0.left.getD x5.toNat 0) = 0
   ·replace H := ite_t c14 H
    refine V.condT (sb (decide_eq_true c14)) (V.exit (At.thenExit (At.blockExit (At.next (V.region (W.r (X.add rfl rfl) rfl (W.mv rfl (W.nil ?_))))))))
    exact At.round kq10 (by omega) (w64 (x5 + 1), x6, ra7, rc8, x9) ⟨rfl, rfl, rfl, rfl, rfl, trivial⟩ ⟨HS, H, by omega⟩
   ·replace H := ite_f c14 H
    refine V.condF (sb (decide_eq_false c14)) (V.skip (At.next (V.seq (V.region (W.mv rfl (W.mv rfl (W.mv rfl (W.mv rfl (W.r (X.sub rfl rfl) rfl (W.nc rfl ?_))))))))))
    obtain ⟨hi16, HS⟩ := clock_Set.open HS
    refine W.fa fo109_1 rfl (W.r (X.indexAr Try.underlying107 inf3 rfl rfl c13.1 c13.2) rfl (W.en (Y.storeArr 0 HS rfl rfl inf3 rfl rfl c13.1 c13.2 (by first | exact hi16 | (simp only [List.length_set]; exact hi16))) rfl ?_))
    rintro _ w HS
    refine W.nx (V.seq (V.region (W.mv rfl (W.mv rfl (W.r (X.cmp (decide ((a0.left.getD x5.toNat 0) = a1)) rfl rfl rfl rfl) rfl (W.nx ?_))))))
    by_cases c17 : (a0.left.getD x5.toNat 0) = a1
    ·replace H := ite_t c17 H
     refine V.condT (sb (decide_eq_true c17)) (V.region (W.mv rfl (W.mv rfl (W.e (Y.ls (e := 3) (Value.int .i64) ([x5] : List Int) HS rfl rfl (fun _ => by kernel_rfl)) rfl ?_))))
     rintro _ w ⟨lb20, rfl, HS⟩
     obtain ⟨c21, H⟩ := ite_n H
     refine W.e (Y.appF (Value.int .i64) (fun _ => rfl) 2 Try.underlying34 ap3 rfl HS rfl rfl rfl (rdC.at 0 row_rd HS rfl) (by omega) (by omega)) rfl ?_
     rintro _ w ⟨ra22, rc23, rfl, HS⟩
     refine W.as rfl (W.nil (At.blockEnd (At.next (V.region (W.r (X.add rfl rfl) rfl (W.mv rfl (W.nil ?_)))))))
     replace HS := HS.pm [1, 0, 2, 3]
     replace HS := clock_Set.close (by first | exact hi16 | (simp only [List.length_set]; exact hi16)) HS
     replace HS := HS.pk [0, 2, 3] [1]
     exact At.round kq10 (by omega) (w64 (x5 + 1), ({ now := x6.now, left := x6.left.set x5.toNat (w64 ((a0.left.getD x5.toNat 0) - a1)) } : clock_Set), ra22, rc23, x9 ++ ([x5] : List Int)) ⟨rfl, rfl, rfl, rfl, rfl, trivial⟩ ⟨HS, H, by omega⟩
    ·replace H := ite_f c17 H
     refine V.condF (sb (decide_eq_false c17)) (V.skip (At.blockEnd (At.next (V.region (W.r (X.add rfl rfl) rfl (W.mv rfl (W.nil ?_)))))))
     replace HS := clock_Set.close (by first | exact hi16 | (simp only [List.length_set]; exact hi16)) HS
     exact At.round kq10 (by omega) (w64 (x5 + 1), ({ now := x6.now, left := x6.left.set x5.toNat (w64 ((a0.left.getD x5.toNat 0) - a1)) } : clock_Set), ra7, rc8, x9) ⟨rfl, rfl, rfl, rfl, rfl, trivial⟩ ⟨HS, H, by omega⟩
  ·replace H := ite_f c12 H
   refine V.condF (sb (decide_eq_false c12)) (V.exit (At.thenExit (At.thenExit (At.blockExit (At.next (V.seq (V.region (W.mv rfl (W.as rfl (W.nx (V.ret ?_)))))))))))
   replace HS := HS.pk [1, 0, 2] []
   cases H
   exact At.ret1 rfl rfl ⟨_, rfl, ra7, rc8, rfl, HS⟩
mutual
def clock_Set_Pass.l0 : Nat → Int → Int → Bool → clock_Set → (List Int) → Option (List Int × clock_Set)
 | 0, _, _, _, _, _ => none
 | k + 1, x7, x8, x9, x10, x13 => (if x9 = true then ((clock_Set_pass.f k x10 x8).bind fun t17 => (if (x13.length : Int) + t17.1.length ≤ 1099511627776 then ((clock_Set_soonest.f k t17.2 (w64 (x7 - x8))).bind fun t24 => (clock_Set_Pass.l0 k (w64 (x7 - x8)) t24.1 t24.2 t17.2 (x13 ++ t17.1))) else none)) else ((clock_Set_pass.f k x10 x7).bind fun t26 => some (x13, t26.2)))
end
def clock_Set_Pass.f (k : Nat) (a0 : clock_Set) (a1 : Int) : Option (List Int × clock_Set) := ((clock_Set_soonest.f k ({ now := IntKind.u32.wrap (a0.now + (IntKind.u32.wrap (imax (0) (imin a1 (1073741824))))), left := a0.left } : clock_Set) (imax (0) (imin a1 (1073741824)))).bind fun t4 => (clock_Set_Pass.l0 k (imax (0) (imin a1 (1073741824))) t4.1 t4.2 ({ now := IntKind.u32.wrap (a0.now + (IntKind.u32.wrap (imax (0) (imin a1 (1073741824))))), left := a0.left } : clock_Set) ([] : List Int)))
theorem clock_Set_Pass.calls {k : Nat} {a0 : clock_Set} {a1 : Int} {R : As} {w0 w : World} {b0 : Nat} {r : List Int × clock_Set} (H : clock_Set_Pass.f k a0 a1 = some r) (HS : Sep.St [clock_Set.at b0 a0, R] w0 w)  : Calls Try.prog 50 #[Value.pointer (some ⟨b0, 0, none⟩), Value.int .i64 a1] w (Ret fun u w => ∃ (aq0 : Option Addr) (cq0 : Nat), u = Value.slice aq0 r.1.length cq0 ∧ Sep.St [row 3 1 (.slice aq0 r.1.length cq0) r.1.length (r.1.map (Value.int .i64)), clock_Set.at b0 r.2, R] w0 w) := by
 unfold clock_Set_Pass.f at H
 refine calls_enter Try.func50 rfl rfl ?_
 have H : _ = some r := H
 refine V.seq (V.region (W.as rfl (W.nx (V.seq (V.region (W.mv rfl (W.r (X.min2 rfl rfl) rfl (W.r (X.max2 rfl rfl) rfl (W.as rfl (W.nx (V.seq (V.region (W.mv rfl (W.nc rfl ?_))))))))))))))
 obtain ⟨hi2, HS⟩ := clock_Set.open HS
 refine W.fa fo109_0 rfl (W.ld 0 HS Try.underlying80 rfl rfl rfl rfl (W.mv rfl (W.r (X.conv Try.underlying3 Try.underlying80 rfl) rfl (W.r (X.add rfl rfl) rfl (W.nc rfl (W.fa fo109_0 rfl (W.st 0 0 HS inf80 rfl rfl rfl rfl rfl rfl fun w HS => ?_)))))))
 refine W.nx (V.seq (V.region (W.as rfl (W.nx (V.seq (V.seq (V.region (W.mv rfl (W.mv rfl ?_)))))))))
 obtain ⟨t4, A5, H⟩ := bind_s H
 refine W.e (Y.cl Try.func80 (clock_Set_soonest.calls A5 HS.j1 (by first | exact hi2 | (simp only [List.length_set]; exact hi2)))) rfl ?_
 rintro _ w ⟨rfl, HS⟩
 replace HS := HS.o1
 refine W.mv rfl (W.r (X.extract rfl rfl) rfl (W.r (X.extract rfl rfl) rfl (W.as rfl (W.as rfl (W.nx (V.block ?_))))))
 replace HS := row_nilF (Value.int .i64) 3 1 HS
 replace HS := HS.pm [1, 0, 2]
 replace HS := clock_Set.close (by first | exact hi2 | (simp only [List.length_set]; exact hi2)) HS
 refine V.loop (σ := Int × Int × Bool × clock_Set × Option Addr × Nat × List Int) (fun kq (st : Int × Int × Bool × clock_Set × Option Addr × Nat × List Int) w => match st with | (x7, x8, x9, x10, ra11, rc12, x13) => Sep.St [clock_Set.at b0 x10, row 3 1 (.slice ra11 x13.length rc12) x13.length (x13.map (Value.int .i64)), R] w0 w ∧ clock_Set_Pass.l0 kq x7 x8 x9 x10 x13 = some r ∧ kq ≤ k) (fun st => match st with | (x7, x8, x9, x10, ra11, rc12, x13) => [(0, Value.pointer (some ⟨b0, 0, none⟩)), (1, Value.int .i64 x7), (5, Value.slice ra11 x13.length rc12), (6, Value.int .i64 x8), (7, Value.bool x9)]) k (imax (0) (imin a1 (1073741824)), t4.1, t4.2, ({ now := IntKind.u32.wrap (a0.now + (IntKind.u32.wrap (imax (0) (imin a1 (1073741824))))), left := a0.left } : clock_Set), none, 0, ([] : List Int)) ⟨rfl, rfl, rfl, rfl, rfl, trivial⟩ ⟨HS, H, Nat.le_refl _⟩ ?_
 rintro kq14 ⟨x7, x8, x9, x10, ra11, rc12, x13⟩ w ⟨HS, H, hk15⟩
 cases kq14 with
 | zero => exact absurd H (by simp [clock_Set_Pass.l0])
 | succ kq14 =>
  simp only [clock_Set_Pass.l0] at H
  refine V.seq (V.seq (V.region (W.mv rfl (W.nx ?_))))
  by_cases c16 : x9 = true
  ·replace H := ite_t c16 H
   refine V.condT (sb c16) (V.skip (At.next (V.seq (V.block (V.seq (V.region (W.mv rfl (W.mv rfl (W.mv rfl ?_)))))))))
   obtain ⟨t17, A18, H⟩ := bind_s H
   refine W.e (Y.cl Try.func81 (clock_Set_pass.calls A18 HS.j1)) rfl ?_
   rintro _ w ⟨at17_0, ct17_0, rfl, HS⟩
   replace HS := HS.o2
   obtain ⟨c19, H⟩ := ite_n H
   refine W.e (Y.appF (Value.int .i64) (fun _ => rfl) 2 Try.underlying34 ap3 rfl HS rfl rfl rfl (rdC.at 0 row_rd HS rfl) (by omega) (by omega)) rfl ?_
   rintro _ w ⟨ra20, rc21, rfl, HS⟩
   refine W.as rfl (W.nx (V.region (W.mv rfl (W.mv rfl (W.r (X.sub rfl rfl) rfl (W.as rfl (W.nil (At.blockEnd (At.next (V.region (W.mv rfl (W.mv rfl ?_))))))))))))
   replace HS := HS.fr 1
   obtain ⟨hi23, HS⟩ := clock_Set.open HS
   obtain ⟨t24, A25, H⟩ := bind_s H
   refine W.e (Y.cl Try.func80 (clock_Set_soonest.calls A25 HS.j1 (by first | exact hi23 | (simp only [List.length_set]; exact hi23)))) rfl ?_
   rintro _ w ⟨rfl, HS⟩
   replace HS := HS.o1
   refine W.mv rfl (W.r (X.extract rfl rfl) rfl (W.r (X.extract rfl rfl) rfl (W.as rfl (W.as rfl (W.nil ?_)))))
   replace HS := clock_Set.close (by first | exact hi23 | (simp only [List.length_set]; exact hi23)) HS
   replace HS := HS.pk [0, 2, 3] [1]
   exact At.round kq14 (by omega) (w64 (x7 - x8), t24.1, t24.2, t17.2, ra20, rc21, x13 ++ t17.1) ⟨rfl, rfl, rfl, rfl, rfl, trivial⟩ ⟨HS, H, by omega⟩
  ·replace H := ite_f c16 H
   refine V.condF (sb (b_f c16)) (V.exit (At.thenExit (At.thenExit (At.blockExit (At.next (V.seq (V.region (W.mv rfl (W.mv rfl ?_)))))))))
   obtain ⟨t26, A27, H⟩ := bind_s H
   refine W.e (Y.cl Try.func81 (clock_Set_pass.calls A27 HS.j1)) rfl ?_
   rintro _ w ⟨at26_0, ct26_0, rfl, HS⟩
   replace HS := HS.o2
   refine W.nx (V.seq (V.region (W.mv rfl (W.as rfl (W.nx (V.ret ?_))))))
   replace HS := HS.pk [2, 1, 3] [0]
   cases H
   exact At.ret1 rfl rfl ⟨_, rfl, ra11, rc12, rfl, HS⟩
def arq_Arq_late.f (k : Nat) (a0 : arq_Arq) : Option arq_Arq := (if (w64 (a0.tries + 1)) > a0.n2 then ((arq_Arq_end.f ({ a0 with tries := w64 (a0.tries + 1) } : arq_Arq)).bind fun t11 => some t11) else ((arq_Arq_start.f ({ a0 with tries := w64 (a0.tries + 1) } : arq_Arq)).bind fun t13 => (if t13.state = 1 then ((arq_Arq_tell.f k t13 ({ Kind := 3, Ns := 0, Nr := 0, Poll := true } : api_Ctl)).bind fun t18 => some t18) else (if t13.state = 3 then ((arq_Arq_tell.f k t13 ({ Kind := 5, Ns := 0, Nr := 0, Poll := true } : api_Ctl)).bind fun t21 => some t21) else (if t13.state = 2 then ((backlog_Log_Out.f k t13.log).bind fun t26 => (if (t26.length : Int) > 0 then (if 0 ≤ (0 : Int) ∧ (0 : Int) < (t26.length : Int) then ((arq_Arq_repeat.f k t13 (t26.getD (0 : Int).toNat 0) true).bind fun t32 => some t32) else none) else some t13)) else some t13)))))
theorem arq_Arq_late.calls {k : Nat} {a0 : arq_Arq} {R : As} {w0 w : World} {b0 : Nat} {r : arq_Arq} (H : arq_Arq_late.f k a0 = some r) (HS : Sep.St [arq_Arq.at b0 a0, R] w0 w)  : Calls Try.prog 51 #[Value.pointer (some ⟨b0, 0, none⟩)] w (Ret fun u w => u = Value.tuple #[] ∧ Sep.St [arq_Arq.at b0 r, R] w0 w) := by
 unfold arq_Arq_late.f at H
 refine calls_enter Try.func51 rfl rfl ?_
 have H : _ = some r := H
 refine V.seq (V.region (W.mv rfl (W.nc rfl ?_)))
 obtain ⟨b8_1, b9_1, b10_1, a11_1, c11_1, d11_1, a12_1, c12_1, hi2, HS⟩ := arq_Arq.open HS
 refine W.fa fo82_6 rfl (W.ld 0 HS Try.underlying3 rfl rfl rfl rfl (W.r (X.add rfl rfl) rfl (W.nc rfl (W.fa fo82_6 rfl (W.st 0 6 HS inf3 rfl rfl rfl rfl rfl rfl fun w HS => ?_)))))
 refine W.nx (V.seq (V.seq (V.dr [] [] [(10, Value.pointer (some ⟨b0, 0, none⟩)), (11, Value.pointer (some ⟨b0, 0, none⟩)), (12, Value.pointer (some ⟨b0, 0 + 6, none⟩)), (13, Value.int .i64 (w64 (a0.tries + 1))), (14, Value.pointer (some ⟨b0, 0, none⟩)), (15, Value.pointer (some ⟨b0, 0, none⟩)), (16, Value.pointer (some ⟨b0, 0 + 2, none⟩)), (17, Value.int .i64 a0.n2), (18, Value.bool (decide ((w64 (a0.tries + 1)) > a0.n2)))] mo HS ?_)))
 refine T.fn [(0, _), (18, _)] ⟨rfl, rfl, trivial⟩ ⟨.mv 0, .nc 10, .fa 11 fo82_6, .ld 12 0 Try.underlying3, .mv 0, .nc 14, .fa 15 fo82_2, .ld 16 0 Try.underlying3, .n2 13 17 rfl rfl rfl (fun w HS => X.cmp (decide ((w64 (a0.tries + 1)) > a0.n2)) rfl rfl rfl rfl), trivial⟩ (fun w HS => ?_)
 refine At.next ?_
 by_cases c10 : (w64 (a0.tries + 1)) > a0.n2
 ·replace H := ite_t c10 H
  refine V.condT (sb (decide_eq_true c10)) (V.seq (V.region (W.mv rfl ?_)))
  replace HS := arq_Arq.close trivial HS
  obtain ⟨t11, A12, H⟩ := bind_s H
  refine W.e (Y.cl Try.func57 (arq_Arq_end.calls A12 HS.j1)) rfl ?_
  rintro _ w ⟨rfl, HS⟩
  replace HS := HS.o1
  refine W.nx (V.ret (At.thenRet ?_))
  cases H
  exact At.ret0 rfl ⟨_, rfl, rfl, HS⟩
 ·replace H := ite_f c10 H
  refine V.condF (sb (decide_eq_false c10)) (V.skip (At.next (V.seq (V.region (W.mv rfl ?_)))))
  replace HS := arq_Arq.close trivial HS
  obtain ⟨t13, A14, H⟩ := bind_s H
  refine W.e (Y.cl Try.func47 (arq_Arq_start.calls A14 HS.j1)) rfl ?_
  rintro _ w ⟨rfl, HS⟩
  replace HS := HS.o1
  refine W.nx (V.seq (V.region (W.mv rfl (W.nc rfl ?_))))
  obtain ⟨b8_15, b9_15, b10_15, a11_15, c11_15, d11_15, a12_15, c12_15, hi16, HS⟩ := arq_Arq.open HS
  refine W.fa fo82_4 rfl (W.ld 0 HS Try.underlying3 rfl rfl rfl rfl (W.nx (V.block (V.seq (V.region (W.r (X.cmp (decide (t13.state = 1)) rfl rfl rfl rfl) rfl (W.as rfl (W.nx ?_))))))))
  by_cases c17 : t13.state = 1
  ·replace H := ite_t c17 H
   refine V.condT (sb (decide_eq_true c17)) (V.region (W.mv rfl (W.r (X.bd (Value.agg #[Value.int .i64 (3), Value.int .i64 (0), Value.int .i64 (0), Value.bool true]) rfl (fun _ => by kernel_rfl)) rfl ?_)))
   replace HS := arq_Arq.close trivial HS
   obtain ⟨t18, A19, H⟩ := bind_s H
   refine W.e (Y.cl Try.func46 (arq_Arq_tell.calls A19 HS.j1)) rfl ?_
   rintro _ w ⟨rfl, HS⟩
   replace HS := HS.o1
   refine W.nil (At.blockEnd ?_)
   cases H
   exact At.end0 rfl ⟨_, rfl, rfl, HS⟩
  ·replace H := ite_f c17 H
   refine V.condF (sb (decide_eq_false c17)) (V.seq (V.region (W.r (X.cmp (decide (t13.state = 3)) rfl rfl rfl rfl) rfl (W.as rfl (W.nx ?_)))))
   by_cases c20 : t13.state = 3
   ·replace H := ite_t c20 H
    refine V.condT (sb (decide_eq_true c20)) (V.region (W.mv rfl (W.r (X.bd (Value.agg #[Value.int .i64 (5), Value.int .i64 (0), Value.int .i64 (0), Value.bool true]) rfl (fun _ => by kernel_rfl)) rfl ?_)))
    replace HS := arq_Arq.close trivial HS
    obtain ⟨t21, A22, H⟩ := bind_s H
    refine W.e (Y.cl Try.func46 (arq_Arq_tell.calls A22 HS.j1)) rfl ?_
    rintro _ w ⟨rfl, HS⟩
    replace HS := HS.o1
    refine W.nil (At.blockEnd ?_)
    cases H
    exact At.end0 rfl ⟨_, rfl, rfl, HS⟩
   ·replace H := ite_f c20 H
    refine V.condF (sb (decide_eq_false c20)) (V.seq (V.region (W.r (X.cmp (decide (t13.state = 2)) rfl rfl rfl rfl) rfl (W.as rfl (W.nx ?_)))))
    by_cases c23 : t13.state = 2
    ·replace H := ite_t c23 H
     refine V.condT (sb (decide_eq_true c23)) (V.seq (V.region (W.mv rfl (W.nc rfl (W.fa fo82_8 rfl (W.ld 0 HS Try.underlying74 rfl rfl rfl rfl ?_))))))
     replace HS := HS.fr 1
     obtain ⟨a5_24, c5_24, d5_24, hi25, HS⟩ := backlog_Log.open HS
     obtain ⟨t26, A27, H⟩ := bind_s H
     refine W.e (Y.cl Try.func82 (backlog_Log_Out.calls A27 HS.j3)) rfl ?_
     rintro _ w ⟨at26_0, ct26_0, rfl, HS⟩
     replace HS := HS.o4
     refine W.as rfl (W.nx (V.seq (V.region (W.mv rfl (W.r (X.lenSl Try.underlying34 rfl) rfl (W.r (X.cmp (decide ((t26.length : Int) > 0)) rfl rfl rfl rfl) rfl (W.nx ?_)))))))
     by_cases c28 : (t26.length : Int) > 0
     ·replace H := ite_t c28 H
      refine V.condT (sb (decide_eq_true c28)) (V.region (W.mv rfl (W.mv rfl ?_)))
      obtain ⟨c29, H⟩ := ite_n H
      obtain ⟨eb30, eo31, hh⟩ := (rdC.at 0 row_rd HS rfl).some (by decide) c29.1 c29.2; subst hh
      refine W.r (X.indexSl Try.underlying34 inf3 rfl rfl c29.1 c29.2) rfl (W.r (X.load Try.underlying3 rfl rfl ((rdC.at 0 row_rd HS rfl).cellI c29.1 c29.2)) rfl ?_)
      replace HS := HS.pm [1, 2, 3, 0, 4, 5, 6, 7, 8, 9, 10]
      replace HS := backlog_Log.close trivial HS
      replace HS := HS.pm [2, 0, 3, 4, 5, 6, 7, 1, 8]
      replace HS := arq_Arq.close trivial HS
      obtain ⟨t32, A33, H⟩ := bind_s H
      refine W.e (Y.cl Try.func83 (arq_Arq_repeat.calls A33 HS.j1)) rfl ?_
      rintro _ w ⟨rfl, HS⟩
      replace HS := HS.o1
      refine W.nil (At.blockEnd ?_)
      replace HS := HS.pk [0, 2] [1]
      cases H
      exact At.end0 rfl ⟨_, rfl, rfl, HS⟩
     ·replace H := ite_f c28 H
      refine V.condF (sb (decide_eq_false c28)) (V.skip (At.blockEnd ?_))
      replace HS := HS.pm [1, 2, 3, 0, 4, 5, 6, 7, 8, 9, 10]
      replace HS := backlog_Log.close trivial HS
      replace HS := HS.pm [2, 0, 3, 4, 5, 6, 7, 1, 8]
      replace HS := arq_Arq.close trivial HS
      replace HS := HS.pk [0, 2] [1]
      cases H
      exact At.end0 rfl ⟨_, rfl, rfl, HS⟩
    ·replace H := ite_f c23 H
     refine V.condF (sb (decide_eq_false c23)) (V.skip (At.blockEnd ?_))
     replace HS := arq_Arq.close trivial HS
     cases H
     exact At.end0 rfl ⟨_, rfl, rfl, HS⟩
mutual
def arq_Arq_Pass.l0 : Nat → Int → Int → Int → Bool → arq_Arq → Option arq_Arq
 | 0, _, _, _, _, _ => none
 | k + 1, t1, x16, x17, x18, x19 => (if x18 = true then (arq_Arq_Pass.j1 k t1 x16 x17 x19 (arq_Arq_Pass.l0 k t1) (decide (x17 ≤ x16))) else (arq_Arq_Pass.j1 k t1 x16 x17 x19 (arq_Arq_Pass.l0 k t1) false))
def arq_Arq_Pass.j1 (k : Nat) (t1 : Int) (x16 : Int) (x17 : Int) (x19 : arq_Arq) (Lq24 : Int → Int → Bool → arq_Arq → Option arq_Arq) (x22 : Bool) : Option arq_Arq := (if x22 = true then ((clock_Set_Pass.f k x19.timers x17).bind fun t29 => ((arq_Arq_late.f k ({ x19 with timers := t29.2 } : arq_Arq)).bind fun t31 => ((clock_Set_Left.f t31.timers 0).bind fun t37 => (Lq24 (w64 (x16 - x17)) t37.1 t37.2 t31)))) else ((clock_Set_Pass.f k x19.timers x16).bind fun t41 => some ({ x19 with timers := t41.2 } : arq_Arq)))
end
def arq_Arq_Pass.f (k : Nat) (a0 : arq_Arq) (a1 : Int) : Option arq_Arq := ((arq_cut.f a1 0 1048576).bind fun t1 => ((clock_Set_Left.f a0.timers 0).bind fun t8 => (arq_Arq_Pass.l0 k t1 t1 t8.1 t8.2 a0)))
theorem arq_Arq_Pass.calls {k : Nat} {a0 : arq_Arq} {a1 : Int} {R : As} {w0 w : World} {b0 : Nat} {r : arq_Arq} (H : arq_Arq_Pass.f k a0 a1 = some r) (HS : Sep.St [arq_Arq.at b0 a0, R] w0 w)  : Calls Try.prog 21 #[Value.pointer (some ⟨b0, 0, none⟩), Value.int .i64 a1] w (Ret fun u w => u = Value.tuple #[] ∧ Sep.St [arq_Arq.at b0 r, R] w0 w) := by
 unfold arq_Arq_Pass.f at H
 refine calls_enter Try.func21 rfl rfl ?_
 have H : _ = some r := H
 refine V.seq (V.region (W.mv rfl ?_))
 obtain ⟨t1, A2, H⟩ := bind_s H
 refine W.e (Y.cl Try.func41 (arq_cut.calls A2 HS.j0)) rfl ?_
 rintro _ w ⟨rfl, HS⟩
 replace HS := HS.o0
 refine W.as rfl (W.nx (V.seq (V.seq (V.region (W.mv rfl (W.nc rfl ?_))))))
 obtain ⟨b8_4, b9_4, b10_4, a11_4, c11_4, d11_4, a12_4, c12_4, hi5, HS⟩ := arq_Arq.open HS
 refine W.fa fo82_10 rfl (W.ld 0 HS Try.underlying78 rfl rfl rfl rfl ?_)
 replace HS := HS.fr 3
 obtain ⟨hi7, HS⟩ := clock_Set.open HS
 obtain ⟨t8, A9, H⟩ := bind_s H
 refine W.e (Y.cl Try.func49 (clock_Set_Left.calls A9 HS.j1 (by first | exact hi7 | (simp only [List.length_set]; exact hi7)))) rfl ?_
 rintro _ w ⟨rfl, HS⟩
 replace HS := HS.o1
 refine W.mv rfl (W.r (X.extract rfl rfl) rfl (W.r (X.extract rfl rfl) rfl (W.as rfl (W.as rfl (W.nx (V.block ?_))))))
 replace HS := clock_Set.close (by first | exact hi7 | (simp only [List.length_set]; exact hi7)) HS
 replace HS := HS.pm [1, 2, 3, 0, 4, 5, 6, 7]
 replace HS := arq_Arq.close trivial HS
 refine V.loop (σ := Int × Int × Bool × arq_Arq) (fun kq (st : Int × Int × Bool × arq_Arq) w => match st with | (x16, x17, x18, x19) => Sep.St [arq_Arq.at b0 x19, R] w0 w ∧ arq_Arq_Pass.l0 kq t1 x16 x17 x18 x19 = some r ∧ kq ≤ k) (fun st => match st with | (x16, x17, x18, x19) => [(0, Value.pointer (some ⟨b0, 0, none⟩)), (1, Value.int .i64 x16), (4, Value.int .i64 x17), (5, Value.bool x18)]) k (t1, t8.1, t8.2, a0) ⟨rfl, rfl, rfl, rfl, trivial⟩ ⟨HS, H, Nat.le_refl _⟩ ?_
 rintro kq20 ⟨x16, x17, x18, x19⟩ w ⟨HS, H, hk21⟩
 cases kq20 with
 | zero => exact absurd H (by simp [arq_Arq_Pass.l0])
 | succ kq20 =>
  simp only [arq_Arq_Pass.l0] at H
  refine V.seq (V.meet (σ := Bool) (fun st w => match st with | x22 => Sep.St [arq_Arq.at b0 x19, R] w0 w ∧ ∃ kf23 kl25, kf23 ≤ kq20 ∧ kl25 ≤ kq20 ∧ arq_Arq_Pass.j1 kf23 t1 x16 x17 x19 (arq_Arq_Pass.l0 kl25 t1) x22 = some r) (fun st => match st with | x22 => [(0, Value.pointer (some ⟨b0, 0, none⟩)), (1, Value.int .i64 x16), (4, Value.int .i64 x17), (21, Value.bool x22)]) ?_ ?_)
  ·refine V.region (W.mv rfl (W.mv rfl ?_))
   by_cases c43 : x18 = true
   ·replace H := ite_t c43 H
    refine W.want 17 rfl (sb c43) (W.mv rfl (W.want 17 rfl (sb c43) (W.mv rfl (W.want 17 rfl (sb c43) (W.r (X.cmp (decide (x17 ≤ x16)) rfl rfl rfl rfl) rfl (W.r (X.pickT (sb c43) rfl) rfl (W.nil ?_)))))))
    exact At.meet (decide (x17 ≤ x16)) ⟨rfl, rfl, rfl, rfl, trivial⟩ ⟨HS, kq20, kq20, by omega, by omega, H⟩
   ·replace H := ite_f c43 H
    refine W.pass 17 rfl (sb (b_f c43)) rfl rfl (W.pass 17 rfl (sb (b_f c43)) rfl rfl (W.pass 17 rfl (sb (b_f c43)) rfl rfl (W.r (X.pickF (sb (b_f c43)) rfl) rfl (W.nil ?_))))
    exact At.meet false ⟨rfl, rfl, rfl, rfl, trivial⟩ ⟨HS, kq20, kq20, by omega, by omega, H⟩
  ·rintro x22 w ⟨HS, kf23, kl25, hkkf23, hkkl25, H⟩
   unfold arq_Arq_Pass.j1 at H
   by_cases c26 : x22 = true
   ·replace H := ite_t c26 H
    refine V.condT (sb c26) (V.skip (At.next (V.seq (V.block (V.seq (V.region (W.mv rfl (W.nc rfl ?_))))))))
    obtain ⟨b8_27, b9_27, b10_27, a11_27, c11_27, d11_27, a12_27, c12_27, hi28, HS⟩ := arq_Arq.open HS
    refine W.fa fo82_10 rfl (W.ld 0 HS Try.underlying78 rfl rfl rfl rfl (W.mv rfl ?_))
    obtain ⟨t29, A30, H⟩ := bind_s H
    replace HS := HS.pm [3, 0, 1, 2, 4, 5, 6, 7]
    refine W.e (Y.cl Try.func50 (clock_Set_Pass.calls A30 HS.j1)) rfl ?_
    rintro _ w ⟨at29_0, ct29_0, rfl, HS⟩
    replace HS := HS.o2
    refine W.nx (V.seq (V.region (W.mv rfl (W.mv rfl (W.r (X.sub rfl rfl) rfl (W.as rfl (W.nx (V.region (W.mv rfl ?_)))))))))
    replace HS := HS.pm [2, 3, 4, 1, 5, 6, 7, 0, 8]
    replace HS := arq_Arq.close trivial HS
    obtain ⟨t31, A32, H⟩ := bind_s H
    refine W.e (Y.cl Try.func51 (arq_Arq_late.calls A32 HS.j1)) rfl ?_
    rintro _ w ⟨rfl, HS⟩
    replace HS := HS.o1
    refine W.nil (At.blockEnd (At.next (V.region (W.mv rfl (W.nc rfl ?_)))))
    obtain ⟨b8_33, b9_33, b10_33, a11_33, c11_33, d11_33, a12_33, c12_33, hi34, HS⟩ := arq_Arq.open HS
    refine W.fa fo82_10 rfl (W.ld 0 HS Try.underlying78 rfl rfl rfl rfl ?_)
    replace HS := HS.fr 3
    obtain ⟨hi36, HS⟩ := clock_Set.open HS
    obtain ⟨t37, A38, H⟩ := bind_s H
    refine W.e (Y.cl Try.func49 (clock_Set_Left.calls A38 HS.j1 (by first | exact hi36 | (simp only [List.length_set]; exact hi36)))) rfl ?_
    rintro _ w ⟨rfl, HS⟩
    replace HS := HS.o1
    refine W.mv rfl (W.r (X.extract rfl rfl) rfl (W.r (X.extract rfl rfl) rfl (W.as rfl (W.as rfl (W.nil ?_)))))
    replace HS := clock_Set.close (by first | exact hi36 | (simp only [List.length_set]; exact hi36)) HS
    replace HS := HS.pm [1, 2, 3, 0, 4, 5, 6, 7, 8]
    replace HS := arq_Arq.close trivial HS
    replace HS := HS.pk [0, 2] [1]
    exact At.round kl25 (by omega) (w64 (x16 - x17), t37.1, t37.2, t31) ⟨rfl, rfl, rfl, rfl, trivial⟩ ⟨HS, H, by omega⟩
   ·replace H := ite_f c26 H
    refine V.condF (sb (b_f c26)) (V.exit (At.thenExit (At.thenExit (At.blockExit (At.next (V.region (W.mv rfl (W.nc rfl ?_))))))))
    obtain ⟨b8_39, b9_39, b10_39, a11_39, c11_39, d11_39, a12_39, c12_39, hi40, HS⟩ := arq_Arq.open HS
    refine W.fa fo82_10 rfl (W.ld 0 HS Try.underlying78 rfl rfl rfl rfl (W.mv rfl ?_))
    obtain ⟨t41, A42, H⟩ := bind_s H
    replace HS := HS.pm [3, 0, 1, 2, 4, 5, 6, 7]
    refine W.e (Y.cl Try.func50 (clock_Set_Pass.calls A42 HS.j1)) rfl ?_
    rintro _ w ⟨at41_0, ct41_0, rfl, HS⟩
    replace HS := HS.o2
    refine W.nil ?_
    replace HS := HS.pm [2, 3, 4, 1, 5, 6, 7, 0, 8]
    replace HS := arq_Arq.close trivial HS
    replace HS := HS.pk [0, 2] [1]
    cases H
    exact At.end0 rfl ⟨_, rfl, rfl, HS⟩
def arq_Arq_Again.f (k : Nat) (a0 : arq_Arq) : Option arq_Arq := (if a0.state = 2 then ((arq_Arq_resend.f k a0).bind fun t4 => some t4) else some a0)
theorem arq_Arq_Again.calls {k : Nat} {a0 : arq_Arq} {R : As} {w0 w : World} {b0 : Nat} {r : arq_Arq} (H : arq_Arq_Again.f k a0 = some r) (HS : Sep.St [arq_Arq.at b0 a0, R] w0 w)  : Calls Try.prog 38 #[Value.pointer (some ⟨b0, 0, none⟩)] w (Ret fun u w => u = Value.tuple #[] ∧ Sep.St [arq_Arq.at b0 r, R] w0 w) := by
 unfold arq_Arq_Again.f at H
 refine calls_enter Try.func38 rfl rfl ?_
 have H : _ = some r := H
 refine V.seq (V.region (W.mv rfl (W.nc rfl ?_)))
 obtain ⟨b8_1, b9_1, b10_1, a11_1, c11_1, d11_1, a12_1, c12_1, hi2, HS⟩ := arq_Arq.open HS
 refine W.fa fo82_4 rfl (W.ld 0 HS Try.underlying3 rfl rfl rfl rfl (W.r (X.cmp (decide (a0.state = 2)) rfl rfl rfl rfl) rfl (W.nx ?_)))
 by_cases c3 : a0.state = 2
 ·replace H := ite_t c3 H
  refine V.condT (sb (decide_eq_true c3)) (V.region (W.mv rfl ?_))
  replace HS := arq_Arq.close trivial HS
  obtain ⟨t4, A5, H⟩ := bind_s H
  refine W.e (Y.cl Try.func71 (arq_Arq_resend.calls A5 HS.j1)) rfl ?_
  rintro _ w ⟨rfl, HS⟩
  replace HS := HS.o1
  refine W.nil ?_
  cases H
  exact At.end0 rfl ⟨_, rfl, rfl, HS⟩
 ·replace H := ite_f c3 H
  refine V.condF (sb (decide_eq_false c3)) (V.skip ?_)
  replace HS := arq_Arq.close trivial HS
  cases H
  exact At.end0 rfl ⟨_, rfl, rfl, HS⟩
def arq_Arq_Output.f (a0 : arq_Arq) : Option (List (List Int) × arq_Arq) := some (a0.out, ({ a0 with out := ([] : List (List Int)) } : arq_Arq))
theorem arq_Arq_Output.calls {a0 : arq_Arq} {R : As} {w0 w : World} {b0 : Nat} {r : List (List Int) × arq_Arq} (H : arq_Arq_Output.f a0 = some r) (HS : Sep.St [arq_Arq.at b0 a0, R] w0 w)  : Calls Try.prog 20 #[Value.pointer (some ⟨b0, 0, none⟩)] w (Ret fun u w => ∃ (aq0 : Option Addr) (cq0 : Nat) (dq0 : List Value), u = Value.slice aq0 r.1.length cq0 ∧ Sep.St [row 39 1 (.slice aq0 r.1.length cq0) r.1.length dq0, tie (El.sl (El.int .u8)) dq0 r.1, arq_Arq.at b0 r.2, R] w0 w) := by
 unfold arq_Arq_Output.f at H
 refine calls_enter Try.func20 rfl rfl ?_
 have H : _ = some r := H
 refine V.seq (V.region (W.as rfl (W.nx (V.seq (V.region (W.mv rfl (W.nc rfl ?_)))))))
 obtain ⟨b8_1, b9_1, b10_1, a11_1, c11_1, d11_1, a12_1, c12_1, hi2, HS⟩ := arq_Arq.open HS
 refine W.fa fo82_11 rfl (W.ld 0 HS Try.underlying30 rfl rfl rfl rfl (W.as rfl (W.nx (V.seq (V.region (W.mv rfl (W.nc rfl (W.fa fo82_11 rfl (W.st 0 11 HS inf30 rfl rfl rfl rfl rfl rfl fun w HS => ?_)))))))))
 refine W.nx (V.seq (V.region (W.mv rfl (W.as rfl (W.nx (V.ret ?_))))))
 replace HS := row_nilE (El.sl (El.int .u8)) 39 1 HS
 replace HS := HS.pm [2, 3, 4, 5, 0, 1, 8, 6, 7, 9]
 replace HS := arq_Arq.close (l11 := ([] : List (List Int))) trivial HS
 replace HS := HS.pk [1, 2, 0, 3] []
 cases H
 exact At.ret1 rfl rfl ⟨_, rfl, a11_1, c11_1, d11_1, rfl, HS⟩
def reorder_Order_Take.f (a0 : reorder_Order) : Option (List Int × Bool × reorder_Order) := (if (a0.ready.length : Int) = 0 then some (([] : List Int), false, a0) else (if 0 ≤ (0 : Int) ∧ (0 : Int) < (a0.ready.length : Int) then (if 0 ≤ (1 : Int) ∧ (1 : Int) ≤ (a0.ready.length : Int) ∧ (a0.ready.length : Int) ≤ (a0.ready.length : Int) then some (a0.ready.getD (0 : Int).toNat [], true, ({ a0 with ready := cut a0.ready (1 : Int) (a0.ready.length : Int) } : reorder_Order)) else none) else none))
theorem reorder_Order_Take.calls {a0 : reorder_Order} {R : As} {w0 w : World} {b0 : Nat} {r : List Int × Bool × reorder_Order} (H : reorder_Order_Take.f a0 = some r) (HS : Sep.St [reorder_Order.at b0 a0, R] w0 w)  : Calls Try.prog 68 #[Value.pointer (some ⟨b0, 0, none⟩)] w (Ret fun u w => ∃ (aq0 : Option Addr) (cq0 : Nat), u = Value.tuple #[Value.slice aq0 r.1.length cq0, Value.bool r.2.1] ∧ Sep.St [fsl 1 (.slice aq0 r.1.length cq0) r.1.length (r.1.map (Value.int .u8)), reorder_Order.at b0 r.2.2, R] w0 w) := by
 unfold reorder_Order_Take.f at H
 refine calls_enter Try.func68 rfl rfl ?_
 have H : _ = some r := H
 refine V.seq (V.region (W.as rfl (W.as rfl (W.nx (V.seq (V.seq (V.region (W.mv rfl (W.nc rfl ?_)))))))))
 obtain ⟨b3_1, k3_1, a4_1, c4_1, d4_1, hi2, HS⟩ := reorder_Order.open HS
 refine W.fa fo106_4 rfl (W.ld 0 HS Try.underlying30 rfl rfl rfl rfl (W.r (X.lenSl Try.underlying30 rfl) rfl (W.r (X.cmp (decide ((a0.ready.length : Int) = 0)) rfl rfl rfl rfl) rfl (W.nx ?_))))
 by_cases c3 : (a0.ready.length : Int) = 0
 ·replace H := ite_t c3 H
  refine V.condT (sb (decide_eq_true c3)) (V.seq (V.region (W.as rfl (W.as rfl (W.nx (V.ret (At.thenRet ?_)))))))
  replace HS := row_nilF (Value.int .u8) 5 1 HS
  replace HS := St.row_freeze HS
  replace HS := HS.pm [1, 2, 3, 4, 5, 0, 6]
  replace HS := reorder_Order.close trivial HS
  replace HS := HS.pk [1, 0, 2] []
  cases H
  exact At.ret2 rfl rfl rfl ⟨_, rfl, none, 0, rfl, HS⟩
 ·replace H := ite_f c3 H
  refine V.condF (sb (decide_eq_false c3)) (V.skip (At.next (V.seq (V.region (W.mv rfl (W.nc rfl (W.fa fo106_4 rfl (W.ld 0 HS Try.underlying30 rfl rfl rfl rfl ?_))))))))
  obtain ⟨c4, H⟩ := ite_n H
  obtain ⟨eb5, eo6, hh⟩ := (rdC.at 3 row_rd HS rfl).some (by decide) c4.1 c4.2; subst hh
  refine W.r (X.indexSl Try.underlying30 inf39 rfl rfl c4.1 c4.2) rfl ?_
  obtain ⟨ec7, hc8, HS⟩ := St.tie_at 4 HS rfl ([]) c4.1 c4.2
  obtain ⟨ea9, em10, he12, HN⟩ := St.sl_openF (Value.int .u8) (fun t => tie_int t) HS; clear HS; subst he12; have HS := HN
  refine W.r (X.load Try.underlying39 rfl rfl ((rdC.at 4 row_rd HS rfl).cellEl0 (hc8 0 _ rfl))) rfl (W.as rfl (W.nx (V.seq (V.region (W.mv rfl (W.mv rfl (W.nc rfl (W.fa fo106_4 rfl (W.ld 1 HS Try.underlying30 rfl rfl rfl rfl ?_)))))))))
  obtain ⟨c13, H⟩ := ite_n H
  refine W.r (X.slL Try.underlying30 inf39 rfl rfl c13) rfl (W.nc rfl (W.fa fo106_4 rfl (W.st 1 4 HS inf30 rfl rfl rfl rfl rfl rfl fun w HS => ?_)))
  refine W.nx (V.seq (V.region (W.mv rfl (W.as rfl (W.as rfl (W.nx (V.ret ?_)))))))
  replace HS := HS.fr 4
  replace HS := St.row_sub HS c13
  replace HS := HS.fr 5
  replace HS := St.tie_cut (1 : Int) (a0.ready.length : Int) HS
  replace HS := HS.pm [3, 4, 5, 1, 0, 2, 6]
  replace HS := reorder_Order.close trivial HS
  replace HS := HS.pk [1, 0, 2] []
  cases H
  exact At.ret2 rfl rfl rfl ⟨_, rfl, ea9, em10, rfl, HS⟩
def arq_Arq_Recv.f (a0 : arq_Arq) : Option (List Int × Bool × arq_Arq) := ((reorder_Order_Take.f a0.order).bind fun t3 => some (t3.1, t3.2.1, ({ a0 with order := t3.2.2 } : arq_Arq)))
theorem arq_Arq_Recv.calls {a0 : arq_Arq} {R : As} {w0 w : World} {b0 : Nat} {r : List Int × Bool × arq_Arq} (H : arq_Arq_Recv.f a0 = some r) (HS : Sep.St [arq_Arq.at b0 a0, R] w0 w)  : Calls Try.prog 31 #[Value.pointer (some ⟨b0, 0, none⟩)] w (Ret fun u w => ∃ (aq0 : Option Addr) (cq0 : Nat), u = Value.tuple #[Value.slice aq0 r.1.length cq0, Value.bool r.2.1] ∧ Sep.St [fsl 1 (.slice aq0 r.1.length cq0) r.1.length (r.1.map (Value.int .u8)), arq_Arq.at b0 r.2.2, R] w0 w) := by
 unfold arq_Arq_Recv.f at H
 refine calls_enter Try.func31 rfl rfl ?_
 have H : _ = some r := H
 refine V.seq (V.region (W.as rfl (W.as rfl (W.nx (V.seq (V.region (W.mv rfl (W.nc rfl ?_))))))))
 obtain ⟨b8_1, b9_1, b10_1, a11_1, c11_1, d11_1, a12_1, c12_1, hi2, HS⟩ := arq_Arq.open HS
 refine W.fa fo82_9 rfl (W.ld 0 HS Try.underlying76 rfl rfl rfl rfl ?_)
 obtain ⟨t3, A4, H⟩ := bind_s H
 replace HS := HS.pm [2, 0, 1, 3, 4, 5, 6, 7]
 refine W.e (Y.cl Try.func68 (reorder_Order_Take.calls A4 HS.j1)) rfl ?_
 rintro _ w ⟨at3_0, ct3_0, rfl, HS⟩
 replace HS := HS.o2
 refine W.r (X.extract rfl rfl) rfl (W.r (X.extract rfl rfl) rfl (W.as rfl (W.as rfl (W.nx (V.ret ?_)))))
 replace HS := HS.pm [2, 3, 1, 4, 5, 6, 7, 0, 8]
 replace HS := arq_Arq.close trivial HS
 replace HS := HS.pk [1, 0, 2] []
 cases H
 exact At.ret2 rfl rfl rfl ⟨_, rfl, at3_0, ct3_0, rfl, HS⟩
def arq_Arq_Inds.f (a0 : arq_Arq) : Option (List Int × arq_Arq) := some (a0.inds, ({ a0 with inds := ([] : List Int) } : arq_Arq))
theorem arq_Arq_Inds.calls {a0 : arq_Arq} {R : As} {w0 w : World} {b0 : Nat} {r : List Int × arq_Arq} (H : arq_Arq_Inds.f a0 = some r) (HS : Sep.St [arq_Arq.at b0 a0, R] w0 w)  : Calls Try.prog 23 #[Value.pointer (some ⟨b0, 0, none⟩)] w (Ret fun u w => ∃ (aq0 : Option Addr) (cq0 : Nat), u = Value.slice aq0 r.1.length cq0 ∧ Sep.St [row 3 1 (.slice aq0 r.1.length cq0) r.1.length (r.1.map (Value.int .i64)), arq_Arq.at b0 r.2, R] w0 w) := by
 unfold arq_Arq_Inds.f at H
 refine calls_enter Try.func23 rfl rfl ?_
 have H : _ = some r := H
 refine V.seq (V.region (W.as rfl (W.nx (V.seq (V.region (W.mv rfl (W.nc rfl ?_)))))))
 obtain ⟨b8_1, b9_1, b10_1, a11_1, c11_1, d11_1, a12_1, c12_1, hi2, HS⟩ := arq_Arq.open HS
 refine W.fa fo82_12 rfl (W.ld 0 HS Try.underlying34 rfl rfl rfl rfl (W.as rfl (W.nx (V.seq (V.region (W.mv rfl (W.nc rfl (W.fa fo82_12 rfl (W.st 0 12 HS inf34 rfl rfl rfl rfl rfl rfl fun w HS => ?_)))))))))
 refine W.nx (V.seq (V.region (W.mv rfl (W.as rfl (W.nx (V.ret ?_))))))
 replace HS := row_nilF (Value.int .i64) 3 1 HS
 replace HS := HS.pm [1, 2, 3, 4, 5, 6, 0, 7, 8]
 replace HS := arq_Arq.close (l12 := ([] : List Int)) trivial HS
 replace HS := HS.pk [1, 0, 2] []
 cases H
 exact At.ret1 rfl rfl ⟨_, rfl, a12_1, c12_1, rfl, HS⟩
def arq_Arq_State.f (a0 : arq_Arq) : Option Int := some a0.state
theorem arq_Arq_State.calls {a0 : arq_Arq} {R : As} {w0 w : World} {b0 : Nat} {b8_p0 : Nat} {b9_p0 : Nat} {b10_p0 : Nat} {a11_p0 : Option Addr} {c11_p0 : Nat} {d11_p0 : List Value} {a12_p0 : Option Addr} {c12_p0 : Nat} {r : Int} (H : arq_Arq_State.f a0 = some r) (HS : Sep.St [blk b0 (#[Value.int .i64 a0.m, Value.int .i64 a0.t1, Value.int .i64 a0.n2, Value.int .i64 a0.size, Value.int .i64 a0.state, Value.int .i64 a0.tag, Value.int .i64 a0.tries, Value.bool a0.rejected, Value.pointer (some ⟨b8_p0, 0, none⟩), Value.pointer (some ⟨b9_p0, 0, none⟩), Value.pointer (some ⟨b10_p0, 0, none⟩), Value.slice a11_p0 a0.out.length c11_p0, Value.slice a12_p0 a0.inds.length c12_p0, Value.int .i64 a0.sent, Value.int .i64 a0.acked, Value.int .i64 a0.lost]) 82, backlog_Log.at b8_p0 a0.log, reorder_Order.at b9_p0 a0.order, clock_Set.at b10_p0 a0.timers, row 39 1 (.slice a11_p0 a0.out.length c11_p0) a0.out.length d11_p0, tie (El.sl (El.int .u8)) d11_p0 a0.out, row 3 1 (.slice a12_p0 a0.inds.length c12_p0) a0.inds.length (a0.inds.map (Value.int .i64)), R] w0 w)  : Calls Try.prog 22 #[Value.pointer (some ⟨b0, 0, none⟩)] w (Ret fun u w => u = Value.int .i64 r ∧ Sep.St [blk b0 (#[Value.int .i64 a0.m, Value.int .i64 a0.t1, Value.int .i64 a0.n2, Value.int .i64 a0.size, Value.int .i64 a0.state, Value.int .i64 a0.tag, Value.int .i64 a0.tries, Value.bool a0.rejected, Value.pointer (some ⟨b8_p0, 0, none⟩), Value.pointer (some ⟨b9_p0, 0, none⟩), Value.pointer (some ⟨b10_p0, 0, none⟩), Value.slice a11_p0 a0.out.length c11_p0, Value.slice a12_p0 a0.inds.length c12_p0, Value.int .i64 a0.sent, Value.int .i64 a0.acked, Value.int .i64 a0.lost]) 82, backlog_Log.at b8_p0 a0.log, reorder_Order.at b9_p0 a0.order, clock_Set.at b10_p0 a0.timers, row 39 1 (.slice a11_p0 a0.out.length c11_p0) a0.out.length d11_p0, tie (El.sl (El.int .u8)) d11_p0 a0.out, row 3 1 (.slice a12_p0 a0.inds.length c12_p0) a0.inds.length (a0.inds.map (Value.int .i64)), R] w0 w) := by
 unfold arq_Arq_State.f at H
 refine calls_enter Try.func22 rfl rfl ?_
 have H : _ = some r := H
 refine V.seq (V.region (W.as rfl (W.nx (V.seq (V.region (W.mv rfl (W.nc rfl (W.fa fo82_4 rfl (W.ld 0 HS Try.underlying3 rfl rfl rfl rfl (W.as rfl (W.nx (V.ret ?_))))))))))))
 cases H
 exact At.ret1 rfl rfl ⟨_, rfl, rfl, HS⟩
def arq_Arq_Counts.f (a0 : arq_Arq) : Option (Int × Int × Int) := some (a0.sent, a0.acked, a0.lost)
theorem arq_Arq_Counts.calls {a0 : arq_Arq} {R : As} {w0 w : World} {b0 : Nat} {b8_p0 : Nat} {b9_p0 : Nat} {b10_p0 : Nat} {a11_p0 : Option Addr} {c11_p0 : Nat} {d11_p0 : List Value} {a12_p0 : Option Addr} {c12_p0 : Nat} {r : Int × Int × Int} (H : arq_Arq_Counts.f a0 = some r) (HS : Sep.St [blk b0 (#[Value.int .i64 a0.m, Value.int .i64 a0.t1, Value.int .i64 a0.n2, Value.int .i64 a0.size, Value.int .i64 a0.state, Value.int .i64 a0.tag, Value.int .i64 a0.tries, Value.bool a0.rejected, Value.pointer (some ⟨b8_p0, 0, none⟩), Value.pointer (some ⟨b9_p0, 0, none⟩), Value.pointer (some ⟨b10_p0, 0, none⟩), Value.slice a11_p0 a0.out.length c11_p0, Value.slice a12_p0 a0.inds.length c12_p0, Value.int .i64 a0.sent, Value.int .i64 a0.acked, Value.int .i64 a0.lost]) 82, backlog_Log.at b8_p0 a0.log, reorder_Order.at b9_p0 a0.order, clock_Set.at b10_p0 a0.timers, row 39 1 (.slice a11_p0 a0.out.length c11_p0) a0.out.length d11_p0, tie (El.sl (El.int .u8)) d11_p0 a0.out, row 3 1 (.slice a12_p0 a0.inds.length c12_p0) a0.inds.length (a0.inds.map (Value.int .i64)), R] w0 w)  : Calls Try.prog 37 #[Value.pointer (some ⟨b0, 0, none⟩)] w (Ret fun u w => u = Value.tuple #[Value.int .i64 r.1, Value.int .i64 r.2.1, Value.int .i64 r.2.2] ∧ Sep.St [blk b0 (#[Value.int .i64 a0.m, Value.int .i64 a0.t1, Value.int .i64 a0.n2, Value.int .i64 a0.size, Value.int .i64 a0.state, Value.int .i64 a0.tag, Value.int .i64 a0.tries, Value.bool a0.rejected, Value.pointer (some ⟨b8_p0, 0, none⟩), Value.pointer (some ⟨b9_p0, 0, none⟩), Value.pointer (some ⟨b10_p0, 0, none⟩), Value.slice a11_p0 a0.out.length c11_p0, Value.slice a12_p0 a0.inds.length c12_p0, Value.int .i64 a0.sent, Value.int .i64 a0.acked, Value.int .i64 a0.lost]) 82, backlog_Log.at b8_p0 a0.log, reorder_Order.at b9_p0 a0.order, clock_Set.at b10_p0 a0.timers, row 39 1 (.slice a11_p0 a0.out.length c11_p0) a0.out.length d11_p0, tie (El.sl (El.int .u8)) d11_p0 a0.out, row 3 1 (.slice a12_p0 a0.inds.length c12_p0) a0.inds.length (a0.inds.map (Value.int .i64)), R] w0 w) := by
 unfold arq_Arq_Counts.f at H
 refine calls_enter Try.func37 rfl rfl ?_
 have H : _ = some r := H
 refine V.seq (V.region (W.as rfl (W.as rfl (W.as rfl (W.nx (V.seq (V.dr [] [] [(5, Value.pointer (some ⟨b0, 0, none⟩)), (6, Value.pointer (some ⟨b0, 0, none⟩)), (7, Value.pointer (some ⟨b0, 0 + 13, none⟩)), (8, Value.int .i64 a0.sent), (9, Value.pointer (some ⟨b0, 0, none⟩)), (10, Value.pointer (some ⟨b0, 0, none⟩)), (11, Value.pointer (some ⟨b0, 0 + 14, none⟩)), (12, Value.int .i64 a0.acked), (13, Value.pointer (some ⟨b0, 0, none⟩)), (14, Value.pointer (some ⟨b0, 0, none⟩)), (15, Value.pointer (some ⟨b0, 0 + 15, none⟩)), (16, Value.int .i64 a0.lost), (2, Value.int .i64 a0.sent), (3, Value.int .i64 a0.acked), (4, Value.int .i64 a0.lost)] mo HS ?_)))))))
 refine T.fn [(2, _), (3, _), (4, _)] ⟨rfl, rfl, rfl, trivial⟩ ⟨.mv 0, .nc 5, .fa 6 fo82_13, .ld 7 0 Try.underlying3, .mv 0, .nc 9, .fa 10 fo82_14, .ld 11 0 Try.underlying3, .mv 0, .nc 13, .fa 14 fo82_15, .ld 15 0 Try.underlying3, .as 8, .as 12, .as 16, trivial⟩ (fun w HS => ?_)
 refine At.next (V.ret ?_)
 cases H
 exact At.ret3 rfl rfl rfl rfl ⟨_, rfl, rfl, HS⟩
structure api_Config where
 Mode : Int
 Modulus : Int
 Window : Int
 T1 : Int
 N2 : Int
 Hold : Int
 Wait : Int
 Keep : Int
 Queue : Int
 Size : Int
 Ring : Int
 Rate : Int
 Bad : Int
 Good : Int
 Revert : Bool
 Wide : Bool
deriving DecidableEq, Inhabited
def api_Config.at (b : Nat) (x : api_Config) : As := fun h => True ∧ Sp [blk b (#[Value.int .i64 x.Mode, Value.int .i64 x.Modulus, Value.int .i64 x.Window, Value.int .i64 x.T1, Value.int .i64 x.N2, Value.int .i64 x.Hold, Value.int .i64 x.Wait, Value.int .i64 x.Keep, Value.int .i64 x.Queue, Value.int .i64 x.Size, Value.int .i64 x.Ring, Value.int .i64 x.Rate, Value.int .i64 x.Bad, Value.int .i64 x.Good, Value.bool x.Revert, Value.bool x.Wide]) 24] h
theorem api_Config.open {b : Nat} {x : api_Config} {L : List As} {w0 w : World} (hs : Sep.St (api_Config.at b x :: L) w0 w) : True ∧ Sep.St (blk b (#[Value.int .i64 x.Mode, Value.int .i64 x.Modulus, Value.int .i64 x.Window, Value.int .i64 x.T1, Value.int .i64 x.N2, Value.int .i64 x.Hold, Value.int .i64 x.Wait, Value.int .i64 x.Keep, Value.int .i64 x.Queue, Value.int .i64 x.Size, Value.int .i64 x.Ring, Value.int .i64 x.Rate, Value.int .i64 x.Bad, Value.int .i64 x.Good, Value.bool x.Revert, Value.bool x.Wide]) 24 :: L) w0 w := by
 have h1 := St.pure.1 (show St ((fun h => True ∧ (fun h => Sp [blk b (#[Value.int .i64 x.Mode, Value.int .i64 x.Modulus, Value.int .i64 x.Window, Value.int .i64 x.T1, Value.int .i64 x.N2, Value.int .i64 x.Hold, Value.int .i64 x.Wait, Value.int .i64 x.Keep, Value.int .i64 x.Queue, Value.int .i64 x.Size, Value.int .i64 x.Ring, Value.int .i64 x.Rate, Value.int .i64 x.Bad, Value.int .i64 x.Good, Value.bool x.Revert, Value.bool x.Wide]) 24] h) h) :: L) w0 w from hs)
 obtain ⟨hi, hs⟩ := h1
 exact ⟨hi, St.open (m := [blk b (#[Value.int .i64 x.Mode, Value.int .i64 x.Modulus, Value.int .i64 x.Window, Value.int .i64 x.T1, Value.int .i64 x.N2, Value.int .i64 x.Hold, Value.int .i64 x.Wait, Value.int .i64 x.Keep, Value.int .i64 x.Queue, Value.int .i64 x.Size, Value.int .i64 x.Ring, Value.int .i64 x.Rate, Value.int .i64 x.Bad, Value.int .i64 x.Good, Value.bool x.Revert, Value.bool x.Wide]) 24]) hs⟩
theorem api_Config.close {b : Nat} {l0 : Int} {l1 : Int} {l2 : Int} {l3 : Int} {l4 : Int} {l5 : Int} {l6 : Int} {l7 : Int} {l8 : Int} {l9 : Int} {l10 : Int} {l11 : Int} {l12 : Int} {l13 : Int} {l14 : Bool} {l15 : Bool}  {L : List As} {w0 w : World} (hi : True) (hs : Sep.St (blk b (#[Value.int .i64 l0, Value.int .i64 l1, Value.int .i64 l2, Value.int .i64 l3, Value.int .i64 l4, Value.int .i64 l5, Value.int .i64 l6, Value.int .i64 l7, Value.int .i64 l8, Value.int .i64 l9, Value.int .i64 l10, Value.int .i64 l11, Value.int .i64 l12, Value.int .i64 l13, Value.bool l14, Value.bool l15]) 24 :: L) w0 w) : Sep.St (api_Config.at b ({ Mode := l0, Modulus := l1, Window := l2, T1 := l3, N2 := l4, Hold := l5, Wait := l6, Keep := l7, Queue := l8, Size := l9, Ring := l10, Rate := l11, Bad := l12, Good := l13, Revert := l14, Wide := l15 } : api_Config) :: L) w0 w := by
 have h2 := St.join (m := [blk b (#[Value.int .i64 l0, Value.int .i64 l1, Value.int .i64 l2, Value.int .i64 l3, Value.int .i64 l4, Value.int .i64 l5, Value.int .i64 l6, Value.int .i64 l7, Value.int .i64 l8, Value.int .i64 l9, Value.int .i64 l10, Value.int .i64 l11, Value.int .i64 l12, Value.int .i64 l13, Value.bool l14, Value.bool l15]) 24]) hs
 exact h2.mono fun h hh => ⟨hi, hh⟩
def signalmanlaw15_shape.f (a0 : Int) (a1 : Int) (a2 : Int) : Option api_Config := some ({ Mode := 0, Modulus := a0, Window := a1, T1 := 10, N2 := 3, Hold := 0, Wait := 0, Keep := 0, Queue := a2, Size := 50, Ring := 0, Rate := 0, Bad := 0, Good := 0, Revert := false, Wide := false } : api_Config)
theorem signalmanlaw15_shape.calls {a0 : Int} {a1 : Int} {a2 : Int} {R : As} {w0 w : World}  {r : api_Config} (H : signalmanlaw15_shape.f a0 a1 a2 = some r) (HS : Sep.St [R] w0 w)  : Calls Try.prog 16 #[Value.int .i64 a0, Value.int .i64 a1, Value.int .i64 a2] w (Ret fun u w => u = Value.agg #[Value.int .i64 r.Mode, Value.int .i64 r.Modulus, Value.int .i64 r.Window, Value.int .i64 r.T1, Value.int .i64 r.N2, Value.int .i64 r.Hold, Value.int .i64 r.Wait, Value.int .i64 r.Keep, Value.int .i64 r.Queue, Value.int .i64 r.Size, Value.int .i64 r.Ring, Value.int .i64 r.Rate, Value.int .i64 r.Bad, Value.int .i64 r.Good, Value.bool r.Revert, Value.bool r.Wide] ∧ Sep.St [R] w0 w) := by
 unfold signalmanlaw15_shape.f at H
 refine calls_enter Try.func16 rfl rfl ?_
 have H : _ = some r := H
 refine V.seq (V.region (W.e (Y.alloc (z := Value.agg (#[Value.int .i64 (0), Value.int .i64 (0), Value.int .i64 (0), Value.int .i64 (0), Value.int .i64 (0), Value.int .i64 (0), Value.int .i64 (0), Value.int .i64 (0), Value.int .i64 (0), Value.int .i64 (0), Value.int .i64 (0), Value.int .i64 (0), Value.int .i64 (0), Value.int .i64 (0), Value.bool false, Value.bool false])) HS ze24) rfl ?_))
 rintro _ w ⟨nb1, rfl, HS⟩
 refine W.nx (V.seq (V.region (W.mv rfl (W.mv rfl (W.mv rfl (W.r (X.bd (Value.agg #[Value.int .i64 (0), Value.int .i64 a0, Value.int .i64 a1, Value.int .i64 (10), Value.int .i64 (3), Value.int .i64 (0), Value.int .i64 (0), Value.int .i64 (0), Value.int .i64 a2, Value.int .i64 (50), Value.int .i64 (0), Value.int .i64 (0), Value.int .i64 (0), Value.int .i64 (0), Value.bool false, Value.bool false]) rfl (fun _ => by kernel_rfl)) rfl (W.en (Y.storeSt (c' := #[Value.int .i64 (0), Value.int .i64 a0, Value.int .i64 a1, Value.int .i64 (10), Value.int .i64 (3), Value.int .i64 (0), Value.int .i64 (0), Value.int .i64 (0), Value.int .i64 a2, Value.int .i64 (50), Value.int .i64 (0), Value.int .i64 (0), Value.int .i64 (0), Value.int .i64 (0), Value.bool false, Value.bool false]) 0 [Value.int .i64 (0), Value.int .i64 a0, Value.int .i64 a1, Value.int .i64 (10), Value.int .i64 (3), Value.int .i64 (0), Value.int .i64 (0), Value.int .i64 (0), Value.int .i64 a2, Value.int .i64 (50), Value.int .i64 (0), Value.int .i64 (0), Value.int .i64 (0), Value.int .i64 (0), Value.bool false, Value.bool false] HS rfl inf24 rfl rfl rfl rfl rfl rfl) rfl ?_)))))))
 rintro _ w HS
 refine W.nx (V.ret ?_)
 have hv2 := run_loadSt (P := Try.prog) (p := 0) 0 [Value.int .i64 (0), Value.int .i64 a0, Value.int .i64 a1, Value.int .i64 (10), Value.int .i64 (3), Value.int .i64 (0), Value.int .i64 (0), Value.int .i64 (0), Value.int .i64 a2, Value.int .i64 (50), Value.int .i64 (0), Value.int .i64 (0), Value.int .i64 (0), Value.int .i64 (0), Value.bool false, Value.bool false] HS rfl Try.underlying24 rfl inf24 rfl
 replace HS := HS.pk [1] [0]
 cases H
 exact At.retv1 rfl ⟨_, rfl, hv2⟩ ⟨_, rfl, rfl, HS⟩
def backlog_Cut.f (a0 : Int) (a1 : Int) : Option (Int × Int) := some (imax (8) (imin a0 (32768)), imax (1) (imin a1 (w64 ((imax (8) (imin a0 (32768))).tdiv (8)))))
theorem backlog_Cut.calls {a0 : Int} {a1 : Int} {R : As} {w0 w : World}  {r : Int × Int} (H : backlog_Cut.f a0 a1 = some r) (HS : Sep.St [R] w0 w)  : Calls Try.prog 72 #[Value.int .i64 a0, Value.int .i64 a1] w (Ret fun u w => u = Value.tuple #[Value.int .i64 r.1, Value.int .i64 r.2] ∧ Sep.St [R] w0 w) := by
 unfold backlog_Cut.f at H
 refine calls_enter Try.func72 rfl rfl ?_
 have H : _ = some r := H
 refine V.seq (V.region (W.as rfl (W.as rfl (W.nx (V.seq (V.region (W.mv rfl (W.r (X.min2 rfl rfl) rfl (W.r (X.max2 rfl rfl) rfl (W.as rfl (W.nx (V.seq (V.region (W.mv rfl (W.mv rfl (W.mv rfl (W.r (X.quo rfl rfl (by decide)) rfl (W.r (X.min2 rfl rfl) rfl (W.r (X.max2 rfl rfl) rfl (W.as rfl (W.as rfl (W.nx (V.ret ?_)))))))))))))))))))))))
 cases H
 exact At.ret2 rfl rfl rfl ⟨_, rfl, rfl, HS⟩
def backlog_New.f (a0 : Int) (a1 : Int) (a2 : Int) : Option backlog_Log := ((backlog_Cut.f a0 a1).bind fun t1 => some (({ m := t1.1, window := t1.2, queue := imax (0) (imin a2 (1000)), first := 0, out := 0, l := ([] : List (List Int)) } : backlog_Log)))
theorem backlog_New.calls {a0 : Int} {a1 : Int} {a2 : Int} {R : As} {w0 w : World}  {r : backlog_Log} (H : backlog_New.f a0 a1 a2 = some r) (HS : Sep.St [R] w0 w)  : Calls Try.prog 42 #[Value.int .i64 a0, Value.int .i64 a1, Value.int .i64 a2] w (Ret fun u w => ∃ (bq0 : Nat), u = Value.pointer (some ⟨bq0, 0, none⟩) ∧ Sep.St [backlog_Log.at bq0 r, R] w0 w) := by
 unfold backlog_New.f at H
 refine calls_enter Try.func42 rfl rfl ?_
 have H : _ = some r := H
 refine V.seq (V.region (W.as rfl (W.nx (V.seq (V.region (W.mv rfl (W.mv rfl ?_)))))))
 obtain ⟨t1, A2, H⟩ := bind_s H
 refine W.e (Y.cl Try.func72 (backlog_Cut.calls A2 HS.j0)) rfl ?_
 rintro _ w ⟨rfl, HS⟩
 replace HS := HS.o0
 refine W.mv rfl (W.r (X.extract rfl rfl) rfl (W.r (X.extract rfl rfl) rfl (W.as rfl (W.as rfl (W.nx (V.seq (V.region (W.mv rfl (W.mv rfl (W.mv rfl (W.r (X.min2 rfl rfl) rfl (W.r (X.max2 rfl rfl) rfl (W.r (X.bd (Value.agg #[Value.int .i64 t1.1, Value.int .i64 t1.2, Value.int .i64 (imax (0) (imin a2 (1000))), Value.int .i64 (0), Value.int .i64 (0), Value.slice none 0 0]) rfl (fun _ => by kernel_rfl)) rfl (W.e (Y.box HS rfl) rfl ?_))))))))))))))
 rintro _ w ⟨nb3, rfl, HS⟩
 refine W.as rfl (W.nx (V.ret ?_))
 replace HS := row_nilE (El.sl (El.int .u8)) 39 1 HS
 replace HS := HS.pm [2, 0, 1, 3]
 replace HS := backlog_Log.close (l5 := ([] : List (List Int))) trivial HS
 cases H
 exact At.ret1 rfl rfl ⟨_, rfl, nb3, rfl, HS⟩
def reorder_New.f (a0 : Int) (a1 : Int) : Option reorder_Order := ((backlog_Cut.f a0 a1).bind fun t1 => some (({ m := t1.1, window := t1.2, next := 0, kept := ([] : List (Int × (List Int))), ready := ([] : List (List Int)) } : reorder_Order)))
theorem reorder_New.calls {a0 : Int} {a1 : Int} {R : As} {w0 w : World}  {r : reorder_Order} (H : reorder_New.f a0 a1 = some r) (HS : Sep.St [R] w0 w)  : Calls Try.prog 43 #[Value.int .i64 a0, Value.int .i64 a1] w (Ret fun u w => ∃ (bq0 : Nat), u = Value.pointer (some ⟨bq0, 0, none⟩) ∧ Sep.St [reorder_Order.at bq0 r, R] w0 w) := by
 unfold reorder_New.f at H
 refine calls_enter Try.func43 rfl rfl ?_
 have H : _ = some r := H
 refine V.seq (V.region (W.as rfl (W.nx (V.seq (V.region (W.mv rfl (W.mv rfl ?_)))))))
 obtain ⟨t1, A2, H⟩ := bind_s H
 refine W.e (Y.cl Try.func72 (backlog_Cut.calls A2 HS.j0)) rfl ?_
 rintro _ w ⟨rfl, HS⟩
 replace HS := HS.o0
 refine W.mv rfl (W.r (X.extract rfl rfl) rfl (W.r (X.extract rfl rfl) rfl (W.as rfl (W.as rfl (W.nx (V.seq (V.region (W.mv rfl (W.mv rfl (W.e (Y.makeMap HS) rfl ?_))))))))))
 rintro _ w ⟨mb3, rfl, HS⟩
 replace HS := St.put (A := tieM (El.sl (El.int .u8)) ([]) (([] : List (Int × (List Int))))) (fun _ => trivial) HS
 refine W.r (X.bd (Value.agg #[Value.int .i64 t1.1, Value.int .i64 t1.2, Value.int .i64 (0), Value.map (some mb3), Value.slice none 0 0]) rfl (fun _ => by kernel_rfl)) rfl (W.e (Y.box HS rfl) rfl ?_)
 rintro _ w ⟨nb4, rfl, HS⟩
 refine W.as rfl (W.nx (V.ret ?_))
 replace HS := row_nilE (El.sl (El.int .u8)) 39 1 HS
 replace HS := HS.pm [2, 4, 3, 0, 1, 5]
 replace HS := reorder_Order.close (l4 := ([] : List (List Int))) trivial HS
 cases H
 exact At.ret1 rfl rfl ⟨_, rfl, nb4, rfl, HS⟩
def clock_New.f (a0 : Int) : Option clock_Set := some ({ now := a0, left := List.replicate 32 0 } : clock_Set)
theorem clock_New.calls {a0 : Int} {R : As} {w0 w : World}  {r : clock_Set} (H : clock_New.f a0 = some r) (HS : Sep.St [R] w0 w)  : Calls Try.prog 44 #[Value.int .u32 a0] w (Ret fun u w => ∃ (bq0 : Nat), u = Value.pointer (some ⟨bq0, 0, none⟩) ∧ Sep.St [clock_Set.at bq0 r, R] w0 w) := by
 unfold clock_New.f at H
 refine calls_enter Try.func44 rfl rfl ?_
 have H : _ = some r := H
 refine V.seq (V.region (W.as rfl (W.nx (V.seq (V.region (W.mv rfl (W.r (X.bd (Value.agg (([Value.int .u32 a0] ++ (List.replicate 32 0).map (Value.int .i64)).toArray)) rfl (fun _ => by kernel_rfl)) rfl (W.e (Y.box HS rfl) rfl ?_))))))))
 rintro _ w ⟨nb1, rfl, HS⟩
 refine W.as rfl (W.nx (V.ret ?_))
 replace HS := clock_Set.close (by first | exact (by simp) | (simp only [List.length_set]; exact (by simp))) HS
 cases H
 exact At.ret1 rfl rfl ⟨_, rfl, nb1, rfl, HS⟩
mutual
def arq_New.j0 (a0 : api_Config) (x3 : Int) : Option arq_Arq := ((arq_cut.f a0.T1 1 1048576).bind fun t7 => ((arq_cut.f a0.N2 1 100).bind fun t9 => ((arq_cut.f a0.Size 1 1000).bind fun t11 => ((backlog_New.f x3 a0.Window a0.Queue).bind fun t13 => ((reorder_New.f x3 a0.Window).bind fun t15 => ((clock_New.f 0).bind fun t17 => some (({ m := x3, t1 := t7, n2 := t9, size := t11, state := 0, tag := 0, tries := 0, rejected := false, log := t13, order := t15, timers := t17, out := ([] : List (List Int)), inds := ([] : List Int), sent := 0, acked := 0, lost := 0 } : arq_Arq))))))))
end
def arq_New.f (a0 : api_Config) : Option arq_Arq := (if a0.Modulus = 32768 then (arq_New.j0 a0 32768) else (arq_New.j0 a0 128))
theorem arq_New.calls {a0 : api_Config} {R : As} {w0 w : World}  {r : arq_Arq} (H : arq_New.f a0 = some r) (HS : Sep.St [R] w0 w)  : Calls Try.prog 17 #[Value.agg #[Value.int .i64 a0.Mode, Value.int .i64 a0.Modulus, Value.int .i64 a0.Window, Value.int .i64 a0.T1, Value.int .i64 a0.N2, Value.int .i64 a0.Hold, Value.int .i64 a0.Wait, Value.int .i64 a0.Keep, Value.int .i64 a0.Queue, Value.int .i64 a0.Size, Value.int .i64 a0.Ring, Value.int .i64 a0.Rate, Value.int .i64 a0.Bad, Value.int .i64 a0.Good, Value.bool a0.Revert, Value.bool a0.Wide]] w (Ret fun u w => ∃ (bq0 : Nat), u = Value.pointer (some ⟨bq0, 0, none⟩) ∧ Sep.St [arq_Arq.at bq0 r, R] w0 w) := by
 unfold arq_New.f at H
 refine calls_enter Try.func17 rfl rfl ?_
 have H : _ = some r := H
 refine V.seq (V.region (W.e (Y.box HS rfl) rfl ?_))
 rintro _ w ⟨nb1, rfl, HS⟩
 refine W.as rfl (W.nx (V.seq (V.region (W.as rfl (W.nx (V.meet (σ := Int) (fun st w => match st with | x3 => Sep.St [api_Config.at nb1 a0, R] w0 w ∧ arq_New.j0 a0 x3 = some r) (fun st => match st with | x3 => [(1, Value.pointer (some ⟨nb1, 0, none⟩)), (3, Value.int .i64 x3)]) ?_ ?_))))))
 ·refine V.seq (V.region (W.fa fo24_1 rfl (W.ld 0 HS Try.underlying3 rfl rfl rfl rfl (W.r (X.cmp (decide (a0.Modulus = 32768)) rfl rfl rfl rfl) rfl (W.nx ?_)))))
  by_cases c20 : a0.Modulus = 32768
  ·replace H := ite_t c20 H
   refine V.condT (sb (decide_eq_true c20)) (V.region (W.as rfl (W.nil ?_)))
   replace HS := api_Config.close trivial HS
   exact At.meet (32768) ⟨rfl, rfl, trivial⟩ ⟨HS, H⟩
  ·replace H := ite_f c20 H
   refine V.condF (sb (decide_eq_false c20)) (V.skip ?_)
   replace HS := api_Config.close trivial HS
   exact At.meet (128) ⟨rfl, rfl, trivial⟩ ⟨HS, H⟩
 ·rintro x3 w ⟨HS, H⟩
  unfold arq_New.j0 at H
  refine V.seq ?_
  obtain ⟨hi6, HS⟩ := api_Config.open HS
  refine V.dr [3, 6, 9, 15, 19, 20, 22] [21, 23] [(7, Value.int .i64 x3), (8, Value.pointer (some ⟨nb1, 0 + 3, none⟩)), (9, Value.int .i64 a0.T1), (11, Value.pointer (some ⟨nb1, 0 + 4, none⟩)), (12, Value.int .i64 a0.N2), (14, Value.pointer (some ⟨nb1, 0 + 9, none⟩)), (15, Value.int .i64 a0.Size), (17, Value.int .i64 x3), (18, Value.pointer (some ⟨nb1, 0 + 2, none⟩)), (19, Value.int .i64 a0.Window), (20, Value.pointer (some ⟨nb1, 0 + 8, none⟩)), (21, Value.int .i64 a0.Queue), (23, Value.int .i64 x3), (24, Value.pointer (some ⟨nb1, 0 + 2, none⟩)), (25, Value.int .i64 a0.Window)] mo HS ?_
  refine T.ev [(9, _)] [21, 23] [1, 2] ⟨rfl, trivial⟩ ⟨.mv 3, .fa 1 fo24_3, .ld 8 0 Try.underlying3, .fa 1 fo24_4, .ld 11 0 Try.underlying3, .fa 1 fo24_9, .ld 14 0 Try.underlying3, .mv 3, .fa 1 fo24_2, .ld 18 0 Try.underlying3, .fa 1 fo24_8, .ld 20 0 Try.underlying3, .mv 3, .fa 1 fo24_2, .ld 24 0 Try.underlying3, trivial⟩ rfl (fun w HS => ?_)
  obtain ⟨t7, A8, H⟩ := bind_s H
  refine ⟨_, Y.cl Try.func41 (arq_cut.calls A8 HS.j0), ?_⟩
  rintro _ w ⟨rfl, HS⟩
  replace HS := HS.o0
  refine T.nw HS ?_
  refine T.ev [(12, _)] [21, 23] [4, 5] ⟨rfl, trivial⟩ ⟨.mv 3, .fa 1 fo24_4, .ld 11 0 Try.underlying3, .fa 1 fo24_9, .ld 14 0 Try.underlying3, .mv 3, .fa 1 fo24_2, .ld 18 0 Try.underlying3, .fa 1 fo24_8, .ld 20 0 Try.underlying3, .mv 3, .fa 1 fo24_2, .ld 24 0 Try.underlying3, trivial⟩ rfl (fun w HS => ?_)
  obtain ⟨t9, A10, H⟩ := bind_s H
  refine ⟨_, Y.cl Try.func41 (arq_cut.calls A10 HS.j0), ?_⟩
  rintro _ w ⟨rfl, HS⟩
  replace HS := HS.o0
  refine T.nw HS ?_
  refine T.ev [(15, _)] [21, 23] [7, 8] ⟨rfl, trivial⟩ ⟨.mv 3, .fa 1 fo24_9, .ld 14 0 Try.underlying3, .mv 3, .fa 1 fo24_2, .ld 18 0 Try.underlying3, .fa 1 fo24_8, .ld 20 0 Try.underlying3, .mv 3, .fa 1 fo24_2, .ld 24 0 Try.underlying3, trivial⟩ rfl (fun w HS => ?_)
  obtain ⟨t11, A12, H⟩ := bind_s H
  refine ⟨_, Y.cl Try.func41 (arq_cut.calls A12 HS.j0), ?_⟩
  rintro _ w ⟨rfl, HS⟩
  replace HS := HS.o0
  refine T.nw HS ?_
  refine T.ev [(17, _), (19, _), (21, _)] [21, 23] [10, 11, 12, 13, 14] ⟨rfl, rfl, rfl, trivial⟩ ⟨.mv 3, .mv 3, .fa 1 fo24_2, .ld 18 0 Try.underlying3, .fa 1 fo24_8, .ld 20 0 Try.underlying3, .mv 3, .fa 1 fo24_2, .ld 24 0 Try.underlying3, trivial⟩ rfl (fun w HS => ?_)
  obtain ⟨t13, A14, H⟩ := bind_s H
  refine ⟨_, Y.cl Try.func42 (backlog_New.calls A14 HS.j0), ?_⟩
  rintro _ w ⟨bt13_0, rfl, HS⟩
  replace HS := HS.o1
  refine T.nw HS ?_
  refine T.ev [(23, _), (25, _)] [21, 23] [16, 17, 18] ⟨rfl, rfl, trivial⟩ ⟨.mv 3, .mv 3, .fa 1 fo24_2, .ld 24 1 Try.underlying3, trivial⟩ rfl (fun w HS => ?_)
  obtain ⟨t15, A16, H⟩ := bind_s H
  refine ⟨_, Y.cl Try.func43 (reorder_New.calls A16 HS.j0), ?_⟩
  rintro _ w ⟨bt15_0, rfl, HS⟩
  replace HS := HS.o1
  refine T.nw HS ?_
  refine T.ev [] [23] [] trivial ⟨.mv 3, trivial⟩ rfl (fun w HS => ?_)
  obtain ⟨t17, A18, H⟩ := bind_s H
  refine ⟨_, Y.cl Try.func44 (clock_New.calls A18 HS.j0), ?_⟩
  rintro _ w ⟨bt17_0, rfl, HS⟩
  replace HS := HS.o1
  refine T.nm [(27, Value.pointer (some ⟨bt17_0, 0, none⟩)), (28, Value.agg #[Value.int .i64 x3, Value.int .i64 t7, Value.int .i64 t9, Value.int .i64 t11, Value.int .i64 (0), Value.int .i64 (0), Value.int .i64 (0), Value.bool false, Value.pointer (some ⟨bt13_0, 0, none⟩), Value.pointer (some ⟨bt15_0, 0, none⟩), Value.pointer (some ⟨bt17_0, 0, none⟩), Value.slice none 0 0, Value.slice none 0 0, Value.int .i64 (0), Value.int .i64 (0), Value.int .i64 (0)])] HS ⟨.inl ⟨rfl, rfl⟩, ⟨.inr ⟨by decide, rfl⟩, trivial⟩⟩ ?_
  refine T.ev [(28, _)] [] [0, 21] ⟨rfl, trivial⟩ ⟨.mv 3, .ns [(7, _), (10, _), (13, _), (16, _), (22, _), (26, _), (27, _)] ⟨rfl, rfl, rfl, rfl, rfl, rfl, rfl, trivial⟩ rfl (fun w HS => X.bd (Value.agg #[Value.int .i64 x3, Value.int .i64 t7, Value.int .i64 t9, Value.int .i64 t11, Value.int .i64 (0), Value.int .i64 (0), Value.int .i64 (0), Value.bool false, Value.pointer (some ⟨bt13_0, 0, none⟩), Value.pointer (some ⟨bt15_0, 0, none⟩), Value.pointer (some ⟨bt17_0, 0, none⟩), Value.slice none 0 0, Value.slice none 0 0, Value.int .i64 (0), Value.int .i64 (0), Value.int .i64 (0)]) rfl (fun _ => by kernel_rfl)), trivial⟩ rfl (fun w HS => ?_)
  refine ⟨_, Y.box HS rfl, ?_⟩
  rintro _ w ⟨nb19, rfl, HS⟩
  refine T.nm [(29, Value.pointer (some ⟨nb19, 0, none⟩)), (2, Value.pointer (some ⟨nb19, 0, none⟩))] HS ⟨.inl ⟨rfl, rfl⟩, ⟨.inr ⟨by decide, rfl⟩, trivial⟩⟩ ?_
  refine T.fn [(2, _)] ⟨rfl, trivial⟩ ⟨.as 29, trivial⟩ (fun w HS => ?_)
  refine At.next (V.ret ?_)
  replace HS := row_nilE (El.sl (El.int .u8)) 39 1 HS
  replace HS := row_nilF (Value.int .i64) 3 1 HS
  replace HS := HS.pm [3, 6, 5, 4, 1, 2, 0, 7, 8]
  replace HS := arq_Arq.close (l11 := ([] : List (List Int))) (l12 := ([] : List Int)) trivial HS
  replace HS := HS.pk [0, 2] [1]
  cases H
  exact At.ret1 rfl rfl ⟨_, rfl, nb19, rfl, HS⟩
def signalmanlaw15_num.f (a0 : Int) : Option Int := some a0
theorem signalmanlaw15_num.calls {a0 : Int} {R : As} {w0 w : World}  {r : Int} (H : signalmanlaw15_num.f a0 = some r) (HS : Sep.St [R] w0 w)  : Calls Try.prog 35 #[Value.int .i64 a0] w (Ret fun u w => u = Value.int .i64 r ∧ Sep.St [R] w0 w) := by
 unfold signalmanlaw15_num.f at H
 refine calls_enter Try.func35 rfl rfl ?_
 have H : _ = some r := H
 refine V.seq (V.region (W.as rfl (W.nx (V.seq (V.region (W.mv rfl (W.as rfl (W.nx (V.ret ?_)))))))))
 cases H
 exact At.ret1 rfl rfl ⟨_, rfl, rfl, HS⟩
def signalmanlaw15_alive.f (k : Nat)  : Option Bool := ((signalmanlaw15_shape.f 128 4 4).bind fun t1 => ((arq_New.f t1).bind fun t3 => ((arq_Arq_Connect.f k t3).bind fun t6 => ((arq_Arq_Output.f t6.2).bind fun t8 => ((signalmanlaw15_num.f t6.1).bind fun t10 => (if t10 = 0 then ((arq_Arq_State.f t8.2).bind fun t15 => (if t15 = 1 then (if (t8.1.length : Int) = 1 then (if 0 ≤ (0 : Int) ∧ (0 : Int) < (t8.1.length : Int) then some (sEq (t8.1.getD (0 : Int).toNat []) ([0, 1, 127] : List Int)) else none) else some false) else some false)) else some false))))))
theorem signalmanlaw15_alive.calls {k : Nat}  {R : As} {w0 w : World}  {r : Bool} (H : signalmanlaw15_alive.f k  = some r) (HS : Sep.St [R] w0 w)  : Calls Try.prog 15 #[] w (Ret fun u w => u = Value.bool r ∧ Sep.St [R] w0 w) := by
 unfold signalmanlaw15_alive.f at H
 refine calls_enter Try.func15 rfl rfl ?_
 have H : _ = some r := H
 refine V.seq (V.region (W.as rfl (W.nx (V.seq (V.region ?_)))))
 obtain ⟨t1, A2, H⟩ := bind_s H
 refine W.e (Y.cl Try.func16 (signalmanlaw15_shape.calls A2 HS.j0)) rfl ?_
 rintro _ w ⟨rfl, HS⟩
 replace HS := HS.o0
 obtain ⟨t3, A4, H⟩ := bind_s H
 refine W.e (Y.cl Try.func17 (arq_New.calls A4 HS.j0)) rfl ?_
 rintro _ w ⟨bt3_0, rfl, HS⟩
 replace HS := HS.o1
 refine W.as rfl (W.nx (V.seq (V.seq (V.region (W.mv rfl (W.r (X.eqP Try.underlying26 rfl rfl) rfl (W.nx (V.condF rfl (V.skip (At.next (V.seq (V.region (W.mv rfl ?_)))))))))))))
 obtain ⟨t6, A7, H⟩ := bind_s H
 refine W.e (Y.cl Try.func18 (arq_Arq_Connect.calls A7 HS.j1)) rfl ?_
 rintro _ w ⟨rfl, HS⟩
 replace HS := HS.o1
 refine W.as rfl (W.nx (V.seq (V.region (W.mv rfl ?_))))
 obtain ⟨t8, A9, H⟩ := bind_s H
 refine W.e (Y.cl Try.func20 (arq_Arq_Output.calls A9 HS.j1)) rfl ?_
 rintro _ w ⟨at8_0, ct8_0, dt8_0, rfl, HS⟩
 replace HS := HS.o3
 refine W.as rfl (W.nx (V.seq (V.region (W.mv rfl ?_))))
 obtain ⟨t10, A11, H⟩ := bind_s H
 refine W.e (Y.cl Try.func35 (signalmanlaw15_num.calls A11 HS.j0)) rfl ?_
 rintro _ w ⟨rfl, HS⟩
 replace HS := HS.o0
 refine W.r (X.cmp (decide (t10 = 0)) rfl rfl rfl rfl) rfl (W.mv rfl ?_)
 by_cases c12 : t10 = 0
 ·replace H := ite_t c12 H
  refine W.want 15 rfl (sb (decide_eq_true c12)) (W.mv rfl (W.want 15 rfl (sb (decide_eq_true c12)) ?_))
  replace HS := HS.fr 2
  obtain ⟨b8_13, b9_13, b10_13, a11_13, c11_13, d11_13, a12_13, c12_13, hi14, HS⟩ := arq_Arq.open HS
  obtain ⟨t15, A16, H⟩ := bind_s H
  refine W.e (Y.cl Try.func22 (arq_Arq_State.calls A16 HS.j7)) rfl ?_
  rintro _ w ⟨rfl, HS⟩
  replace HS := HS.o7
  refine W.want 15 rfl (sb (decide_eq_true c12)) (W.r (X.cmp (decide (t15 = 1)) rfl rfl rfl rfl) rfl (W.r (X.pickT (sb (decide_eq_true c12)) rfl) rfl (W.mv rfl ?_)))
  by_cases c17 : t15 = 1
  ·replace H := ite_t c17 H
   refine W.want 20 rfl (sb (decide_eq_true c17)) (W.mv rfl (W.want 20 rfl (sb (decide_eq_true c17)) (W.r (X.lenSl Try.underlying30 rfl) rfl (W.want 20 rfl (sb (decide_eq_true c17)) (W.r (X.cmp (decide ((t8.1.length : Int) = 1)) rfl rfl rfl rfl) rfl (W.r (X.pickT (sb (decide_eq_true c17)) rfl) rfl (W.mv rfl ?_)))))))
   by_cases c18 : (t8.1.length : Int) = 1
   ·replace H := ite_t c18 H
    refine W.want 25 rfl (sb (decide_eq_true c18)) (W.mv rfl (W.want 25 rfl (sb (decide_eq_true c18)) ?_))
    obtain ⟨c19, H⟩ := ite_n H
    obtain ⟨eb20, eo21, hh⟩ := (rdC.at 7 row_rd HS rfl).some (by decide) c19.1 c19.2; subst hh
    refine W.r (X.indexSl Try.underlying30 inf39 rfl rfl c19.1 c19.2) rfl (W.want 25 rfl (sb (decide_eq_true c18)) ?_)
    obtain ⟨ec22, hc23, HS⟩ := St.tie_at 8 HS rfl ([]) c19.1 c19.2
    obtain ⟨ea24, em25, he27, HN⟩ := St.sl_openF (Value.int .u8) (fun t => tie_int t) HS; clear HS; subst he27; have HS := HN
    refine W.r (X.load Try.underlying39 rfl rfl ((rdC.at 8 row_rd HS rfl).cellEl0 (hc23 0 _ rfl))) rfl (W.want 25 rfl (sb (decide_eq_true c18)) (W.r (X.bytesStr Try.underlying39 Try.underlying5 Try.underlying9 rfl (rdC.at 0 fsl.rd HS rfl)) rfl (W.want 25 rfl (sb (decide_eq_true c18)) (W.r (X.eqStr (a := t8.1.getD (0 : Int).toNat []) (b := ([0, 1, 127] : List Int)) rfl rfl) rfl (W.r (X.pickT (sb (decide_eq_true c18)) rfl) rfl (W.as rfl (W.nx (V.ret ?_))))))))
    replace HS := HS.pk [10] [0, 1, 2, 3, 4, 5, 6, 7, 8, 9]
    cases H
    exact At.ret1 rfl rfl ⟨_, rfl, rfl, HS⟩
   ·replace H := ite_f c18 H
    refine W.pass 25 rfl (sb (decide_eq_false c18)) rfl rfl (W.pass 25 rfl (sb (decide_eq_false c18)) rfl rfl (W.pass 25 rfl (sb (decide_eq_false c18)) rfl rfl (W.pass 25 rfl (sb (decide_eq_false c18)) rfl rfl (W.pass 25 rfl (sb (decide_eq_false c18)) rfl rfl (W.r (X.pickF (sb (decide_eq_false c18)) rfl) rfl (W.as rfl (W.nx (V.ret ?_))))))))
    replace HS := HS.pk [9] [0, 1, 2, 3, 4, 5, 6, 7, 8]
    cases H
    exact At.ret1 rfl rfl ⟨_, rfl, rfl, HS⟩
  ·replace H := ite_f c17 H
   refine W.pass 20 rfl (sb (decide_eq_false c17)) rfl rfl (W.pass 20 rfl (sb (decide_eq_false c17)) rfl rfl (W.pass 20 rfl (sb (decide_eq_false c17)) rfl rfl (W.r (X.pickF (sb (decide_eq_false c17)) rfl) rfl (W.mv rfl (W.pass 25 rfl rfl rfl rfl (W.pass 25 rfl rfl rfl rfl (W.pass 25 rfl rfl rfl rfl (W.pass 25 rfl rfl rfl rfl (W.pass 25 rfl rfl rfl rfl (W.r (X.pickF rfl rfl) rfl (W.as rfl (W.nx (V.ret ?_)))))))))))))
   replace HS := HS.pk [9] [0, 1, 2, 3, 4, 5, 6, 7, 8]
   cases H
   exact At.ret1 rfl rfl ⟨_, rfl, rfl, HS⟩
 ·replace H := ite_f c12 H
  refine W.pass 15 rfl (sb (decide_eq_false c12)) rfl rfl (W.pass 15 rfl (sb (decide_eq_false c12)) rfl rfl (W.pass 15 rfl (sb (decide_eq_false c12)) rfl rfl (W.r (X.pickF (sb (decide_eq_false c12)) rfl) rfl (W.mv rfl (W.pass 20 rfl rfl rfl rfl (W.pass 20 rfl rfl rfl rfl (W.pass 20 rfl rfl rfl rfl (W.r (X.pickF rfl rfl) rfl (W.mv rfl (W.pass 25 rfl rfl rfl rfl (W.pass 25 rfl rfl rfl rfl (W.pass 25 rfl rfl rfl rfl (W.pass 25 rfl rfl rfl rfl (W.pass 25 rfl rfl rfl rfl (W.r (X.pickF rfl rfl) rfl (W.as rfl (W.nx (V.ret ?_))))))))))))))))))
  replace HS := HS.pk [3] [0, 1, 2]
  cases H
  exact At.ret1 rfl rfl ⟨_, rfl, rfl, HS⟩
structure signalmanlaw15_pair where
 a : (arq_Arq × arq_Arq)
 way : (List (List Int) × List (List Int))
 heard : (List (List Int) × List (List Int))
 said : (List (List Int) × List (List Int))
 downs : Int
deriving DecidableEq, Inhabited
def signalmanlaw15_pair.at (b : Nat) (x : signalmanlaw15_pair) : As := fun h => True ∧ ∃ b0 : Nat, ∃ b1 : Nat, ∃ a2 : Option Addr, ∃ c2 : Nat, ∃ d2 : List Value, ∃ a3 : Option Addr, ∃ c3 : Nat, ∃ d3 : List Value, ∃ a4 : Option Addr, ∃ c4 : Nat, ∃ a5 : Option Addr, ∃ c5 : Nat, ∃ a6 : Option Addr, ∃ c6 : Nat, ∃ a7 : Option Addr, ∃ c7 : Nat, Sp [blk b (#[Value.pointer (some ⟨b0, 0, none⟩), Value.pointer (some ⟨b1, 0, none⟩), Value.slice a2 x.way.1.length c2, Value.slice a3 x.way.2.length c3, Value.slice a4 x.heard.1.length c4, Value.slice a5 x.heard.2.length c5, Value.slice a6 x.said.1.length c6, Value.slice a7 x.said.2.length c7, Value.int .i64 x.downs]) 59, arq_Arq.at b0 x.a.1, arq_Arq.at b1 x.a.2, row 39 1 (.slice a2 x.way.1.length c2) x.way.1.length d2, tie (El.sl (El.int .u8)) d2 x.way.1, row 39 1 (.slice a3 x.way.2.length c3) x.way.2.length d3, tie (El.sl (El.int .u8)) d3 x.way.2, row 9 1 (.slice a4 x.heard.1.length c4) x.heard.1.length (x.heard.1.map (fun x => Value.string (strOf x))), row 9 1 (.slice a5 x.heard.2.length c5) x.heard.2.length (x.heard.2.map (fun x => Value.string (strOf x))), row 9 1 (.slice a6 x.said.1.length c6) x.said.1.length (x.said.1.map (fun x => Value.string (strOf x))), row 9 1 (.slice a7 x.said.2.length c7) x.said.2.length (x.said.2.map (fun x => Value.string (strOf x)))] h
theorem signalmanlaw15_pair.open {b : Nat} {x : signalmanlaw15_pair} {L : List As} {w0 w : World} (hs : Sep.St (signalmanlaw15_pair.at b x :: L) w0 w) : ∃ b0 : Nat, ∃ b1 : Nat, ∃ a2 : Option Addr, ∃ c2 : Nat, ∃ d2 : List Value, ∃ a3 : Option Addr, ∃ c3 : Nat, ∃ d3 : List Value, ∃ a4 : Option Addr, ∃ c4 : Nat, ∃ a5 : Option Addr, ∃ c5 : Nat, ∃ a6 : Option Addr, ∃ c6 : Nat, ∃ a7 : Option Addr, ∃ c7 : Nat, True ∧ Sep.St (blk b (#[Value.pointer (some ⟨b0, 0, none⟩), Value.pointer (some ⟨b1, 0, none⟩), Value.slice a2 x.way.1.length c2, Value.slice a3 x.way.2.length c3, Value.slice a4 x.heard.1.length c4, Value.slice a5 x.heard.2.length c5, Value.slice a6 x.said.1.length c6, Value.slice a7 x.said.2.length c7, Value.int .i64 x.downs]) 59 :: arq_Arq.at b0 x.a.1 :: arq_Arq.at b1 x.a.2 :: row 39 1 (.slice a2 x.way.1.length c2) x.way.1.length d2 :: tie (El.sl (El.int .u8)) d2 x.way.1 :: row 39 1 (.slice a3 x.way.2.length c3) x.way.2.length d3 :: tie (El.sl (El.int .u8)) d3 x.way.2 :: row 9 1 (.slice a4 x.heard.1.length c4) x.heard.1.length (x.heard.1.map (fun x => Value.string (strOf x))) :: row 9 1 (.slice a5 x.heard.2.length c5) x.heard.2.length (x.heard.2.map (fun x => Value.string (strOf x))) :: row 9 1 (.slice a6 x.said.1.length c6) x.said.1.length (x.said.1.map (fun x => Value.string (strOf x))) :: row 9 1 (.slice a7 x.said.2.length c7) x.said.2.length (x.said.2.map (fun x => Value.string (strOf x))) :: L) w0 w := by
 have h1 := St.pure.1 (show St ((fun h => True ∧ (fun h => ∃ b0 : Nat, ∃ b1 : Nat, ∃ a2 : Option Addr, ∃ c2 : Nat, ∃ d2 : List Value, ∃ a3 : Option Addr, ∃ c3 : Nat, ∃ d3 : List Value, ∃ a4 : Option Addr, ∃ c4 : Nat, ∃ a5 : Option Addr, ∃ c5 : Nat, ∃ a6 : Option Addr, ∃ c6 : Nat, ∃ a7 : Option Addr, ∃ c7 : Nat, Sp [blk b (#[Value.pointer (some ⟨b0, 0, none⟩), Value.pointer (some ⟨b1, 0, none⟩), Value.slice a2 x.way.1.length c2, Value.slice a3 x.way.2.length c3, Value.slice a4 x.heard.1.length c4, Value.slice a5 x.heard.2.length c5, Value.slice a6 x.said.1.length c6, Value.slice a7 x.said.2.length c7, Value.int .i64 x.downs]) 59, arq_Arq.at b0 x.a.1, arq_Arq.at b1 x.a.2, row 39 1 (.slice a2 x.way.1.length c2) x.way.1.length d2, tie (El.sl (El.int .u8)) d2 x.way.1, row 39 1 (.slice a3 x.way.2.length c3) x.way.2.length d3, tie (El.sl (El.int .u8)) d3 x.way.2, row 9 1 (.slice a4 x.heard.1.length c4) x.heard.1.length (x.heard.1.map (fun x => Value.string (strOf x))), row 9 1 (.slice a5 x.heard.2.length c5) x.heard.2.length (x.heard.2.map (fun x => Value.string (strOf x))), row 9 1 (.slice a6 x.said.1.length c6) x.said.1.length (x.said.1.map (fun x => Value.string (strOf x))), row 9 1 (.slice a7 x.said.2.length c7) x.said.2.length (x.said.2.map (fun x => Value.string (strOf x)))] h) h) :: L) w0 w from hs)
 obtain ⟨hi, hs⟩ := h1
 obtain ⟨b0, hs⟩ := St.ex.1 (show St ((fun h => ∃ b0 : Nat, (fun h => ∃ b1 : Nat, ∃ a2 : Option Addr, ∃ c2 : Nat, ∃ d2 : List Value, ∃ a3 : Option Addr, ∃ c3 : Nat, ∃ d3 : List Value, ∃ a4 : Option Addr, ∃ c4 : Nat, ∃ a5 : Option Addr, ∃ c5 : Nat, ∃ a6 : Option Addr, ∃ c6 : Nat, ∃ a7 : Option Addr, ∃ c7 : Nat, Sp [blk b (#[Value.pointer (some ⟨b0, 0, none⟩), Value.pointer (some ⟨b1, 0, none⟩), Value.slice a2 x.way.1.length c2, Value.slice a3 x.way.2.length c3, Value.slice a4 x.heard.1.length c4, Value.slice a5 x.heard.2.length c5, Value.slice a6 x.said.1.length c6, Value.slice a7 x.said.2.length c7, Value.int .i64 x.downs]) 59, arq_Arq.at b0 x.a.1, arq_Arq.at b1 x.a.2, row 39 1 (.slice a2 x.way.1.length c2) x.way.1.length d2, tie (El.sl (El.int .u8)) d2 x.way.1, row 39 1 (.slice a3 x.way.2.length c3) x.way.2.length d3, tie (El.sl (El.int .u8)) d3 x.way.2, row 9 1 (.slice a4 x.heard.1.length c4) x.heard.1.length (x.heard.1.map (fun x => Value.string (strOf x))), row 9 1 (.slice a5 x.heard.2.length c5) x.heard.2.length (x.heard.2.map (fun x => Value.string (strOf x))), row 9 1 (.slice a6 x.said.1.length c6) x.said.1.length (x.said.1.map (fun x => Value.string (strOf x))), row 9 1 (.slice a7 x.said.2.length c7) x.said.2.length (x.said.2.map (fun x => Value.string (strOf x)))] h) h) :: L) w0 w from hs)
 obtain ⟨b1, hs⟩ := St.ex.1 (show St ((fun h => ∃ b1 : Nat, (fun h => ∃ a2 : Option Addr, ∃ c2 : Nat, ∃ d2 : List Value, ∃ a3 : Option Addr, ∃ c3 : Nat, ∃ d3 : List Value, ∃ a4 : Option Addr, ∃ c4 : Nat, ∃ a5 : Option Addr, ∃ c5 : Nat, ∃ a6 : Option Addr, ∃ c6 : Nat, ∃ a7 : Option Addr, ∃ c7 : Nat, Sp [blk b (#[Value.pointer (some ⟨b0, 0, none⟩), Value.pointer (some ⟨b1, 0, none⟩), Value.slice a2 x.way.1.length c2, Value.slice a3 x.way.2.length c3, Value.slice a4 x.heard.1.length c4, Value.slice a5 x.heard.2.length c5, Value.slice a6 x.said.1.length c6, Value.slice a7 x.said.2.length c7, Value.int .i64 x.downs]) 59, arq_Arq.at b0 x.a.1, arq_Arq.at b1 x.a.2, row 39 1 (.slice a2 x.way.1.length c2) x.way.1.length d2, tie (El.sl (El.int .u8)) d2 x.way.1, row 39 1 (.slice a3 x.way.2.length c3) x.way.2.length d3, tie (El.sl (El.int .u8)) d3 x.way.2, row 9 1 (.slice a4 x.heard.1.length c4) x.heard.1.length (x.heard.1.map (fun x => Value.string (strOf x))), row 9 1 (.slice a5 x.heard.2.length c5) x.heard.2.length (x.heard.2.map (fun x => Value.string (strOf x))), row 9 1 (.slice a6 x.said.1.length c6) x.said.1.length (x.said.1.map (fun x => Value.string (strOf x))), row 9 1 (.slice a7 x.said.2.length c7) x.said.2.length (x.said.2.map (fun x => Value.string (strOf x)))] h) h) :: L) w0 w from hs)
 obtain ⟨a2, hs⟩ := St.ex.1 (show St ((fun h => ∃ a2 : Option Addr, (fun h => ∃ c2 : Nat, ∃ d2 : List Value, ∃ a3 : Option Addr, ∃ c3 : Nat, ∃ d3 : List Value, ∃ a4 : Option Addr, ∃ c4 : Nat, ∃ a5 : Option Addr, ∃ c5 : Nat, ∃ a6 : Option Addr, ∃ c6 : Nat, ∃ a7 : Option Addr, ∃ c7 : Nat, Sp [blk b (#[Value.pointer (some ⟨b0, 0, none⟩), Value.pointer (some ⟨b1, 0, none⟩), Value.slice a2 x.way.1.length c2, Value.slice a3 x.way.2.length c3, Value.slice a4 x.heard.1.length c4, Value.slice a5 x.heard.2.length c5, Value.slice a6 x.said.1.length c6, Value.slice a7 x.said.2.length c7, Value.int .i64 x.downs]) 59, arq_Arq.at b0 x.a.1, arq_Arq.at b1 x.a.2, row 39 1 (.slice a2 x.way.1.length c2) x.way.1.length d2, tie (El.sl (El.int .u8)) d2 x.way.1, row 39 1 (.slice a3 x.way.2.length c3) x.way.2.length d3, tie (El.sl (El.int .u8)) d3 x.way.2, row 9 1 (.slice a4 x.heard.1.length c4) x.heard.1.length (x.heard.1.map (fun x => Value.string (strOf x))), row 9 1 (.slice a5 x.heard.2.length c5) x.heard.2.length (x.heard.2.map (fun x => Value.string (strOf x))), row 9 1 (.slice a6 x.said.1.length c6) x.said.1.length (x.said.1.map (fun x => Value.string (strOf x))), row 9 1 (.slice a7 x.said.2.length c7) x.said.2.length (x.said.2.map (fun x => Value.string (strOf x)))] h) h) :: L) w0 w from hs)
 obtain ⟨c2, hs⟩ := St.ex.1 (show St ((fun h => ∃ c2 : Nat, (fun h => ∃ d2 : List Value, ∃ a3 : Option Addr, ∃ c3 : Nat, ∃ d3 : List Value, ∃ a4 : Option Addr, ∃ c4 : Nat, ∃ a5 : Option Addr, ∃ c5 : Nat, ∃ a6 : Option Addr, ∃ c6 : Nat, ∃ a7 : Option Addr, ∃ c7 : Nat, Sp [blk b (#[Value.pointer (some ⟨b0, 0, none⟩), Value.pointer (some ⟨b1, 0, none⟩), Value.slice a2 x.way.1.length c2, Value.slice a3 x.way.2.length c3, Value.slice a4 x.heard.1.length c4, Value.slice a5 x.heard.2.length c5, Value.slice a6 x.said.1.length c6, Value.slice a7 x.said.2.length c7, Value.int .i64 x.downs]) 59, arq_Arq.at b0 x.a.1, arq_Arq.at b1 x.a.2, row 39 1 (.slice a2 x.way.1.length c2) x.way.1.length d2, tie (El.sl (El.int .u8)) d2 x.way.1, row 39 1 (.slice a3 x.way.2.length c3) x.way.2.length d3, tie (El.sl (El.int .u8)) d3 x.way.2, row 9 1 (.slice a4 x.heard.1.length c4) x.heard.1.length (x.heard.1.map (fun x => Value.string (strOf x))), row 9 1 (.slice a5 x.heard.2.length c5) x.heard.2.length (x.heard.2.map (fun x => Value.string (strOf x))), row 9 1 (.slice a6 x.said.1.length c6) x.said.1.length (x.said.1.map (fun x => Value.string (strOf x))), row 9 1 (.slice a7 x.said.2.length c7) x.said.2.length (x.said.2.map (fun x => Value.string (strOf x)))] h) h) :: L) w0 w from hs)
 obtain ⟨d2, hs⟩ := St.ex.1 (show St ((fun h => ∃ d2 : List Value, (fun h => ∃ a3 : Option Addr, ∃ c3 : Nat, ∃ d3 : List Value, ∃ a4 : Option Addr, ∃ c4 : Nat, ∃ a5 : Option Addr, ∃ c5 : Nat, ∃ a6 : Option Addr, ∃ c6 : Nat, ∃ a7 : Option Addr, ∃ c7 : Nat, Sp [blk b (#[Value.pointer (some ⟨b0, 0, none⟩), Value.pointer (some ⟨b1, 0, none⟩), Value.slice a2 x.way.1.length c2, Value.slice a3 x.way.2.length c3, Value.slice a4 x.heard.1.length c4, Value.slice a5 x.heard.2.length c5, Value.slice a6 x.said.1.length c6, Value.slice a7 x.said.2.length c7, Value.int .i64 x.downs]) 59, arq_Arq.at b0 x.a.1, arq_Arq.at b1 x.a.2, row 39 1 (.slice a2 x.way.1.length c2) x.way.1.length d2, tie (El.sl (El.int .u8)) d2 x.way.1, row 39 1 (.slice a3 x.way.2.length c3) x.way.2.length d3, tie (El.sl (El.int .u8)) d3 x.way.2, row 9 1 (.slice a4 x.heard.1.length c4) x.heard.1.length (x.heard.1.map (fun x => Value.string (strOf x))), row 9 1 (.slice a5 x.heard.2.length c5) x.heard.2.length (x.heard.2.map (fun x => Value.string (strOf x))), row 9 1 (.slice a6 x.said.1.length c6) x.said.1.length (x.said.1.map (fun x => Value.string (strOf x))), row 9 1 (.slice a7 x.said.2.length c7) x.said.2.length (x.said.2.map (fun x => Value.string (strOf x)))] h) h) :: L) w0 w from hs)
 obtain ⟨a3, hs⟩ := St.ex.1 (show St ((fun h => ∃ a3 : Option Addr, (fun h => ∃ c3 : Nat, ∃ d3 : List Value, ∃ a4 : Option Addr, ∃ c4 : Nat, ∃ a5 : Option Addr, ∃ c5 : Nat, ∃ a6 : Option Addr, ∃ c6 : Nat, ∃ a7 : Option Addr, ∃ c7 : Nat, Sp [blk b (#[Value.pointer (some ⟨b0, 0, none⟩), Value.pointer (some ⟨b1, 0, none⟩), Value.slice a2 x.way.1.length c2, Value.slice a3 x.way.2.length c3, Value.slice a4 x.heard.1.length c4, Value.slice a5 x.heard.2.length c5, Value.slice a6 x.said.1.length c6, Value.slice a7 x.said.2.length c7, Value.int .i64 x.downs]) 59, arq_Arq.at b0 x.a.1, arq_Arq.at b1 x.a.2, row 39 1 (.slice a2 x.way.1.length c2) x.way.1.length d2, tie (El.sl (El.int .u8)) d2 x.way.1, row 39 1 (.slice a3 x.way.2.length c3) x.way.2.length d3, tie (El.sl (El.int .u8)) d3 x.way.2, row 9 1 (.slice a4 x.heard.1.length c4) x.heard.1.length (x.heard.1.map (fun x => Value.string (strOf x))), row 9 1 (.slice a5 x.heard.2.length c5) x.heard.2.length (x.heard.2.map (fun x => Value.string (strOf x))), row 9 1 (.slice a6 x.said.1.length c6) x.said.1.length (x.said.1.map (fun x => Value.string (strOf x))), row 9 1 (.slice a7 x.said.2.length c7) x.said.2.length (x.said.2.map (fun x => Value.string (strOf x)))] h) h) :: L) w0 w from hs)
 obtain ⟨c3, hs⟩ := St.ex.1 (show St ((fun h => ∃ c3 : Nat, (fun h => ∃ d3 : List Value, ∃ a4 : Option Addr, ∃ c4 : Nat, ∃ a5 : Option Addr, ∃ c5 : Nat, ∃ a6 : Option Addr, ∃ c6 : Nat, ∃ a7 : Option Addr, ∃ c7 : Nat, Sp [blk b (#[Value.pointer (some ⟨b0, 0, none⟩), Value.pointer (some ⟨b1, 0, none⟩), Value.slice a2 x.way.1.length c2, Value.slice a3 x.way.2.length c3, Value.slice a4 x.heard.1.length c4, Value.slice a5 x.heard.2.length c5, Value.slice a6 x.said.1.length c6, Value.slice a7 x.said.2.length c7, Value.int .i64 x.downs]) 59, arq_Arq.at b0 x.a.1, arq_Arq.at b1 x.a.2, row 39 1 (.slice a2 x.way.1.length c2) x.way.1.length d2, tie (El.sl (El.int .u8)) d2 x.way.1, row 39 1 (.slice a3 x.way.2.length c3) x.way.2.length d3, tie (El.sl (El.int .u8)) d3 x.way.2, row 9 1 (.slice a4 x.heard.1.length c4) x.heard.1.length (x.heard.1.map (fun x => Value.string (strOf x))), row 9 1 (.slice a5 x.heard.2.length c5) x.heard.2.length (x.heard.2.map (fun x => Value.string (strOf x))), row 9 1 (.slice a6 x.said.1.length c6) x.said.1.length (x.said.1.map (fun x => Value.string (strOf x))), row 9 1 (.slice a7 x.said.2.length c7) x.said.2.length (x.said.2.map (fun x => Value.string (strOf x)))] h) h) :: L) w0 w from hs)
 obtain ⟨d3, hs⟩ := St.ex.1 (show St ((fun h => ∃ d3 : List Value, (fun h => ∃ a4 : Option Addr, ∃ c4 : Nat, ∃ a5 : Option Addr, ∃ c5 : Nat, ∃ a6 : Option Addr, ∃ c6 : Nat, ∃ a7 : Option Addr, ∃ c7 : Nat, Sp [blk b (#[Value.pointer (some ⟨b0, 0, none⟩), Value.pointer (some ⟨b1, 0, none⟩), Value.slice a2 x.way.1.length c2, Value.slice a3 x.way.2.length c3, Value.slice a4 x.heard.1.length c4, Value.slice a5 x.heard.2.length c5, Value.slice a6 x.said.1.length c6, Value.slice a7 x.said.2.length c7, Value.int .i64 x.downs]) 59, arq_Arq.at b0 x.a.1, arq_Arq.at b1 x.a.2, row 39 1 (.slice a2 x.way.1.length c2) x.way.1.length d2, tie (El.sl (El.int .u8)) d2 x.way.1, row 39 1 (.slice a3 x.way.2.length c3) x.way.2.length d3, tie (El.sl (El.int .u8)) d3 x.way.2, row 9 1 (.slice a4 x.heard.1.length c4) x.heard.1.length (x.heard.1.map (fun x => Value.string (strOf x))), row 9 1 (.slice a5 x.heard.2.length c5) x.heard.2.length (x.heard.2.map (fun x => Value.string (strOf x))), row 9 1 (.slice a6 x.said.1.length c6) x.said.1.length (x.said.1.map (fun x => Value.string (strOf x))), row 9 1 (.slice a7 x.said.2.length c7) x.said.2.length (x.said.2.map (fun x => Value.string (strOf x)))] h) h) :: L) w0 w from hs)
 obtain ⟨a4, hs⟩ := St.ex.1 (show St ((fun h => ∃ a4 : Option Addr, (fun h => ∃ c4 : Nat, ∃ a5 : Option Addr, ∃ c5 : Nat, ∃ a6 : Option Addr, ∃ c6 : Nat, ∃ a7 : Option Addr, ∃ c7 : Nat, Sp [blk b (#[Value.pointer (some ⟨b0, 0, none⟩), Value.pointer (some ⟨b1, 0, none⟩), Value.slice a2 x.way.1.length c2, Value.slice a3 x.way.2.length c3, Value.slice a4 x.heard.1.length c4, Value.slice a5 x.heard.2.length c5, Value.slice a6 x.said.1.length c6, Value.slice a7 x.said.2.length c7, Value.int .i64 x.downs]) 59, arq_Arq.at b0 x.a.1, arq_Arq.at b1 x.a.2, row 39 1 (.slice a2 x.way.1.length c2) x.way.1.length d2, tie (El.sl (El.int .u8)) d2 x.way.1, row 39 1 (.slice a3 x.way.2.length c3) x.way.2.length d3, tie (El.sl (El.int .u8)) d3 x.way.2, row 9 1 (.slice a4 x.heard.1.length c4) x.heard.1.length (x.heard.1.map (fun x => Value.string (strOf x))), row 9 1 (.slice a5 x.heard.2.length c5) x.heard.2.length (x.heard.2.map (fun x => Value.string (strOf x))), row 9 1 (.slice a6 x.said.1.length c6) x.said.1.length (x.said.1.map (fun x => Value.string (strOf x))), row 9 1 (.slice a7 x.said.2.length c7) x.said.2.length (x.said.2.map (fun x => Value.string (strOf x)))] h) h) :: L) w0 w from hs)
 obtain ⟨c4, hs⟩ := St.ex.1 (show St ((fun h => ∃ c4 : Nat, (fun h => ∃ a5 : Option Addr, ∃ c5 : Nat, ∃ a6 : Option Addr, ∃ c6 : Nat, ∃ a7 : Option Addr, ∃ c7 : Nat, Sp [blk b (#[Value.pointer (some ⟨b0, 0, none⟩), Value.pointer (some ⟨b1, 0, none⟩), Value.slice a2 x.way.1.length c2, Value.slice a3 x.way.2.length c3, Value.slice a4 x.heard.1.length c4, Value.slice a5 x.heard.2.length c5, Value.slice a6 x.said.1.length c6, Value.slice a7 x.said.2.length c7, Value.int .i64 x.downs]) 59, arq_Arq.at b0 x.a.1, arq_Arq.at b1 x.a.2, row 39 1 (.slice a2 x.way.1.length c2) x.way.1.length d2, tie (El.sl (El.int .u8)) d2 x.way.1, row 39 1 (.slice a3 x.way.2.length c3) x.way.2.length d3, tie (El.sl (El.int .u8)) d3 x.way.2, row 9 1 (.slice a4 x.heard.1.length c4) x.heard.1.length (x.heard.1.map (fun x => Value.string (strOf x))), row 9 1 (.slice a5 x.heard.2.length c5) x.heard.2.length (x.heard.2.map (fun x => Value.string (strOf x))), row 9 1 (.slice a6 x.said.1.length c6) x.said.1.length (x.said.1.map (fun x => Value.string (strOf x))), row 9 1 (.slice a7 x.said.2.length c7) x.said.2.length (x.said.2.map (fun x => Value.string (strOf x)))] h) h) :: L) w0 w from hs)
 obtain ⟨a5, hs⟩ := St.ex.1 (show St ((fun h => ∃ a5 : Option Addr, (fun h => ∃ c5 : Nat, ∃ a6 : Option Addr, ∃ c6 : Nat, ∃ a7 : Option Addr, ∃ c7 : Nat, Sp [blk b (#[Value.pointer (some ⟨b0, 0, none⟩), Value.pointer (some ⟨b1, 0, none⟩), Value.slice a2 x.way.1.length c2, Value.slice a3 x.way.2.length c3, Value.slice a4 x.heard.1.length c4, Value.slice a5 x.heard.2.length c5, Value.slice a6 x.said.1.length c6, Value.slice a7 x.said.2.length c7, Value.int .i64 x.downs]) 59, arq_Arq.at b0 x.a.1, arq_Arq.at b1 x.a.2, row 39 1 (.slice a2 x.way.1.length c2) x.way.1.length d2, tie (El.sl (El.int .u8)) d2 x.way.1, row 39 1 (.slice a3 x.way.2.length c3) x.way.2.length d3, tie (El.sl (El.int .u8)) d3 x.way.2, row 9 1 (.slice a4 x.heard.1.length c4) x.heard.1.length (x.heard.1.map (fun x => Value.string (strOf x))), row 9 1 (.slice a5 x.heard.2.length c5) x.heard.2.length (x.heard.2.map (fun x => Value.string (strOf x))), row 9 1 (.slice a6 x.said.1.length c6) x.said.1.length (x.said.1.map (fun x => Value.string (strOf x))), row 9 1 (.slice a7 x.said.2.length c7) x.said.2.length (x.said.2.map (fun x => Value.string (strOf x)))] h) h) :: L) w0 w from hs)
 obtain ⟨c5, hs⟩ := St.ex.1 (show St ((fun h => ∃ c5 : Nat, (fun h => ∃ a6 : Option Addr, ∃ c6 : Nat, ∃ a7 : Option Addr, ∃ c7 : Nat, Sp [blk b (#[Value.pointer (some ⟨b0, 0, none⟩), Value.pointer (some ⟨b1, 0, none⟩), Value.slice a2 x.way.1.length c2, Value.slice a3 x.way.2.length c3, Value.slice a4 x.heard.1.length c4, Value.slice a5 x.heard.2.length c5, Value.slice a6 x.said.1.length c6, Value.slice a7 x.said.2.length c7, Value.int .i64 x.downs]) 59, arq_Arq.at b0 x.a.1, arq_Arq.at b1 x.a.2, row 39 1 (.slice a2 x.way.1.length c2) x.way.1.length d2, tie (El.sl (El.int .u8)) d2 x.way.1, row 39 1 (.slice a3 x.way.2.length c3) x.way.2.length d3, tie (El.sl (El.int .u8)) d3 x.way.2, row 9 1 (.slice a4 x.heard.1.length c4) x.heard.1.length (x.heard.1.map (fun x => Value.string (strOf x))), row 9 1 (.slice a5 x.heard.2.length c5) x.heard.2.length (x.heard.2.map (fun x => Value.string (strOf x))), row 9 1 (.slice a6 x.said.1.length c6) x.said.1.length (x.said.1.map (fun x => Value.string (strOf x))), row 9 1 (.slice a7 x.said.2.length c7) x.said.2.length (x.said.2.map (fun x => Value.string (strOf x)))] h) h) :: L) w0 w from hs)
 obtain ⟨a6, hs⟩ := St.ex.1 (show St ((fun h => ∃ a6 : Option Addr, (fun h => ∃ c6 : Nat, ∃ a7 : Option Addr, ∃ c7 : Nat, Sp [blk b (#[Value.pointer (some ⟨b0, 0, none⟩), Value.pointer (some ⟨b1, 0, none⟩), Value.slice a2 x.way.1.length c2, Value.slice a3 x.way.2.length c3, Value.slice a4 x.heard.1.length c4, Value.slice a5 x.heard.2.length c5, Value.slice a6 x.said.1.length c6, Value.slice a7 x.said.2.length c7, Value.int .i64 x.downs]) 59, arq_Arq.at b0 x.a.1, arq_Arq.at b1 x.a.2, row 39 1 (.slice a2 x.way.1.length c2) x.way.1.length d2, tie (El.sl (El.int .u8)) d2 x.way.1, row 39 1 (.slice a3 x.way.2.length c3) x.way.2.length d3, tie (El.sl (El.int .u8)) d3 x.way.2, row 9 1 (.slice a4 x.heard.1.length c4) x.heard.1.length (x.heard.1.map (fun x => Value.string (strOf x))), row 9 1 (.slice a5 x.heard.2.length c5) x.heard.2.length (x.heard.2.map (fun x => Value.string (strOf x))), row 9 1 (.slice a6 x.said.1.length c6) x.said.1.length (x.said.1.map (fun x => Value.string (strOf x))), row 9 1 (.slice a7 x.said.2.length c7) x.said.2.length (x.said.2.map (fun x => Value.string (strOf x)))] h) h) :: L) w0 w from hs)
 obtain ⟨c6, hs⟩ := St.ex.1 (show St ((fun h => ∃ c6 : Nat, (fun h => ∃ a7 : Option Addr, ∃ c7 : Nat, Sp [blk b (#[Value.pointer (some ⟨b0, 0, none⟩), Value.pointer (some ⟨b1, 0, none⟩), Value.slice a2 x.way.1.length c2, Value.slice a3 x.way.2.length c3, Value.slice a4 x.heard.1.length c4, Value.slice a5 x.heard.2.length c5, Value.slice a6 x.said.1.length c6, Value.slice a7 x.said.2.length c7, Value.int .i64 x.downs]) 59, arq_Arq.at b0 x.a.1, arq_Arq.at b1 x.a.2, row 39 1 (.slice a2 x.way.1.length c2) x.way.1.length d2, tie (El.sl (El.int .u8)) d2 x.way.1, row 39 1 (.slice a3 x.way.2.length c3) x.way.2.length d3, tie (El.sl (El.int .u8)) d3 x.way.2, row 9 1 (.slice a4 x.heard.1.length c4) x.heard.1.length (x.heard.1.map (fun x => Value.string (strOf x))), row 9 1 (.slice a5 x.heard.2.length c5) x.heard.2.length (x.heard.2.map (fun x => Value.string (strOf x))), row 9 1 (.slice a6 x.said.1.length c6) x.said.1.length (x.said.1.map (fun x => Value.string (strOf x))), row 9 1 (.slice a7 x.said.2.length c7) x.said.2.length (x.said.2.map (fun x => Value.string (strOf x)))] h) h) :: L) w0 w from hs)
 obtain ⟨a7, hs⟩ := St.ex.1 (show St ((fun h => ∃ a7 : Option Addr, (fun h => ∃ c7 : Nat, Sp [blk b (#[Value.pointer (some ⟨b0, 0, none⟩), Value.pointer (some ⟨b1, 0, none⟩), Value.slice a2 x.way.1.length c2, Value.slice a3 x.way.2.length c3, Value.slice a4 x.heard.1.length c4, Value.slice a5 x.heard.2.length c5, Value.slice a6 x.said.1.length c6, Value.slice a7 x.said.2.length c7, Value.int .i64 x.downs]) 59, arq_Arq.at b0 x.a.1, arq_Arq.at b1 x.a.2, row 39 1 (.slice a2 x.way.1.length c2) x.way.1.length d2, tie (El.sl (El.int .u8)) d2 x.way.1, row 39 1 (.slice a3 x.way.2.length c3) x.way.2.length d3, tie (El.sl (El.int .u8)) d3 x.way.2, row 9 1 (.slice a4 x.heard.1.length c4) x.heard.1.length (x.heard.1.map (fun x => Value.string (strOf x))), row 9 1 (.slice a5 x.heard.2.length c5) x.heard.2.length (x.heard.2.map (fun x => Value.string (strOf x))), row 9 1 (.slice a6 x.said.1.length c6) x.said.1.length (x.said.1.map (fun x => Value.string (strOf x))), row 9 1 (.slice a7 x.said.2.length c7) x.said.2.length (x.said.2.map (fun x => Value.string (strOf x)))] h) h) :: L) w0 w from hs)
 obtain ⟨c7, hs⟩ := St.ex.1 (show St ((fun h => ∃ c7 : Nat, (fun h => Sp [blk b (#[Value.pointer (some ⟨b0, 0, none⟩), Value.pointer (some ⟨b1, 0, none⟩), Value.slice a2 x.way.1.length c2, Value.slice a3 x.way.2.length c3, Value.slice a4 x.heard.1.length c4, Value.slice a5 x.heard.2.length c5, Value.slice a6 x.said.1.length c6, Value.slice a7 x.said.2.length c7, Value.int .i64 x.downs]) 59, arq_Arq.at b0 x.a.1, arq_Arq.at b1 x.a.2, row 39 1 (.slice a2 x.way.1.length c2) x.way.1.length d2, tie (El.sl (El.int .u8)) d2 x.way.1, row 39 1 (.slice a3 x.way.2.length c3) x.way.2.length d3, tie (El.sl (El.int .u8)) d3 x.way.2, row 9 1 (.slice a4 x.heard.1.length c4) x.heard.1.length (x.heard.1.map (fun x => Value.string (strOf x))), row 9 1 (.slice a5 x.heard.2.length c5) x.heard.2.length (x.heard.2.map (fun x => Value.string (strOf x))), row 9 1 (.slice a6 x.said.1.length c6) x.said.1.length (x.said.1.map (fun x => Value.string (strOf x))), row 9 1 (.slice a7 x.said.2.length c7) x.said.2.length (x.said.2.map (fun x => Value.string (strOf x)))] h) h) :: L) w0 w from hs)
 exact ⟨b0, b1, a2, c2, d2, a3, c3, d3, a4, c4, a5, c5, a6, c6, a7, c7, hi, St.open (m := [blk b (#[Value.pointer (some ⟨b0, 0, none⟩), Value.pointer (some ⟨b1, 0, none⟩), Value.slice a2 x.way.1.length c2, Value.slice a3 x.way.2.length c3, Value.slice a4 x.heard.1.length c4, Value.slice a5 x.heard.2.length c5, Value.slice a6 x.said.1.length c6, Value.slice a7 x.said.2.length c7, Value.int .i64 x.downs]) 59, arq_Arq.at b0 x.a.1, arq_Arq.at b1 x.a.2, row 39 1 (.slice a2 x.way.1.length c2) x.way.1.length d2, tie (El.sl (El.int .u8)) d2 x.way.1, row 39 1 (.slice a3 x.way.2.length c3) x.way.2.length d3, tie (El.sl (El.int .u8)) d3 x.way.2, row 9 1 (.slice a4 x.heard.1.length c4) x.heard.1.length (x.heard.1.map (fun x => Value.string (strOf x))), row 9 1 (.slice a5 x.heard.2.length c5) x.heard.2.length (x.heard.2.map (fun x => Value.string (strOf x))), row 9 1 (.slice a6 x.said.1.length c6) x.said.1.length (x.said.1.map (fun x => Value.string (strOf x))), row 9 1 (.slice a7 x.said.2.length c7) x.said.2.length (x.said.2.map (fun x => Value.string (strOf x)))]) hs⟩
theorem signalmanlaw15_pair.close {b : Nat} {l0 : arq_Arq} {l1 : arq_Arq} {l2 : List (List Int)} {l3 : List (List Int)} {l4 : List (List Int)} {l5 : List (List Int)} {l6 : List (List Int)} {l7 : List (List Int)} {l8 : Int} {b0 : Nat} {b1 : Nat} {a2 : Option Addr} {c2 : Nat} {d2 : List Value} {a3 : Option Addr} {c3 : Nat} {d3 : List Value} {a4 : Option Addr} {c4 : Nat} {a5 : Option Addr} {c5 : Nat} {a6 : Option Addr} {c6 : Nat} {a7 : Option Addr} {c7 : Nat} {L : List As} {w0 w : World} (hi : True) (hs : Sep.St (blk b (#[Value.pointer (some ⟨b0, 0, none⟩), Value.pointer (some ⟨b1, 0, none⟩), Value.slice a2 l2.length c2, Value.slice a3 l3.length c3, Value.slice a4 l4.length c4, Value.slice a5 l5.length c5, Value.slice a6 l6.length c6, Value.slice a7 l7.length c7, Value.int .i64 l8]) 59 :: arq_Arq.at b0 l0 :: arq_Arq.at b1 l1 :: row 39 1 (.slice a2 l2.length c2) l2.length d2 :: tie (El.sl (El.int .u8)) d2 l2 :: row 39 1 (.slice a3 l3.length c3) l3.length d3 :: tie (El.sl (El.int .u8)) d3 l3 :: row 9 1 (.slice a4 l4.length c4) l4.length (l4.map (fun x => Value.string (strOf x))) :: row 9 1 (.slice a5 l5.length c5) l5.length (l5.map (fun x => Value.string (strOf x))) :: row 9 1 (.slice a6 l6.length c6) l6.length (l6.map (fun x => Value.string (strOf x))) :: row 9 1 (.slice a7 l7.length c7) l7.length (l7.map (fun x => Value.string (strOf x))) :: L) w0 w) : Sep.St (signalmanlaw15_pair.at b ({ a := (l0, l1), way := (l2, l3), heard := (l4, l5), said := (l6, l7), downs := l8 } : signalmanlaw15_pair) :: L) w0 w := by
 have h2 := St.join (m := [blk b (#[Value.pointer (some ⟨b0, 0, none⟩), Value.pointer (some ⟨b1, 0, none⟩), Value.slice a2 l2.length c2, Value.slice a3 l3.length c3, Value.slice a4 l4.length c4, Value.slice a5 l5.length c5, Value.slice a6 l6.length c6, Value.slice a7 l7.length c7, Value.int .i64 l8]) 59, arq_Arq.at b0 l0, arq_Arq.at b1 l1, row 39 1 (.slice a2 l2.length c2) l2.length d2, tie (El.sl (El.int .u8)) d2 l2, row 39 1 (.slice a3 l3.length c3) l3.length d3, tie (El.sl (El.int .u8)) d3 l3, row 9 1 (.slice a4 l4.length c4) l4.length (l4.map (fun x => Value.string (strOf x))), row 9 1 (.slice a5 l5.length c5) l5.length (l5.map (fun x => Value.string (strOf x))), row 9 1 (.slice a6 l6.length c6) l6.length (l6.map (fun x => Value.string (strOf x))), row 9 1 (.slice a7 l7.length c7) l7.length (l7.map (fun x => Value.string (strOf x)))]) hs
 exact h2.mono fun h hh => ⟨hi, _, _, _, _, _, _, _, _, _, _, _, _, _, _, _, _, hh⟩
end Go.Proofs.Ytnlcafmkmfnobaa

/- ArqPlays: the functions that its law reaches, as plain functions, and that the machine's calls come to what these say. Conditions: those that stand at each. -/
import Derived.Test.YtnlcafmkmfnobaaGreatRunArqPlaysP2
set_option linter.all false
set_option maxRecDepth 100000
set_option maxHeartbeats 4000000
set_option synthInstance.maxSize 100000
set_option synthInstance.maxHeartbeats 1000000
namespace Go.Proofs.YtnlcafmkmfnobaaGreat
open Go.RowKit Go.Proofs.YtnlcafmkmfnobaaGreat.Sep Go.Proofs.YtnlcafmkmfnobaaGreat.Walk
mutual
def signalmanref6_RightCtl.j3 (a0 : api_Ctl) (x5 : Bool) (x14 : Bool) : Option Bool := (if x14 = true then (if a0.Ns = 0 then some x5 else some false) else (if a0.Kind ≥ 3 then (if a0.Kind ≤ 7 then (if a0.Ns = 0 then some (decide (a0.Nr = 0)) else some false) else some false) else some false))
def signalmanref6_RightCtl.j2 (a0 : api_Ctl) (x3 : Bool) (x5 : Bool) (x7 : Bool) : Option Bool := (if x7 = true then some false else (if a0.Kind = 0 then (if x3 = true then some x5 else some false) else (if a0.Kind = 1 then (signalmanref6_RightCtl.j3 a0 x5 true) else (signalmanref6_RightCtl.j3 a0 x5 (decide (a0.Kind = 2))))))
def signalmanref6_RightCtl.j1 (a0 : api_Ctl) (a1 : Int) (x3 : Bool) (x5 : Bool) : Option Bool := (if a1 = 128 then (signalmanref6_RightCtl.j2 a0 x3 x5 false) else (signalmanref6_RightCtl.j2 a0 x3 x5 (!(decide (a1 = 32768)))))
def signalmanref6_RightCtl.j0 (a0 : api_Ctl) (a1 : Int) (x3 : Bool) : Option Bool := (if a0.Nr ≥ 0 then (signalmanref6_RightCtl.j1 a0 a1 x3 (decide (a0.Nr < a1))) else (signalmanref6_RightCtl.j1 a0 a1 x3 false))
end
def signalmanref6_RightCtl.f (a0 : api_Ctl) (a1 : Int) : Option Bool := (if a0.Ns ≥ 0 then (signalmanref6_RightCtl.j0 a0 a1 (decide (a0.Ns < a1))) else (signalmanref6_RightCtl.j0 a0 a1 false))
theorem signalmanref6_RightCtl.calls {a0 : api_Ctl} {a1 : Int} {R : As} {w0 w : World}  {r : Bool} (H : signalmanref6_RightCtl.f a0 a1 = some r) (HS : Sep.St [R] w0 w)  : Calls Tryz.prog 80 #[Value.agg #[Value.int .i64 a0.Kind, Value.int .i64 a0.Ns, Value.int .i64 a0.Nr, Value.bool a0.Poll], Value.int .i64 a1] w (Ret fun u w => u = Value.bool r ∧ Sep.St [R] w0 w) := by
 unfold signalmanref6_RightCtl.f at H
 refine calls_enter Tryz.func80 rfl rfl ?_
 have H : _ = some r := H
 refine V.seq (V.region (W.e (Y.box HS rfl) rfl ?_))
 rintro _ w ⟨nb1, rfl, HS⟩
 refine W.as rfl (W.nx (V.meet (σ := Bool) (fun st w => match st with | x3 => Sep.St [api_Ctl.at nb1 a0, R] w0 w ∧ signalmanref6_RightCtl.j0 a0 a1 x3 = some r) (fun st => match st with | x3 => [(1, Value.int .i64 a1), (2, Value.pointer (some ⟨nb1, 0, none⟩)), (5, Value.bool x3)]) ?_ ?_))
 ·refine V.region (W.fa fo32_1 rfl (W.ld 0 HS Tryz.underlying3 rfl rfl rfl rfl (W.r (X.cmp (decide (a0.Ns ≥ 0)) rfl rfl rfl rfl) rfl (W.mv rfl ?_))))
  by_cases c30 : a0.Ns ≥ 0
  ·replace H := ite_t c30 H
   refine W.want 10 rfl (sb (decide_eq_true c30)) (W.fa fo32_1 rfl (W.want 10 rfl (sb (decide_eq_true c30)) (W.ld 0 HS Tryz.underlying3 rfl rfl rfl rfl (W.want 10 rfl (sb (decide_eq_true c30)) (W.mv rfl (W.want 10 rfl (sb (decide_eq_true c30)) (W.r (X.cmp (decide (a0.Ns < a1)) rfl rfl rfl rfl) rfl (W.r (X.pickT (sb (decide_eq_true c30)) rfl) rfl (W.as rfl (W.nil ?_))))))))))
   replace HS := api_Ctl.close trivial HS
   exact At.meet (decide (a0.Ns < a1)) ⟨rfl, rfl, rfl, trivial⟩ ⟨HS, H⟩
  ·replace H := ite_f c30 H
   refine W.pass 10 rfl (sb (decide_eq_false c30)) rfl rfl (W.pass 10 rfl (sb (decide_eq_false c30)) rfl rfl (W.pass 10 rfl (sb (decide_eq_false c30)) rfl rfl (W.pass 10 rfl (sb (decide_eq_false c30)) rfl rfl (W.r (X.pickF (sb (decide_eq_false c30)) rfl) rfl (W.as rfl (W.nil ?_))))))
   replace HS := api_Ctl.close trivial HS
   exact At.meet false ⟨rfl, rfl, rfl, trivial⟩ ⟨HS, H⟩
 ·rintro x3 w ⟨HS, H⟩
  unfold signalmanref6_RightCtl.j0 at H
  refine V.meet (σ := Bool) (fun st w => match st with | x5 => Sep.St [api_Ctl.at nb1 a0, R] w0 w ∧ signalmanref6_RightCtl.j1 a0 a1 x3 x5 = some r) (fun st => match st with | x5 => [(1, Value.int .i64 a1), (2, Value.pointer (some ⟨nb1, 0, none⟩)), (5, Value.bool x3), (6, Value.bool x5)]) ?_ ?_
  ·refine V.region ?_
   obtain ⟨hi28, HS⟩ := api_Ctl.open HS
   refine W.fa fo32_2 rfl (W.ld 0 HS Tryz.underlying3 rfl rfl rfl rfl (W.r (X.cmp (decide (a0.Nr ≥ 0)) rfl rfl rfl rfl) rfl (W.mv rfl ?_)))
   by_cases c29 : a0.Nr ≥ 0
   ·replace H := ite_t c29 H
    refine W.want 19 rfl (sb (decide_eq_true c29)) (W.fa fo32_2 rfl (W.want 19 rfl (sb (decide_eq_true c29)) (W.ld 0 HS Tryz.underlying3 rfl rfl rfl rfl (W.want 19 rfl (sb (decide_eq_true c29)) (W.mv rfl (W.want 19 rfl (sb (decide_eq_true c29)) (W.r (X.cmp (decide (a0.Nr < a1)) rfl rfl rfl rfl) rfl (W.r (X.pickT (sb (decide_eq_true c29)) rfl) rfl (W.as rfl (W.nil ?_))))))))))
    replace HS := api_Ctl.close trivial HS
    exact At.meet (decide (a0.Nr < a1)) ⟨rfl, rfl, rfl, rfl, trivial⟩ ⟨HS, H⟩
   ·replace H := ite_f c29 H
    refine W.pass 19 rfl (sb (decide_eq_false c29)) rfl rfl (W.pass 19 rfl (sb (decide_eq_false c29)) rfl rfl (W.pass 19 rfl (sb (decide_eq_false c29)) rfl rfl (W.pass 19 rfl (sb (decide_eq_false c29)) rfl rfl (W.r (X.pickF (sb (decide_eq_false c29)) rfl) rfl (W.as rfl (W.nil ?_))))))
    replace HS := api_Ctl.close trivial HS
    exact At.meet false ⟨rfl, rfl, rfl, rfl, trivial⟩ ⟨HS, H⟩
  ·rintro x5 w ⟨HS, H⟩
   unfold signalmanref6_RightCtl.j1 at H
   refine V.seq (V.meet (σ := Bool) (fun st w => match st with | x7 => Sep.St [api_Ctl.at nb1 a0, R] w0 w ∧ signalmanref6_RightCtl.j2 a0 x3 x5 x7 = some r) (fun st => match st with | x7 => [(2, Value.pointer (some ⟨nb1, 0, none⟩)), (5, Value.bool x3), (6, Value.bool x5), (30, Value.bool x7)]) ?_ ?_)
   ·refine V.region (W.mv rfl (W.r (X.cmp (!(decide (a1 = 128))) rfl rfl rfl rfl) rfl (W.mv rfl ?_)))
    by_cases c26 : a1 = 128
    ·replace H := ite_t c26 H
     refine W.pass 27 rfl (sb (n_t (decide_eq_true c26))) rfl rfl (W.pass 27 rfl (sb (n_t (decide_eq_true c26))) rfl rfl (W.r (X.pickF (sb (n_t (decide_eq_true c26))) rfl) rfl (W.nil ?_)))
     exact At.meet false ⟨rfl, rfl, rfl, rfl, trivial⟩ ⟨HS, H⟩
    ·replace H := ite_f c26 H
     refine W.want 27 rfl (sb (n_f (decide_eq_false c26))) (W.mv rfl (W.want 27 rfl (sb (n_f (decide_eq_false c26))) (W.r (X.cmp (!(decide (a1 = 32768))) rfl rfl rfl rfl) rfl (W.r (X.pickT (sb (n_f (decide_eq_false c26))) rfl) rfl (W.nil ?_)))))
     exact At.meet (!(decide (a1 = 32768))) ⟨rfl, rfl, rfl, rfl, trivial⟩ ⟨HS, H⟩
   ·rintro x7 w ⟨HS, H⟩
    unfold signalmanref6_RightCtl.j2 at H
    by_cases c9 : x7 = true
    ·replace H := ite_t c9 H
     refine V.condT (sb c9) (V.seq (V.region (W.as rfl (W.nx (V.ret (At.thenRet ?_))))))
     replace HS := HS.pk [1] [0]
     cases H
     exact At.ret1 rfl rfl ⟨_, rfl, rfl, HS⟩
    ·replace H := ite_f c9 H
     refine V.condF (sb (b_f c9)) (V.skip (At.next (V.seq (V.block (V.seq (V.region ?_))))))
     obtain ⟨hi11, HS⟩ := api_Ctl.open HS
     refine W.fa fo32_0 rfl (W.ld 0 HS Tryz.underlying3 rfl rfl rfl rfl (W.r (X.cmp (decide (a0.Kind = 0)) rfl rfl rfl rfl) rfl (W.as rfl (W.nx ?_))))
     by_cases c12 : a0.Kind = 0
     ·replace H := ite_t c12 H
      refine V.condT (sb (decide_eq_true c12)) (V.seq (V.region (W.mv rfl (W.mv rfl ?_))))
      by_cases c13 : x3 = true
      ·replace H := ite_t c13 H
       refine W.want 36 rfl (sb c13) (W.mv rfl (W.r (X.pickT (sb c13) rfl) rfl (W.as rfl (W.nx (V.ret (At.blockRet (At.thenRet ?_)))))))
       replace HS := HS.pk [1] [0]
       cases H
       exact At.ret1 rfl rfl ⟨_, rfl, rfl, HS⟩
      ·replace H := ite_f c13 H
       refine W.pass 36 rfl (sb (b_f c13)) rfl rfl (W.r (X.pickF (sb (b_f c13)) rfl) rfl (W.as rfl (W.nx (V.ret (At.blockRet (At.thenRet ?_))))))
       replace HS := HS.pk [1] [0]
       cases H
       exact At.ret1 rfl rfl ⟨_, rfl, rfl, HS⟩
     ·replace H := ite_f c12 H
      refine V.condF (sb (decide_eq_false c12)) (V.meet (σ := Bool) (fun st w => match st with | x14 => Sep.St [api_Ctl.at nb1 a0, R] w0 w ∧ signalmanref6_RightCtl.j3 a0 x5 x14 = some r) (fun st => match st with | x14 => [(2, Value.pointer (some ⟨nb1, 0, none⟩)), (6, Value.bool x5), (39, Value.bool x14)]) ?_ ?_)
      ·refine V.region (W.fa fo32_0 rfl (W.ld 0 HS Tryz.underlying3 rfl rfl rfl rfl (W.r (X.cmp (decide (a0.Kind = 1)) rfl rfl rfl rfl) rfl (W.mv rfl ?_))))
       by_cases c25 : a0.Kind = 1
       ·replace H := ite_t c25 H
        refine W.pass 43 rfl (sb (decide_eq_true c25)) rfl rfl (W.pass 43 rfl (sb (decide_eq_true c25)) rfl rfl (W.pass 43 rfl (sb (decide_eq_true c25)) rfl rfl (W.r (X.pickT (sb (decide_eq_true c25)) rfl) rfl (W.as rfl (W.nil ?_)))))
        replace HS := api_Ctl.close trivial HS
        exact At.meet true ⟨rfl, rfl, rfl, trivial⟩ ⟨HS, H⟩
       ·replace H := ite_f c25 H
        refine W.want 43 rfl (sb (decide_eq_false c25)) (W.fa fo32_0 rfl (W.want 43 rfl (sb (decide_eq_false c25)) (W.ld 0 HS Tryz.underlying3 rfl rfl rfl rfl (W.want 43 rfl (sb (decide_eq_false c25)) (W.r (X.cmp (decide (a0.Kind = 2)) rfl rfl rfl rfl) rfl (W.r (X.pickF (sb (decide_eq_false c25)) rfl) rfl (W.as rfl (W.nil ?_))))))))
        replace HS := api_Ctl.close trivial HS
        exact At.meet (decide (a0.Kind = 2)) ⟨rfl, rfl, rfl, trivial⟩ ⟨HS, H⟩
      ·rintro x14 w ⟨HS, H⟩
       unfold signalmanref6_RightCtl.j3 at H
       by_cases c16 : x14 = true
       ·replace H := ite_t c16 H
        refine V.condT (sb c16) (V.seq (V.region ?_))
        obtain ⟨hi18, HS⟩ := api_Ctl.open HS
        refine W.fa fo32_1 rfl (W.ld 0 HS Tryz.underlying3 rfl rfl rfl rfl (W.r (X.cmp (decide (a0.Ns = 0)) rfl rfl rfl rfl) rfl (W.mv rfl ?_)))
        by_cases c19 : a0.Ns = 0
        ·replace H := ite_t c19 H
         refine W.want 51 rfl (sb (decide_eq_true c19)) (W.mv rfl (W.r (X.pickT (sb (decide_eq_true c19)) rfl) rfl (W.as rfl (W.nx (V.ret (At.blockRet (At.thenRet ?_)))))))
         replace HS := HS.pk [1] [0]
         cases H
         exact At.ret1 rfl rfl ⟨_, rfl, rfl, HS⟩
        ·replace H := ite_f c19 H
         refine W.pass 51 rfl (sb (decide_eq_false c19)) rfl rfl (W.r (X.pickF (sb (decide_eq_false c19)) rfl) rfl (W.as rfl (W.nx (V.ret (At.blockRet (At.thenRet ?_))))))
         replace HS := HS.pk [1] [0]
         cases H
         exact At.ret1 rfl rfl ⟨_, rfl, rfl, HS⟩
       ·replace H := ite_f c16 H
        refine V.condF (sb (b_f c16)) (V.skip (At.blockEnd (At.next (V.seq (V.region ?_)))))
        obtain ⟨hi21, HS⟩ := api_Ctl.open HS
        refine W.fa fo32_0 rfl (W.ld 0 HS Tryz.underlying3 rfl rfl rfl rfl (W.r (X.cmp (decide (a0.Kind ≥ 3)) rfl rfl rfl rfl) rfl (W.mv rfl ?_)))
        by_cases c22 : a0.Kind ≥ 3
        ·replace H := ite_t c22 H
         refine W.want 57 rfl (sb (decide_eq_true c22)) (W.fa fo32_0 rfl (W.want 57 rfl (sb (decide_eq_true c22)) (W.ld 0 HS Tryz.underlying3 rfl rfl rfl rfl (W.want 57 rfl (sb (decide_eq_true c22)) (W.r (X.cmp (decide (a0.Kind ≤ 7)) rfl rfl rfl rfl) rfl (W.r (X.pickT (sb (decide_eq_true c22)) rfl) rfl (W.mv rfl ?_)))))))
         by_cases c23 : a0.Kind ≤ 7
         ·replace H := ite_t c23 H
          refine W.want 62 rfl (sb (decide_eq_true c23)) (W.fa fo32_1 rfl (W.want 62 rfl (sb (decide_eq_true c23)) (W.ld 0 HS Tryz.underlying3 rfl rfl rfl rfl (W.want 62 rfl (sb (decide_eq_true c23)) (W.r (X.cmp (decide (a0.Ns = 0)) rfl rfl rfl rfl) rfl (W.r (X.pickT (sb (decide_eq_true c23)) rfl) rfl (W.mv rfl ?_)))))))
          by_cases c24 : a0.Ns = 0
          ·replace H := ite_t c24 H
           refine W.want 67 rfl (sb (decide_eq_true c24)) (W.fa fo32_2 rfl (W.want 67 rfl (sb (decide_eq_true c24)) (W.ld 0 HS Tryz.underlying3 rfl rfl rfl rfl (W.want 67 rfl (sb (decide_eq_true c24)) (W.r (X.cmp (decide (a0.Nr = 0)) rfl rfl rfl rfl) rfl (W.r (X.pickT (sb (decide_eq_true c24)) rfl) rfl (W.as rfl (W.nx (V.ret ?_)))))))))
           replace HS := HS.pk [1] [0]
           cases H
           exact At.ret1 rfl rfl ⟨_, rfl, rfl, HS⟩
          ·replace H := ite_f c24 H
           refine W.pass 67 rfl (sb (decide_eq_false c24)) rfl rfl (W.pass 67 rfl (sb (decide_eq_false c24)) rfl rfl (W.pass 67 rfl (sb (decide_eq_false c24)) rfl rfl (W.r (X.pickF (sb (decide_eq_false c24)) rfl) rfl (W.as rfl (W.nx (V.ret ?_))))))
           replace HS := HS.pk [1] [0]
           cases H
           exact At.ret1 rfl rfl ⟨_, rfl, rfl, HS⟩
         ·replace H := ite_f c23 H
          refine W.pass 62 rfl (sb (decide_eq_false c23)) rfl rfl (W.pass 62 rfl (sb (decide_eq_false c23)) rfl rfl (W.pass 62 rfl (sb (decide_eq_false c23)) rfl rfl (W.r (X.pickF (sb (decide_eq_false c23)) rfl) rfl (W.mv rfl (W.pass 67 rfl rfl rfl rfl (W.pass 67 rfl rfl rfl rfl (W.pass 67 rfl rfl rfl rfl (W.r (X.pickF rfl rfl) rfl (W.as rfl (W.nx (V.ret ?_)))))))))))
          replace HS := HS.pk [1] [0]
          cases H
          exact At.ret1 rfl rfl ⟨_, rfl, rfl, HS⟩
        ·replace H := ite_f c22 H
         refine W.pass 57 rfl (sb (decide_eq_false c22)) rfl rfl (W.pass 57 rfl (sb (decide_eq_false c22)) rfl rfl (W.pass 57 rfl (sb (decide_eq_false c22)) rfl rfl (W.r (X.pickF (sb (decide_eq_false c22)) rfl) rfl (W.mv rfl (W.pass 62 rfl rfl rfl rfl (W.pass 62 rfl rfl rfl rfl (W.pass 62 rfl rfl rfl rfl (W.r (X.pickF rfl rfl) rfl (W.mv rfl (W.pass 67 rfl rfl rfl rfl (W.pass 67 rfl rfl rfl rfl (W.pass 67 rfl rfl rfl rfl (W.r (X.pickF rfl rfl) rfl (W.as rfl (W.nx (V.ret ?_))))))))))))))))
         replace HS := HS.pk [1] [0]
         cases H
         exact At.ret1 rfl rfl ⟨_, rfl, rfl, HS⟩
def signalmanref6_field.f (a0 : Int) (a1 : Int) (a2 : Int) : Option (List Int) := (if a2 = 128 then some (([IntKind.u8.wrap (w64 ((w64 (a0 * 2)) + a1))] : List Int)) else some (([IntKind.u8.wrap (iand .i64 (w64 ((w64 (a0 * 2)) + a1)) (255)), IntKind.u8.wrap ((w64 ((w64 (a0 * 2)) + a1)).fdiv (2 ^ (min (8 : Int).toNat IntKind.i64.bits)))] : List Int)))
theorem signalmanref6_field.calls {a0 : Int} {a1 : Int} {a2 : Int} {R : As} {w0 w : World}  {r : List Int} (H : signalmanref6_field.f a0 a1 a2 = some r) (HS : Sep.St [R] w0 w)  : Calls Tryz.prog 81 #[Value.int .i64 a0, Value.int .i64 a1, Value.int .i64 a2] w (Ret fun u w => ∃ (aq0 : Option Addr) (cq0 : Nat), u = Value.slice aq0 r.length cq0 ∧ Sep.St [row 5 1 (.slice aq0 r.length cq0) r.length (r.map (Value.int .u8)), R] w0 w) := by
 unfold signalmanref6_field.f at H
 refine calls_enter Tryz.func81 rfl rfl ?_
 have H : _ = some r := H
 refine V.seq (V.region (W.as rfl (W.nx (V.seq (V.region (W.mv rfl (W.r (X.mul rfl rfl) rfl (W.mv rfl (W.r (X.add rfl rfl) rfl (W.as rfl (W.nx (V.seq (V.seq (V.region (W.mv rfl (W.r (X.cmp (decide (a2 = 128)) rfl rfl rfl rfl) rfl (W.nx ?_)))))))))))))))))
 by_cases c1 : a2 = 128
 ·replace H := ite_t c1 H
  refine V.condT (sb (decide_eq_true c1)) (V.seq (V.region (W.mv rfl (W.r (X.conv Tryz.underlying3 Tryz.underlying5 rfl) rfl (W.e (Y.ls (e := 5) (Value.int .u8) ([IntKind.u8.wrap (w64 ((w64 (a0 * 2)) + a1))] : List Int) HS rfl rfl (fun _ => by kernel_rfl)) rfl ?_)))))
  rintro _ w ⟨lb4, rfl, HS⟩
  refine W.as rfl (W.nx (V.ret (At.thenRet ?_)))
  cases H
  exact At.ret1 rfl rfl ⟨_, rfl, (some ⟨lb4, 0, none⟩), 1, rfl, HS⟩
 ·replace H := ite_f c1 H
  refine V.condF (sb (decide_eq_false c1)) (V.skip (At.next (V.seq (V.region (W.mv rfl (W.r (X.and rfl rfl) rfl (W.r (X.conv Tryz.underlying3 Tryz.underlying5 rfl) rfl (W.mv rfl (W.r (X.shr rfl rfl (by decide)) rfl (W.r (X.conv Tryz.underlying3 Tryz.underlying5 rfl) rfl (W.e (Y.ls (e := 5) (Value.int .u8) ([IntKind.u8.wrap (iand .i64 (w64 ((w64 (a0 * 2)) + a1)) (255)), IntKind.u8.wrap ((w64 ((w64 (a0 * 2)) + a1)).fdiv (2 ^ (min (8 : Int).toNat IntKind.i64.bits)))] : List Int) HS rfl rfl (fun _ => by kernel_rfl)) rfl ?_)))))))))))
  rintro _ w ⟨lb7, rfl, HS⟩
  refine W.as rfl (W.nx (V.ret ?_))
  cases H
  exact At.ret1 rfl rfl ⟨_, rfl, (some ⟨lb7, 0, none⟩), 2, rfl, HS⟩
def signalmanref6_bit.f (a0 : Bool) : Option Int := (if a0 = true then some (1) else some (0))
theorem signalmanref6_bit.calls {a0 : Bool} {R : As} {w0 w : World}  {r : Int} (H : signalmanref6_bit.f a0 = some r) (HS : Sep.St [R] w0 w)  : Calls Tryz.prog 82 #[Value.bool a0] w (Ret fun u w => u = Value.int .i64 r ∧ Sep.St [R] w0 w) := by
 unfold signalmanref6_bit.f at H
 refine calls_enter Tryz.func82 rfl rfl ?_
 have H : _ = some r := H
 refine V.seq (V.region (W.as rfl (W.nx (V.seq (V.seq (V.region (W.mv rfl (W.nx ?_))))))))
 by_cases c1 : a0 = true
 ·replace H := ite_t c1 H
  refine V.condT (sb c1) (V.seq (V.region (W.as rfl (W.nx (V.ret (At.thenRet ?_))))))
  cases H
  exact At.ret1 rfl rfl ⟨_, rfl, rfl, HS⟩
 ·replace H := ite_f c1 H
  refine V.condF (sb (b_f c1)) (V.skip (At.next (V.seq (V.region (W.as rfl (W.nx (V.ret ?_)))))))
  cases H
  exact At.ret1 rfl rfl ⟨_, rfl, rfl, HS⟩
def signalmanref6_bare.f (a0 : Int) : Option Int := (if 0 ≤ w64 (a0 - 3) ∧ w64 (a0 - 3) < (([111, 99, 67, 15, 135] : List Int).length : Int) then some (([111, 99, 67, 15, 135] : List Int).getD (w64 (a0 - 3)).toNat 0) else none)
theorem signalmanref6_bare.calls {a0 : Int} {R : As} {w0 w : World}  {r : Int} (H : signalmanref6_bare.f a0 = some r) (HS : Sep.St [R] w0 w)  : Calls Tryz.prog 83 #[Value.int .i64 a0] w (Ret fun u w => u = Value.int .i64 r ∧ Sep.St [R] w0 w) := by
 unfold signalmanref6_bare.f at H
 refine calls_enter Tryz.func83 rfl rfl ?_
 have H : _ = some r := H
 refine V.seq (V.region (W.as rfl (W.nx (V.seq (V.region (W.e (Y.ls (e := 3) (Value.int .i64) ([111, 99, 67, 15, 135] : List Int) HS rfl rfl (fun _ => by kernel_rfl)) rfl ?_))))))
 rintro _ w ⟨lb3, rfl, HS⟩
 refine W.mv rfl (W.r (X.sub rfl rfl) rfl ?_)
 obtain ⟨c4, H⟩ := ite_n H
 refine W.r (X.indexSl Tryz.underlying51 inf3 rfl rfl c4.1 c4.2) rfl (W.r (X.load Tryz.underlying3 rfl rfl ((rdC.at 0 row_rd HS rfl).cellI c4.1 c4.2)) rfl (W.as rfl (W.nx (V.ret ?_))))
 replace HS := HS.pk [1] [0]
 cases H
 exact At.ret1 rfl rfl ⟨_, rfl, rfl, HS⟩
mutual
def signalmanref6_CtlBytes.j0 (a0 : api_Ctl) (a1 : Int) (x23 : List Int) : Option (List Int) := ((signalmanref6_bit.f a0.Poll).bind fun t27 => ((signalmanref6_field.f a0.Nr t27 a1).bind fun t29 => (if (x23.length : Int) + t29.length ≤ 1099511627776 then some (x23 ++ t29) else none)))
end
def signalmanref6_CtlBytes.f (a0 : api_Ctl) (a1 : Int) : Option (List Int) := ((signalmanref6_RightCtl.f a0 a1).bind fun t3 => (if t3 = true then (if a0.Kind = 0 then ((signalmanref6_field.f a0.Ns 0 a1).bind fun t7 => ((signalmanref6_bit.f a0.Poll).bind fun t9 => ((signalmanref6_field.f a0.Nr t9 a1).bind fun t11 => (if (t7.length : Int) + t11.length ≤ 1099511627776 then some (t7 ++ t11) else none)))) else (if a0.Kind ≤ 2 then (if a1 = 128 then (signalmanref6_CtlBytes.j0 a0 a1 ([IntKind.u8.wrap (w64 (1 + (w64 (8 * (w64 (a0.Kind - 1))))))] : List Int)) else (if ((([IntKind.u8.wrap (w64 (1 + (w64 (8 * (w64 (a0.Kind - 1))))))] : List Int)).length : Int) + ([0] : List Int).length ≤ 1099511627776 then (signalmanref6_CtlBytes.j0 a0 a1 (([IntKind.u8.wrap (w64 (1 + (w64 (8 * (w64 (a0.Kind - 1))))))] : List Int) ++ ([0] : List Int))) else none)) else ((signalmanref6_bare.f a0.Kind).bind fun t41 => ((signalmanref6_bit.f a0.Poll).bind fun t43 => some (([IntKind.u8.wrap (w64 (t41 + (w64 (16 * t43))))] : List Int)))))) else some ([] : List Int)))
theorem signalmanref6_CtlBytes.calls {a0 : api_Ctl} {a1 : Int} {R : As} {w0 w : World}  {r : List Int} (H : signalmanref6_CtlBytes.f a0 a1 = some r) (HS : Sep.St [R] w0 w)  : Calls Tryz.prog 47 #[Value.agg #[Value.int .i64 a0.Kind, Value.int .i64 a0.Ns, Value.int .i64 a0.Nr, Value.bool a0.Poll], Value.int .i64 a1] w (Ret fun u w => ∃ (aq0 : Option Addr) (cq0 : Nat), u = Value.slice aq0 r.length cq0 ∧ Sep.St [row 5 1 (.slice aq0 r.length cq0) r.length (r.map (Value.int .u8)), R] w0 w) := by
 unfold signalmanref6_CtlBytes.f at H
 refine calls_enter Tryz.func47 rfl rfl ?_
 have H : _ = some r := H
 refine V.seq (V.region (W.e (Y.box HS rfl) rfl ?_))
 rintro _ w ⟨nb1, rfl, HS⟩
 refine W.as rfl (W.nx (V.seq (V.seq (V.region (W.r (X.loadSt 0 [Value.int .i64 a0.Kind, Value.int .i64 a0.Ns, Value.int .i64 a0.Nr, Value.bool a0.Poll] HS rfl Tryz.underlying32 rfl inf32 rfl rfl) rfl (W.mv rfl ?_))))))
 obtain ⟨t3, A4, H⟩ := bind_s H
 refine W.e (Y.cl Tryz.func80 (signalmanref6_RightCtl.calls A4 HS.j0)) rfl ?_
 rintro _ w ⟨rfl, HS⟩
 replace HS := HS.o0
 refine W.r (X.not rfl) rfl (W.nx ?_)
 by_cases c5 : t3 = true
 ·replace H := ite_t c5 H
  refine V.condF (sb (n_t c5)) (V.skip (At.next (V.seq (V.block (V.seq (V.region (W.fa fo32_0 rfl (W.ld 0 HS Tryz.underlying3 rfl rfl rfl rfl (W.r (X.cmp (decide (a0.Kind = 0)) rfl rfl rfl rfl) rfl (W.as rfl (W.nx ?_)))))))))))
  by_cases c6 : a0.Kind = 0
  ·replace H := ite_t c6 H
   refine V.condT (sb (decide_eq_true c6)) (V.seq (V.dr [3, 8, 10, 11] [12] [(14, Value.pointer (some ⟨nb1, 0 + 1, none⟩)), (15, Value.int .i64 a0.Ns), (16, Value.int .i64 a1), (18, Value.pointer (some ⟨nb1, 0 + 2, none⟩)), (19, Value.int .i64 a0.Nr), (20, Value.pointer (some ⟨nb1, 0 + 3, none⟩)), (21, Value.bool a0.Poll), (23, Value.int .i64 a1)] mo HS ?_))
   refine T.ev [(15, _), (16, _)] [12] [0, 1, 2] ⟨rfl, rfl, trivial⟩ ⟨.fa 2 fo32_1, .ld 14 0 Tryz.underlying3, .mv 1, .fa 2 fo32_2, .ld 18 0 Tryz.underlying3, .fa 2 fo32_3, .ld 20 0 Tryz.underlying4, .mv 1, trivial⟩ rfl (fun w HS => ?_)
   obtain ⟨t7, A8, H⟩ := bind_s H
   refine ⟨_, Y.cl Tryz.func81 (signalmanref6_field.calls A8 HS.j0), ?_⟩
   rintro _ w ⟨at7_0, ct7_0, rfl, HS⟩
   replace HS := HS.o1
   refine T.nw HS ?_
   refine T.ev [(21, _)] [12] [6, 7] ⟨rfl, trivial⟩ ⟨.fa 2 fo32_2, .ld 18 1 Tryz.underlying3, .fa 2 fo32_3, .ld 20 1 Tryz.underlying4, .mv 1, trivial⟩ rfl (fun w HS => ?_)
   obtain ⟨t9, A10, H⟩ := bind_s H
   refine ⟨_, Y.cl Tryz.func82 (signalmanref6_bit.calls A10 HS.j0), ?_⟩
   rintro _ w ⟨rfl, HS⟩
   replace HS := HS.o0
   refine T.nw HS ?_
   refine T.ev [(19, _), (22, _), (23, _)] [12] [4, 5, 9] ⟨rfl, rfl, rfl, trivial⟩ ⟨.fa 2 fo32_2, .ld 18 1 Tryz.underlying3, .mv 1, trivial⟩ rfl (fun w HS => ?_)
   obtain ⟨t11, A12, H⟩ := bind_s H
   refine ⟨_, Y.cl Tryz.func81 (signalmanref6_field.calls A12 HS.j0), ?_⟩
   rintro _ w ⟨at11_0, ct11_0, rfl, HS⟩
   replace HS := HS.o1
   refine T.nw HS ?_
   refine T.ev [(17, _), (24, _)] [] [] ⟨rfl, rfl, trivial⟩ trivial rfl (fun w HS => ?_)
   obtain ⟨c13, H⟩ := ite_n H
   refine ⟨_, Y.appF (Value.int .u8) (fun _ => rfl) 1 Tryz.underlying33 ap5 rfl HS rfl rfl rfl (rdC.at 0 row_rd HS rfl) (by omega) (by omega), ?_⟩
   rintro _ w ⟨ra14, rc15, rfl, HS⟩
   refine T.nm [(25, Value.slice ra14 (t7 ++ t11).length rc15), (4, Value.slice ra14 (t7 ++ t11).length rc15)] HS ⟨.inl ⟨rfl, rfl⟩, ⟨.inr ⟨by decide, rfl⟩, trivial⟩⟩ ?_
   refine T.fn [(4, _)] ⟨rfl, trivial⟩ ⟨.as 25, trivial⟩ (fun w HS => ?_)
   refine At.next (V.ret (At.blockRet (At.thenRet ?_)))
   replace HS := HS.pk [1, 3] [0, 2]
   cases H
   exact At.ret1 rfl rfl ⟨_, rfl, ra14, rc15, rfl, HS⟩
  ·replace H := ite_f c6 H
   refine V.condF (sb (decide_eq_false c6)) (V.seq (V.region (W.fa fo32_0 rfl (W.ld 0 HS Tryz.underlying3 rfl rfl rfl rfl (W.r (X.cmp (decide (a0.Kind ≤ 2)) rfl rfl rfl rfl) rfl (W.as rfl (W.nx ?_)))))))
   by_cases c16 : a0.Kind ≤ 2
   ·replace H := ite_t c16 H
    refine V.condT (sb (decide_eq_true c16)) (V.seq (V.region (W.fa fo32_0 rfl (W.ld 0 HS Tryz.underlying3 rfl rfl rfl rfl (W.r (X.sub rfl rfl) rfl (W.r (X.mul rfl rfl) rfl (W.r (X.add rfl rfl) rfl (W.r (X.conv Tryz.underlying3 Tryz.underlying5 rfl) rfl (W.e (Y.ls (e := 5) (Value.int .u8) ([IntKind.u8.wrap (w64 (1 + (w64 (8 * (w64 (a0.Kind - 1))))))] : List Int) HS rfl rfl (fun _ => by kernel_rfl)) rfl ?_)))))))))
    rintro _ w ⟨lb19, rfl, HS⟩
    refine W.as rfl (W.nx (V.meet (σ := Option Addr × Nat × List Int) (fun st w => match st with | (ra21, rc22, x23) => Sep.St [api_Ctl.at nb1 a0, row 5 1 (.slice ra21 x23.length rc22) x23.length (x23.map (Value.int .u8)), R] w0 w ∧ signalmanref6_CtlBytes.j0 a0 a1 x23 = some r) (fun st => match st with | (ra21, rc22, x23) => [(1, Value.int .i64 a1), (2, Value.pointer (some ⟨nb1, 0, none⟩)), (5, Value.slice ra21 x23.length rc22)]) ?_ ?_))
    ·refine V.seq (V.region (W.mv rfl (W.r (X.cmp (!(decide (a1 = 128))) rfl rfl rfl rfl) rfl (W.nx ?_))))
     by_cases c34 : a1 = 128
     ·replace H := ite_t c34 H
      refine V.condF (sb (n_t (decide_eq_true c34))) (V.skip ?_)
      replace HS := HS.pm [1, 0, 2]
      replace HS := api_Ctl.close trivial HS
      exact At.meet ((some ⟨lb19, 0, none⟩), 1, ([IntKind.u8.wrap (w64 (1 + (w64 (8 * (w64 (a0.Kind - 1))))))] : List Int)) ⟨rfl, rfl, rfl, trivial⟩ ⟨HS, H⟩
     ·replace H := ite_f c34 H
      refine V.condT (sb (n_f (decide_eq_false c34))) (V.region (W.mv rfl (W.e (Y.ls (e := 5) (Value.int .u8) ([0] : List Int) HS rfl rfl (fun _ => by kernel_rfl)) rfl ?_)))
      rintro _ w ⟨lb37, rfl, HS⟩
      obtain ⟨c38, H⟩ := ite_n H
      refine W.e (Y.appF (Value.int .u8) (fun _ => rfl) 1 Tryz.underlying33 ap5 rfl HS rfl rfl rfl (rdC.at 0 row_rd HS rfl) (by omega) (by omega)) rfl ?_
      rintro _ w ⟨ra39, rc40, rfl, HS⟩
      refine W.as rfl (W.nil ?_)
      replace HS := HS.pm [2, 0, 1, 3]
      replace HS := api_Ctl.close trivial HS
      replace HS := HS.pk [0, 2, 3] [1]
      exact At.meet (ra39, rc40, ([IntKind.u8.wrap (w64 (1 + (w64 (8 * (w64 (a0.Kind - 1))))))] : List Int) ++ ([0] : List Int)) ⟨rfl, rfl, rfl, trivial⟩ ⟨HS, H⟩
    ·rintro ⟨ra21, rc22, x23⟩ w ⟨HS, H⟩
     unfold signalmanref6_CtlBytes.j0 at H
     refine V.seq ?_
     obtain ⟨hi26, HS⟩ := api_Ctl.open HS
     refine V.dr [5, 7, 8] [9] [(42, Value.slice ra21 x23.length rc22), (43, Value.pointer (some ⟨nb1, 0 + 2, none⟩)), (44, Value.int .i64 a0.Nr), (45, Value.pointer (some ⟨nb1, 0 + 3, none⟩)), (46, Value.bool a0.Poll), (48, Value.int .i64 a1)] mo HS ?_
     refine T.ev [(46, _)] [9] [3, 4] ⟨rfl, trivial⟩ ⟨.mv 5, .fa 2 fo32_2, .ld 43 0 Tryz.underlying3, .fa 2 fo32_3, .ld 45 0 Tryz.underlying4, .mv 1, trivial⟩ rfl (fun w HS => ?_)
     obtain ⟨t27, A28, H⟩ := bind_s H
     refine ⟨_, Y.cl Tryz.func82 (signalmanref6_bit.calls A28 HS.j0), ?_⟩
     rintro _ w ⟨rfl, HS⟩
     replace HS := HS.o0
     refine T.nw HS ?_
     refine T.ev [(44, _), (47, _), (48, _)] [9] [1, 2, 6] ⟨rfl, rfl, rfl, trivial⟩ ⟨.mv 5, .fa 2 fo32_2, .ld 43 0 Tryz.underlying3, .mv 1, trivial⟩ rfl (fun w HS => ?_)
     obtain ⟨t29, A30, H⟩ := bind_s H
     refine ⟨_, Y.cl Tryz.func81 (signalmanref6_field.calls A30 HS.j0), ?_⟩
     rintro _ w ⟨at29_0, ct29_0, rfl, HS⟩
     replace HS := HS.o1
     refine T.nw HS ?_
     refine T.ev [(42, _), (49, _)] [] [0] ⟨rfl, rfl, trivial⟩ ⟨.mv 5, trivial⟩ rfl (fun w HS => ?_)
     obtain ⟨c31, H⟩ := ite_n H
     refine ⟨_, Y.appF (Value.int .u8) (fun _ => rfl) 2 Tryz.underlying33 ap5 rfl HS rfl rfl rfl (rdC.at 0 row_rd HS rfl) (by omega) (by omega), ?_⟩
     rintro _ w ⟨ra32, rc33, rfl, HS⟩
     refine T.nm [(50, Value.slice ra32 (x23 ++ t29).length rc33), (4, Value.slice ra32 (x23 ++ t29).length rc33)] HS ⟨.inl ⟨rfl, rfl⟩, ⟨.inr ⟨by decide, rfl⟩, trivial⟩⟩ ?_
     refine T.fn [(4, _)] ⟨rfl, trivial⟩ ⟨.as 50, trivial⟩ (fun w HS => ?_)
     refine At.next (V.ret (At.blockRet (At.thenRet ?_)))
     replace HS := HS.pk [2, 3] [0, 1]
     cases H
     exact At.ret1 rfl rfl ⟨_, rfl, ra32, rc33, rfl, HS⟩
   ·replace H := ite_f c16 H
    refine V.condF (sb (decide_eq_false c16)) (V.skip (At.blockEnd (At.next (V.seq (V.dr [2, 5, 9] [6, 7, 8, 10] [(51, Value.pointer (some ⟨nb1, 0 + 0, none⟩)), (52, Value.int .i64 a0.Kind), (54, Value.pointer (some ⟨nb1, 0 + 3, none⟩)), (55, Value.bool a0.Poll)] mo HS ?_)))))
    refine T.ev [(52, _)] [6, 7, 8, 10] [0, 1] ⟨rfl, trivial⟩ ⟨.fa 2 fo32_0, .ld 51 0 Tryz.underlying3, .fa 2 fo32_3, .ld 54 0 Tryz.underlying4, trivial⟩ rfl (fun w HS => ?_)
    obtain ⟨t41, A42, H⟩ := bind_s H
    refine ⟨_, Y.cl Tryz.func83 (signalmanref6_bare.calls A42 HS.j0), ?_⟩
    rintro _ w ⟨rfl, HS⟩
    replace HS := HS.o0
    refine T.nw HS ?_
    refine T.ev [(55, _)] [10] [3, 4] ⟨rfl, trivial⟩ ⟨.fa 2 fo32_3, .ld 54 0 Tryz.underlying4, trivial⟩ rfl (fun w HS => ?_)
    obtain ⟨t43, A44, H⟩ := bind_s H
    refine ⟨_, Y.cl Tryz.func82 (signalmanref6_bit.calls A44 HS.j0), ?_⟩
    rintro _ w ⟨rfl, HS⟩
    replace HS := HS.o0
    refine T.nm [(56, Value.int .i64 t43), (57, Value.int .i64 (w64 (16 * t43))), (58, Value.int .i64 (w64 (t41 + (w64 (16 * t43))))), (59, Value.int .u8 (IntKind.u8.wrap (w64 (t41 + (w64 (16 * t43))))))] HS ⟨.inl ⟨rfl, rfl⟩, ⟨.inr ⟨by decide, rfl⟩, ⟨.inr ⟨by decide, rfl⟩, ⟨.inr ⟨by decide, rfl⟩, trivial⟩⟩⟩⟩ ?_
    refine T.ev [(59, _)] [] [6, 7, 8] ⟨rfl, trivial⟩ ⟨.n1 56 rfl rfl (fun w HS => X.mul rfl rfl), .n2 53 57 rfl rfl rfl (fun w HS => X.add rfl rfl), .n1 58 rfl rfl (fun w HS => X.conv Tryz.underlying3 Tryz.underlying5 rfl), trivial⟩ rfl (fun w HS => ?_)
    refine ⟨_, Y.ls (e := 5) (Value.int .u8) ([IntKind.u8.wrap (w64 (t41 + (w64 (16 * t43))))] : List Int) HS rfl rfl (fun _ => by kernel_rfl), ?_⟩
    rintro _ w ⟨lb47, rfl, HS⟩
    refine T.nm [(60, Value.slice (some ⟨lb47, 0, none⟩) (([IntKind.u8.wrap (w64 (t41 + (w64 (16 * t43))))] : List Int)).length 1), (4, Value.slice (some ⟨lb47, 0, none⟩) (([IntKind.u8.wrap (w64 (t41 + (w64 (16 * t43))))] : List Int)).length 1)] HS ⟨.inl ⟨rfl, rfl⟩, ⟨.inr ⟨by decide, rfl⟩, trivial⟩⟩ ?_
    refine T.fn [(4, _)] ⟨rfl, trivial⟩ ⟨.as 60, trivial⟩ (fun w HS => ?_)
    refine At.next (V.ret ?_)
    replace HS := HS.pk [0, 2] [1]
    cases H
    exact At.ret1 rfl rfl ⟨_, rfl, (some ⟨lb47, 0, none⟩), 1, rfl, HS⟩
 ·replace H := ite_f c5 H
  refine V.condT (sb (n_f (b_f c5))) (V.seq (V.region (W.as rfl (W.nx (V.ret (At.thenRet ?_))))))
  replace HS := row_nilF (Value.int .u8) 5 1 HS
  replace HS := HS.pk [0, 2] [1]
  cases H
  exact At.ret1 rfl rfl ⟨_, rfl, none, 0, rfl, HS⟩
structure signalmanlaw15_Act where
 Way : Int
 N : Int
 T : Int
 Own : Bool
 C : api_Ctl
 B : List Int
deriving DecidableEq, Inhabited
def signalmanlaw15_Act.at (b : Nat) (x : signalmanlaw15_Act) : As := fun h => True ∧ ∃ a8 : Option Addr, ∃ c8 : Nat, Sp [blk b (#[Value.int .i64 x.Way, Value.int .i64 x.N, Value.int .i64 x.T, Value.bool x.Own, Value.int .i64 x.C.Kind, Value.int .i64 x.C.Ns, Value.int .i64 x.C.Nr, Value.bool x.C.Poll, Value.slice a8 x.B.length c8]) 35, fsl 1 (.slice a8 x.B.length c8) x.B.length (x.B.map (Value.int .u8))] h
theorem signalmanlaw15_Act.open {b : Nat} {x : signalmanlaw15_Act} {L : List As} {w0 w : World} (hs : Sep.St (signalmanlaw15_Act.at b x :: L) w0 w) : ∃ a8 : Option Addr, ∃ c8 : Nat, True ∧ Sep.St (blk b (#[Value.int .i64 x.Way, Value.int .i64 x.N, Value.int .i64 x.T, Value.bool x.Own, Value.int .i64 x.C.Kind, Value.int .i64 x.C.Ns, Value.int .i64 x.C.Nr, Value.bool x.C.Poll, Value.slice a8 x.B.length c8]) 35 :: fsl 1 (.slice a8 x.B.length c8) x.B.length (x.B.map (Value.int .u8)) :: L) w0 w := by
 have h1 := St.pure.1 (show St ((fun h => True ∧ (fun h => ∃ a8 : Option Addr, ∃ c8 : Nat, Sp [blk b (#[Value.int .i64 x.Way, Value.int .i64 x.N, Value.int .i64 x.T, Value.bool x.Own, Value.int .i64 x.C.Kind, Value.int .i64 x.C.Ns, Value.int .i64 x.C.Nr, Value.bool x.C.Poll, Value.slice a8 x.B.length c8]) 35, fsl 1 (.slice a8 x.B.length c8) x.B.length (x.B.map (Value.int .u8))] h) h) :: L) w0 w from hs)
 obtain ⟨hi, hs⟩ := h1
 obtain ⟨a8, hs⟩ := St.ex.1 (show St ((fun h => ∃ a8 : Option Addr, (fun h => ∃ c8 : Nat, Sp [blk b (#[Value.int .i64 x.Way, Value.int .i64 x.N, Value.int .i64 x.T, Value.bool x.Own, Value.int .i64 x.C.Kind, Value.int .i64 x.C.Ns, Value.int .i64 x.C.Nr, Value.bool x.C.Poll, Value.slice a8 x.B.length c8]) 35, fsl 1 (.slice a8 x.B.length c8) x.B.length (x.B.map (Value.int .u8))] h) h) :: L) w0 w from hs)
 obtain ⟨c8, hs⟩ := St.ex.1 (show St ((fun h => ∃ c8 : Nat, (fun h => Sp [blk b (#[Value.int .i64 x.Way, Value.int .i64 x.N, Value.int .i64 x.T, Value.bool x.Own, Value.int .i64 x.C.Kind, Value.int .i64 x.C.Ns, Value.int .i64 x.C.Nr, Value.bool x.C.Poll, Value.slice a8 x.B.length c8]) 35, fsl 1 (.slice a8 x.B.length c8) x.B.length (x.B.map (Value.int .u8))] h) h) :: L) w0 w from hs)
 exact ⟨a8, c8, hi, St.open (m := [blk b (#[Value.int .i64 x.Way, Value.int .i64 x.N, Value.int .i64 x.T, Value.bool x.Own, Value.int .i64 x.C.Kind, Value.int .i64 x.C.Ns, Value.int .i64 x.C.Nr, Value.bool x.C.Poll, Value.slice a8 x.B.length c8]) 35, fsl 1 (.slice a8 x.B.length c8) x.B.length (x.B.map (Value.int .u8))]) hs⟩
theorem signalmanlaw15_Act.close {b : Nat} {l0 : Int} {l1 : Int} {l2 : Int} {l3 : Bool} {l4 : Int} {l5 : Int} {l6 : Int} {l7 : Bool} {l8 : List Int} {a8 : Option Addr} {c8 : Nat} {L : List As} {w0 w : World} (hi : True) (hs : Sep.St (blk b (#[Value.int .i64 l0, Value.int .i64 l1, Value.int .i64 l2, Value.bool l3, Value.int .i64 l4, Value.int .i64 l5, Value.int .i64 l6, Value.bool l7, Value.slice a8 l8.length c8]) 35 :: fsl 1 (.slice a8 l8.length c8) l8.length (l8.map (Value.int .u8)) :: L) w0 w) : Sep.St (signalmanlaw15_Act.at b ({ Way := l0, N := l1, T := l2, Own := l3, C := ({ Kind := l4, Ns := l5, Nr := l6, Poll := l7 } : api_Ctl), B := l8 } : signalmanlaw15_Act) :: L) w0 w := by
 have h2 := St.join (m := [blk b (#[Value.int .i64 l0, Value.int .i64 l1, Value.int .i64 l2, Value.bool l3, Value.int .i64 l4, Value.int .i64 l5, Value.int .i64 l6, Value.bool l7, Value.slice a8 l8.length c8]) 35, fsl 1 (.slice a8 l8.length c8) l8.length (l8.map (Value.int .u8))]) hs
 exact h2.mono fun h hh => ⟨hi, _, _, hh⟩
def signalmanlaw15_input.f (a0 : signalmanlaw15_Act) (a1 : Int) : Option (List Int) := (if a0.Own = true then ((signalmanref6_CtlBytes.f a0.C a1).bind fun t7 => (if ((([IntKind.u8.wrap (iand .i64 (a0.T.fdiv (2 ^ (min (8 : Int).toNat IntKind.i64.bits))) (255)), IntKind.u8.wrap (iand .i64 a0.T (255))] : List Int)).length : Int) + t7.length ≤ 1099511627776 then (if ((([IntKind.u8.wrap (iand .i64 (a0.T.fdiv (2 ^ (min (8 : Int).toNat IntKind.i64.bits))) (255)), IntKind.u8.wrap (iand .i64 a0.T (255))] : List Int) ++ t7).length : Int) + a0.B.length ≤ 1099511627776 then some ((([IntKind.u8.wrap (iand .i64 (a0.T.fdiv (2 ^ (min (8 : Int).toNat IntKind.i64.bits))) (255)), IntKind.u8.wrap (iand .i64 a0.T (255))] : List Int) ++ t7) ++ a0.B) else none) else none)) else (if (([] : List Int).length : Int) + a0.B.length ≤ 1099511627776 then some (([] : List Int) ++ a0.B) else none))
theorem signalmanlaw15_input.calls {a0 : signalmanlaw15_Act} {a1 : Int} {R : As} {w0 w : World} {sa0_8 : Option Addr} {sc0_8 : Nat} {r : List Int} (H : signalmanlaw15_input.f a0 a1 = some r) (HS : Sep.St [R] w0 w) (hr0_8 : rdC R 1 (.slice sa0_8 a0.B.length sc0_8) a0.B.length (a0.B.map (Value.int .u8))) : Calls Tryz.prog 10 #[Value.agg #[Value.int .i64 a0.Way, Value.int .i64 a0.N, Value.int .i64 a0.T, Value.bool a0.Own, Value.int .i64 a0.C.Kind, Value.int .i64 a0.C.Ns, Value.int .i64 a0.C.Nr, Value.bool a0.C.Poll, Value.slice sa0_8 a0.B.length sc0_8], Value.int .i64 a1] w (Ret fun u w => ∃ (aq0 : Option Addr) (cq0 : Nat), u = Value.slice aq0 r.length cq0 ∧ Sep.St [row 5 1 (.slice aq0 r.length cq0) r.length (r.map (Value.int .u8)), R] w0 w) := by
 unfold signalmanlaw15_input.f at H
 refine calls_enter Tryz.func10 rfl rfl ?_
 have H : _ = some r := H
 refine V.seq (V.region (W.e (Y.box HS rfl) rfl ?_))
 rintro _ w ⟨nb1, rfl, HS⟩
 refine W.as rfl (W.nx (V.seq (V.seq (V.region (W.fa fo35_3 rfl (W.ld 0 HS Tryz.underlying4 rfl rfl rfl rfl (W.r (X.not rfl) rfl (W.nx ?_))))))))
 by_cases c3 : a0.Own = true
 ·replace H := ite_t c3 H
  refine V.condF (sb (n_t c3)) (V.skip (At.next (V.seq (V.dr [9, 13, 14] [15] [(12, Value.pointer (some ⟨nb1, 0 + 2, none⟩)), (13, Value.int .i64 a0.T), (14, Value.int .i64 (a0.T.fdiv (2 ^ (min (8 : Int).toNat IntKind.i64.bits)))), (15, Value.int .i64 (iand .i64 (a0.T.fdiv (2 ^ (min (8 : Int).toNat IntKind.i64.bits))) (255))), (16, Value.int .u8 (IntKind.u8.wrap (iand .i64 (a0.T.fdiv (2 ^ (min (8 : Int).toNat IntKind.i64.bits))) (255)))), (17, Value.pointer (some ⟨nb1, 0 + 2, none⟩)), (18, Value.int .i64 a0.T), (19, Value.int .i64 (iand .i64 a0.T (255))), (20, Value.int .u8 (IntKind.u8.wrap (iand .i64 a0.T (255)))), (22, Value.pointer (some ⟨nb1, 0 + 4, none⟩)), (23, Value.agg #[Value.int .i64 a0.C.Kind, Value.int .i64 a0.C.Ns, Value.int .i64 a0.C.Nr, Value.bool a0.C.Poll]), (24, Value.int .i64 a1)] mo HS ?_))))
  refine T.two rfl rfl ⟨.fa 2 fo35_2, .ld 12 0 Tryz.underlying3, .n1 13 rfl rfl (fun w HS => X.shr rfl rfl (by decide)), .n1 14 rfl rfl (fun w HS => X.and rfl rfl), .n1 15 rfl rfl (fun w HS => X.conv Tryz.underlying3 Tryz.underlying5 rfl), .fa 2 fo35_2, .ld 17 0 Tryz.underlying3, .n1 18 rfl rfl (fun w HS => X.and rfl rfl), .n1 19 rfl rfl (fun w HS => X.conv Tryz.underlying3 Tryz.underlying5 rfl), .fa 2 fo35_4, .n1 22 rfl rfl (fun w HS => X.loadSt 0 [Value.int .i64 a0.C.Kind, Value.int .i64 a0.C.Ns, Value.int .i64 a0.C.Nr, Value.bool a0.C.Poll] HS rfl Tryz.underlying32 rfl inf32 rfl rfl), .mv 1, trivial⟩ (T.step (es := [13, 14]) _ [(16, Value.int .u8 (IntKind.u8.wrap (iand .i64 (a0.T.fdiv (2 ^ (min (8 : Int).toNat IntKind.i64.bits))) (255)))), (20, Value.int .u8 (IntKind.u8.wrap (iand .i64 a0.T (255))))] rfl ⟨.inr ⟨rfl, rfl⟩, ⟨.inr ⟨rfl, rfl⟩, trivial⟩⟩ (Or.inl rfl) (by intro d hd; cases hd; exact ⟨by decide, rfl, rfl⟩) [15] [0, 1, 2, 3, 4, 5, 6, 7, 8] rfl rfl rfl rfl rfl (fun w HS => ?_)) (T.step (es := [9, 14]) _ [(23, Value.agg #[Value.int .i64 a0.C.Kind, Value.int .i64 a0.C.Ns, Value.int .i64 a0.C.Nr, Value.bool a0.C.Poll]), (24, Value.int .i64 a1)] rfl ⟨.inr ⟨rfl, rfl⟩, ⟨.inr ⟨rfl, rfl⟩, trivial⟩⟩ (Or.inl rfl) (by intro d hd; cases hd; exact ⟨by decide, rfl, rfl⟩) [15] [10, 11, 12] rfl rfl rfl rfl rfl (fun w HS => ?_))
  ·have HS : Sep.St [blk nb1 (#[Value.int .i64 a0.Way, Value.int .i64 a0.N, Value.int .i64 a0.T, Value.bool a0.Own, Value.int .i64 a0.C.Kind, Value.int .i64 a0.C.Ns, Value.int .i64 a0.C.Nr, Value.bool a0.C.Poll, Value.slice sa0_8 a0.B.length sc0_8]) 35, R] w0 w := HS
   refine ⟨_, Y.ls (e := 5) (Value.int .u8) ([IntKind.u8.wrap (iand .i64 (a0.T.fdiv (2 ^ (min (8 : Int).toNat IntKind.i64.bits))) (255)), IntKind.u8.wrap (iand .i64 a0.T (255))] : List Int) HS rfl rfl (fun _ => by kernel_rfl), ?_⟩
   rintro _ w ⟨lb6, rfl, HS⟩
   refine T.nw HS ?_
   refine T.ev [(23, _), (24, _)] [15] [10, 11, 12] ⟨rfl, rfl, trivial⟩ ⟨.fa 2 fo35_4, .n1 22 rfl rfl (fun w HS => X.loadSt 1 [Value.int .i64 a0.C.Kind, Value.int .i64 a0.C.Ns, Value.int .i64 a0.C.Nr, Value.bool a0.C.Poll] HS rfl Tryz.underlying32 rfl inf32 rfl rfl), .mv 1, trivial⟩ rfl (fun w HS => ?_)
   obtain ⟨t7, A8, H⟩ := bind_s H
   refine ⟨_, Y.cl Tryz.func47 (signalmanref6_CtlBytes.calls A8 HS.j0), ?_⟩
   rintro _ w ⟨at7_0, ct7_0, rfl, HS⟩
   replace HS := HS.o1
   refine T.nw HS ?_
   refine T.ev [(21, _), (25, _)] [] [] ⟨rfl, rfl, trivial⟩ trivial rfl (fun w HS => ?_)
   obtain ⟨c9, H⟩ := ite_n H
   refine ⟨_, Y.appF (Value.int .u8) (fun _ => rfl) 1 Tryz.underlying33 ap5 rfl HS rfl rfl rfl (rdC.at 0 row_rd HS rfl) (by omega) (by omega), ?_⟩
   rintro _ w ⟨ra10, rc11, rfl, HS⟩
   refine T.nm [(26, Value.slice ra10 (([IntKind.u8.wrap (iand .i64 (a0.T.fdiv (2 ^ (min (8 : Int).toNat IntKind.i64.bits))) (255)), IntKind.u8.wrap (iand .i64 a0.T (255))] : List Int) ++ t7).length rc11), (5, Value.slice ra10 (([IntKind.u8.wrap (iand .i64 (a0.T.fdiv (2 ^ (min (8 : Int).toNat IntKind.i64.bits))) (255)), IntKind.u8.wrap (iand .i64 a0.T (255))] : List Int) ++ t7).length rc11)] HS ⟨.inl ⟨rfl, rfl⟩, ⟨.inr ⟨by decide, rfl⟩, trivial⟩⟩ ?_
   refine T.fn [(2, _), (5, _)] ⟨rfl, rfl, trivial⟩ ⟨.as 26, trivial⟩ (fun w HS => ?_)
   refine At.next (V.seq (V.region (W.mv rfl (W.fa fo35_5 rfl (W.ld 2 HS Tryz.underlying33 rfl rfl rfl rfl ?_)))))
   obtain ⟨c12, H⟩ := ite_n H
   refine W.e (Y.appF (Value.int .u8) (fun _ => rfl) 1 Tryz.underlying33 ap5 rfl HS rfl rfl rfl (rdC.at 3 hr0_8 HS rfl) (by omega) (by omega)) rfl ?_
   rintro _ w ⟨ra13, rc14, rfl, HS⟩
   refine W.as rfl (W.nx (V.ret ?_))
   replace HS := HS.pk [1, 3] [0, 2]
   cases H
   exact At.ret1 rfl rfl ⟨_, rfl, ra13, rc14, rfl, HS⟩
  ·have HS : Sep.St [blk nb1 (#[Value.int .i64 a0.Way, Value.int .i64 a0.N, Value.int .i64 a0.T, Value.bool a0.Own, Value.int .i64 a0.C.Kind, Value.int .i64 a0.C.Ns, Value.int .i64 a0.C.Nr, Value.bool a0.C.Poll, Value.slice sa0_8 a0.B.length sc0_8]) 35, R] w0 w := HS
   obtain ⟨t15, A16, H⟩ := bind_s H
   refine ⟨_, Y.cl Tryz.func47 (signalmanref6_CtlBytes.calls A16 HS.j0), ?_⟩
   rintro _ w ⟨at15_0, ct15_0, rfl, HS⟩
   replace HS := HS.o1
   refine T.nw HS ?_
   refine T.ev [(16, _), (20, _)] [15] [0, 1, 2, 3, 4, 5, 6, 7, 8] ⟨rfl, rfl, trivial⟩ ⟨.fa 2 fo35_2, .ld 12 1 Tryz.underlying3, .n1 13 rfl rfl (fun w HS => X.shr rfl rfl (by decide)), .n1 14 rfl rfl (fun w HS => X.and rfl rfl), .n1 15 rfl rfl (fun w HS => X.conv Tryz.underlying3 Tryz.underlying5 rfl), .fa 2 fo35_2, .ld 17 1 Tryz.underlying3, .n1 18 rfl rfl (fun w HS => X.and rfl rfl), .n1 19 rfl rfl (fun w HS => X.conv Tryz.underlying3 Tryz.underlying5 rfl), trivial⟩ rfl (fun w HS => ?_)
   refine ⟨_, Y.ls (e := 5) (Value.int .u8) ([IntKind.u8.wrap (iand .i64 (a0.T.fdiv (2 ^ (min (8 : Int).toNat IntKind.i64.bits))) (255)), IntKind.u8.wrap (iand .i64 a0.T (255))] : List Int) HS rfl rfl (fun _ => by kernel_rfl), ?_⟩
   rintro _ w ⟨lb19, rfl, HS⟩
   refine T.nw HS ?_
   refine T.ev [(21, _), (25, _)] [] [] ⟨rfl, rfl, trivial⟩ trivial rfl (fun w HS => ?_)
   obtain ⟨c20, H⟩ := ite_n H
   refine ⟨_, Y.appF (Value.int .u8) (fun _ => rfl) 0 Tryz.underlying33 ap5 rfl HS rfl rfl rfl (rdC.at 1 row_rd HS rfl) (by omega) (by omega), ?_⟩
   rintro _ w ⟨ra21, rc22, rfl, HS⟩
   refine T.nm [(26, Value.slice ra21 (([IntKind.u8.wrap (iand .i64 (a0.T.fdiv (2 ^ (min (8 : Int).toNat IntKind.i64.bits))) (255)), IntKind.u8.wrap (iand .i64 a0.T (255))] : List Int) ++ t15).length rc22), (5, Value.slice ra21 (([IntKind.u8.wrap (iand .i64 (a0.T.fdiv (2 ^ (min (8 : Int).toNat IntKind.i64.bits))) (255)), IntKind.u8.wrap (iand .i64 a0.T (255))] : List Int) ++ t15).length rc22)] HS ⟨.inl ⟨rfl, rfl⟩, ⟨.inr ⟨by decide, rfl⟩, trivial⟩⟩ ?_
   refine T.fn [(2, _), (5, _)] ⟨rfl, rfl, trivial⟩ ⟨.as 26, trivial⟩ (fun w HS => ?_)
   refine At.next (V.seq (V.region (W.mv rfl (W.fa fo35_5 rfl (W.ld 2 HS Tryz.underlying33 rfl rfl rfl rfl ?_)))))
   obtain ⟨c23, H⟩ := ite_n H
   refine W.e (Y.appF (Value.int .u8) (fun _ => rfl) 0 Tryz.underlying33 ap5 rfl HS rfl rfl rfl (rdC.at 3 hr0_8 HS rfl) (by omega) (by omega)) rfl ?_
   rintro _ w ⟨ra24, rc25, rfl, HS⟩
   refine W.as rfl (W.nx (V.ret ?_))
   replace HS := HS.pk [0, 3] [1, 2]
   cases H
   exact At.ret1 rfl rfl ⟨_, rfl, ra24, rc25, rfl, HS⟩
 ·replace H := ite_f c3 H
  refine V.condT (sb (n_f (b_f c3))) (V.seq (V.region (W.fa fo35_5 rfl (W.ld 0 HS Tryz.underlying33 rfl rfl rfl rfl ?_))))
  obtain ⟨c26, H⟩ := ite_n H
  replace HS := row_nilF (Value.int .u8) 5 1 HS
  have HS : Sep.St [row 5 1 (.slice none ([] : List Int).length 0) ([] : List Int).length (([] : List Int).map (Value.int .u8)), blk nb1 (#[Value.int .i64 a0.Way, Value.int .i64 a0.N, Value.int .i64 a0.T, Value.bool a0.Own, Value.int .i64 a0.C.Kind, Value.int .i64 a0.C.Ns, Value.int .i64 a0.C.Nr, Value.bool a0.C.Poll, Value.slice sa0_8 a0.B.length sc0_8]) 35, R] w0 w := HS
  refine W.e (Y.appF (Value.int .u8) (fun _ => rfl) 0 Tryz.underlying33 ap5 rfl HS rfl rfl rfl (rdC.at 2 hr0_8 HS rfl) (by omega) (by omega)) rfl ?_
  rintro _ w ⟨ra27, rc28, rfl, HS⟩
  refine W.as rfl (W.nx (V.ret (At.thenRet ?_)))
  replace HS := HS.pk [0, 2] [1]
  cases H
  exact At.ret1 rfl rfl ⟨_, rfl, ra27, rc28, rfl, HS⟩
mutual
def signalmanref15_Arq_tell.j0 (a0 : signalmanref15_Arq) (a3 : List Int) (x6 : List Int) : Option signalmanref15_Arq := (if (x6.length : Int) + a3.length ≤ 1099511627776 then (if (a0.out.length : Int) + (([x6 ++ a3] : List (List Int))).length ≤ 1099511627776 then some (({ a0 with out := a0.out ++ ([x6 ++ a3] : List (List Int)) } : signalmanref15_Arq)) else none) else none)
end
def signalmanref15_Arq_tell.f (a0 : signalmanref15_Arq) (a1 : Int) (a2 : api_Ctl) (a3 : List Int) : Option signalmanref15_Arq := ((signalmanref6_CtlBytes.f a2 a0.m).bind fun t24 => (if ((([IntKind.u8.wrap (a1.fdiv (2 ^ (min (8 : Int).toNat IntKind.i64.bits))), IntKind.u8.wrap (iand .i64 a1 (255))] : List Int)).length : Int) + t24.length ≤ 1099511627776 then (signalmanref15_Arq_tell.j0 a0 a3 (([IntKind.u8.wrap (a1.fdiv (2 ^ (min (8 : Int).toNat IntKind.i64.bits))), IntKind.u8.wrap (iand .i64 a1 (255))] : List Int) ++ t24)) else none))
theorem signalmanref15_Arq_tell.calls {a0 : signalmanref15_Arq} {a1 : Int} {a2 : api_Ctl} {a3 : List Int} {R : As} {w0 w : World} {b0 : Nat} {sa3 : Option Addr} {sc3 : Nat} {r : signalmanref15_Arq} (H : signalmanref15_Arq_tell.f a0 a1 a2 a3 = some r) (HS : Sep.St [signalmanref15_Arq.at b0 a0, R] w0 w) (hr3 : rdC R 1 (.slice sa3 a3.length sc3) a3.length (a3.map (Value.int .u8))) : Calls Tryz.prog 84 #[Value.pointer (some ⟨b0, 0, none⟩), Value.int .i64 a1, Value.agg #[Value.int .i64 a2.Kind, Value.int .i64 a2.Ns, Value.int .i64 a2.Nr, Value.bool a2.Poll], Value.slice sa3 a3.length sc3] w (Ret fun u w => u = Value.tuple #[] ∧ Sep.St [signalmanref15_Arq.at b0 r, R] w0 w) := by
 unfold signalmanref15_Arq_tell.f at H
 refine calls_enter Tryz.func84 rfl rfl ?_
 have H : _ = some r := H
 refine V.seq (V.region (W.e (Y.box HS rfl) rfl ?_))
 rintro _ w ⟨nb1, rfl, HS⟩
 refine W.nx (V.meet (σ := Option Addr × Nat × List Int) (fun st w => match st with | (ra4, rc5, x6) => Sep.St [row 5 1 (.slice ra4 x6.length rc5) x6.length (x6.map (Value.int .u8)), api_Ctl.at nb1 a2, signalmanref15_Arq.at b0 a0, R] w0 w ∧ signalmanref15_Arq_tell.j0 a0 a3 x6 = some r) (fun st => match st with | (ra4, rc5, x6) => [(0, Value.pointer (some ⟨b0, 0, none⟩)), (3, Value.slice sa3 a3.length sc3), (8, Value.slice ra4 x6.length rc5)]) ?_ ?_)
 ·replace HS := HS.fr 1
  obtain ⟨b6_19, b7_19, a11_19, c11_19, d11_19, a12_19, c12_19, hi20, HS⟩ := signalmanref15_Arq.open HS
  refine V.dr [6, 12, 13] [14] [(9, Value.int .i64 a1), (10, Value.int .i64 (a1.fdiv (2 ^ (min (8 : Int).toNat IntKind.i64.bits)))), (11, Value.int .u8 (IntKind.u8.wrap (a1.fdiv (2 ^ (min (8 : Int).toNat IntKind.i64.bits))))), (12, Value.int .i64 a1), (13, Value.int .i64 (iand .i64 a1 (255))), (14, Value.int .u8 (IntKind.u8.wrap (iand .i64 a1 (255)))), (16, Value.agg #[Value.int .i64 a2.Kind, Value.int .i64 a2.Ns, Value.int .i64 a2.Nr, Value.bool a2.Poll]), (17, Value.pointer (some ⟨b0, 0, none⟩)), (18, Value.pointer (some ⟨b0, 0, none⟩)), (19, Value.pointer (some ⟨b0, 0 + 0, none⟩)), (20, Value.int .i64 a0.m)] mo HS ?_
  refine T.two rfl rfl ⟨.mv 1, .n1 9 rfl rfl (fun w HS => X.shr rfl rfl (by decide)), .n1 10 rfl rfl (fun w HS => X.conv Tryz.underlying3 Tryz.underlying5 rfl), .mv 1, .n1 12 rfl rfl (fun w HS => X.and rfl rfl), .n1 13 rfl rfl (fun w HS => X.conv Tryz.underlying3 Tryz.underlying5 rfl), .n1 6 rfl rfl (fun w HS => X.loadSt 6 [Value.int .i64 a2.Kind, Value.int .i64 a2.Ns, Value.int .i64 a2.Nr, Value.bool a2.Poll] HS rfl Tryz.underlying32 rfl inf32 rfl rfl), .mv 0, .nc 17, .fa 18 fo71_0, .ld 19 0 Tryz.underlying3, trivial⟩ (T.step (es := [12, 13]) _ [(11, Value.int .u8 (IntKind.u8.wrap (a1.fdiv (2 ^ (min (8 : Int).toNat IntKind.i64.bits))))), (14, Value.int .u8 (IntKind.u8.wrap (iand .i64 a1 (255))))] rfl ⟨.inr ⟨rfl, rfl⟩, ⟨.inr ⟨rfl, rfl⟩, trivial⟩⟩ (Or.inl rfl) (by intro d hd; cases hd; exact ⟨by decide, rfl, rfl⟩) [14] [0, 1, 2, 3, 4, 5] rfl rfl rfl rfl rfl (fun w HS => ?_)) (T.step (es := [6, 13]) _ [(16, Value.agg #[Value.int .i64 a2.Kind, Value.int .i64 a2.Ns, Value.int .i64 a2.Nr, Value.bool a2.Poll]), (20, Value.int .i64 a0.m)] rfl ⟨.inr ⟨rfl, rfl⟩, ⟨.inr ⟨rfl, rfl⟩, trivial⟩⟩ (Or.inl rfl) (by intro d hd; cases hd; exact ⟨by decide, rfl, rfl⟩) [14] [7, 8, 9, 10, 11] rfl rfl rfl rfl rfl (fun w HS => ?_))
  ·have HS : Sep.St [blk b0 (#[Value.int .i64 a0.m, Value.int .i64 a0.t1, Value.int .i64 a0.n2, Value.int .i64 a0.size, Value.int .i64 a0.state, Value.int .i64 a0.tag, Value.pointer (some ⟨b6_19, 0, none⟩), Value.pointer (some ⟨b7_19, 0, none⟩), Value.int .i64 a0.left, Value.int .i64 a0.tries, Value.bool a0.rejected, Value.slice a11_19 a0.out.length c11_19, Value.slice a12_19 a0.inds.length c12_19, Value.int .i64 a0.sent, Value.int .i64 a0.acked, Value.int .i64 a0.lost]) 71, signalmanref6_Log.at b6_19 a0.log, signalmanref6_Order.at b7_19 a0.order, row 33 1 (.slice a11_19 a0.out.length c11_19) a0.out.length d11_19, tie (El.sl (El.int .u8)) d11_19 a0.out, row 3 1 (.slice a12_19 a0.inds.length c12_19) a0.inds.length (a0.inds.map (Value.int .i64)), blk nb1 (#[Value.int .i64 a2.Kind, Value.int .i64 a2.Ns, Value.int .i64 a2.Nr, Value.bool a2.Poll]) 32, R] w0 w := HS
   refine ⟨_, Y.ls (e := 5) (Value.int .u8) ([IntKind.u8.wrap (a1.fdiv (2 ^ (min (8 : Int).toNat IntKind.i64.bits))), IntKind.u8.wrap (iand .i64 a1 (255))] : List Int) HS rfl rfl (fun _ => by kernel_rfl), ?_⟩
   rintro _ w ⟨lb23, rfl, HS⟩
   refine T.nw HS ?_
   refine T.ev [(16, _), (20, _)] [14] [7, 8, 9, 10, 11] ⟨rfl, rfl, trivial⟩ ⟨.n1 6 rfl rfl (fun w HS => X.loadSt 7 [Value.int .i64 a2.Kind, Value.int .i64 a2.Ns, Value.int .i64 a2.Nr, Value.bool a2.Poll] HS rfl Tryz.underlying32 rfl inf32 rfl rfl), .mv 0, .nc 17, .fa 18 fo71_0, .ld 19 1 Tryz.underlying3, trivial⟩ rfl (fun w HS => ?_)
   obtain ⟨t24, A25, H⟩ := bind_s H
   refine ⟨_, Y.cl Tryz.func47 (signalmanref6_CtlBytes.calls A25 HS.j0), ?_⟩
   rintro _ w ⟨at24_0, ct24_0, rfl, HS⟩
   replace HS := HS.o1
   refine T.nw HS ?_
   refine T.ev [(15, _), (21, _)] [] [] ⟨rfl, rfl, trivial⟩ trivial rfl (fun w HS => ?_)
   obtain ⟨c26, H⟩ := ite_n H
   refine ⟨_, Y.appF (Value.int .u8) (fun _ => rfl) 1 Tryz.underlying33 ap5 rfl HS rfl rfl rfl (rdC.at 0 row_rd HS rfl) (by omega) (by omega), ?_⟩
   rintro _ w ⟨ra27, rc28, rfl, HS⟩
   refine T.nm [(22, Value.slice ra27 (([IntKind.u8.wrap (a1.fdiv (2 ^ (min (8 : Int).toNat IntKind.i64.bits))), IntKind.u8.wrap (iand .i64 a1 (255))] : List Int) ++ t24).length rc28), (8, Value.slice ra27 (([IntKind.u8.wrap (a1.fdiv (2 ^ (min (8 : Int).toNat IntKind.i64.bits))), IntKind.u8.wrap (iand .i64 a1 (255))] : List Int) ++ t24).length rc28)] HS ⟨.inl ⟨rfl, rfl⟩, ⟨.inr ⟨by decide, rfl⟩, trivial⟩⟩ ?_
   refine T.fn [(0, _), (3, _), (8, _)] ⟨rfl, rfl, rfl, trivial⟩ ⟨.as 22, trivial⟩ (fun w HS => ?_)
   replace HS := HS.pm [8, 0, 1, 2, 3, 4, 5, 6, 7, 9]
   replace HS := api_Ctl.close trivial HS
   replace HS := HS.pm [3, 4, 5, 6, 7, 8, 0, 1, 2, 9]
   replace HS := signalmanref15_Arq.close trivial HS
   replace HS := HS.pk [3, 1, 0, 4] [2]
   exact At.meet (ra27, rc28, ([IntKind.u8.wrap (a1.fdiv (2 ^ (min (8 : Int).toNat IntKind.i64.bits))), IntKind.u8.wrap (iand .i64 a1 (255))] : List Int) ++ t24) ⟨rfl, rfl, rfl, trivial⟩ ⟨HS, H⟩
  ·have HS : Sep.St [blk b0 (#[Value.int .i64 a0.m, Value.int .i64 a0.t1, Value.int .i64 a0.n2, Value.int .i64 a0.size, Value.int .i64 a0.state, Value.int .i64 a0.tag, Value.pointer (some ⟨b6_19, 0, none⟩), Value.pointer (some ⟨b7_19, 0, none⟩), Value.int .i64 a0.left, Value.int .i64 a0.tries, Value.bool a0.rejected, Value.slice a11_19 a0.out.length c11_19, Value.slice a12_19 a0.inds.length c12_19, Value.int .i64 a0.sent, Value.int .i64 a0.acked, Value.int .i64 a0.lost]) 71, signalmanref6_Log.at b6_19 a0.log, signalmanref6_Order.at b7_19 a0.order, row 33 1 (.slice a11_19 a0.out.length c11_19) a0.out.length d11_19, tie (El.sl (El.int .u8)) d11_19 a0.out, row 3 1 (.slice a12_19 a0.inds.length c12_19) a0.inds.length (a0.inds.map (Value.int .i64)), blk nb1 (#[Value.int .i64 a2.Kind, Value.int .i64 a2.Ns, Value.int .i64 a2.Nr, Value.bool a2.Poll]) 32, R] w0 w := HS
   obtain ⟨t29, A30, H⟩ := bind_s H
   refine ⟨_, Y.cl Tryz.func47 (signalmanref6_CtlBytes.calls A30 HS.j0), ?_⟩
   rintro _ w ⟨at29_0, ct29_0, rfl, HS⟩
   replace HS := HS.o1
   refine T.nw HS ?_
   refine T.ev [(11, _), (14, _)] [14] [0, 1, 2, 3, 4, 5] ⟨rfl, rfl, trivial⟩ ⟨.mv 1, .n1 9 rfl rfl (fun w HS => X.shr rfl rfl (by decide)), .n1 10 rfl rfl (fun w HS => X.conv Tryz.underlying3 Tryz.underlying5 rfl), .mv 1, .n1 12 rfl rfl (fun w HS => X.and rfl rfl), .n1 13 rfl rfl (fun w HS => X.conv Tryz.underlying3 Tryz.underlying5 rfl), trivial⟩ rfl (fun w HS => ?_)
   refine ⟨_, Y.ls (e := 5) (Value.int .u8) ([IntKind.u8.wrap (a1.fdiv (2 ^ (min (8 : Int).toNat IntKind.i64.bits))), IntKind.u8.wrap (iand .i64 a1 (255))] : List Int) HS rfl rfl (fun _ => by kernel_rfl), ?_⟩
   rintro _ w ⟨lb33, rfl, HS⟩
   refine T.nw HS ?_
   refine T.ev [(15, _), (21, _)] [] [] ⟨rfl, rfl, trivial⟩ trivial rfl (fun w HS => ?_)
   obtain ⟨c34, H⟩ := ite_n H
   refine ⟨_, Y.appF (Value.int .u8) (fun _ => rfl) 0 Tryz.underlying33 ap5 rfl HS rfl rfl rfl (rdC.at 1 row_rd HS rfl) (by omega) (by omega), ?_⟩
   rintro _ w ⟨ra35, rc36, rfl, HS⟩
   refine T.nm [(22, Value.slice ra35 (([IntKind.u8.wrap (a1.fdiv (2 ^ (min (8 : Int).toNat IntKind.i64.bits))), IntKind.u8.wrap (iand .i64 a1 (255))] : List Int) ++ t29).length rc36), (8, Value.slice ra35 (([IntKind.u8.wrap (a1.fdiv (2 ^ (min (8 : Int).toNat IntKind.i64.bits))), IntKind.u8.wrap (iand .i64 a1 (255))] : List Int) ++ t29).length rc36)] HS ⟨.inl ⟨rfl, rfl⟩, ⟨.inr ⟨by decide, rfl⟩, trivial⟩⟩ ?_
   refine T.fn [(0, _), (3, _), (8, _)] ⟨rfl, rfl, rfl, trivial⟩ ⟨.as 22, trivial⟩ (fun w HS => ?_)
   replace HS := HS.pm [8, 0, 1, 2, 3, 4, 5, 6, 7, 9]
   replace HS := api_Ctl.close trivial HS
   replace HS := HS.pm [3, 4, 5, 6, 7, 8, 0, 1, 2, 9]
   replace HS := signalmanref15_Arq.close trivial HS
   replace HS := HS.pk [2, 1, 0, 4] [3]
   exact At.meet (ra35, rc36, ([IntKind.u8.wrap (a1.fdiv (2 ^ (min (8 : Int).toNat IntKind.i64.bits))), IntKind.u8.wrap (iand .i64 a1 (255))] : List Int) ++ t29) ⟨rfl, rfl, rfl, trivial⟩ ⟨HS, H⟩
 ·rintro ⟨ra4, rc5, x6⟩ w ⟨HS, H⟩
  unfold signalmanref15_Arq_tell.j0 at H
  replace HS := HS.fr 2
  obtain ⟨b6_8, b7_8, a11_8, c11_8, d11_8, a12_8, c12_8, hi9, HS⟩ := signalmanref15_Arq.open HS
  refine V.dr [7, 8, 9, 12] [10, 11] [(23, Value.pointer (some ⟨b0, 0, none⟩)), (24, Value.pointer (some ⟨b0, 0, none⟩)), (25, Value.pointer (some ⟨b0, 0, none⟩)), (26, Value.pointer (some ⟨b0, 0 + 11, none⟩)), (27, Value.slice a11_8 a0.out.length c11_8), (28, Value.slice ra4 x6.length rc5), (29, Value.slice sa3 a3.length sc3)] mo HS ?_
  refine T.ev [(28, _), (29, _)] [10, 11] [5, 6] ⟨rfl, rfl, trivial⟩ ⟨.mv 0, .mv 0, .nc 24, .fa 25 fo71_11, .ld 26 0 Tryz.underlying46, .mv 8, .mv 3, trivial⟩ rfl (fun w HS => ?_)
  obtain ⟨c10, H⟩ := ite_n H
  refine ⟨_, Y.appF (Value.int .u8) (fun _ => rfl) 6 Tryz.underlying33 ap5 rfl HS rfl rfl rfl (rdC.at 8 hr3 HS rfl) (by omega) (by omega), ?_⟩
  rintro _ w ⟨ra11, rc12, rfl, HS⟩
  refine T.nw HS ?_
  refine T.ev [(30, _)] [10, 11] [] ⟨rfl, trivial⟩ ⟨.mv 0, .mv 0, .nc 24, .fa 25 fo71_11, .ld 26 0 Tryz.underlying46, trivial⟩ rfl (fun w HS => ?_)
  replace HS := HS.fr 6
  replace HS := St.row_freeze HS
  refine ⟨_, Y.lc (e := 33) (sz := 1) [Value.slice ra11 (x6 ++ a3).length rc12] HS rfl rfl (fun _ => by kernel_rfl), ?_⟩
  rintro _ w ⟨lb13, rfl, HS⟩
  replace HS := St.put (A := tie (El.sl (El.int .u8)) ([]) (([] : List (List Int)))) (fun _ => tie.nil) HS
  replace HS := HS.more 2 rfl (fun _ t => t) fsl.pers
  replace HS := St.put (A := tie (El.int .u8) ((x6 ++ a3).map (Value.int .u8)) (x6 ++ a3)) (fun _ => int_tie) HS
  replace HS := St.swap HS
  replace HS := St.sl_close (E := (El.int .u8)) HS
  replace HS := HS.fr 1
  replace HS := HS.fr 1
  replace HS := St.tie_cons HS
  refine T.nw HS ?_
  refine T.ev [(27, _), (31, _)] [] [1, 2, 3, 4] ⟨rfl, rfl, trivial⟩ ⟨.mv 0, .mv 0, .nc 24, .fa 25 fo71_11, .ld 26 3 Tryz.underlying46, trivial⟩ rfl (fun w HS => ?_)
  obtain ⟨c16, H⟩ := ite_n H
  refine ⟨_, Y.app (xs := a0.out) (ys := ([x6 ++ a3] : List (List Int))) 6 Tryz.underlying46 ap33 rfl (by decide) HS rfl rfl rfl (rdC.at 1 row_rd HS rfl) (St.tie_one 0 HS rfl) (by omega) (by omega), ?_⟩
  rintro _ w ⟨ra17, rc18, rfl, HS⟩
  replace HS := HS.fr 7
  replace HS := St.tie_app 1 HS rfl
  refine T.nm [(32, Value.slice ra17 (a0.out ++ ([x6 ++ a3] : List (List Int))).length rc18), (33, Value.pointer (some ⟨b0, 0, none⟩)), (34, Value.pointer (some ⟨b0, 0 + 11, none⟩))] HS ⟨.inl ⟨rfl, rfl⟩, ⟨.inr ⟨by decide, rfl⟩, ⟨.inr ⟨by decide, rfl⟩, trivial⟩⟩⟩ ?_
  refine T.ev [(32, _), (34, _)] [] [0, 10, 11] ⟨rfl, rfl, trivial⟩ ⟨.mv 0, .nc 23, .fa 33 fo71_11, trivial⟩ rfl (fun w HS => ?_)
  refine ⟨_, Y.sto 4 11 HS inf46 rfl rfl rfl rfl rfl rfl, ?_⟩
  rintro _ w HS
  refine T.nn HS ?_
  refine T.fn [] trivial trivial (fun w HS => ?_)
  replace HS := HS.pm [4, 5, 6, 7, 0, 8, 1, 2, 3, 9, 10]
  replace HS := signalmanref15_Arq.close trivial HS
  replace HS := HS.pk [0, 5] [1, 2, 3, 4]
  cases H
  exact At.end0 rfl ⟨_, rfl, rfl, HS⟩
def signalmanref15_Arq_say.f (a0 : signalmanref15_Arq) (a1 : Int) (a2 : Bool) : Option signalmanref15_Arq := ((signalmanref15_Arq_tell.f a0 a0.tag ({ Kind := a1, Ns := 0, Nr := 0, Poll := a2 } : api_Ctl) []).bind fun t3 => some t3)
theorem signalmanref15_Arq_say.calls {a0 : signalmanref15_Arq} {a1 : Int} {a2 : Bool} {R : As} {w0 w : World} {b0 : Nat} {r : signalmanref15_Arq} (H : signalmanref15_Arq_say.f a0 a1 a2 = some r) (HS : Sep.St [signalmanref15_Arq.at b0 a0, R] w0 w)  : Calls Tryz.prog 48 #[Value.pointer (some ⟨b0, 0, none⟩), Value.int .i64 a1, Value.bool a2] w (Ret fun u w => u = Value.tuple #[] ∧ Sep.St [signalmanref15_Arq.at b0 r, R] w0 w) := by
 unfold signalmanref15_Arq_say.f at H
 refine calls_enter Tryz.func48 rfl rfl ?_
 have H : _ = some r := H
 refine V.region (W.mv rfl (W.mv rfl (W.nc rfl ?_)))
 obtain ⟨b6_1, b7_1, a11_1, c11_1, d11_1, a12_1, c12_1, hi2, HS⟩ := signalmanref15_Arq.open HS
 refine W.fa fo71_5 rfl (W.ld 0 HS Tryz.underlying3 rfl rfl rfl rfl (W.mv rfl (W.mv rfl (W.r (X.bd (Value.agg #[Value.int .i64 a1, Value.int .i64 (0), Value.int .i64 (0), Value.bool a2]) rfl (fun _ => by kernel_rfl)) rfl ?_))))
 replace HS := signalmanref15_Arq.close trivial HS
 obtain ⟨t3, A4, H⟩ := bind_s H
 refine W.e (Y.cl Tryz.func84 (signalmanref15_Arq_tell.calls A4 HS.j1 (rdC.nil rfl))) rfl ?_
 rintro _ w ⟨rfl, HS⟩
 replace HS := HS.o1
 refine W.nil ?_
 cases H
 exact At.end0 rfl ⟨_, rfl, rfl, HS⟩
def signalmanref15_Arq_Connect.f (a0 : signalmanref15_Arq) : Option (Int × signalmanref15_Arq) := (if a0.state = 0 then ((signalmanref15_Arq_say.f ({ a0 with state := 1, tag := (w64 (a0.tag + 1)).tmod (65536), tries := 0 } : signalmanref15_Arq) 3 true).bind fun t5 => some (0, ({ t5 with left := t5.t1 } : signalmanref15_Arq))) else some (8, a0))
theorem signalmanref15_Arq_Connect.calls {a0 : signalmanref15_Arq} {R : As} {w0 w : World} {b0 : Nat} {r : Int × signalmanref15_Arq} (H : signalmanref15_Arq_Connect.f a0 = some r) (HS : Sep.St [signalmanref15_Arq.at b0 a0, R] w0 w)  : Calls Tryz.prog 12 #[Value.pointer (some ⟨b0, 0, none⟩)] w (Ret fun u w => u = Value.int .i64 r.1 ∧ Sep.St [signalmanref15_Arq.at b0 r.2, R] w0 w) := by
 unfold signalmanref15_Arq_Connect.f at H
 refine calls_enter Tryz.func12 rfl rfl ?_
 have H : _ = some r := H
 refine V.seq (V.region (W.as rfl (W.nx (V.seq (V.seq (V.region (W.mv rfl (W.nc rfl ?_))))))))
 obtain ⟨b6_2, b7_2, a11_2, c11_2, d11_2, a12_2, c12_2, hi3, HS⟩ := signalmanref15_Arq.open HS
 refine W.fa fo71_4 rfl (W.ld 0 HS Tryz.underlying3 rfl rfl rfl rfl (W.r (X.cmp (!(decide (a0.state = 0))) rfl rfl rfl rfl) rfl (W.nx ?_)))
 by_cases c4 : a0.state = 0
 ·replace H := ite_t c4 H
  refine V.condF (sb (n_t (decide_eq_true c4))) (V.skip (At.next (V.seq (V.region (W.mv rfl (W.mv rfl (W.nc rfl (W.fa fo71_5 rfl (W.ld 0 HS Tryz.underlying3 rfl rfl rfl rfl (W.r (X.add rfl rfl) rfl (W.r (X.rem rfl rfl (by decide)) rfl (W.nc rfl (W.fa fo71_5 rfl (W.st 0 5 HS inf3 rfl rfl rfl rfl rfl rfl fun w HS => ?_))))))))))))))
  refine W.nx (V.seq (V.region (W.mv rfl (W.nc rfl (W.fa fo71_4 rfl (W.st 0 4 HS inf3 rfl rfl rfl rfl rfl rfl fun w HS => ?_))))))
  refine W.nx (V.seq (V.region (W.mv rfl (W.nc rfl (W.fa fo71_9 rfl (W.st 0 9 HS inf3 rfl rfl rfl rfl rfl rfl fun w HS => ?_))))))
  refine W.nx (V.seq (V.region (W.mv rfl ?_)))
  replace HS := signalmanref15_Arq.close trivial HS
  obtain ⟨t5, A6, H⟩ := bind_s H
  refine W.e (Y.cl Tryz.func48 (signalmanref15_Arq_say.calls A6 HS.j1)) rfl ?_
  rintro _ w ⟨rfl, HS⟩
  replace HS := HS.o1
  refine W.nx (V.seq (V.region (W.mv rfl (W.mv rfl (W.nc rfl ?_)))))
  obtain ⟨b6_7, b7_7, a11_7, c11_7, d11_7, a12_7, c12_7, hi8, HS⟩ := signalmanref15_Arq.open HS
  refine W.fa fo71_1 rfl (W.ld 0 HS Tryz.underlying3 rfl rfl rfl rfl (W.nc rfl (W.fa fo71_8 rfl (W.st 0 8 HS inf3 rfl rfl rfl rfl rfl rfl fun w HS => ?_))))
  refine W.nx (V.seq (V.region (W.as rfl (W.nx (V.ret ?_)))))
  replace HS := signalmanref15_Arq.close trivial HS
  cases H
  exact At.ret1 rfl rfl ⟨_, rfl, rfl, HS⟩
 ·replace H := ite_f c4 H
  refine V.condT (sb (n_f (decide_eq_false c4))) (V.seq (V.region (W.as rfl (W.nx (V.ret (At.thenRet ?_))))))
  replace HS := signalmanref15_Arq.close trivial HS
  cases H
  exact At.ret1 rfl rfl ⟨_, rfl, rfl, HS⟩
def signalmanref6_Log_Len.f (a0 : signalmanref6_Log) : Option Int := some (w64 ((a0.out.length : Int) + (a0.wait.length : Int)))
theorem signalmanref6_Log_Len.calls {a0 : signalmanref6_Log} {R : As} {w0 w : World} {b0 : Nat} {a4_p0 : Option Addr} {c4_p0 : Nat} {d4_p0 : List Value} {a5_p0 : Option Addr} {c5_p0 : Nat} {d5_p0 : List Value} {r : Int} (H : signalmanref6_Log_Len.f a0 = some r) (HS : Sep.St [blk b0 (#[Value.int .i64 a0.m, Value.int .i64 a0.window, Value.int .i64 a0.queue, Value.int .i64 a0.next, Value.slice a4_p0 a0.out.length c4_p0, Value.slice a5_p0 a0.wait.length c5_p0]) 98, row 118 2 (.slice a4_p0 a0.out.length c4_p0) a0.out.length d4_p0, tie signalmanref6_message.El d4_p0 a0.out, row 33 1 (.slice a5_p0 a0.wait.length c5_p0) a0.wait.length d5_p0, tie (El.sl (El.int .u8)) d5_p0 a0.wait, R] w0 w)  : Calls Tryz.prog 114 #[Value.pointer (some ⟨b0, 0, none⟩)] w (Ret fun u w => u = Value.int .i64 r ∧ Sep.St [blk b0 (#[Value.int .i64 a0.m, Value.int .i64 a0.window, Value.int .i64 a0.queue, Value.int .i64 a0.next, Value.slice a4_p0 a0.out.length c4_p0, Value.slice a5_p0 a0.wait.length c5_p0]) 98, row 118 2 (.slice a4_p0 a0.out.length c4_p0) a0.out.length d4_p0, tie signalmanref6_message.El d4_p0 a0.out, row 33 1 (.slice a5_p0 a0.wait.length c5_p0) a0.wait.length d5_p0, tie (El.sl (El.int .u8)) d5_p0 a0.wait, R] w0 w) := by
 unfold signalmanref6_Log_Len.f at H
 refine calls_enter Tryz.func114 rfl rfl ?_
 have H : _ = some r := H
 refine V.seq (V.region (W.as rfl (W.nx (V.seq (V.dr [] [] [(3, Value.pointer (some ⟨b0, 0, none⟩)), (4, Value.pointer (some ⟨b0, 0, none⟩)), (5, Value.pointer (some ⟨b0, 0 + 4, none⟩)), (6, Value.slice a4_p0 a0.out.length c4_p0), (7, Value.int .i64 (a0.out.length : Int)), (8, Value.pointer (some ⟨b0, 0, none⟩)), (9, Value.pointer (some ⟨b0, 0, none⟩)), (10, Value.pointer (some ⟨b0, 0 + 5, none⟩)), (11, Value.slice a5_p0 a0.wait.length c5_p0), (12, Value.int .i64 (a0.wait.length : Int)), (13, Value.int .i64 (w64 ((a0.out.length : Int) + (a0.wait.length : Int)))), (2, Value.int .i64 (w64 ((a0.out.length : Int) + (a0.wait.length : Int))))] mo HS ?_)))))
 refine T.fn [(2, _)] ⟨rfl, trivial⟩ ⟨.mv 0, .nc 3, .fa 4 fo98_4, .ld 5 0 Tryz.underlying96, .n1 6 rfl rfl (fun w HS => X.lenSl Tryz.underlying96 rfl), .mv 0, .nc 8, .fa 9 fo98_5, .ld 10 0 Tryz.underlying46, .n1 11 rfl rfl (fun w HS => X.lenSl Tryz.underlying46 rfl), .n2 7 12 rfl rfl rfl (fun w HS => X.add rfl rfl), .as 13, trivial⟩ (fun w HS => ?_)
 refine At.next (V.ret ?_)
 cases H
 exact At.ret1 rfl rfl ⟨_, rfl, rfl, HS⟩
def signalmanref6_Log_Clear.f (a0 : signalmanref6_Log) : Option (Int × signalmanref6_Log) := ((signalmanref6_Log_Len.f a0).bind fun t3 => some (t3, ({ a0 with next := 0, out := ([] : List signalmanref6_message), wait := ([] : List (List Int)) } : signalmanref6_Log)))
theorem signalmanref6_Log_Clear.calls {a0 : signalmanref6_Log} {R : As} {w0 w : World} {b0 : Nat} {r : Int × signalmanref6_Log} (H : signalmanref6_Log_Clear.f a0 = some r) (HS : Sep.St [signalmanref6_Log.at b0 a0, R] w0 w)  : Calls Tryz.prog 88 #[Value.pointer (some ⟨b0, 0, none⟩)] w (Ret fun u w => u = Value.int .i64 r.1 ∧ Sep.St [signalmanref6_Log.at b0 r.2, R] w0 w) := by
 unfold signalmanref6_Log_Clear.f at H
 refine calls_enter Tryz.func88 rfl rfl ?_
 have H : _ = some r := H
 refine V.seq (V.region (W.as rfl (W.nx (V.seq (V.region (W.mv rfl ?_))))))
 obtain ⟨a4_1, c4_1, d4_1, a5_1, c5_1, d5_1, hi2, HS⟩ := signalmanref6_Log.open HS
 obtain ⟨t3, A4, H⟩ := bind_s H
 refine W.e (Y.cl Tryz.func114 (signalmanref6_Log_Len.calls A4 HS.j5)) rfl ?_
 rintro _ w ⟨rfl, HS⟩
 replace HS := HS.o5
 refine W.as rfl (W.nx (V.seq (V.region (W.mv rfl (W.nc rfl (W.fa fo98_4 rfl (W.st 0 4 HS inf96 rfl rfl rfl rfl rfl rfl fun w HS => ?_)))))))
 refine W.nx (V.seq (V.region (W.mv rfl (W.nc rfl (W.fa fo98_5 rfl (W.st 0 5 HS inf46 rfl rfl rfl rfl rfl rfl fun w HS => ?_))))))
 refine W.nx (V.seq (V.region (W.mv rfl (W.nc rfl (W.fa fo98_3 rfl (W.st 0 3 HS inf3 rfl rfl rfl rfl rfl rfl fun w HS => ?_))))))
 refine W.nx (V.seq (V.region (W.mv rfl (W.as rfl (W.nx (V.ret ?_))))))
 replace HS := row_nilE signalmanref6_message.El 118 2 HS
 replace HS := row_nilE (El.sl (El.int .u8)) 33 1 HS
 replace HS := HS.pm [4, 2, 3, 0, 1, 5, 6, 7, 8, 9]
 replace HS := signalmanref6_Log.close (l4 := ([] : List signalmanref6_message)) (l5 := ([] : List (List Int))) trivial HS
 replace HS := HS.pk [0, 5] [1, 2, 3, 4]
 cases H
 exact At.ret1 rfl rfl ⟨_, rfl, rfl, HS⟩
def signalmanref6_Order_Clear.f (a0 : signalmanref6_Order) : Option signalmanref6_Order := some (({ a0 with next := 0, kept := ([] : List signalmanref6_message) } : signalmanref6_Order))
theorem signalmanref6_Order_Clear.calls {a0 : signalmanref6_Order} {R : As} {w0 w : World} {b0 : Nat} {r : signalmanref6_Order} (H : signalmanref6_Order_Clear.f a0 = some r) (HS : Sep.St [signalmanref6_Order.at b0 a0, R] w0 w)  : Calls Tryz.prog 89 #[Value.pointer (some ⟨b0, 0, none⟩)] w (Ret fun u w => u = Value.tuple #[] ∧ Sep.St [signalmanref6_Order.at b0 r, R] w0 w) := by
 unfold signalmanref6_Order_Clear.f at H
 refine calls_enter Tryz.func89 rfl rfl ?_
 have H : _ = some r := H
 refine V.seq (V.region (W.mv rfl (W.nc rfl ?_)))
 obtain ⟨a3_1, c3_1, d3_1, a4_1, c4_1, d4_1, hi2, HS⟩ := signalmanref6_Order.open HS
 refine W.fa fo100_3 rfl (W.st 0 3 HS inf96 rfl rfl rfl rfl rfl rfl fun w HS => ?_)
 refine W.nx (V.region (W.mv rfl (W.nc rfl (W.fa fo100_2 rfl (W.st 0 2 HS inf3 rfl rfl rfl rfl rfl rfl fun w HS => ?_)))))
 refine W.nil ?_
 replace HS := row_nilE signalmanref6_message.El 118 2 HS
 replace HS := HS.pm [2, 0, 1, 5, 6, 3, 4, 7]
 replace HS := signalmanref6_Order.close (l3 := ([] : List signalmanref6_message)) trivial HS
 replace HS := HS.pk [0, 3] [1, 2]
 cases H
 exact At.end0 rfl ⟨_, rfl, rfl, HS⟩
def signalmanref15_Arq_clear.f (a0 : signalmanref15_Arq) : Option signalmanref15_Arq := ((signalmanref6_Log_Clear.f a0.log).bind fun t3 => ((signalmanref6_Order_Clear.f a0.order).bind fun t5 => some (({ a0 with log := t3.2, order := t5, left := 0, tries := 0, rejected := false, lost := w64 (a0.lost + t3.1) } : signalmanref15_Arq))))
theorem signalmanref15_Arq_clear.calls {a0 : signalmanref15_Arq} {R : As} {w0 w : World} {b0 : Nat} {r : signalmanref15_Arq} (H : signalmanref15_Arq_clear.f a0 = some r) (HS : Sep.St [signalmanref15_Arq.at b0 a0, R] w0 w)  : Calls Tryz.prog 50 #[Value.pointer (some ⟨b0, 0, none⟩)] w (Ret fun u w => u = Value.tuple #[] ∧ Sep.St [signalmanref15_Arq.at b0 r, R] w0 w) := by
 unfold signalmanref15_Arq_clear.f at H
 refine calls_enter Tryz.func50 rfl rfl ?_
 have H : _ = some r := H
 refine V.seq ?_
 obtain ⟨b6_1, b7_1, a11_1, c11_1, d11_1, a12_1, c12_1, hi2, HS⟩ := signalmanref15_Arq.open HS
 refine V.dr [9, 13] [10, 11, 12] [(2, Value.pointer (some ⟨b0, 0, none⟩)), (3, Value.pointer (some ⟨b0, 0, none⟩)), (4, Value.pointer (some ⟨b0, 0, none⟩)), (5, Value.pointer (some ⟨b0, 0 + 15, none⟩)), (6, Value.int .i64 a0.lost), (7, Value.pointer (some ⟨b0, 0, none⟩)), (8, Value.pointer (some ⟨b0, 0, none⟩)), (9, Value.pointer (some ⟨b0, 0 + 6, none⟩)), (10, Value.pointer (some ⟨b6_1, 0, none⟩))] mo HS ?_
 refine T.ev [(10, _)] [] [5, 6, 7, 8] ⟨rfl, trivial⟩ ⟨.mv 0, .mv 0, .nc 3, .fa 4 fo71_15, .ld 5 0 Tryz.underlying3, .mv 0, .nc 7, .fa 8 fo71_6, .ld 9 0 Tryz.underlying66, trivial⟩ rfl (fun w HS => ?_)
 obtain ⟨t3, A4, H⟩ := bind_s H
 replace HS := HS.pm [1, 0, 2, 3, 4, 5, 6]
 refine ⟨_, Y.cl Tryz.func88 (signalmanref6_Log_Clear.calls A4 HS.j1), ?_⟩
 rintro _ w ⟨rfl, HS⟩
 replace HS := HS.o1
 refine T.nm [(11, Value.int .i64 t3.1), (12, Value.int .i64 (w64 (a0.lost + t3.1))), (13, Value.pointer (some ⟨b0, 0, none⟩)), (14, Value.pointer (some ⟨b0, 0 + 15, none⟩))] HS ⟨.inl ⟨rfl, rfl⟩, ⟨.inr ⟨by decide, rfl⟩, ⟨.inr ⟨by decide, rfl⟩, ⟨.inr ⟨by decide, rfl⟩, trivial⟩⟩⟩⟩ ?_
 refine T.ev [(12, _), (14, _)] [] [0, 1, 2, 3, 4, 10, 11, 12] ⟨rfl, rfl, trivial⟩ ⟨.mv 0, .mv 0, .nc 3, .fa 4 fo71_15, .ld 5 1 Tryz.underlying3, .n2 6 11 rfl rfl rfl (fun w HS => X.add rfl rfl), .nc 2, .fa 13 fo71_15, trivial⟩ rfl (fun w HS => ?_)
 refine ⟨_, Y.sto 1 15 HS inf3 rfl rfl rfl rfl rfl rfl, ?_⟩
 rintro _ w HS
 refine T.nn HS ?_
 refine T.fn [(0, _)] ⟨rfl, trivial⟩ trivial (fun w HS => ?_)
 refine At.next (V.seq (V.region (W.mv rfl (W.nc rfl (W.fa fo71_7 rfl (W.ld 1 HS Tryz.underlying68 rfl rfl rfl rfl ?_))))))
 obtain ⟨t5, A6, H⟩ := bind_s H
 replace HS := HS.pm [2, 0, 1, 3, 4, 5, 6]
 refine W.e (Y.cl Tryz.func89 (signalmanref6_Order_Clear.calls A6 HS.j1)) rfl ?_
 rintro _ w ⟨rfl, HS⟩
 replace HS := HS.o1
 refine W.nx (V.seq (V.region (W.mv rfl (W.nc rfl (W.fa fo71_8 rfl (W.st 2 8 HS inf3 rfl rfl rfl rfl rfl rfl fun w HS => ?_))))))
 refine W.nx (V.seq (V.region (W.mv rfl (W.nc rfl (W.fa fo71_9 rfl (W.st 2 9 HS inf3 rfl rfl rfl rfl rfl rfl fun w HS => ?_))))))
 refine W.nx (V.region (W.mv rfl (W.nc rfl (W.fa fo71_10 rfl (W.st 2 10 HS inf4 rfl rfl rfl rfl rfl rfl fun w HS => ?_)))))
 refine W.nil ?_
 replace HS := HS.pm [2, 1, 0, 3, 4, 5, 6]
 replace HS := signalmanref15_Arq.close trivial HS
 cases H
 exact At.end0 rfl ⟨_, rfl, rfl, HS⟩
mutual
def signalmanref15_Arq_Close.j0 (a0 : signalmanref15_Arq) (x2 : Bool) : Option (Int × signalmanref15_Arq) := (if x2 = true then some (7, a0) else ((signalmanref15_Arq_clear.f a0).bind fun t5 => ((signalmanref15_Arq_say.f ({ t5 with state := 3 } : signalmanref15_Arq) 5 true).bind fun t9 => some (0, ({ t9 with left := t9.t1 } : signalmanref15_Arq)))))
end
def signalmanref15_Arq_Close.f (a0 : signalmanref15_Arq) : Option (Int × signalmanref15_Arq) := (if a0.state = 0 then (signalmanref15_Arq_Close.j0 a0 true) else (signalmanref15_Arq_Close.j0 a0 (decide (a0.state = 3))))
theorem signalmanref15_Arq_Close.calls {a0 : signalmanref15_Arq} {R : As} {w0 w : World} {b0 : Nat} {r : Int × signalmanref15_Arq} (H : signalmanref15_Arq_Close.f a0 = some r) (HS : Sep.St [signalmanref15_Arq.at b0 a0, R] w0 w)  : Calls Tryz.prog 14 #[Value.pointer (some ⟨b0, 0, none⟩)] w (Ret fun u w => u = Value.int .i64 r.1 ∧ Sep.St [signalmanref15_Arq.at b0 r.2, R] w0 w) := by
 unfold signalmanref15_Arq_Close.f at H
 refine calls_enter Tryz.func14 rfl rfl ?_
 have H : _ = some r := H
 refine V.seq (V.region (W.as rfl (W.nx (V.seq (V.meet (σ := Bool) (fun st w => match st with | x2 => Sep.St [signalmanref15_Arq.at b0 a0, R] w0 w ∧ signalmanref15_Arq_Close.j0 a0 x2 = some r) (fun st => match st with | x2 => [(0, Value.pointer (some ⟨b0, 0, none⟩)), (14, Value.bool x2)]) ?_ ?_)))))
 ·refine V.region (W.mv rfl (W.nc rfl ?_))
  obtain ⟨b6_13, b7_13, a11_13, c11_13, d11_13, a12_13, c12_13, hi14, HS⟩ := signalmanref15_Arq.open HS
  refine W.fa fo71_4 rfl (W.ld 0 HS Tryz.underlying3 rfl rfl rfl rfl (W.r (X.cmp (decide (a0.state = 0)) rfl rfl rfl rfl) rfl (W.mv rfl ?_)))
  by_cases c15 : a0.state = 0
  ·replace H := ite_t c15 H
   refine W.pass 8 rfl (sb (decide_eq_true c15)) rfl rfl (W.pass 8 rfl (sb (decide_eq_true c15)) rfl rfl (W.pass 8 rfl (sb (decide_eq_true c15)) rfl rfl (W.pass 8 rfl (sb (decide_eq_true c15)) rfl rfl (W.pass 8 rfl (sb (decide_eq_true c15)) rfl rfl (W.r (X.pickT (sb (decide_eq_true c15)) rfl) rfl (W.nil ?_))))))
   replace HS := signalmanref15_Arq.close trivial HS
   exact At.meet true ⟨rfl, rfl, trivial⟩ ⟨HS, H⟩
  ·replace H := ite_f c15 H
   refine W.want 8 rfl (sb (decide_eq_false c15)) (W.mv rfl (W.want 8 rfl (sb (decide_eq_false c15)) (W.nc rfl (W.want 8 rfl (sb (decide_eq_false c15)) (W.fa fo71_4 rfl (W.want 8 rfl (sb (decide_eq_false c15)) (W.ld 0 HS Tryz.underlying3 rfl rfl rfl rfl (W.want 8 rfl (sb (decide_eq_false c15)) (W.r (X.cmp (decide (a0.state = 3)) rfl rfl rfl rfl) rfl (W.r (X.pickF (sb (decide_eq_false c15)) rfl) rfl (W.nil ?_)))))))))))
   replace HS := signalmanref15_Arq.close trivial HS
   exact At.meet (decide (a0.state = 3)) ⟨rfl, rfl, trivial⟩ ⟨HS, H⟩
 ·rintro x2 w ⟨HS, H⟩
  unfold signalmanref15_Arq_Close.j0 at H
  by_cases c4 : x2 = true
  ·replace H := ite_t c4 H
   refine V.condT (sb c4) (V.seq (V.region (W.as rfl (W.nx (V.ret (At.thenRet ?_))))))
   cases H
   exact At.ret1 rfl rfl ⟨_, rfl, rfl, HS⟩
  ·replace H := ite_f c4 H
   refine V.condF (sb (b_f c4)) (V.skip (At.next (V.seq (V.region (W.mv rfl ?_)))))
   obtain ⟨t5, A6, H⟩ := bind_s H
   refine W.e (Y.cl Tryz.func50 (signalmanref15_Arq_clear.calls A6 HS.j1)) rfl ?_
   rintro _ w ⟨rfl, HS⟩
   replace HS := HS.o1
   refine W.nx (V.seq (V.region (W.mv rfl (W.nc rfl ?_))))
   obtain ⟨b6_7, b7_7, a11_7, c11_7, d11_7, a12_7, c12_7, hi8, HS⟩ := signalmanref15_Arq.open HS
   refine W.fa fo71_4 rfl (W.st 0 4 HS inf3 rfl rfl rfl rfl rfl rfl fun w HS => ?_)
   refine W.nx (V.seq (V.region (W.mv rfl ?_)))
   replace HS := signalmanref15_Arq.close trivial HS
   obtain ⟨t9, A10, H⟩ := bind_s H
   refine W.e (Y.cl Tryz.func48 (signalmanref15_Arq_say.calls A10 HS.j1)) rfl ?_
   rintro _ w ⟨rfl, HS⟩
   replace HS := HS.o1
   refine W.nx (V.seq (V.region (W.mv rfl (W.mv rfl (W.nc rfl ?_)))))
   obtain ⟨b6_11, b7_11, a11_11, c11_11, d11_11, a12_11, c12_11, hi12, HS⟩ := signalmanref15_Arq.open HS
   refine W.fa fo71_1 rfl (W.ld 0 HS Tryz.underlying3 rfl rfl rfl rfl (W.nc rfl (W.fa fo71_8 rfl (W.st 0 8 HS inf3 rfl rfl rfl rfl rfl rfl fun w HS => ?_))))
   refine W.nx (V.seq (V.region (W.as rfl (W.nx (V.ret ?_)))))
   replace HS := signalmanref15_Arq.close trivial HS
   cases H
   exact At.ret1 rfl rfl ⟨_, rfl, rfl, HS⟩
def signalmanref6_Log_Add.f (a0 : signalmanref6_Log) (a1 : List Int) : Option (Int × signalmanref6_Log) := (if (a0.wait.length : Int) ≥ a0.queue then some (6, a0) else (if (([] : List Int).length : Int) + a1.length ≤ 1099511627776 then (if (a0.wait.length : Int) + (([([] : List Int) ++ a1] : List (List Int))).length ≤ 1099511627776 then some (0, ({ a0 with wait := a0.wait ++ ([([] : List Int) ++ a1] : List (List Int)) } : signalmanref6_Log)) else none) else none))
theorem signalmanref6_Log_Add.calls {a0 : signalmanref6_Log} {a1 : List Int} {R : As} {w0 w : World} {b0 : Nat} {sa1 : Option Addr} {sc1 : Nat} {r : Int × signalmanref6_Log} (H : signalmanref6_Log_Add.f a0 a1 = some r) (HS : Sep.St [signalmanref6_Log.at b0 a0, R] w0 w) (hr1 : rdC R 1 (.slice sa1 a1.length sc1) a1.length (a1.map (Value.int .u8))) : Calls Tryz.prog 53 #[Value.pointer (some ⟨b0, 0, none⟩), Value.slice sa1 a1.length sc1] w (Ret fun u w => u = Value.int .i64 r.1 ∧ Sep.St [signalmanref6_Log.at b0 r.2, R] w0 w) := by
 unfold signalmanref6_Log_Add.f at H
 refine calls_enter Tryz.func53 rfl rfl ?_
 have H : _ = some r := H
 refine V.seq (V.region (W.as rfl (W.nx (V.seq (V.seq ?_)))))
 obtain ⟨a4_2, c4_2, d4_2, a5_2, c5_2, d5_2, hi3, HS⟩ := signalmanref6_Log.open HS
 refine V.dr [] [] [(5, Value.pointer (some ⟨b0, 0, none⟩)), (6, Value.pointer (some ⟨b0, 0, none⟩)), (7, Value.pointer (some ⟨b0, 0 + 5, none⟩)), (8, Value.slice a5_2 a0.wait.length c5_2), (9, Value.int .i64 (a0.wait.length : Int)), (10, Value.pointer (some ⟨b0, 0, none⟩)), (11, Value.pointer (some ⟨b0, 0, none⟩)), (12, Value.pointer (some ⟨b0, 0 + 2, none⟩)), (13, Value.int .i64 a0.queue), (14, Value.bool (decide ((a0.wait.length : Int) ≥ a0.queue)))] mo HS ?_
 refine T.fn [(0, _), (1, _), (14, _)] ⟨rfl, rfl, rfl, trivial⟩ ⟨.mv 0, .nc 5, .fa 6 fo98_5, .ld 7 0 Tryz.underlying46, .n1 8 rfl rfl (fun w HS => X.lenSl Tryz.underlying46 rfl), .mv 0, .nc 10, .fa 11 fo98_2, .ld 12 0 Tryz.underlying3, .n2 9 13 rfl rfl rfl (fun w HS => X.cmp (decide ((a0.wait.length : Int) ≥ a0.queue)) rfl rfl rfl rfl), trivial⟩ (fun w HS => ?_)
 refine At.next ?_
 by_cases c4 : (a0.wait.length : Int) ≥ a0.queue
 ·replace H := ite_t c4 H
  refine V.condT (sb (decide_eq_true c4)) (V.seq (V.region (W.as rfl (W.nx (V.ret (At.thenRet ?_))))))
  replace HS := signalmanref6_Log.close trivial HS
  cases H
  exact At.ret1 rfl rfl ⟨_, rfl, rfl, HS⟩
 ·replace H := ite_f c4 H
  refine V.condF (sb (decide_eq_false c4)) (V.skip (At.next (V.seq (V.dr [6, 7, 8, 11] [9, 10] [(15, Value.pointer (some ⟨b0, 0, none⟩)), (16, Value.pointer (some ⟨b0, 0, none⟩)), (17, Value.pointer (some ⟨b0, 0, none⟩)), (18, Value.pointer (some ⟨b0, 0 + 5, none⟩)), (19, Value.slice a5_2 a0.wait.length c5_2), (20, Value.slice sa1 a1.length sc1)] mo HS ?_))))
  refine T.ev [(20, _)] [9, 10] [5] ⟨rfl, trivial⟩ ⟨.mv 0, .mv 0, .nc 16, .fa 17 fo98_5, .ld 18 0 Tryz.underlying46, .mv 1, trivial⟩ rfl (fun w HS => ?_)
  obtain ⟨c5, H⟩ := ite_n H
  replace HS := row_nilF (Value.int .u8) 5 1 HS
  have HS : Sep.St [row 5 1 (.slice none ([] : List Int).length 0) ([] : List Int).length (([] : List Int).map (Value.int .u8)), blk b0 (#[Value.int .i64 a0.m, Value.int .i64 a0.window, Value.int .i64 a0.queue, Value.int .i64 a0.next, Value.slice a4_2 a0.out.length c4_2, Value.slice a5_2 a0.wait.length c5_2]) 98, row 118 2 (.slice a4_2 a0.out.length c4_2) a0.out.length d4_2, tie signalmanref6_message.El d4_2 a0.out, row 33 1 (.slice a5_2 a0.wait.length c5_2) a0.wait.length d5_2, tie (El.sl (El.int .u8)) d5_2 a0.wait, R] w0 w := HS
  refine ⟨_, Y.appF (Value.int .u8) (fun _ => rfl) 0 Tryz.underlying33 ap5 rfl HS rfl rfl rfl (rdC.at 6 hr1 HS rfl) (by omega) (by omega), ?_⟩
  rintro _ w ⟨ra6, rc7, rfl, HS⟩
  refine T.nw HS ?_
  refine T.ev [(21, _)] [9, 10] [] ⟨rfl, trivial⟩ ⟨.mv 0, .mv 0, .nc 16, .fa 17 fo98_5, .ld 18 1 Tryz.underlying46, trivial⟩ rfl (fun w HS => ?_)
  replace HS := St.row_freeze HS
  refine ⟨_, Y.lc (e := 33) (sz := 1) [Value.slice ra6 (([] : List Int) ++ a1).length rc7] HS rfl rfl (fun _ => by kernel_rfl), ?_⟩
  rintro _ w ⟨lb8, rfl, HS⟩
  replace HS := St.put (A := tie (El.sl (El.int .u8)) ([]) (([] : List (List Int)))) (fun _ => tie.nil) HS
  replace HS := HS.more 2 rfl (fun _ t => t) fsl.pers
  replace HS := St.put (A := tie (El.int .u8) ((([] : List Int) ++ a1).map (Value.int .u8)) (([] : List Int) ++ a1)) (fun _ => int_tie) HS
  replace HS := St.swap HS
  replace HS := St.sl_close (E := (El.int .u8)) HS
  replace HS := HS.fr 1
  replace HS := HS.fr 1
  replace HS := St.tie_cons HS
  refine T.nw HS ?_
  refine T.ev [(19, _), (22, _)] [] [1, 2, 3, 4] ⟨rfl, rfl, trivial⟩ ⟨.mv 0, .mv 0, .nc 16, .fa 17 fo98_5, .ld 18 3 Tryz.underlying46, trivial⟩ rfl (fun w HS => ?_)
  obtain ⟨c11, H⟩ := ite_n H
  refine ⟨_, Y.app (xs := a0.wait) (ys := ([([] : List Int) ++ a1] : List (List Int))) 6 Tryz.underlying46 ap33 rfl (by decide) HS rfl rfl rfl (rdC.at 1 row_rd HS rfl) (St.tie_one 0 HS rfl) (by omega) (by omega), ?_⟩
  rintro _ w ⟨ra12, rc13, rfl, HS⟩
  replace HS := HS.fr 7
  replace HS := St.tie_app 1 HS rfl
  refine T.nm [(23, Value.slice ra12 (a0.wait ++ ([([] : List Int) ++ a1] : List (List Int))).length rc13), (24, Value.pointer (some ⟨b0, 0, none⟩)), (25, Value.pointer (some ⟨b0, 0 + 5, none⟩))] HS ⟨.inl ⟨rfl, rfl⟩, ⟨.inr ⟨by decide, rfl⟩, ⟨.inr ⟨by decide, rfl⟩, trivial⟩⟩⟩ ?_
  refine T.ev [(23, _), (25, _)] [] [0, 9, 10] ⟨rfl, rfl, trivial⟩ ⟨.mv 0, .nc 15, .fa 24 fo98_5, trivial⟩ rfl (fun w HS => ?_)
  refine ⟨_, Y.sto 4 5 HS inf46 rfl rfl rfl rfl rfl rfl, ?_⟩
  rintro _ w HS
  refine T.nn HS ?_
  refine T.fn [] trivial trivial (fun w HS => ?_)
  refine At.next (V.seq (V.region (W.as rfl (W.nx (V.ret ?_)))))
  replace HS := HS.pm [4, 5, 6, 7, 0, 1, 2, 3, 8]
  replace HS := signalmanref6_Log.close trivial HS
  replace HS := HS.pk [0, 4] [1, 2, 3]
  cases H
  exact At.ret1 rfl rfl ⟨_, rfl, rfl, HS⟩
def signalmanref1_Mod.f (a0 : Int) (a1 : Int) : Option Int := ((signalmanref1_Cut.f a1 1 1073741824).bind fun t1 => (if ¬ (t1 = 0) then (if (a0.tmod t1) < 0 then some (w64 ((a0.tmod t1) + t1)) else some (a0.tmod t1)) else none))
theorem signalmanref1_Mod.calls {a0 : Int} {a1 : Int} {R : As} {w0 w : World}  {r : Int} (H : signalmanref1_Mod.f a0 a1 = some r) (HS : Sep.St [R] w0 w)  : Calls Tryz.prog 130 #[Value.int .i64 a0, Value.int .i64 a1] w (Ret fun u w => u = Value.int .i64 r ∧ Sep.St [R] w0 w) := by
 unfold signalmanref1_Mod.f at H
 refine calls_enter Tryz.func130 rfl rfl ?_
 have H : _ = some r := H
 refine V.seq (V.region (W.as rfl (W.nx (V.seq (V.region (W.mv rfl ?_))))))
 obtain ⟨t1, A2, H⟩ := bind_s H
 refine W.e (Y.cl Tryz.func38 (signalmanref1_Cut.calls A2 HS.j0)) rfl ?_
 rintro _ w ⟨rfl, HS⟩
 replace HS := HS.o0
 refine W.as rfl (W.nx (V.seq (V.region (W.mv rfl (W.mv rfl ?_)))))
 obtain ⟨c3, H⟩ := ite_n H
 refine W.r (X.rem rfl rfl c3) rfl (W.as rfl (W.nx (V.seq (V.seq (V.region (W.mv rfl (W.r (X.cmp (decide ((a0.tmod t1) < 0)) rfl rfl rfl rfl) rfl (W.nx ?_))))))))
 by_cases c4 : (a0.tmod t1) < 0
 ·replace H := ite_t c4 H
  refine V.condT (sb (decide_eq_true c4)) (V.region (W.mv rfl (W.mv rfl (W.r (X.add rfl rfl) rfl (W.as rfl (W.nx (V.seq (V.region (W.mv rfl (W.as rfl (W.nx (V.ret ?_))))))))))))
  cases H
  exact At.ret1 rfl rfl ⟨_, rfl, rfl, HS⟩
 ·replace H := ite_f c4 H
  refine V.condF (sb (decide_eq_false c4)) (V.skip (At.next (V.seq (V.region (W.mv rfl (W.as rfl (W.nx (V.ret ?_))))))))
  cases H
  exact At.ret1 rfl rfl ⟨_, rfl, rfl, HS⟩
def signalmanref1_Next.f (a0 : Int) (a1 : Int) : Option Int := ((signalmanref1_Mod.f a0 a1).bind fun t1 => ((signalmanref1_Mod.f (w64 (t1 + 1)) a1).bind fun t3 => some t3))
theorem signalmanref1_Next.calls {a0 : Int} {a1 : Int} {R : As} {w0 w : World}  {r : Int} (H : signalmanref1_Next.f a0 a1 = some r) (HS : Sep.St [R] w0 w)  : Calls Tryz.prog 116 #[Value.int .i64 a0, Value.int .i64 a1] w (Ret fun u w => u = Value.int .i64 r ∧ Sep.St [R] w0 w) := by
 unfold signalmanref1_Next.f at H
 refine calls_enter Tryz.func116 rfl rfl ?_
 have H : _ = some r := H
 refine V.seq (V.region (W.as rfl (W.nx (V.seq (V.region (W.mv rfl (W.mv rfl ?_)))))))
 obtain ⟨t1, A2, H⟩ := bind_s H
 refine W.e (Y.cl Tryz.func130 (signalmanref1_Mod.calls A2 HS.j0)) rfl ?_
 rintro _ w ⟨rfl, HS⟩
 replace HS := HS.o0
 refine W.r (X.add rfl rfl) rfl (W.mv rfl ?_)
 obtain ⟨t3, A4, H⟩ := bind_s H
 refine W.e (Y.cl Tryz.func130 (signalmanref1_Mod.calls A4 HS.j0)) rfl ?_
 rintro _ w ⟨rfl, HS⟩
 replace HS := HS.o0
 refine W.as rfl (W.nx (V.ret ?_))
 cases H
 exact At.ret1 rfl rfl ⟨_, rfl, rfl, HS⟩
def signalmanref6_message.at (b : Nat) (x : signalmanref6_message) : As := fun h => True ∧ ∃ a1 : Option Addr, ∃ c1 : Nat, Sp [blk b (#[Value.int .i64 x.n, Value.slice a1 x.b.length c1]) 118, fsl 1 (.slice a1 x.b.length c1) x.b.length (x.b.map (Value.int .u8))] h
theorem signalmanref6_message.open {b : Nat} {x : signalmanref6_message} {L : List As} {w0 w : World} (hs : Sep.St (signalmanref6_message.at b x :: L) w0 w) : ∃ a1 : Option Addr, ∃ c1 : Nat, True ∧ Sep.St (blk b (#[Value.int .i64 x.n, Value.slice a1 x.b.length c1]) 118 :: fsl 1 (.slice a1 x.b.length c1) x.b.length (x.b.map (Value.int .u8)) :: L) w0 w := by
 have h1 := St.pure.1 (show St ((fun h => True ∧ (fun h => ∃ a1 : Option Addr, ∃ c1 : Nat, Sp [blk b (#[Value.int .i64 x.n, Value.slice a1 x.b.length c1]) 118, fsl 1 (.slice a1 x.b.length c1) x.b.length (x.b.map (Value.int .u8))] h) h) :: L) w0 w from hs)
 obtain ⟨hi, hs⟩ := h1
 obtain ⟨a1, hs⟩ := St.ex.1 (show St ((fun h => ∃ a1 : Option Addr, (fun h => ∃ c1 : Nat, Sp [blk b (#[Value.int .i64 x.n, Value.slice a1 x.b.length c1]) 118, fsl 1 (.slice a1 x.b.length c1) x.b.length (x.b.map (Value.int .u8))] h) h) :: L) w0 w from hs)
 obtain ⟨c1, hs⟩ := St.ex.1 (show St ((fun h => ∃ c1 : Nat, (fun h => Sp [blk b (#[Value.int .i64 x.n, Value.slice a1 x.b.length c1]) 118, fsl 1 (.slice a1 x.b.length c1) x.b.length (x.b.map (Value.int .u8))] h) h) :: L) w0 w from hs)
 exact ⟨a1, c1, hi, St.open (m := [blk b (#[Value.int .i64 x.n, Value.slice a1 x.b.length c1]) 118, fsl 1 (.slice a1 x.b.length c1) x.b.length (x.b.map (Value.int .u8))]) hs⟩
theorem signalmanref6_message.close {b : Nat} {l0 : Int} {l1 : List Int} {a1 : Option Addr} {c1 : Nat} {L : List As} {w0 w : World} (hi : True) (hs : Sep.St (blk b (#[Value.int .i64 l0, Value.slice a1 l1.length c1]) 118 :: fsl 1 (.slice a1 l1.length c1) l1.length (l1.map (Value.int .u8)) :: L) w0 w) : Sep.St (signalmanref6_message.at b ({ n := l0, b := l1 } : signalmanref6_message) :: L) w0 w := by
 have h2 := St.join (m := [blk b (#[Value.int .i64 l0, Value.slice a1 l1.length c1]) 118, fsl 1 (.slice a1 l1.length c1) l1.length (l1.map (Value.int .u8))]) hs
 exact h2.mono fun h hh => ⟨hi, _, _, hh⟩
mutual
def signalmanref6_Log_Next.j0 (a0 : signalmanref6_Log) (x2 : Bool) : Option (Int × List Int × Bool × signalmanref6_Log) := (if x2 = true then some (0, ([] : List Int), false, a0) else (if 0 ≤ (0 : Int) ∧ (0 : Int) < (a0.wait.length : Int) then (if 0 ≤ (1 : Int) ∧ (1 : Int) ≤ (a0.wait.length : Int) ∧ (a0.wait.length : Int) ≤ (a0.wait.length : Int) then (if ((([] : List (List Int))).length : Int) + (cut a0.wait (1 : Int) (a0.wait.length : Int)).length ≤ 1099511627776 then (if (a0.out.length : Int) + (([({ n := a0.next, b := a0.wait.getD (0 : Int).toNat [] } : signalmanref6_message)] : List signalmanref6_message)).length ≤ 1099511627776 then ((signalmanref1_Next.f a0.next a0.m).bind fun t27 => (if (([] : List Int).length : Int) + (a0.wait.getD (0 : Int).toNat []).length ≤ 1099511627776 then some (a0.next, ([] : List Int) ++ (a0.wait.getD (0 : Int).toNat []), true, ({ a0 with next := t27, out := a0.out ++ ([({ n := a0.next, b := a0.wait.getD (0 : Int).toNat [] } : signalmanref6_message)] : List signalmanref6_message), wait := ([] : List (List Int)) ++ (cut a0.wait (1 : Int) (a0.wait.length : Int)) } : signalmanref6_Log)) else none)) else none) else none) else none) else none))
end
def signalmanref6_Log_Next.f (a0 : signalmanref6_Log) : Option (Int × List Int × Bool × signalmanref6_Log) := (if (a0.wait.length : Int) = 0 then (signalmanref6_Log_Next.j0 a0 true) else (signalmanref6_Log_Next.j0 a0 (decide ((a0.out.length : Int) ≥ a0.window))))
theorem signalmanref6_Log_Next.calls {a0 : signalmanref6_Log} {R : As} {w0 w : World} {b0 : Nat} {r : Int × List Int × Bool × signalmanref6_Log} (H : signalmanref6_Log_Next.f a0 = some r) (HS : Sep.St [signalmanref6_Log.at b0 a0, R] w0 w)  : Calls Tryz.prog 93 #[Value.pointer (some ⟨b0, 0, none⟩)] w (Ret fun u w => ∃ (aq1 : Option Addr) (cq1 : Nat), u = Value.tuple #[Value.int .i64 r.1, Value.slice aq1 r.2.1.length cq1, Value.bool r.2.2.1] ∧ Sep.St [row 5 1 (.slice aq1 r.2.1.length cq1) r.2.1.length (r.2.1.map (Value.int .u8)), signalmanref6_Log.at b0 r.2.2.2, R] w0 w) := by
 unfold signalmanref6_Log_Next.f at H
 refine calls_enter Tryz.func93 rfl rfl ?_
 have H : _ = some r := H
 refine V.seq (V.region (W.as rfl (W.as rfl (W.as rfl (W.nx (V.seq (V.meet (σ := Bool) (fun st w => match st with | x2 => Sep.St [signalmanref6_Log.at b0 a0, R] w0 w ∧ signalmanref6_Log_Next.j0 a0 x2 = some r) (fun st => match st with | x2 => [(0, Value.pointer (some ⟨b0, 0, none⟩)), (23, Value.bool x2)]) ?_ ?_)))))))
 ·obtain ⟨a4_32, c4_32, d4_32, a5_32, c5_32, d5_32, hi33, HS⟩ := signalmanref6_Log.open HS
  by_cases c34 : (a0.wait.length : Int) = 0
  ·replace H := ite_t c34 H
   refine V.dr [] [] [(6, Value.pointer (some ⟨b0, 0, none⟩)), (7, Value.pointer (some ⟨b0, 0, none⟩)), (8, Value.pointer (some ⟨b0, 0 + 5, none⟩)), (9, Value.slice a5_32 a0.wait.length c5_32), (10, Value.int .i64 (a0.wait.length : Int)), (11, Value.bool (decide ((a0.wait.length : Int) = 0))), (12, Value.bool (decide ((a0.wait.length : Int) = 0))), (13, undef), (14, undef), (15, undef), (16, undef), (17, undef), (18, undef), (19, undef), (20, undef), (21, undef), (22, undef), (23, Value.bool true)] mo HS ?_
   refine T.fn [(0, _), (23, _)] ⟨rfl, rfl, trivial⟩ ⟨.mv 0, .nc 6, .fa 7 fo98_5, .ld 8 0 Tryz.underlying46, .n1 9 rfl rfl (fun w HS => X.lenSl Tryz.underlying46 rfl), .n1 10 rfl rfl (fun w HS => X.cmp (decide ((a0.wait.length : Int) = 0)) rfl rfl rfl rfl), .mv 11, .gp 6 false true 12 rfl rfl (Option.some.inj (sb (decide_eq_true c34))) rfl, .gp 6 false true 12 rfl rfl (Option.some.inj (sb (decide_eq_true c34))) rfl, .gp 6 false true 12 rfl rfl (Option.some.inj (sb (decide_eq_true c34))) rfl, .gp 6 false true 12 rfl rfl (Option.some.inj (sb (decide_eq_true c34))) rfl, .gp 6 false true 12 rfl rfl (Option.some.inj (sb (decide_eq_true c34))) rfl, .gp 6 false true 12 rfl rfl (Option.some.inj (sb (decide_eq_true c34))) rfl, .gp 6 false true 12 rfl rfl (Option.some.inj (sb (decide_eq_true c34))) rfl, .gp 6 false true 12 rfl rfl (Option.some.inj (sb (decide_eq_true c34))) rfl, .gp 6 false true 12 rfl rfl (Option.some.inj (sb (decide_eq_true c34))) rfl, .gp 6 false true 12 rfl rfl (Option.some.inj (sb (decide_eq_true c34))) rfl, .n2 12 22 rfl rfl rfl (fun w HS => X.pickT (sb (decide_eq_true c34)) rfl), trivial⟩ (fun w HS => ?_)
   replace HS := signalmanref6_Log.close trivial HS
   exact At.meet true ⟨rfl, rfl, trivial⟩ ⟨HS, H⟩
  ·replace H := ite_f c34 H
   refine V.dr [] [] [(6, Value.pointer (some ⟨b0, 0, none⟩)), (7, Value.pointer (some ⟨b0, 0, none⟩)), (8, Value.pointer (some ⟨b0, 0 + 5, none⟩)), (9, Value.slice a5_32 a0.wait.length c5_32), (10, Value.int .i64 (a0.wait.length : Int)), (11, Value.bool (decide ((a0.wait.length : Int) = 0))), (12, Value.bool (decide ((a0.wait.length : Int) = 0))), (13, Value.pointer (some ⟨b0, 0, none⟩)), (14, Value.pointer (some ⟨b0, 0, none⟩)), (15, Value.pointer (some ⟨b0, 0 + 4, none⟩)), (16, Value.slice a4_32 a0.out.length c4_32), (17, Value.int .i64 (a0.out.length : Int)), (18, Value.pointer (some ⟨b0, 0, none⟩)), (19, Value.pointer (some ⟨b0, 0, none⟩)), (20, Value.pointer (some ⟨b0, 0 + 1, none⟩)), (21, Value.int .i64 a0.window), (22, Value.bool (decide ((a0.out.length : Int) ≥ a0.window))), (23, Value.bool (decide ((a0.out.length : Int) ≥ a0.window)))] mo HS ?_
   refine T.fn [(0, _), (23, _)] ⟨rfl, rfl, trivial⟩ ⟨.mv 0, .nc 6, .fa 7 fo98_5, .ld 8 0 Tryz.underlying46, .n1 9 rfl rfl (fun w HS => X.lenSl Tryz.underlying46 rfl), .n1 10 rfl rfl (fun w HS => X.cmp (decide ((a0.wait.length : Int) = 0)) rfl rfl rfl rfl), .mv 11, .gw [(0, _), (12, _)] 6 false 12 ⟨rfl, rfl, trivial⟩ rfl (sb (decide_eq_false c34)) (fun w HS => X.move rfl), .gw [(13, _), (12, _)] 6 false 12 ⟨rfl, rfl, trivial⟩ rfl (sb (decide_eq_false c34)) (fun w HS => X.nilCheck rfl), .gw [(14, _), (12, _)] 6 false 12 ⟨rfl, rfl, trivial⟩ rfl (sb (decide_eq_false c34)) (fun w HS => X.fieldAddr 4 fo98_4 rfl), .gw [(15, _), (12, _)] 6 false 12 ⟨rfl, rfl, trivial⟩ rfl (sb (decide_eq_false c34)) (fun w HS => X.loadAt 0 HS rfl Tryz.underlying96 rfl rfl rfl), .gw [(16, _), (12, _)] 6 false 12 ⟨rfl, rfl, trivial⟩ rfl (sb (decide_eq_false c34)) (fun w HS => X.lenSl Tryz.underlying96 rfl), .gw [(0, _), (12, _)] 6 false 12 ⟨rfl, rfl, trivial⟩ rfl (sb (decide_eq_false c34)) (fun w HS => X.move rfl), .gw [(18, _), (12, _)] 6 false 12 ⟨rfl, rfl, trivial⟩ rfl (sb (decide_eq_false c34)) (fun w HS => X.nilCheck rfl), .gw [(19, _), (12, _)] 6 false 12 ⟨rfl, rfl, trivial⟩ rfl (sb (decide_eq_false c34)) (fun w HS => X.fieldAddr 1 fo98_1 rfl), .gw [(20, _), (12, _)] 6 false 12 ⟨rfl, rfl, trivial⟩ rfl (sb (decide_eq_false c34)) (fun w HS => X.loadAt 0 HS rfl Tryz.underlying3 rfl rfl rfl), .gw [(17, _), (21, _), (12, _)] 6 false 12 ⟨rfl, rfl, rfl, trivial⟩ rfl (sb (decide_eq_false c34)) (fun w HS => X.cmp (decide ((a0.out.length : Int) ≥ a0.window)) rfl rfl rfl rfl), .n2 12 22 rfl rfl rfl (fun w HS => X.pickF (sb (decide_eq_false c34)) rfl), trivial⟩ (fun w HS => ?_)
   replace HS := signalmanref6_Log.close trivial HS
   exact At.meet (decide ((a0.out.length : Int) ≥ a0.window)) ⟨rfl, rfl, trivial⟩ ⟨HS, H⟩
 ·rintro x2 w ⟨HS, H⟩
  unfold signalmanref6_Log_Next.j0 at H
  by_cases c4 : x2 = true
  ·replace H := ite_t c4 H
   refine V.condT (sb c4) (V.seq (V.region (W.as rfl (W.as rfl (W.as rfl (W.nx (V.ret (At.thenRet ?_))))))))
   replace HS := row_nilF (Value.int .u8) 5 1 HS
   cases H
   exact At.ret3 rfl rfl rfl rfl ⟨_, rfl, none, 0, rfl, HS⟩
  ·replace H := ite_f c4 H
   refine V.condF (sb (b_f c4)) (V.skip (At.next (V.seq ?_)))
   obtain ⟨a4_5, c4_5, d4_5, a5_5, c5_5, d5_5, hi6, HS⟩ := signalmanref6_Log.open HS
   obtain ⟨c7, H⟩ := ite_n H
   obtain ⟨eb8, eo9, hh⟩ := (rdC.at 3 row_rd HS rfl).some (by decide) c7.1 c7.2; subst hh
   obtain ⟨ec10, hc11, HS⟩ := St.tie_at 4 HS rfl ([]) c7.1 c7.2
   obtain ⟨ea12, em13, he15, HN⟩ := St.sl_openF (Value.int .u8) (fun t => tie_int t) HS; clear HS; subst he15; have HS := HN
   refine V.dr [11, 12] [] [(24, Value.pointer (some ⟨b0, 0, none⟩)), (25, Value.pointer (some ⟨b0, 0, none⟩)), (26, Value.pointer (some ⟨b0, 0 + 3, none⟩)), (27, Value.int .i64 a0.next), (28, Value.pointer (some ⟨b0, 0, none⟩)), (29, Value.pointer (some ⟨b0, 0, none⟩)), (30, Value.pointer (some ⟨b0, 0 + 5, none⟩)), (31, Value.slice (some ⟨eb8, eo9, none⟩) a0.wait.length c5_5), (32, Value.pointer (some ⟨eb8, eo9 + (0 : Int).toNat * 1, none⟩)), (33, Value.slice ea12 (a0.wait.getD (0 : Int).toNat []).length em13), (34, Value.agg #[Value.int .i64 a0.next, Value.slice ea12 (a0.wait.getD (0 : Int).toNat []).length em13])] mo HS ?_
   refine T.ev [] [] [] trivial ⟨.mv 0, .nc 24, .fa 25 fo98_3, .ld 26 1 Tryz.underlying3, .mv 0, .nc 28, .fa 29 fo98_5, .ld 30 1 Tryz.underlying46, .n1 31 rfl rfl (fun w HS => X.indexSl Tryz.underlying46 inf33 rfl rfl c7.1 c7.2), .n1 32 rfl rfl (fun w HS => X.load Tryz.underlying33 rfl rfl ((rdC.at 4 row_rd HS rfl).cellEl0 (hc11 0 _ rfl))), .n2 27 33 rfl rfl rfl (fun w HS => X.bd (Value.agg #[Value.int .i64 a0.next, Value.slice ea12 (a0.wait.getD (0 : Int).toNat []).length em13]) rfl (fun _ => by kernel_rfl)), trivial⟩ rfl (fun w HS => ?_)
   refine ⟨_, Y.alloc (z := Value.agg (#[Value.int .i64 (0), Value.slice none 0 0])) HS ze118, ?_⟩
   rintro _ w ⟨nb16, rfl, HS⟩
   refine T.nw HS ?_
   refine T.ev [(5, _), (34, _)] [] [0, 1, 2, 3, 4, 5, 6, 7, 8, 9, 10] ⟨rfl, rfl, trivial⟩ ⟨.mv 0, .nc 24, .fa 25 fo98_3, .ld 26 2 Tryz.underlying3, .mv 0, .nc 28, .fa 29 fo98_5, .ld 30 2 Tryz.underlying46, .n1 31 rfl rfl (fun w HS => X.indexSl Tryz.underlying46 inf33 rfl rfl c7.1 c7.2), .n1 32 rfl rfl (fun w HS => X.load Tryz.underlying33 rfl rfl ((rdC.at 5 row_rd HS rfl).cellEl0 (hc11 0 _ rfl))), .n2 27 33 rfl rfl rfl (fun w HS => X.bd (Value.agg #[Value.int .i64 a0.next, Value.slice ea12 (a0.wait.getD (0 : Int).toNat []).length em13]) rfl (fun _ => by kernel_rfl)), trivial⟩ rfl (fun w HS => ?_)
   refine ⟨_, Y.storeSt (c' := #[Value.int .i64 a0.next, Value.slice ea12 (a0.wait.getD (0 : Int).toNat []).length em13]) 0 [Value.int .i64 a0.next, Value.slice ea12 (a0.wait.getD (0 : Int).toNat []).length em13] HS rfl inf118 rfl rfl rfl rfl rfl rfl, ?_⟩
   rintro _ w HS
   refine T.nn HS ?_
   refine T.fn [(0, _), (5, _)] ⟨rfl, rfl, trivial⟩ trivial (fun w HS => ?_)
   refine At.next (V.seq (V.region (W.mv rfl (W.mv rfl (W.nc rfl (W.fa fo98_5 rfl (W.ld 2 HS Tryz.underlying46 rfl rfl rfl rfl ?_)))))))
   obtain ⟨c17, H⟩ := ite_n H
   refine W.r (X.slL Tryz.underlying46 inf33 rfl rfl c17) rfl ?_
   obtain ⟨c18, H⟩ := ite_n H
   replace HS := row_nilE (El.sl (El.int .u8)) 33 1 HS
   replace HS := St.tie_cut2 8 (1 : Int) (a0.wait.length : Int) HS rfl
   have HS : Sep.St [tie (El.sl (El.int .u8)) (cutC 1 d5_5 (1 : Int) (a0.wait.length : Int)) (cut a0.wait (1 : Int) (a0.wait.length : Int)), row 33 1 (.slice none (([] : List (List Int))).length 0) (([] : List (List Int))).length ([]), tie (El.sl (El.int .u8)) ([]) (([] : List (List Int))), blk nb16 (#[Value.int .i64 a0.next, Value.slice ea12 (a0.wait.getD (0 : Int).toNat []).length em13]) 118, fsl 1 (.slice ea12 (a0.wait.getD (0 : Int).toNat []).length em13) (a0.wait.getD (0 : Int).toNat []).length ((a0.wait.getD (0 : Int).toNat []).map (Value.int .u8)), blk b0 (#[Value.int .i64 a0.m, Value.int .i64 a0.window, Value.int .i64 a0.queue, Value.int .i64 a0.next, Value.slice a4_5 a0.out.length c4_5, Value.slice (some ⟨eb8, eo9, none⟩) a0.wait.length c5_5]) 98, row 118 2 (.slice a4_5 a0.out.length c4_5) a0.out.length d4_5, tie signalmanref6_message.El d4_5 a0.out, row 33 1 (.slice (some ⟨eb8, eo9, none⟩) a0.wait.length c5_5) a0.wait.length d5_5, tie (El.sl (El.int .u8)) d5_5 a0.wait, R] w0 w := HS
   refine W.e (Y.app (xs := ([] : List (List Int))) (ys := cut a0.wait (1 : Int) (a0.wait.length : Int)) 1 Tryz.underlying46 ap33 rfl (by decide) HS rfl rfl rfl (rdC.at 8 (rdC.sub row_rd c17) HS rfl) (St.tie_one 0 HS rfl) (by omega) (by omega)) rfl ?_
   rintro _ w ⟨ra19, rc20, rfl, HS⟩
   replace HS := HS.fr 2
   replace HS := St.tie_app 1 HS rfl
   refine W.nc rfl (W.fa fo98_5 rfl (W.st 5 5 HS inf46 rfl rfl rfl rfl rfl rfl fun w HS => ?_))
   refine W.nx (V.seq (V.dr [6, 7, 10] [8, 9] [(44, Value.pointer (some ⟨b0, 0, none⟩)), (45, Value.pointer (some ⟨b0, 0, none⟩)), (46, Value.pointer (some ⟨b0, 0, none⟩)), (47, Value.pointer (some ⟨b0, 0 + 4, none⟩)), (48, Value.slice a4_5 a0.out.length c4_5), (49, Value.agg #[Value.int .i64 a0.next, Value.slice ea12 (a0.wait.getD (0 : Int).toNat []).length em13])] mo HS ?_))
   refine T.ev [(49, _)] [8, 9] [5] ⟨rfl, trivial⟩ ⟨.mv 0, .mv 0, .nc 45, .fa 46 fo98_4, .ld 47 5 Tryz.underlying96, .n1 5 rfl rfl (fun w HS => X.loadSt 3 [Value.int .i64 a0.next, Value.slice ea12 (a0.wait.getD (0 : Int).toNat []).length em13] HS rfl Tryz.underlying118 rfl inf118 rfl rfl), trivial⟩ rfl (fun w HS => ?_)
   refine ⟨_, Y.lc (e := 118) (sz := 2) [Value.int .i64 a0.next, Value.slice ea12 (a0.wait.getD (0 : Int).toNat []).length em13] HS rfl rfl (fun _ => by kernel_rfl), ?_⟩
   rintro _ w ⟨lb21, rfl, HS⟩
   replace HS := St.put (A := tie signalmanref6_message.El ([]) ([] : List signalmanref6_message)) (fun _ => tie.nil) HS
   replace HS := HS.more 6 rfl (fun _ t => t) fsl.pers
   replace HS := signalmanref6_message.pack (x := ({ n := a0.next, b := a0.wait.getD (0 : Int).toNat [] } : signalmanref6_message)) HS
   replace HS := HS.fr 1
   replace HS := HS.fr 1
   replace HS := St.tie_cons HS
   refine T.nw HS ?_
   refine T.ev [(48, _), (50, _)] [] [1, 2, 3, 4] ⟨rfl, rfl, trivial⟩ ⟨.mv 0, .mv 0, .nc 45, .fa 46 fo98_4, .ld 47 7 Tryz.underlying96, trivial⟩ rfl (fun w HS => ?_)
   obtain ⟨c24, H⟩ := ite_n H
   refine ⟨_, Y.app (xs := a0.out) (ys := ([({ n := a0.next, b := a0.wait.getD (0 : Int).toNat [] } : signalmanref6_message)] : List signalmanref6_message)) 8 Tryz.underlying96 ap118 rfl (by decide) HS rfl rfl rfl (rdC.at 1 row_rd HS rfl) (St.tie_one 0 HS rfl) (by omega) (by omega), ?_⟩
   rintro _ w ⟨ra25, rc26, rfl, HS⟩
   replace HS := HS.fr 9
   replace HS := St.tie_app 1 HS rfl
   refine T.nm [(51, Value.slice ra25 (a0.out ++ ([({ n := a0.next, b := a0.wait.getD (0 : Int).toNat [] } : signalmanref6_message)] : List signalmanref6_message)).length rc26), (52, Value.pointer (some ⟨b0, 0, none⟩)), (53, Value.pointer (some ⟨b0, 0 + 4, none⟩))] HS ⟨.inl ⟨rfl, rfl⟩, ⟨.inr ⟨by decide, rfl⟩, ⟨.inr ⟨by decide, rfl⟩, trivial⟩⟩⟩ ?_
   refine T.ev [(51, _), (53, _)] [] [0, 8, 9] ⟨rfl, rfl, trivial⟩ ⟨.mv 0, .nc 44, .fa 52 fo98_4, trivial⟩ rfl (fun w HS => ?_)
   refine ⟨_, Y.sto 8 4 HS inf96 rfl rfl rfl rfl rfl rfl, ?_⟩
   rintro _ w HS
   refine T.nn HS ?_
   refine T.fn [(0, _), (5, _)] ⟨rfl, rfl, trivial⟩ trivial (fun w HS => ?_)
   refine At.next (V.seq (V.dr [9, 12] [10, 11] [(54, Value.pointer (some ⟨b0, 0, none⟩)), (55, Value.pointer (some ⟨b0, 0, none⟩)), (56, Value.pointer (some ⟨b0, 0, none⟩)), (57, Value.pointer (some ⟨b0, 0 + 3, none⟩)), (58, Value.int .i64 a0.next), (59, Value.pointer (some ⟨b0, 0, none⟩)), (60, Value.pointer (some ⟨b0, 0, none⟩)), (61, Value.pointer (some ⟨b0, 0 + 0, none⟩)), (62, Value.int .i64 a0.m)] mo HS ?_))
   refine T.ev [(58, _), (62, _)] [] [1, 2, 3, 4, 5, 6, 7, 8] ⟨rfl, rfl, trivial⟩ ⟨.mv 0, .mv 0, .nc 55, .fa 56 fo98_3, .ld 57 8 Tryz.underlying3, .mv 0, .nc 59, .fa 60 fo98_0, .ld 61 8 Tryz.underlying3, trivial⟩ rfl (fun w HS => ?_)
   obtain ⟨t27, A28, H⟩ := bind_s H
   refine ⟨_, Y.cl Tryz.func116 (signalmanref1_Next.calls A28 HS.j0), ?_⟩
   rintro _ w ⟨rfl, HS⟩
   replace HS := HS.o0
   refine T.nm [(63, Value.int .i64 t27), (64, Value.pointer (some ⟨b0, 0, none⟩)), (65, Value.pointer (some ⟨b0, 0 + 3, none⟩))] HS ⟨.inl ⟨rfl, rfl⟩, ⟨.inr ⟨by decide, rfl⟩, ⟨.inr ⟨by decide, rfl⟩, trivial⟩⟩⟩ ?_
   refine T.ev [(63, _), (65, _)] [] [0, 10, 11] ⟨rfl, rfl, trivial⟩ ⟨.mv 0, .nc 54, .fa 64 fo98_3, trivial⟩ rfl (fun w HS => ?_)
   refine ⟨_, Y.sto 8 3 HS inf3 rfl rfl rfl rfl rfl rfl, ?_⟩
   rintro _ w HS
   refine T.nn HS ?_
   refine T.fn [(5, _)] ⟨rfl, trivial⟩ trivial (fun w HS => ?_)
   refine At.next (V.seq (V.dr [4] [5, 6, 7] [(66, Value.pointer (some ⟨nb16, 0 + 0, none⟩)), (67, Value.int .i64 a0.next), (68, Value.pointer (some ⟨nb16, 0 + 1, none⟩)), (69, Value.slice ea12 (a0.wait.getD (0 : Int).toNat []).length em13)] mo HS ?_))
   refine T.ev [(69, _)] [] [2, 3] ⟨rfl, trivial⟩ ⟨.fa 5 fo118_0, .ld 66 6 Tryz.underlying3, .fa 5 fo118_1, .ld 68 6 Tryz.underlying33, trivial⟩ rfl (fun w HS => ?_)
   obtain ⟨c29, H⟩ := ite_n H
   replace HS := row_nilF (Value.int .u8) 5 1 HS
   have HS : Sep.St [row 5 1 (.slice none ([] : List Int).length 0) ([] : List Int).length (([] : List Int).map (Value.int .u8)), tie signalmanref6_message.El (d4_5 ++ ([Value.int .i64 a0.next, Value.slice ea12 (a0.wait.getD (0 : Int).toNat []).length em13])) (a0.out ++ ([({ n := a0.next, b := a0.wait.getD (0 : Int).toNat [] } : signalmanref6_message)] : List signalmanref6_message)), tie signalmanref6_message.El ([Value.int .i64 a0.next, Value.slice ea12 (a0.wait.getD (0 : Int).toNat []).length em13]) (([({ n := a0.next, b := a0.wait.getD (0 : Int).toNat [] } : signalmanref6_message)] : List signalmanref6_message)), row 118 2 (.slice (some ⟨lb21, 0, none⟩) (([({ n := a0.next, b := a0.wait.getD (0 : Int).toNat [] } : signalmanref6_message)] : List signalmanref6_message)).length 1) (([({ n := a0.next, b := a0.wait.getD (0 : Int).toNat [] } : signalmanref6_message)] : List signalmanref6_message)).length ([Value.int .i64 a0.next, Value.slice ea12 (a0.wait.getD (0 : Int).toNat []).length em13]), tie (El.sl (El.int .u8)) (([]) ++ (cutC 1 d5_5 (1 : Int) (a0.wait.length : Int))) (([] : List (List Int)) ++ (cut a0.wait (1 : Int) (a0.wait.length : Int))), tie (El.sl (El.int .u8)) (cutC 1 d5_5 (1 : Int) (a0.wait.length : Int)) (cut a0.wait (1 : Int) (a0.wait.length : Int)), row 33 1 (.slice ra19 (([] : List (List Int)) ++ (cut a0.wait (1 : Int) (a0.wait.length : Int))).length rc20) (([] : List (List Int)) ++ (cut a0.wait (1 : Int) (a0.wait.length : Int))).length (([]) ++ (cutC 1 d5_5 (1 : Int) (a0.wait.length : Int))), blk nb16 (#[Value.int .i64 a0.next, Value.slice ea12 (a0.wait.getD (0 : Int).toNat []).length em13]) 118, fsl 1 (.slice ea12 (a0.wait.getD (0 : Int).toNat []).length em13) (a0.wait.getD (0 : Int).toNat []).length ((a0.wait.getD (0 : Int).toNat []).map (Value.int .u8)), blk b0 (#[Value.int .i64 a0.m, Value.int .i64 a0.window, Value.int .i64 a0.queue, Value.int .i64 t27, Value.slice ra25 (a0.out ++ ([({ n := a0.next, b := a0.wait.getD (0 : Int).toNat [] } : signalmanref6_message)] : List signalmanref6_message)).length rc26, Value.slice ra19 (([] : List (List Int)) ++ (cut a0.wait (1 : Int) (a0.wait.length : Int))).length rc20]) 98, row 118 2 (.slice ra25 (a0.out ++ ([({ n := a0.next, b := a0.wait.getD (0 : Int).toNat [] } : signalmanref6_message)] : List signalmanref6_message)).length rc26) (a0.out ++ ([({ n := a0.next, b := a0.wait.getD (0 : Int).toNat [] } : signalmanref6_message)] : List signalmanref6_message)).length (d4_5 ++ ([Value.int .i64 a0.next, Value.slice ea12 (a0.wait.getD (0 : Int).toNat []).length em13])), row 33 1 (.slice (some ⟨eb8, eo9, none⟩) a0.wait.length c5_5) a0.wait.length d5_5, tie (El.sl (El.int .u8)) d5_5 a0.wait, R] w0 w := HS
   refine ⟨_, Y.appF (Value.int .u8) (fun _ => rfl) 0 Tryz.underlying33 ap5 rfl HS rfl rfl rfl (rdC.at 8 fsl.rd HS rfl) (by omega) (by omega), ?_⟩
   rintro _ w ⟨ra30, rc31, rfl, HS⟩
   refine T.nm [(70, Value.slice ra30 (([] : List Int) ++ (a0.wait.getD (0 : Int).toNat [])).length rc31), (2, Value.int .i64 a0.next), (3, Value.slice ra30 (([] : List Int) ++ (a0.wait.getD (0 : Int).toNat [])).length rc31), (4, Value.bool true)] HS ⟨.inl ⟨rfl, rfl⟩, ⟨.inr ⟨by decide, rfl⟩, ⟨.inr ⟨by decide, rfl⟩, ⟨.inr ⟨by decide, rfl⟩, trivial⟩⟩⟩⟩ ?_
   refine T.fn [(2, _), (3, _), (4, _)] ⟨rfl, rfl, rfl, trivial⟩ ⟨.fa 5 fo118_0, .ld 66 7 Tryz.underlying3, .as 67, .as 70, .n0 (fun w HS => X.assign rfl), trivial⟩ (fun w HS => ?_)
   refine At.next (V.ret ?_)
   replace HS := HS.pm [9, 10, 1, 6, 4, 0, 2, 3, 5, 7, 8, 11, 12, 13]
   replace HS := signalmanref6_Log.close trivial HS
   replace HS := HS.pk [1, 0, 9] [2, 3, 4, 5, 6, 7, 8]
   cases H
   exact At.ret3 rfl rfl rfl rfl ⟨_, rfl, ra30, rc31, rfl, HS⟩
mutual
def signalmanref6_Log_Body.l0 : Nat → signalmanref6_Log → Int → Int → Option (List Int × Bool)
 | 0, _, _, _ => none
 | k + 1, a0, a1, x6 => (if x6 < (a0.out.length : Int) then (if 0 ≤ x6 ∧ x6 < (a0.out.length : Int) then (if ((a0.out.getD x6.toNat default).n) = a1 then (if (([] : List Int).length : Int) + ((a0.out.getD x6.toNat default).b).length ≤ 1099511627776 then some (([] : List Int) ++ ((a0.out.getD x6.toNat default).b), true) else none) else (signalmanref6_Log_Body.l0 k a0 a1 (w64 (x6 + 1)))) else none) else some (([] : List Int), false))
end
def signalmanref6_Log_Body.f (k : Nat) (a0 : signalmanref6_Log) (a1 : Int) : Option (List Int × Bool) := (signalmanref6_Log_Body.l0 k a0 a1 0)
theorem signalmanref6_Log_Body.calls {k : Nat} {a0 : signalmanref6_Log} {a1 : Int} {R : As} {w0 w : World} {b0 : Nat} {a4_p0 : Option Addr} {c4_p0 : Nat} {d4_p0 : List Value} {a5_p0 : Option Addr} {c5_p0 : Nat} {d5_p0 : List Value} {r : List Int × Bool} (H : signalmanref6_Log_Body.f k a0 a1 = some r) (HS : Sep.St [blk b0 (#[Value.int .i64 a0.m, Value.int .i64 a0.window, Value.int .i64 a0.queue, Value.int .i64 a0.next, Value.slice a4_p0 a0.out.length c4_p0, Value.slice a5_p0 a0.wait.length c5_p0]) 98, row 118 2 (.slice a4_p0 a0.out.length c4_p0) a0.out.length d4_p0, tie signalmanref6_message.El d4_p0 a0.out, row 33 1 (.slice a5_p0 a0.wait.length c5_p0) a0.wait.length d5_p0, tie (El.sl (El.int .u8)) d5_p0 a0.wait, R] w0 w)  : Calls Tryz.prog 117 #[Value.pointer (some ⟨b0, 0, none⟩), Value.int .i64 a1] w (Ret fun u w => ∃ (aq0 : Option Addr) (cq0 : Nat), u = Value.tuple #[Value.slice aq0 r.1.length cq0, Value.bool r.2] ∧ Sep.St [row 5 1 (.slice aq0 r.1.length cq0) r.1.length (r.1.map (Value.int .u8)), blk b0 (#[Value.int .i64 a0.m, Value.int .i64 a0.window, Value.int .i64 a0.queue, Value.int .i64 a0.next, Value.slice a4_p0 a0.out.length c4_p0, Value.slice a5_p0 a0.wait.length c5_p0]) 98, row 118 2 (.slice a4_p0 a0.out.length c4_p0) a0.out.length d4_p0, tie signalmanref6_message.El d4_p0 a0.out, row 33 1 (.slice a5_p0 a0.wait.length c5_p0) a0.wait.length d5_p0, tie (El.sl (El.int .u8)) d5_p0 a0.wait, R] w0 w) := by
 unfold signalmanref6_Log_Body.f at H
 refine calls_enter Tryz.func117 rfl rfl ?_
 have H : _ = some r := H
 refine V.seq (V.region (W.as rfl (W.as rfl (W.nx (V.seq (V.seq (V.region (W.as rfl (W.nx (V.block (V.loop (σ := Int) (fun kq (st : Int) w => match st with | x6 => Sep.St [blk b0 (#[Value.int .i64 a0.m, Value.int .i64 a0.window, Value.int .i64 a0.queue, Value.int .i64 a0.next, Value.slice a4_p0 a0.out.length c4_p0, Value.slice a5_p0 a0.wait.length c5_p0]) 98, row 118 2 (.slice a4_p0 a0.out.length c4_p0) a0.out.length d4_p0, tie signalmanref6_message.El d4_p0 a0.out, row 33 1 (.slice a5_p0 a0.wait.length c5_p0) a0.wait.length d5_p0, tie (El.sl (El.int .u8)) d5_p0 a0.wait, R] w0 w ∧ signalmanref6_Log_Body.l0 kq a0 a1 x6 = some r ∧ kq ≤ k) (fun st => match st with | x6 => [(0, Value.pointer (some ⟨b0, 0, none⟩)), (1, Value.int .i64 a1), (6, Value.int .i64 x6)]) k (0) ⟨rfl, rfl, rfl, trivial⟩ ⟨HS, H, Nat.le_refl _⟩ ?_)))))))))))
 rintro kq7 x6 w ⟨HS, H, hk8⟩
 cases kq7 with
 | zero => exact absurd H (by simp [signalmanref6_Log_Body.l0])
 | succ kq7 =>
  simp only [signalmanref6_Log_Body.l0] at H
  refine V.seq (V.seq (V.region (W.mv rfl (W.mv rfl (W.nc rfl (W.fa fo98_4 rfl (W.ld 0 HS Tryz.underlying96 rfl rfl rfl rfl (W.r (X.lenSl Tryz.underlying96 rfl) rfl (W.r (X.cmp (decide (x6 < (a0.out.length : Int))) rfl rfl rfl rfl) rfl (W.nx ?_))))))))))
  by_cases c9 : x6 < (a0.out.length : Int)
  ·replace H := ite_t c9 H
   refine V.condT (sb (decide_eq_true c9)) (V.skip (At.next (V.seq (V.block (V.seq (V.region (W.mv rfl (W.nc rfl (W.fa fo98_4 rfl (W.ld 0 HS Tryz.underlying96 rfl rfl rfl rfl (W.mv rfl ?_)))))))))))
   obtain ⟨c10, H⟩ := ite_n H
   obtain ⟨eb11, eo12, hh⟩ := (rdC.at 1 row_rd HS rfl).some (by decide) c10.1 c10.2; subst hh
   refine W.r (X.indexSl Tryz.underlying96 inf118 rfl rfl c10.1 c10.2) rfl (W.fa fo118_0 rfl ?_)
   obtain ⟨ec13, hc14, HS⟩ := St.tie_at 2 HS rfl default c10.1 c10.2
   obtain ⟨ea15, em16, he17, HN⟩ := signalmanref6_message.unpack HS; clear HS; subst he17; have HS := HN
   refine W.r (X.load Tryz.underlying3 rfl rfl ((rdC.at 2 row_rd HS rfl).cellEl (hc14 0 _ rfl))) rfl (W.mv rfl (W.r (X.cmp (decide (((a0.out.getD x6.toNat default).n) = a1)) rfl rfl rfl rfl) rfl (W.nx ?_)))
   by_cases c18 : ((a0.out.getD x6.toNat default).n) = a1
   ·replace H := ite_t c18 H
    refine V.condT (sb (decide_eq_true c18)) (V.seq (V.region (W.mv rfl (W.nc rfl (W.fa fo98_4 rfl (W.ld 1 HS Tryz.underlying96 rfl rfl rfl rfl (W.mv rfl (W.r (X.indexSl Tryz.underlying96 inf118 rfl rfl c10.1 c10.2) rfl (W.fa fo118_1 rfl (W.r (X.load Tryz.underlying33 rfl rfl ((rdC.at 2 row_rd HS rfl).cellEl (hc14 1 _ rfl))) rfl ?_))))))))))
    obtain ⟨c19, H⟩ := ite_n H
    replace HS := row_nilF (Value.int .u8) 5 1 HS
    have HS : Sep.St [row 5 1 (.slice none ([] : List Int).length 0) ([] : List Int).length (([] : List Int).map (Value.int .u8)), fsl 1 (.slice ea15 ((a0.out.getD x6.toNat default).b).length em16) ((a0.out.getD x6.toNat default).b).length (((a0.out.getD x6.toNat default).b).map (Value.int .u8)), blk b0 (#[Value.int .i64 a0.m, Value.int .i64 a0.window, Value.int .i64 a0.queue, Value.int .i64 a0.next, Value.slice (some ⟨eb11, eo12, none⟩) a0.out.length c4_p0, Value.slice a5_p0 a0.wait.length c5_p0]) 98, row 118 2 (.slice (some ⟨eb11, eo12, none⟩) a0.out.length c4_p0) a0.out.length d4_p0, tie signalmanref6_message.El d4_p0 a0.out, row 33 1 (.slice a5_p0 a0.wait.length c5_p0) a0.wait.length d5_p0, tie (El.sl (El.int .u8)) d5_p0 a0.wait, R] w0 w := HS
    refine W.e (Y.appF (Value.int .u8) (fun _ => rfl) 0 Tryz.underlying33 ap5 rfl HS rfl rfl rfl (rdC.at 1 fsl.rd HS rfl) (by omega) (by omega)) rfl ?_
    rintro _ w ⟨ra20, rc21, rfl, HS⟩
    refine W.as rfl (W.as rfl (W.nx (V.ret (At.blockRet (At.thenRet (At.thenRet (At.blockRet (At.thenRet ?_))))))))
    replace HS := HS.pk [0, 2, 3, 4, 5, 6, 7] [1]
    cases H
    exact At.ret2 rfl rfl rfl ⟨_, rfl, ra20, rc21, rfl, HS⟩
   ·replace H := ite_f c18 H
    refine V.condF (sb (decide_eq_false c18)) (V.skip (At.blockEnd (At.next (V.region (W.mv rfl (W.r (X.add rfl rfl) rfl (W.as rfl (W.nil ?_))))))))
    replace HS := HS.pk [1, 2, 3, 4, 5, 6] [0]
    exact At.round kq7 (by omega) (w64 (x6 + 1)) ⟨rfl, rfl, rfl, trivial⟩ ⟨HS, H, by omega⟩
  ·replace H := ite_f c9 H
   refine V.condF (sb (decide_eq_false c9)) (V.exit (At.thenExit (At.thenExit (At.blockExit (At.next (V.seq (V.region (W.as rfl (W.as rfl (W.nx (V.ret ?_)))))))))))
   replace HS := row_nilF (Value.int .u8) 5 1 HS
   cases H
   exact At.ret2 rfl rfl rfl ⟨_, rfl, none, 0, rfl, HS⟩
def signalmanref6_Order_Next.f (a0 : signalmanref6_Order) : Option Int := some a0.next
theorem signalmanref6_Order_Next.calls {a0 : signalmanref6_Order} {R : As} {w0 w : World} {b0 : Nat} {a3_p0 : Option Addr} {c3_p0 : Nat} {d3_p0 : List Value} {a4_p0 : Option Addr} {c4_p0 : Nat} {d4_p0 : List Value} {r : Int} (H : signalmanref6_Order_Next.f a0 = some r) (HS : Sep.St [blk b0 (#[Value.int .i64 a0.m, Value.int .i64 a0.window, Value.int .i64 a0.next, Value.slice a3_p0 a0.kept.length c3_p0, Value.slice a4_p0 a0.ready.length c4_p0]) 100, row 118 2 (.slice a3_p0 a0.kept.length c3_p0) a0.kept.length d3_p0, tie signalmanref6_message.El d3_p0 a0.kept, row 33 1 (.slice a4_p0 a0.ready.length c4_p0) a0.ready.length d4_p0, tie (El.sl (El.int .u8)) d4_p0 a0.ready, R] w0 w)  : Calls Tryz.prog 118 #[Value.pointer (some ⟨b0, 0, none⟩)] w (Ret fun u w => u = Value.int .i64 r ∧ Sep.St [blk b0 (#[Value.int .i64 a0.m, Value.int .i64 a0.window, Value.int .i64 a0.next, Value.slice a3_p0 a0.kept.length c3_p0, Value.slice a4_p0 a0.ready.length c4_p0]) 100, row 118 2 (.slice a3_p0 a0.kept.length c3_p0) a0.kept.length d3_p0, tie signalmanref6_message.El d3_p0 a0.kept, row 33 1 (.slice a4_p0 a0.ready.length c4_p0) a0.ready.length d4_p0, tie (El.sl (El.int .u8)) d4_p0 a0.ready, R] w0 w) := by
 unfold signalmanref6_Order_Next.f at H
 refine calls_enter Tryz.func118 rfl rfl ?_
 have H : _ = some r := H
 refine V.seq (V.region (W.as rfl (W.nx (V.seq (V.region (W.mv rfl (W.nc rfl (W.fa fo100_2 rfl (W.ld 0 HS Tryz.underlying3 rfl rfl rfl rfl (W.as rfl (W.nx (V.ret ?_))))))))))))
 cases H
 exact At.ret1 rfl rfl ⟨_, rfl, rfl, HS⟩
def signalmanref15_Arq_info.f (k : Nat) (a0 : signalmanref15_Arq) (a1 : Int) (a2 : Bool) : Option signalmanref15_Arq := ((signalmanref6_Log_Body.f k a0.log a1).bind fun t5 => ((signalmanref6_Order_Next.f a0.order).bind fun t9 => ((signalmanref15_Arq_tell.f a0 a0.tag ({ Kind := 0, Ns := a1, Nr := t9, Poll := a2 } : api_Ctl) t5.1).bind fun t11 => some t11)))
theorem signalmanref15_Arq_info.calls {k : Nat} {a0 : signalmanref15_Arq} {a1 : Int} {a2 : Bool} {R : As} {w0 w : World} {b0 : Nat} {r : signalmanref15_Arq} (H : signalmanref15_Arq_info.f k a0 a1 a2 = some r) (HS : Sep.St [signalmanref15_Arq.at b0 a0, R] w0 w)  : Calls Tryz.prog 94 #[Value.pointer (some ⟨b0, 0, none⟩), Value.int .i64 a1, Value.bool a2] w (Ret fun u w => u = Value.tuple #[] ∧ Sep.St [signalmanref15_Arq.at b0 r, R] w0 w) := by
 unfold signalmanref15_Arq_info.f at H
 refine calls_enter Tryz.func94 rfl rfl ?_
 have H : _ = some r := H
 refine V.seq (V.region (W.mv rfl (W.nc rfl ?_)))
 obtain ⟨b6_1, b7_1, a11_1, c11_1, d11_1, a12_1, c12_1, hi2, HS⟩ := signalmanref15_Arq.open HS
 refine W.fa fo71_6 rfl (W.ld 0 HS Tryz.underlying66 rfl rfl rfl rfl (W.mv rfl ?_))
 replace HS := HS.fr 1
 obtain ⟨a4_3, c4_3, d4_3, a5_3, c5_3, d5_3, hi4, HS⟩ := signalmanref6_Log.open HS
 obtain ⟨t5, A6, H⟩ := bind_s H
 refine W.e (Y.cl Tryz.func117 (signalmanref6_Log_Body.calls A6 HS.j5)) rfl ?_
 rintro _ w ⟨at5_0, ct5_0, rfl, HS⟩
 replace HS := HS.o6
 refine W.mv rfl (W.r (X.extract rfl rfl) rfl (W.r (X.extract rfl rfl) rfl (W.as rfl (W.as rfl (W.nx (V.dr [10, 14] [12] [(17, Value.pointer (some ⟨b0, 0, none⟩)), (18, Value.pointer (some ⟨b0, 0, none⟩)), (19, Value.pointer (some ⟨b0, 0, none⟩)), (20, Value.pointer (some ⟨b0, 0 + 5, none⟩)), (21, Value.int .i64 a0.tag), (22, Value.int .i64 a1), (23, Value.pointer (some ⟨b0, 0, none⟩)), (24, Value.pointer (some ⟨b0, 0, none⟩)), (25, Value.pointer (some ⟨b0, 0 + 7, none⟩)), (26, Value.pointer (some ⟨b7_1, 0, none⟩)), (28, Value.bool a2), (30, Value.slice at5_0 t5.1.length ct5_0)] mo HS ?_))))))
 refine T.ev [(26, _)] [] [6, 7, 8, 9] ⟨rfl, trivial⟩ ⟨.mv 0, .mv 0, .nc 18, .fa 19 fo71_5, .ld 20 6 Tryz.underlying3, .mv 1, .mv 0, .nc 23, .fa 24 fo71_7, .ld 25 6 Tryz.underlying68, .mv 2, .mv 6, trivial⟩ rfl (fun w HS => ?_)
 replace HS := HS.fr 7
 obtain ⟨a3_7, c3_7, d3_7, a4_7, c4_7, d4_7, hi8, HS⟩ := signalmanref6_Order.open HS
 obtain ⟨t9, A10, H⟩ := bind_s H
 refine ⟨_, Y.cl Tryz.func118 (signalmanref6_Order_Next.calls A10 HS.j5), ?_⟩
 rintro _ w ⟨rfl, HS⟩
 replace HS := HS.o5
 refine T.nm [(27, Value.int .i64 t9), (29, Value.agg #[Value.int .i64 (0), Value.int .i64 a1, Value.int .i64 t9, Value.bool a2])] HS ⟨.inl ⟨rfl, rfl⟩, ⟨.inr ⟨by decide, rfl⟩, trivial⟩⟩ ?_
 refine T.ev [(17, _), (21, _), (29, _), (30, _)] [] [0, 1, 2, 3, 4, 5, 11, 12, 13] ⟨rfl, rfl, rfl, rfl, trivial⟩ ⟨.mv 0, .mv 0, .nc 18, .fa 19 fo71_5, .ld 20 11 Tryz.underlying3, .mv 1, .mv 2, .ns [(22, _), (27, _), (28, _)] ⟨rfl, rfl, rfl, trivial⟩ rfl (fun w HS => X.bd (Value.agg #[Value.int .i64 (0), Value.int .i64 a1, Value.int .i64 t9, Value.bool a2]) rfl (fun _ => by kernel_rfl)), .mv 6, trivial⟩ rfl (fun w HS => ?_)
 replace HS := HS.pm [6, 7, 8, 9, 10, 0, 1, 2, 3, 4, 5, 11, 12, 13, 14, 15]
 replace HS := signalmanref6_Log.close trivial HS
 replace HS := HS.pm [1, 2, 3, 4, 5, 0, 6, 7, 8, 9, 10, 11]
 replace HS := signalmanref6_Order.close trivial HS
 replace HS := HS.pm [3, 1, 0, 4, 5, 6, 2, 7]
 replace HS := signalmanref15_Arq.close trivial HS
 obtain ⟨t11, A12, H⟩ := bind_s H
 refine ⟨_, Y.cl Tryz.func84 (signalmanref15_Arq_tell.calls A12 HS.j1 (rdC.part 0 row_rd rfl)), ?_⟩
 rintro _ w ⟨rfl, HS⟩
 replace HS := HS.o1
 refine T.nw HS ?_
 refine T.fn [] trivial trivial (fun w HS => ?_)
 replace HS := HS.pk [0, 2] [1]
 cases H
 exact At.end0 rfl ⟨_, rfl, rfl, HS⟩
mutual
def signalmanref15_Arq_pump.l0 : Nat → signalmanref15_Arq → Option signalmanref15_Arq
 | 0, _ => none
 | k + 1, x2 => (if x2.state = 2 then ((signalmanref6_Log_Next.f x2.log).bind fun t8 => (if t8.2.2.1 = true then ((signalmanref15_Arq_info.f k ({ x2 with log := t8.2.2.2 } : signalmanref15_Arq) t8.1 false).bind fun t17 => (if t17.left = 0 then (signalmanref15_Arq_pump.l0 k ({ t17 with left := t17.t1 } : signalmanref15_Arq)) else (signalmanref15_Arq_pump.l0 k t17))) else some ({ x2 with log := t8.2.2.2 } : signalmanref15_Arq))) else some x2)
end
def signalmanref15_Arq_pump.f (k : Nat) (a0 : signalmanref15_Arq) : Option signalmanref15_Arq := (signalmanref15_Arq_pump.l0 k a0)
theorem signalmanref15_Arq_pump.calls {k : Nat} {a0 : signalmanref15_Arq} {R : As} {w0 w : World} {b0 : Nat} {r : signalmanref15_Arq} (H : signalmanref15_Arq_pump.f k a0 = some r) (HS : Sep.St [signalmanref15_Arq.at b0 a0, R] w0 w)  : Calls Tryz.prog 54 #[Value.pointer (some ⟨b0, 0, none⟩)] w (Ret fun u w => u = Value.tuple #[] ∧ Sep.St [signalmanref15_Arq.at b0 r, R] w0 w) := by
 unfold signalmanref15_Arq_pump.f at H
 refine calls_enter Tryz.func54 rfl rfl ?_
 have H : _ = some r := H
 refine V.block (V.loop (σ := signalmanref15_Arq) (fun kq (st : signalmanref15_Arq) w => match st with | x2 => Sep.St [signalmanref15_Arq.at b0 x2, R] w0 w ∧ signalmanref15_Arq_pump.l0 kq x2 = some r ∧ kq ≤ k) (fun st => match st with | x2 => [(0, Value.pointer (some ⟨b0, 0, none⟩))]) k a0 ⟨rfl, trivial⟩ ⟨HS, H, Nat.le_refl _⟩ ?_)
 rintro kq3 x2 w ⟨HS, H, hk4⟩
 cases kq3 with
 | zero => exact absurd H (by simp [signalmanref15_Arq_pump.l0])
 | succ kq3 =>
  simp only [signalmanref15_Arq_pump.l0] at H
  refine V.seq (V.seq (V.region (W.mv rfl (W.nc rfl ?_))))
  obtain ⟨b6_5, b7_5, a11_5, c11_5, d11_5, a12_5, c12_5, hi6, HS⟩ := signalmanref15_Arq.open HS
  refine W.fa fo71_4 rfl (W.ld 0 HS Tryz.underlying3 rfl rfl rfl rfl (W.r (X.cmp (decide (x2.state = 2)) rfl rfl rfl rfl) rfl (W.nx ?_)))
  by_cases c7 : x2.state = 2
  ·replace H := ite_t c7 H
   refine V.condT (sb (decide_eq_true c7)) (V.skip (At.next (V.block (V.seq (V.region (W.mv rfl (W.nc rfl (W.fa fo71_6 rfl (W.ld 0 HS Tryz.underlying66 rfl rfl rfl rfl ?_)))))))))
   obtain ⟨t8, A9, H⟩ := bind_s H
   replace HS := HS.pm [1, 0, 2, 3, 4, 5, 6]
   refine W.e (Y.cl Tryz.func93 (signalmanref6_Log_Next.calls A9 HS.j1)) rfl ?_
   rintro _ w ⟨at8_1, ct8_1, rfl, HS⟩
   replace HS := HS.o2
   refine W.mv rfl (W.r (X.extract rfl rfl) rfl (W.r (X.extract rfl rfl) rfl (W.r (X.extract rfl rfl) rfl (W.as rfl (W.as rfl (W.as rfl (W.nx (V.seq (V.seq (V.region (W.mv rfl (W.r (X.not rfl) rfl (W.nx ?_)))))))))))))
   by_cases c16 : t8.2.2.1 = true
   ·replace H := ite_t c16 H
    refine V.condF (sb (n_t c16)) (V.skip (At.next (V.seq (V.region (W.mv rfl (W.mv rfl ?_))))))
    replace HS := HS.pm [2, 1, 3, 4, 5, 6, 0, 7]
    replace HS := signalmanref15_Arq.close trivial HS
    obtain ⟨t17, A18, H⟩ := bind_s H
    refine W.e (Y.cl Tryz.func94 (signalmanref15_Arq_info.calls A18 HS.j1)) rfl ?_
    rintro _ w ⟨rfl, HS⟩
    replace HS := HS.o1
    refine W.nx (V.seq (V.region (W.mv rfl (W.nc rfl ?_))))
    obtain ⟨b6_19, b7_19, a11_19, c11_19, d11_19, a12_19, c12_19, hi20, HS⟩ := signalmanref15_Arq.open HS
    refine W.fa fo71_8 rfl (W.ld 0 HS Tryz.underlying3 rfl rfl rfl rfl (W.r (X.cmp (decide (t17.left = 0)) rfl rfl rfl rfl) rfl (W.nx ?_)))
    by_cases c21 : t17.left = 0
    ·replace H := ite_t c21 H
     refine V.condT (sb (decide_eq_true c21)) (V.region (W.mv rfl (W.mv rfl (W.nc rfl (W.fa fo71_1 rfl (W.ld 0 HS Tryz.underlying3 rfl rfl rfl rfl (W.nc rfl (W.fa fo71_8 rfl (W.st 0 8 HS inf3 rfl rfl rfl rfl rfl rfl fun w HS => ?_)))))))))
     refine W.nil (At.blockEnd ?_)
     replace HS := signalmanref15_Arq.close trivial HS
     replace HS := HS.pk [0, 2] [1]
     exact At.round kq3 (by omega) ({ t17 with left := t17.t1 } : signalmanref15_Arq) ⟨rfl, trivial⟩ ⟨HS, H, by omega⟩
    ·replace H := ite_f c21 H
     refine V.condF (sb (decide_eq_false c21)) (V.skip (At.blockEnd ?_))
     replace HS := signalmanref15_Arq.close trivial HS
     replace HS := HS.pk [0, 2] [1]
     exact At.round kq3 (by omega) t17 ⟨rfl, trivial⟩ ⟨HS, H, by omega⟩
   ·replace H := ite_f c16 H
    refine V.condT (sb (n_f (b_f c16))) (V.ret (At.thenRet (At.blockRet (At.thenRet (At.blockRet ?_)))))
    replace HS := HS.pm [2, 1, 3, 4, 5, 6, 0, 7]
    replace HS := signalmanref15_Arq.close trivial HS
    replace HS := HS.pk [0, 2] [1]
    cases H
    exact At.ret0 rfl ⟨_, rfl, rfl, HS⟩
  ·replace H := ite_f c7 H
   refine V.condF (sb (decide_eq_false c7)) (V.exit (At.thenExit (At.thenExit (At.blockExit ?_))))
   replace HS := signalmanref15_Arq.close trivial HS
   cases H
   exact At.end0 rfl ⟨_, rfl, rfl, HS⟩
def signalmanref15_Arq_Send.f (k : Nat) (a0 : signalmanref15_Arq) (a1 : List Int) : Option (Int × signalmanref15_Arq) := (if (a1.length : Int) > a0.size then some (5, a0) else (if a0.state = 2 then ((signalmanref6_Log_Add.f a0.log a1).bind fun t11 => (if t11.1 = 0 then ((signalmanref15_Arq_pump.f k ({ a0 with log := t11.2, sent := w64 (a0.sent + 1) } : signalmanref15_Arq)).bind fun t14 => some (0, t14)) else some (t11.1, ({ a0 with log := t11.2 } : signalmanref15_Arq)))) else some (7, a0)))
theorem signalmanref15_Arq_Send.calls {k : Nat} {a0 : signalmanref15_Arq} {a1 : List Int} {R : As} {w0 w : World} {b0 : Nat} {sa1 : Option Addr} {sc1 : Nat} {r : Int × signalmanref15_Arq} (H : signalmanref15_Arq_Send.f k a0 a1 = some r) (HS : Sep.St [signalmanref15_Arq.at b0 a0, R] w0 w) (hr1 : rdC R 1 (.slice sa1 a1.length sc1) a1.length (a1.map (Value.int .u8))) : Calls Tryz.prog 16 #[Value.pointer (some ⟨b0, 0, none⟩), Value.slice sa1 a1.length sc1] w (Ret fun u w => u = Value.int .i64 r.1 ∧ Sep.St [signalmanref15_Arq.at b0 r.2, R] w0 w) := by
 unfold signalmanref15_Arq_Send.f at H
 refine calls_enter Tryz.func16 rfl rfl ?_
 have H : _ = some r := H
 refine V.seq (V.region (W.as rfl (W.nx (V.seq (V.seq (V.region (W.mv rfl (W.r (X.lenSl Tryz.underlying33 rfl) rfl (W.mv rfl (W.nc rfl ?_))))))))))
 obtain ⟨b6_2, b7_2, a11_2, c11_2, d11_2, a12_2, c12_2, hi3, HS⟩ := signalmanref15_Arq.open HS
 refine W.fa fo71_3 rfl (W.ld 0 HS Tryz.underlying3 rfl rfl rfl rfl (W.r (X.cmp (decide ((a1.length : Int) > a0.size)) rfl rfl rfl rfl) rfl (W.nx ?_)))
 by_cases c4 : (a1.length : Int) > a0.size
 ·replace H := ite_t c4 H
  refine V.condT (sb (decide_eq_true c4)) (V.seq (V.region (W.as rfl (W.nx (V.ret (At.thenRet ?_))))))
  replace HS := signalmanref15_Arq.close trivial HS
  cases H
  exact At.ret1 rfl rfl ⟨_, rfl, rfl, HS⟩
 ·replace H := ite_f c4 H
  refine V.condF (sb (decide_eq_false c4)) (V.skip (At.next (V.seq (V.seq (V.region (W.mv rfl (W.nc rfl (W.fa fo71_4 rfl (W.ld 0 HS Tryz.underlying3 rfl rfl rfl rfl (W.r (X.cmp (!(decide (a0.state = 2))) rfl rfl rfl rfl) rfl (W.nx ?_)))))))))))
  by_cases c10 : a0.state = 2
  ·replace H := ite_t c10 H
   refine V.condF (sb (n_t (decide_eq_true c10))) (V.skip (At.next (V.seq (V.region (W.mv rfl (W.nc rfl (W.fa fo71_6 rfl (W.ld 0 HS Tryz.underlying66 rfl rfl rfl rfl (W.mv rfl ?_)))))))))
   obtain ⟨t11, A12, H⟩ := bind_s H
   replace HS := HS.pm [1, 0, 2, 3, 4, 5, 6]
   refine W.e (Y.cl Tryz.func53 (signalmanref6_Log_Add.calls A12 HS.j1 (rdC.part 5 hr1 rfl))) rfl ?_
   rintro _ w ⟨rfl, HS⟩
   replace HS := HS.o1
   refine W.as rfl (W.nx (V.seq (V.seq (V.region (W.mv rfl (W.r (X.cmp (!(decide (t11.1 = 0))) rfl rfl rfl rfl) rfl (W.nx ?_)))))))
   by_cases c13 : t11.1 = 0
   ·replace H := ite_t c13 H
    refine V.condF (sb (n_t (decide_eq_true c13))) (V.skip (At.next (V.seq (V.region (W.mv rfl (W.nc rfl (W.fa fo71_13 rfl (W.ld 1 HS Tryz.underlying3 rfl rfl rfl rfl (W.r (X.add rfl rfl) rfl (W.nc rfl (W.fa fo71_13 rfl (W.st 1 13 HS inf3 rfl rfl rfl rfl rfl rfl fun w HS => ?_))))))))))))
    refine W.nx (V.seq (V.region (W.mv rfl ?_)))
    replace HS := HS.pm [1, 0, 2, 3, 4, 5, 6]
    replace HS := signalmanref15_Arq.close trivial HS
    obtain ⟨t14, A15, H⟩ := bind_s H
    refine W.e (Y.cl Tryz.func54 (signalmanref15_Arq_pump.calls A15 HS.j1)) rfl ?_
    rintro _ w ⟨rfl, HS⟩
    replace HS := HS.o1
    refine W.nx (V.seq (V.region (W.as rfl (W.nx (V.ret ?_)))))
    cases H
    exact At.ret1 rfl rfl ⟨_, rfl, rfl, HS⟩
   ·replace H := ite_f c13 H
    refine V.condT (sb (n_f (decide_eq_false c13))) (V.seq (V.region (W.mv rfl (W.as rfl (W.nx (V.ret (At.thenRet ?_)))))))
    replace HS := HS.pm [1, 0, 2, 3, 4, 5, 6]
    replace HS := signalmanref15_Arq.close trivial HS
    cases H
    exact At.ret1 rfl rfl ⟨_, rfl, rfl, HS⟩
  ·replace H := ite_f c10 H
   refine V.condT (sb (n_f (decide_eq_false c10))) (V.seq (V.region (W.as rfl (W.nx (V.ret (At.thenRet ?_))))))
   replace HS := signalmanref15_Arq.close trivial HS
   cases H
   exact At.ret1 rfl rfl ⟨_, rfl, rfl, HS⟩
mutual
def signalmanref6_ReadCtl.l1 : Nat → (List Int) → Int → Int → Option (api_Ctl × Int × Int)
 | 0, _, _, _ => none
 | k + 1, a0, a1, x19 => (if x19 ≤ 7 then (signalmanref6_ReadCtl.l2 k a0 a1 x19 0) else (if 0 ≤ (0 : Int) ∧ (0 : Int) < (a0.length : Int) then (if (a0.getD (0 : Int).toNat 0) = 1 then (if a1 = 128 then (signalmanref6_ReadCtl.j3 a0 1) else (signalmanref6_ReadCtl.j3 a0 2)) else (if (a0.getD (0 : Int).toNat 0) = 9 then (if a1 = 128 then (signalmanref6_ReadCtl.j6 a0 1) else (signalmanref6_ReadCtl.j6 a0 2)) else (if ((a0.getD (0 : Int).toNat 0).tmod (2)) = 1 then some (({ Kind := 0, Ns := 0, Nr := 0, Poll := false } : api_Ctl), 0, 2) else (if a1 = 128 then (signalmanref6_ReadCtl.j9 a0 1) else (signalmanref6_ReadCtl.j9 a0 2))))) else none))
def signalmanref6_ReadCtl.l2 : Nat → (List Int) → Int → Int → Int → Option (api_Ctl × Int × Int)
 | 0, _, _, _, _ => none
 | k + 1, a0, a1, x19, x23 => (if x23 < 2 then (if 0 ≤ (0 : Int) ∧ (0 : Int) < (a0.length : Int) then ((signalmanref6_bare.f x19).bind fun t30 => (if (w64 (a0.getD (0 : Int).toNat 0)) = (w64 (t30 + (w64 (16 * x23)))) then some (({ Kind := x19, Ns := 0, Nr := 0, Poll := decide (x23 = 1) } : api_Ctl), 1, 0) else (signalmanref6_ReadCtl.l2 k a0 a1 x19 (w64 (x23 + 1))))) else none) else (signalmanref6_ReadCtl.l1 k a0 a1 (w64 (x19 + 1))))
def signalmanref6_ReadCtl.j5 (x40 : Int) (x50 : Int) (x54 : Bool) : Option (api_Ctl × Int × Int) := (if x54 = true then some (({ Kind := 0, Ns := 0, Nr := 0, Poll := false } : api_Ctl), 0, 2) else some ((({ Kind := 1, Ns := 0, Nr := w64 (x50.tdiv (2)), Poll := decide ((x50.tmod (2)) = 1) } : api_Ctl)), w64 (2 * x40), 0))
def signalmanref6_ReadCtl.j4 (a0 : List Int) (x40 : Int) (x49 : Int) (x50 : Int) : Option (api_Ctl × Int × Int) := (if x40 = 2 then (if 0 ≤ (1 : Int) ∧ (1 : Int) < (a0.length : Int) then (signalmanref6_ReadCtl.j5 x40 x50 (!(decide ((a0.getD (1 : Int).toNat 0) = 0)))) else none) else (signalmanref6_ReadCtl.j5 x40 x50 false))
def signalmanref6_ReadCtl.j3 (a0 : List Int) (x40 : Int) : Option (api_Ctl × Int × Int) := (if (a0.length : Int) < (w64 (2 * x40)) then some (({ Kind := 0, Ns := 0, Nr := 0, Poll := false } : api_Ctl), 0, 3) else (if 0 ≤ x40 ∧ x40 < (a0.length : Int) then (if x40 = 2 then (if 0 ≤ (1 : Int) ∧ (1 : Int) < (a0.length : Int) then (if 0 ≤ (3 : Int) ∧ (3 : Int) < (a0.length : Int) then (signalmanref6_ReadCtl.j4 a0 x40 (w64 ((w64 (a0.getD (0 : Int).toNat 0)) + (w64 (256 * (w64 (a0.getD (1 : Int).toNat 0)))))) (w64 ((w64 (a0.getD x40.toNat 0)) + (w64 (256 * (w64 (a0.getD (3 : Int).toNat 0))))))) else none) else none) else (signalmanref6_ReadCtl.j4 a0 x40 (w64 (a0.getD (0 : Int).toNat 0)) (w64 (a0.getD x40.toNat 0)))) else none))
def signalmanref6_ReadCtl.j8 (x74 : Int) (x84 : Int) (x88 : Bool) : Option (api_Ctl × Int × Int) := (if x88 = true then some (({ Kind := 0, Ns := 0, Nr := 0, Poll := false } : api_Ctl), 0, 2) else some ((({ Kind := 2, Ns := 0, Nr := w64 (x84.tdiv (2)), Poll := decide ((x84.tmod (2)) = 1) } : api_Ctl)), w64 (2 * x74), 0))
def signalmanref6_ReadCtl.j7 (a0 : List Int) (x74 : Int) (x83 : Int) (x84 : Int) : Option (api_Ctl × Int × Int) := (if x74 = 2 then (if 0 ≤ (1 : Int) ∧ (1 : Int) < (a0.length : Int) then (signalmanref6_ReadCtl.j8 x74 x84 (!(decide ((a0.getD (1 : Int).toNat 0) = 0)))) else none) else (signalmanref6_ReadCtl.j8 x74 x84 false))
def signalmanref6_ReadCtl.j6 (a0 : List Int) (x74 : Int) : Option (api_Ctl × Int × Int) := (if (a0.length : Int) < (w64 (2 * x74)) then some (({ Kind := 0, Ns := 0, Nr := 0, Poll := false } : api_Ctl), 0, 3) else (if 0 ≤ x74 ∧ x74 < (a0.length : Int) then (if x74 = 2 then (if 0 ≤ (1 : Int) ∧ (1 : Int) < (a0.length : Int) then (if 0 ≤ (3 : Int) ∧ (3 : Int) < (a0.length : Int) then (signalmanref6_ReadCtl.j7 a0 x74 (w64 ((w64 (a0.getD (0 : Int).toNat 0)) + (w64 (256 * (w64 (a0.getD (1 : Int).toNat 0)))))) (w64 ((w64 (a0.getD x74.toNat 0)) + (w64 (256 * (w64 (a0.getD (3 : Int).toNat 0))))))) else none) else none) else (signalmanref6_ReadCtl.j7 a0 x74 (w64 (a0.getD (0 : Int).toNat 0)) (w64 (a0.getD x74.toNat 0)))) else none))
def signalmanref6_ReadCtl.j10 (x113 : Int) (x122 : Int) (x123 : Int) : Option (api_Ctl × Int × Int) := some (({ Kind := 0, Ns := w64 (x122.tdiv (2)), Nr := w64 (x123.tdiv (2)), Poll := decide ((x123.tmod (2)) = 1) } : api_Ctl), w64 (2 * x113), 0)
def signalmanref6_ReadCtl.j9 (a0 : List Int) (x113 : Int) : Option (api_Ctl × Int × Int) := (if (a0.length : Int) < (w64 (2 * x113)) then some (({ Kind := 0, Ns := 0, Nr := 0, Poll := false } : api_Ctl), 0, 3) else (if 0 ≤ x113 ∧ x113 < (a0.length : Int) then (if x113 = 2 then (if 0 ≤ (1 : Int) ∧ (1 : Int) < (a0.length : Int) then (if 0 ≤ (3 : Int) ∧ (3 : Int) < (a0.length : Int) then (signalmanref6_ReadCtl.j10 x113 (w64 ((w64 (a0.getD (0 : Int).toNat 0)) + (w64 (256 * (w64 (a0.getD (1 : Int).toNat 0)))))) (w64 ((w64 (a0.getD x113.toNat 0)) + (w64 (256 * (w64 (a0.getD (3 : Int).toNat 0))))))) else none) else none) else (signalmanref6_ReadCtl.j10 x113 (w64 (a0.getD (0 : Int).toNat 0)) (w64 (a0.getD x113.toNat 0)))) else none))
def signalmanref6_ReadCtl.j0 (k : Nat) (a0 : List Int) (a1 : Int) (x5 : Bool) : Option (api_Ctl × Int × Int) := (if x5 = true then some (({ Kind := 0, Ns := 0, Nr := 0, Poll := false } : api_Ctl), 0, 1) else (if (a0.length : Int) = 0 then some (({ Kind := 0, Ns := 0, Nr := 0, Poll := false } : api_Ctl), 0, 3) else (signalmanref6_ReadCtl.l1 k a0 a1 3)))
end
def signalmanref6_ReadCtl.f (k : Nat) (a0 : List Int) (a1 : Int) : Option (api_Ctl × Int × Int) := (if a1 = 128 then (signalmanref6_ReadCtl.j0 k a0 a1 false) else (signalmanref6_ReadCtl.j0 k a0 a1 (!(decide (a1 = 32768)))))
theorem signalmanref6_ReadCtl.calls {k : Nat} {a0 : List Int} {a1 : Int} {R : As} {w0 w : World} {sa0 : Option Addr} {sc0 : Nat} {r : api_Ctl × Int × Int} (H : signalmanref6_ReadCtl.f k a0 a1 = some r) (HS : Sep.St [R] w0 w) (hr0 : rdC R 1 (.slice sa0 a0.length sc0) a0.length (a0.map (Value.int .u8))) : Calls Tryz.prog 62 #[Value.slice sa0 a0.length sc0, Value.int .i64 a1] w (Ret fun u w => u = Value.tuple #[Value.agg #[Value.int .i64 r.1.Kind, Value.int .i64 r.1.Ns, Value.int .i64 r.1.Nr, Value.bool r.1.Poll], Value.int .i64 r.2.1, Value.int .i64 r.2.2] ∧ Sep.St [R] w0 w) := by
 unfold signalmanref6_ReadCtl.f at H
 refine calls_enter Tryz.func62 rfl rfl ?_
 have H : _ = some r := H
 refine V.seq (V.region (W.e (Y.alloc (z := Value.agg (#[Value.int .i64 (0), Value.int .i64 (0), Value.int .i64 (0), Value.bool false])) HS ze32) rfl ?_))
 rintro _ w ⟨nb1, rfl, HS⟩
 refine W.as rfl (W.as rfl (W.nx (V.seq (V.region (W.e (Y.alloc (z := Value.agg (#[Value.int .i64 (0), Value.int .i64 (0), Value.int .i64 (0), Value.bool false])) HS ze32) rfl ?_)))))
 rintro _ w ⟨nb2, rfl, HS⟩
 refine W.nx (V.seq (V.meet (σ := Bool) (fun st w => match st with | x5 => Sep.St [api_Ctl.at nb1 ({ Kind := 0, Ns := 0, Nr := 0, Poll := false } : api_Ctl), api_Ctl.at nb2 ({ Kind := 0, Ns := 0, Nr := 0, Poll := false } : api_Ctl), R] w0 w ∧ ∃ kf6, kf6 ≤ k ∧ signalmanref6_ReadCtl.j0 kf6 a0 a1 x5 = some r) (fun st => match st with | x5 => [(0, Value.slice sa0 a0.length sc0), (1, Value.int .i64 a1), (4, Value.pointer (some ⟨nb1, 0, none⟩)), (7, Value.pointer (some ⟨nb2, 0, none⟩)), (20, Value.bool x5)]) ?_ ?_))
 ·refine V.region (W.mv rfl (W.r (X.cmp (!(decide (a1 = 128))) rfl rfl rfl rfl) rfl (W.mv rfl ?_)))
  by_cases c133 : a1 = 128
  ·replace H := ite_t c133 H
   refine W.pass 17 rfl (sb (n_t (decide_eq_true c133))) rfl rfl (W.pass 17 rfl (sb (n_t (decide_eq_true c133))) rfl rfl (W.r (X.pickF (sb (n_t (decide_eq_true c133))) rfl) rfl (W.nil ?_)))
   replace HS := HS.pm [1, 0, 2]
   replace HS := api_Ctl.close trivial HS
   replace HS := HS.pm [1, 0, 2]
   replace HS := api_Ctl.close trivial HS
   replace HS := HS.pk [1, 0, 2] []
   exact At.meet false ⟨rfl, rfl, rfl, rfl, rfl, trivial⟩ ⟨HS, k, by omega, H⟩
  ·replace H := ite_f c133 H
   refine W.want 17 rfl (sb (n_f (decide_eq_false c133))) (W.mv rfl (W.want 17 rfl (sb (n_f (decide_eq_false c133))) (W.r (X.cmp (!(decide (a1 = 32768))) rfl rfl rfl rfl) rfl (W.r (X.pickT (sb (n_f (decide_eq_false c133))) rfl) rfl (W.nil ?_)))))
   replace HS := HS.pm [1, 0, 2]
   replace HS := api_Ctl.close trivial HS
   replace HS := HS.pm [1, 0, 2]
   replace HS := api_Ctl.close trivial HS
   replace HS := HS.pk [1, 0, 2] []
   exact At.meet (!(decide (a1 = 32768))) ⟨rfl, rfl, rfl, rfl, rfl, trivial⟩ ⟨HS, k, by omega, H⟩
 ·rintro x5 w ⟨HS, kf6, hkkf6, H⟩
  unfold signalmanref6_ReadCtl.j0 at H
  by_cases c7 : x5 = true
  ·replace H := ite_t c7 H
   refine V.condT (sb c7) (V.seq (V.region ?_))
   replace HS := HS.fr 1
   obtain ⟨hi9, HS⟩ := api_Ctl.open HS
   refine W.r (X.loadSt 0 [Value.int .i64 (({ Kind := 0, Ns := 0, Nr := 0, Poll := false } : api_Ctl).Kind), Value.int .i64 (({ Kind := 0, Ns := 0, Nr := 0, Poll := false } : api_Ctl).Ns), Value.int .i64 (({ Kind := 0, Ns := 0, Nr := 0, Poll := false } : api_Ctl).Nr), Value.bool (({ Kind := 0, Ns := 0, Nr := 0, Poll := false } : api_Ctl).Poll)] HS rfl Tryz.underlying32 rfl inf32 rfl rfl) rfl ?_
   replace HS := HS.fr 1
   obtain ⟨hi11, HS⟩ := api_Ctl.open HS
   refine W.en (Y.storeSt (c' := #[Value.int .i64 (({ Kind := 0, Ns := 0, Nr := 0, Poll := false } : api_Ctl).Kind), Value.int .i64 (({ Kind := 0, Ns := 0, Nr := 0, Poll := false } : api_Ctl).Ns), Value.int .i64 (({ Kind := 0, Ns := 0, Nr := 0, Poll := false } : api_Ctl).Nr), Value.bool (({ Kind := 0, Ns := 0, Nr := 0, Poll := false } : api_Ctl).Poll)]) 0 [Value.int .i64 (({ Kind := 0, Ns := 0, Nr := 0, Poll := false } : api_Ctl).Kind), Value.int .i64 (({ Kind := 0, Ns := 0, Nr := 0, Poll := false } : api_Ctl).Ns), Value.int .i64 (({ Kind := 0, Ns := 0, Nr := 0, Poll := false } : api_Ctl).Nr), Value.bool (({ Kind := 0, Ns := 0, Nr := 0, Poll := false } : api_Ctl).Poll)] HS rfl inf32 rfl rfl rfl rfl rfl rfl) rfl ?_
   rintro _ w HS
   refine W.as rfl (W.as rfl (W.nx (V.ret (At.thenRet ?_))))
   have hv12 := run_loadSt (P := Tryz.prog) (p := 0) 0 [Value.int .i64 (({ Kind := 0, Ns := 0, Nr := 0, Poll := false } : api_Ctl).Kind), Value.int .i64 (({ Kind := 0, Ns := 0, Nr := 0, Poll := false } : api_Ctl).Ns), Value.int .i64 (({ Kind := 0, Ns := 0, Nr := 0, Poll := false } : api_Ctl).Nr), Value.bool (({ Kind := 0, Ns := 0, Nr := 0, Poll := false } : api_Ctl).Poll)] HS rfl Tryz.underlying32 rfl inf32 rfl
   replace HS := HS.pk [2] [0, 1]
   cases H
   exact At.retv3 rfl ⟨_, rfl, hv12⟩ rfl rfl ⟨_, rfl, rfl, HS⟩
  ·replace H := ite_f c7 H
   refine V.condF (sb (b_f c7)) (V.skip (At.next (V.seq (V.seq (V.region (W.mv rfl (W.r (X.lenSl Tryz.underlying33 rfl) rfl (W.r (X.cmp (decide ((a0.length : Int) = 0)) rfl rfl rfl rfl) rfl (W.nx ?_)))))))))
   by_cases c13 : (a0.length : Int) = 0
   ·replace H := ite_t c13 H
    refine V.condT (sb (decide_eq_true c13)) (V.seq (V.region ?_))
    replace HS := HS.fr 1
    obtain ⟨hi15, HS⟩ := api_Ctl.open HS
    refine W.r (X.loadSt 0 [Value.int .i64 (({ Kind := 0, Ns := 0, Nr := 0, Poll := false } : api_Ctl).Kind), Value.int .i64 (({ Kind := 0, Ns := 0, Nr := 0, Poll := false } : api_Ctl).Ns), Value.int .i64 (({ Kind := 0, Ns := 0, Nr := 0, Poll := false } : api_Ctl).Nr), Value.bool (({ Kind := 0, Ns := 0, Nr := 0, Poll := false } : api_Ctl).Poll)] HS rfl Tryz.underlying32 rfl inf32 rfl rfl) rfl ?_
    replace HS := HS.fr 1
    obtain ⟨hi17, HS⟩ := api_Ctl.open HS
    refine W.en (Y.storeSt (c' := #[Value.int .i64 (({ Kind := 0, Ns := 0, Nr := 0, Poll := false } : api_Ctl).Kind), Value.int .i64 (({ Kind := 0, Ns := 0, Nr := 0, Poll := false } : api_Ctl).Ns), Value.int .i64 (({ Kind := 0, Ns := 0, Nr := 0, Poll := false } : api_Ctl).Nr), Value.bool (({ Kind := 0, Ns := 0, Nr := 0, Poll := false } : api_Ctl).Poll)]) 0 [Value.int .i64 (({ Kind := 0, Ns := 0, Nr := 0, Poll := false } : api_Ctl).Kind), Value.int .i64 (({ Kind := 0, Ns := 0, Nr := 0, Poll := false } : api_Ctl).Ns), Value.int .i64 (({ Kind := 0, Ns := 0, Nr := 0, Poll := false } : api_Ctl).Nr), Value.bool (({ Kind := 0, Ns := 0, Nr := 0, Poll := false } : api_Ctl).Poll)] HS rfl inf32 rfl rfl rfl rfl rfl rfl) rfl ?_
    rintro _ w HS
    refine W.as rfl (W.as rfl (W.nx (V.ret (At.thenRet ?_))))
    have hv18 := run_loadSt (P := Tryz.prog) (p := 0) 0 [Value.int .i64 (({ Kind := 0, Ns := 0, Nr := 0, Poll := false } : api_Ctl).Kind), Value.int .i64 (({ Kind := 0, Ns := 0, Nr := 0, Poll := false } : api_Ctl).Ns), Value.int .i64 (({ Kind := 0, Ns := 0, Nr := 0, Poll := false } : api_Ctl).Nr), Value.bool (({ Kind := 0, Ns := 0, Nr := 0, Poll := false } : api_Ctl).Poll)] HS rfl Tryz.underlying32 rfl inf32 rfl
    replace HS := HS.pk [2] [0, 1]
    cases H
    exact At.retv3 rfl ⟨_, rfl, hv18⟩ rfl rfl ⟨_, rfl, rfl, HS⟩
   ·replace H := ite_f c13 H
    refine V.condF (sb (decide_eq_false c13)) (V.skip (At.next (V.seq (V.seq (V.region (W.as rfl (W.nx (V.block (V.loop (σ := Int) (fun kq (st : Int) w => match st with | x19 => Sep.St [api_Ctl.at nb1 ({ Kind := 0, Ns := 0, Nr := 0, Poll := false } : api_Ctl), api_Ctl.at nb2 ({ Kind := 0, Ns := 0, Nr := 0, Poll := false } : api_Ctl), R] w0 w ∧ signalmanref6_ReadCtl.l1 kq a0 a1 x19 = some r ∧ kq ≤ kf6) (fun st => match st with | x19 => [(0, Value.slice sa0 a0.length sc0), (1, Value.int .i64 a1), (4, Value.pointer (some ⟨nb1, 0, none⟩)), (7, Value.pointer (some ⟨nb2, 0, none⟩)), (8, Value.int .i64 x19)]) kf6 (3) ⟨rfl, rfl, rfl, rfl, rfl, trivial⟩ ⟨HS, H, Nat.le_refl _⟩ ?_)))))))))
    rintro kq20 x19 w ⟨HS, H, hk21⟩
    cases kq20 with
    | zero => exact absurd H (by simp [signalmanref6_ReadCtl.l1])
    | succ kq20 =>
     simp only [signalmanref6_ReadCtl.l1] at H
     refine V.seq (V.seq (V.region (W.mv rfl (W.r (X.cmp (decide (x19 ≤ 7)) rfl rfl rfl rfl) rfl (W.nx ?_)))))
     by_cases c22 : x19 ≤ 7
     ·replace H := ite_t c22 H
      refine V.condT (sb (decide_eq_true c22)) (V.skip (At.next (V.seq (V.block (V.seq (V.region (W.as rfl (W.nx (V.block (V.loop (σ := Int) (fun kq (st : Int) w => match st with | x23 => Sep.St [api_Ctl.at nb1 ({ Kind := 0, Ns := 0, Nr := 0, Poll := false } : api_Ctl), api_Ctl.at nb2 ({ Kind := 0, Ns := 0, Nr := 0, Poll := false } : api_Ctl), R] w0 w ∧ signalmanref6_ReadCtl.l2 kq a0 a1 x19 x23 = some r ∧ kq ≤ kq20) (fun st => match st with | x23 => [(0, Value.slice sa0 a0.length sc0), (1, Value.int .i64 a1), (4, Value.pointer (some ⟨nb1, 0, none⟩)), (7, Value.pointer (some ⟨nb2, 0, none⟩)), (8, Value.int .i64 x19), (9, Value.int .i64 x23)]) kq20 (0) ⟨rfl, rfl, rfl, rfl, rfl, rfl, trivial⟩ ⟨HS, H, Nat.le_refl _⟩ ?_))))))))))
      rintro kq24 x23 w ⟨HS, H, hk25⟩
      cases kq24 with
      | zero => exact absurd H (by simp [signalmanref6_ReadCtl.l2])
      | succ kq24 =>
       simp only [signalmanref6_ReadCtl.l2] at H
       refine V.seq (V.seq (V.region (W.mv rfl (W.r (X.cmp (decide (x23 < 2)) rfl rfl rfl rfl) rfl (W.nx ?_)))))
       by_cases c26 : x23 < 2
       ·replace H := ite_t c26 H
        refine V.condT (sb (decide_eq_true c26)) (V.skip (At.next (V.seq (V.block (V.seq ?_)))))
        obtain ⟨c27, H⟩ := ite_n H
        obtain ⟨eb28, eo29, hh⟩ := (rdC.at 2 hr0 HS rfl).some (by decide) c27.1 c27.2; subst hh
        refine V.dr [5] [8, 9] [(34, Value.slice (some ⟨eb28, eo29, none⟩) a0.length sc0), (35, Value.pointer (some ⟨eb28, eo29 + (0 : Int).toNat * 1, none⟩)), (36, Value.int .u8 (a0.getD (0 : Int).toNat 0)), (37, Value.int .i64 (w64 (a0.getD (0 : Int).toNat 0))), (38, Value.int .i64 x19), (40, Value.int .i64 x23), (41, Value.int .i64 (w64 (16 * x23)))] mo HS ?_
        refine T.ev [(38, _)] [] [4] ⟨rfl, trivial⟩ ⟨.mv 0, .n1 34 rfl rfl (fun w HS => X.indexSl Tryz.underlying33 inf5 rfl rfl c27.1 c27.2), .n1 35 rfl rfl (fun w HS => X.load Tryz.underlying5 rfl rfl ((rdC.at 2 hr0 HS rfl).cellI c27.1 c27.2)), .n1 36 rfl rfl (fun w HS => X.conv Tryz.underlying5 Tryz.underlying3 rfl), .mv 8, .mv 9, .n1 40 rfl rfl (fun w HS => X.mul rfl rfl), trivial⟩ rfl (fun w HS => ?_)
        obtain ⟨t30, A31, H⟩ := bind_s H
        refine ⟨_, Y.cl Tryz.func83 (signalmanref6_bare.calls A31 HS.j0), ?_⟩
        rintro _ w ⟨rfl, HS⟩
        replace HS := HS.o0
        refine T.nm [(39, Value.int .i64 t30), (42, Value.int .i64 (w64 (t30 + (w64 (16 * x23))))), (43, Value.bool (decide ((w64 (a0.getD (0 : Int).toNat 0)) = (w64 (t30 + (w64 (16 * x23)))))))] HS ⟨.inl ⟨rfl, rfl⟩, ⟨.inr ⟨by decide, rfl⟩, ⟨.inr ⟨by decide, rfl⟩, trivial⟩⟩⟩ ?_
        refine T.fn [(0, _), (1, _), (4, _), (7, _), (8, _), (9, _), (43, _)] ⟨rfl, rfl, rfl, rfl, rfl, rfl, rfl, trivial⟩ ⟨.mv 0, .n1 34 rfl rfl (fun w HS => X.indexSl Tryz.underlying33 inf5 rfl rfl c27.1 c27.2), .n1 35 rfl rfl (fun w HS => X.load Tryz.underlying5 rfl rfl ((rdC.at 2 hr0 HS rfl).cellI c27.1 c27.2)), .n1 36 rfl rfl (fun w HS => X.conv Tryz.underlying5 Tryz.underlying3 rfl), .mv 9, .n1 40 rfl rfl (fun w HS => X.mul rfl rfl), .n2 39 41 rfl rfl rfl (fun w HS => X.add rfl rfl), .n2 37 42 rfl rfl rfl (fun w HS => X.cmp (decide ((w64 (a0.getD (0 : Int).toNat 0)) = (w64 (t30 + (w64 (16 * x23)))))) rfl rfl rfl rfl), trivial⟩ (fun w HS => ?_)
        refine At.next ?_
        by_cases c32 : (w64 (a0.getD (0 : Int).toNat 0)) = (w64 (t30 + (w64 (16 * x23))))
        ·replace H := ite_t c32 H
         refine V.condT (sb (decide_eq_true c32)) (V.seq (V.region (W.mv rfl (W.mv rfl (W.r (X.cmp (decide (x23 = 1)) rfl rfl rfl rfl) rfl (W.r (X.bd (Value.agg #[Value.int .i64 x19, Value.int .i64 (0), Value.int .i64 (0), Value.bool (decide (x23 = 1))]) rfl (fun _ => by kernel_rfl)) rfl ?_))))))
         obtain ⟨hi34, HS⟩ := api_Ctl.open HS
         refine W.en (Y.storeSt (c' := #[Value.int .i64 x19, Value.int .i64 (0), Value.int .i64 (0), Value.bool (decide (x23 = 1))]) 0 [Value.int .i64 x19, Value.int .i64 (0), Value.int .i64 (0), Value.bool (decide (x23 = 1))] HS rfl inf32 rfl rfl rfl rfl rfl rfl) rfl ?_
         rintro _ w HS
         refine W.as rfl (W.as rfl (W.nx (V.ret (At.blockRet (At.thenRet (At.thenRet (At.blockRet (At.blockRet (At.thenRet (At.thenRet (At.blockRet (At.thenRet ?_))))))))))))
         have hv35 := run_loadSt (P := Tryz.prog) (p := 0) 0 [Value.int .i64 x19, Value.int .i64 (0), Value.int .i64 (0), Value.bool (decide (x23 = 1))] HS rfl Tryz.underlying32 rfl inf32 rfl
         replace HS := HS.pk [2] [0, 1]
         cases H
         exact At.retv3 rfl ⟨_, rfl, hv35⟩ rfl rfl ⟨_, rfl, rfl, HS⟩
        ·replace H := ite_f c32 H
         refine V.condF (sb (decide_eq_false c32)) (V.skip (At.blockEnd (At.next (V.region (W.mv rfl (W.r (X.add rfl rfl) rfl (W.as rfl (W.nil ?_))))))))
         exact At.round kq24 (by omega) (w64 (x23 + 1)) ⟨rfl, rfl, rfl, rfl, rfl, rfl, trivial⟩ ⟨HS, H, by omega⟩
       ·replace H := ite_f c26 H
        refine V.condF (sb (decide_eq_false c26)) (V.exit (At.thenExit (At.thenExit (At.blockExit (At.blockEnd (At.next (V.region (W.mv rfl (W.r (X.add rfl rfl) rfl (W.as rfl (W.nil ?_)))))))))))
        exact At.round kq24 (by omega) (w64 (x19 + 1)) ⟨rfl, rfl, rfl, rfl, rfl, trivial⟩ ⟨HS, H, by omega⟩
     ·replace H := ite_f c22 H
      refine V.condF (sb (decide_eq_false c22)) (V.exit (At.thenExit (At.thenExit (At.blockExit (At.next (V.seq (V.region (W.as rfl (W.nx (V.seq (V.block (V.seq (V.region (W.mv rfl ?_))))))))))))))
      obtain ⟨c36, H⟩ := ite_n H
      obtain ⟨eb37, eo38, hh⟩ := (rdC.at 2 hr0 HS rfl).some (by decide) c36.1 c36.2; subst hh
      refine W.r (X.indexSl Tryz.underlying33 inf5 rfl rfl c36.1 c36.2) rfl (W.r (X.load Tryz.underlying5 rfl rfl ((rdC.at 2 hr0 HS rfl).cellI c36.1 c36.2)) rfl (W.r (X.cmp (decide ((a0.getD (0 : Int).toNat 0) = 1)) rfl rfl rfl rfl) rfl (W.as rfl (W.nx ?_))))
      by_cases c39 : (a0.getD (0 : Int).toNat 0) = 1
      ·replace H := ite_t c39 H
       refine V.condT (sb (decide_eq_true c39)) (V.region (W.as rfl (W.nil (At.blockEnd (At.next (V.seq (V.region (W.as rfl (W.nx (V.meet (σ := Int) (fun st w => match st with | x40 => Sep.St [api_Ctl.at nb1 ({ Kind := 0, Ns := 0, Nr := 0, Poll := false } : api_Ctl), api_Ctl.at nb2 ({ Kind := 0, Ns := 0, Nr := 0, Poll := false } : api_Ctl), R] w0 w ∧ signalmanref6_ReadCtl.j3 a0 x40 = some r) (fun st => match st with | x40 => [(0, Value.slice (some ⟨eb37, eo38, none⟩) a0.length sc0), (4, Value.pointer (some ⟨nb1, 0, none⟩)), (7, Value.pointer (some ⟨nb2, 0, none⟩)), (10, Value.int .i64 (1)), (11, Value.int .i64 x40)]) ?_ ?_))))))))))
       ·refine V.seq (V.region (W.mv rfl (W.r (X.cmp (!(decide (a1 = 128))) rfl rfl rfl rfl) rfl (W.nx ?_))))
        by_cases c72 : a1 = 128
        ·replace H := ite_t c72 H
         refine V.condF (sb (n_t (decide_eq_true c72))) (V.skip ?_)
         exact At.meet (1) ⟨rfl, rfl, rfl, rfl, rfl, trivial⟩ ⟨HS, H⟩
        ·replace H := ite_f c72 H
         refine V.condT (sb (n_f (decide_eq_false c72))) (V.region (W.as rfl (W.nil ?_)))
         exact At.meet (2) ⟨rfl, rfl, rfl, rfl, rfl, trivial⟩ ⟨HS, H⟩
       ·rintro x40 w ⟨HS, H⟩
        unfold signalmanref6_ReadCtl.j3 at H
        refine V.seq (V.seq (V.region (W.mv rfl (W.r (X.lenSl Tryz.underlying33 rfl) rfl (W.mv rfl (W.r (X.mul rfl rfl) rfl (W.r (X.cmp (decide ((a0.length : Int) < (w64 (2 * x40)))) rfl rfl rfl rfl) rfl (W.nx ?_))))))))
        by_cases c42 : (a0.length : Int) < (w64 (2 * x40))
        ·replace H := ite_t c42 H
         refine V.condT (sb (decide_eq_true c42)) (V.seq (V.region ?_))
         replace HS := HS.fr 1
         obtain ⟨hi44, HS⟩ := api_Ctl.open HS
         refine W.r (X.loadSt 0 [Value.int .i64 (({ Kind := 0, Ns := 0, Nr := 0, Poll := false } : api_Ctl).Kind), Value.int .i64 (({ Kind := 0, Ns := 0, Nr := 0, Poll := false } : api_Ctl).Ns), Value.int .i64 (({ Kind := 0, Ns := 0, Nr := 0, Poll := false } : api_Ctl).Nr), Value.bool (({ Kind := 0, Ns := 0, Nr := 0, Poll := false } : api_Ctl).Poll)] HS rfl Tryz.underlying32 rfl inf32 rfl rfl) rfl ?_
         replace HS := HS.fr 1
         obtain ⟨hi46, HS⟩ := api_Ctl.open HS
         refine W.en (Y.storeSt (c' := #[Value.int .i64 (({ Kind := 0, Ns := 0, Nr := 0, Poll := false } : api_Ctl).Kind), Value.int .i64 (({ Kind := 0, Ns := 0, Nr := 0, Poll := false } : api_Ctl).Ns), Value.int .i64 (({ Kind := 0, Ns := 0, Nr := 0, Poll := false } : api_Ctl).Nr), Value.bool (({ Kind := 0, Ns := 0, Nr := 0, Poll := false } : api_Ctl).Poll)]) 0 [Value.int .i64 (({ Kind := 0, Ns := 0, Nr := 0, Poll := false } : api_Ctl).Kind), Value.int .i64 (({ Kind := 0, Ns := 0, Nr := 0, Poll := false } : api_Ctl).Ns), Value.int .i64 (({ Kind := 0, Ns := 0, Nr := 0, Poll := false } : api_Ctl).Nr), Value.bool (({ Kind := 0, Ns := 0, Nr := 0, Poll := false } : api_Ctl).Poll)] HS rfl inf32 rfl rfl rfl rfl rfl rfl) rfl ?_
         rintro _ w HS
         refine W.as rfl (W.as rfl (W.nx (V.ret (At.thenRet ?_))))
         have hv47 := run_loadSt (P := Tryz.prog) (p := 0) 0 [Value.int .i64 (({ Kind := 0, Ns := 0, Nr := 0, Poll := false } : api_Ctl).Kind), Value.int .i64 (({ Kind := 0, Ns := 0, Nr := 0, Poll := false } : api_Ctl).Ns), Value.int .i64 (({ Kind := 0, Ns := 0, Nr := 0, Poll := false } : api_Ctl).Nr), Value.bool (({ Kind := 0, Ns := 0, Nr := 0, Poll := false } : api_Ctl).Poll)] HS rfl Tryz.underlying32 rfl inf32 rfl
         replace HS := HS.pk [2] [0, 1]
         cases H
         exact At.retv3 rfl ⟨_, rfl, hv47⟩ rfl rfl ⟨_, rfl, rfl, HS⟩
        ·replace H := ite_f c42 H
         refine V.condF (sb (decide_eq_false c42)) (V.skip (At.next (V.seq (V.region (W.mv rfl (W.r (X.indexSl Tryz.underlying33 inf5 rfl rfl c36.1 c36.2) rfl (W.r (X.load Tryz.underlying5 rfl rfl ((rdC.at 2 hr0 HS rfl).cellI c36.1 c36.2)) rfl (W.r (X.conv Tryz.underlying5 Tryz.underlying3 rfl) rfl (W.as rfl (W.nx (V.seq (V.region (W.mv rfl (W.mv rfl ?_))))))))))))))
         obtain ⟨c48, H⟩ := ite_n H
         refine W.r (X.indexSl Tryz.underlying33 inf5 rfl rfl c48.1 c48.2) rfl (W.r (X.load Tryz.underlying5 rfl rfl ((rdC.at 2 hr0 HS rfl).cellI c48.1 c48.2)) rfl (W.r (X.conv Tryz.underlying5 Tryz.underlying3 rfl) rfl (W.as rfl (W.nx (V.meet (σ := Int × Int) (fun st w => match st with | (x49, x50) => Sep.St [api_Ctl.at nb1 ({ Kind := 0, Ns := 0, Nr := 0, Poll := false } : api_Ctl), api_Ctl.at nb2 ({ Kind := 0, Ns := 0, Nr := 0, Poll := false } : api_Ctl), R] w0 w ∧ signalmanref6_ReadCtl.j4 a0 x40 x49 x50 = some r) (fun st => match st with | (x49, x50) => [(0, Value.slice (some ⟨eb37, eo38, none⟩) a0.length sc0), (4, Value.pointer (some ⟨nb1, 0, none⟩)), (7, Value.pointer (some ⟨nb2, 0, none⟩)), (10, Value.int .i64 (1)), (11, Value.int .i64 x40), (12, Value.int .i64 x49), (13, Value.int .i64 x50)]) ?_ ?_)))))
         ·refine V.seq (V.region (W.mv rfl (W.r (X.cmp (decide (x40 = 2)) rfl rfl rfl rfl) rfl (W.nx ?_))))
          by_cases c69 : x40 = 2
          ·replace H := ite_t c69 H
           refine V.condT (sb (decide_eq_true c69)) (V.seq (V.region (W.mv rfl (W.mv rfl ?_))))
           obtain ⟨c70, H⟩ := ite_n H
           refine W.r (X.indexSl Tryz.underlying33 inf5 rfl rfl c70.1 c70.2) rfl (W.r (X.load Tryz.underlying5 rfl rfl ((rdC.at 2 hr0 HS rfl).cellI c70.1 c70.2)) rfl (W.r (X.conv Tryz.underlying5 Tryz.underlying3 rfl) rfl (W.r (X.mul rfl rfl) rfl (W.r (X.add rfl rfl) rfl (W.as rfl (W.nx (V.region (W.mv rfl (W.mv rfl ?_)))))))))
           obtain ⟨c71, H⟩ := ite_n H
           refine W.r (X.indexSl Tryz.underlying33 inf5 rfl rfl c71.1 c71.2) rfl (W.r (X.load Tryz.underlying5 rfl rfl ((rdC.at 2 hr0 HS rfl).cellI c71.1 c71.2)) rfl (W.r (X.conv Tryz.underlying5 Tryz.underlying3 rfl) rfl (W.r (X.mul rfl rfl) rfl (W.r (X.add rfl rfl) rfl (W.as rfl (W.nil ?_))))))
           exact At.meet (w64 ((w64 (a0.getD (0 : Int).toNat 0)) + (w64 (256 * (w64 (a0.getD (1 : Int).toNat 0))))), w64 ((w64 (a0.getD x40.toNat 0)) + (w64 (256 * (w64 (a0.getD (3 : Int).toNat 0)))))) ⟨rfl, rfl, rfl, rfl, rfl, rfl, rfl, trivial⟩ ⟨HS, H⟩
          ·replace H := ite_f c69 H
           refine V.condF (sb (decide_eq_false c69)) (V.skip ?_)
           exact At.meet (w64 (a0.getD (0 : Int).toNat 0), w64 (a0.getD x40.toNat 0)) ⟨rfl, rfl, rfl, rfl, rfl, rfl, rfl, trivial⟩ ⟨HS, H⟩
         ·rintro ⟨x49, x50⟩ w ⟨HS, H⟩
          unfold signalmanref6_ReadCtl.j4 at H
          refine V.seq (V.region (W.mv rfl (W.mv rfl (W.r (X.quo rfl rfl (by decide)) rfl (W.mv rfl (W.r (X.rem rfl rfl (by decide)) rfl (W.r (X.cmp (decide ((x50.tmod (2)) = 1)) rfl rfl rfl rfl) rfl (W.r (X.bd (Value.agg #[Value.int .i64 (1), Value.int .i64 (0), Value.int .i64 (w64 (x50.tdiv (2))), Value.bool (decide ((x50.tmod (2)) = 1))]) rfl (fun _ => by kernel_rfl)) rfl (W.e (Y.alloc (z := Value.agg (#[Value.int .i64 (0), Value.int .i64 (0), Value.int .i64 (0), Value.bool false])) HS ze32) rfl ?_)))))))))
          rintro _ w ⟨nb52, rfl, HS⟩
          refine W.en (Y.storeSt (c' := #[Value.int .i64 (1), Value.int .i64 (0), Value.int .i64 (w64 (x50.tdiv (2))), Value.bool (decide ((x50.tmod (2)) = 1))]) 0 [Value.int .i64 (1), Value.int .i64 (0), Value.int .i64 (w64 (x50.tdiv (2))), Value.bool (decide ((x50.tmod (2)) = 1))] HS rfl inf32 rfl rfl rfl rfl rfl rfl) rfl ?_
          rintro _ w HS
          refine W.nx (V.seq (V.seq (V.region (W.mv rfl (W.r (X.cmp false (by decide) rfl rfl rfl) rfl (W.nx (V.condF rfl (V.meet (σ := Bool) (fun st w => match st with | x54 => Sep.St [api_Ctl.at nb52 (({ Kind := 1, Ns := 0, Nr := w64 (x50.tdiv (2)), Poll := decide ((x50.tmod (2)) = 1) } : api_Ctl)), api_Ctl.at nb1 ({ Kind := 0, Ns := 0, Nr := 0, Poll := false } : api_Ctl), api_Ctl.at nb2 ({ Kind := 0, Ns := 0, Nr := 0, Poll := false } : api_Ctl), R] w0 w ∧ signalmanref6_ReadCtl.j5 x40 x50 x54 = some r) (fun st => match st with | x54 => [(4, Value.pointer (some ⟨nb1, 0, none⟩)), (7, Value.pointer (some ⟨nb2, 0, none⟩)), (11, Value.int .i64 x40), (14, Value.pointer (some ⟨nb52, 0, none⟩)), (117, Value.bool x54)]) ?_ ?_))))))))
          ·refine V.region (W.mv rfl (W.r (X.cmp (decide (x40 = 2)) rfl rfl rfl rfl) rfl (W.mv rfl ?_)))
           by_cases c67 : x40 = 2
           ·replace H := ite_t c67 H
            refine W.want 112 rfl (sb (decide_eq_true c67)) (W.mv rfl (W.want 112 rfl (sb (decide_eq_true c67)) ?_))
            obtain ⟨c68, H⟩ := ite_n H
            refine W.r (X.indexSl Tryz.underlying33 inf5 rfl rfl c68.1 c68.2) rfl (W.want 112 rfl (sb (decide_eq_true c67)) (W.r (X.load Tryz.underlying5 rfl rfl ((rdC.at 3 hr0 HS rfl).cellI c68.1 c68.2)) rfl (W.want 112 rfl (sb (decide_eq_true c67)) (W.r (X.cmp (!(decide ((a0.getD (1 : Int).toNat 0) = 0))) rfl rfl rfl rfl) rfl (W.r (X.pickT (sb (decide_eq_true c67)) rfl) rfl (W.nil ?_))))))
            replace HS := api_Ctl.close trivial HS
            exact At.meet (!(decide ((a0.getD (1 : Int).toNat 0) = 0))) ⟨rfl, rfl, rfl, rfl, rfl, trivial⟩ ⟨HS, H⟩
           ·replace H := ite_f c67 H
            refine W.pass 112 rfl (sb (decide_eq_false c67)) rfl rfl (W.pass 112 rfl (sb (decide_eq_false c67)) rfl rfl (W.pass 112 rfl (sb (decide_eq_false c67)) rfl rfl (W.pass 112 rfl (sb (decide_eq_false c67)) rfl rfl (W.r (X.pickF (sb (decide_eq_false c67)) rfl) rfl (W.nil ?_)))))
            replace HS := api_Ctl.close trivial HS
            exact At.meet false ⟨rfl, rfl, rfl, rfl, rfl, trivial⟩ ⟨HS, H⟩
          ·rintro x54 w ⟨HS, H⟩
           unfold signalmanref6_ReadCtl.j5 at H
           by_cases c56 : x54 = true
           ·replace H := ite_t c56 H
            refine V.condT (sb c56) (V.seq (V.region ?_))
            replace HS := HS.fr 2
            obtain ⟨hi58, HS⟩ := api_Ctl.open HS
            refine W.r (X.loadSt 0 [Value.int .i64 (({ Kind := 0, Ns := 0, Nr := 0, Poll := false } : api_Ctl).Kind), Value.int .i64 (({ Kind := 0, Ns := 0, Nr := 0, Poll := false } : api_Ctl).Ns), Value.int .i64 (({ Kind := 0, Ns := 0, Nr := 0, Poll := false } : api_Ctl).Nr), Value.bool (({ Kind := 0, Ns := 0, Nr := 0, Poll := false } : api_Ctl).Poll)] HS rfl Tryz.underlying32 rfl inf32 rfl rfl) rfl ?_
            replace HS := HS.fr 2
            obtain ⟨hi60, HS⟩ := api_Ctl.open HS
            refine W.en (Y.storeSt (c' := #[Value.int .i64 (({ Kind := 0, Ns := 0, Nr := 0, Poll := false } : api_Ctl).Kind), Value.int .i64 (({ Kind := 0, Ns := 0, Nr := 0, Poll := false } : api_Ctl).Ns), Value.int .i64 (({ Kind := 0, Ns := 0, Nr := 0, Poll := false } : api_Ctl).Nr), Value.bool (({ Kind := 0, Ns := 0, Nr := 0, Poll := false } : api_Ctl).Poll)]) 0 [Value.int .i64 (({ Kind := 0, Ns := 0, Nr := 0, Poll := false } : api_Ctl).Kind), Value.int .i64 (({ Kind := 0, Ns := 0, Nr := 0, Poll := false } : api_Ctl).Ns), Value.int .i64 (({ Kind := 0, Ns := 0, Nr := 0, Poll := false } : api_Ctl).Nr), Value.bool (({ Kind := 0, Ns := 0, Nr := 0, Poll := false } : api_Ctl).Poll)] HS rfl inf32 rfl rfl rfl rfl rfl rfl) rfl ?_
            rintro _ w HS
            refine W.as rfl (W.as rfl (W.nx (V.ret (At.thenRet ?_))))
            have hv61 := run_loadSt (P := Tryz.prog) (p := 0) 0 [Value.int .i64 (({ Kind := 0, Ns := 0, Nr := 0, Poll := false } : api_Ctl).Kind), Value.int .i64 (({ Kind := 0, Ns := 0, Nr := 0, Poll := false } : api_Ctl).Ns), Value.int .i64 (({ Kind := 0, Ns := 0, Nr := 0, Poll := false } : api_Ctl).Nr), Value.bool (({ Kind := 0, Ns := 0, Nr := 0, Poll := false } : api_Ctl).Poll)] HS rfl Tryz.underlying32 rfl inf32 rfl
            replace HS := HS.pk [3] [0, 1, 2]
            cases H
            exact At.retv3 rfl ⟨_, rfl, hv61⟩ rfl rfl ⟨_, rfl, rfl, HS⟩
           ·replace H := ite_f c56 H
            refine V.condF (sb (b_f c56)) (V.skip (At.next (V.seq (V.region ?_))))
            obtain ⟨hi63, HS⟩ := api_Ctl.open HS
            refine W.r (X.loadSt 0 [Value.int .i64 ((({ Kind := 1, Ns := 0, Nr := w64 (x50.tdiv (2)), Poll := decide ((x50.tmod (2)) = 1) } : api_Ctl)).Kind), Value.int .i64 ((({ Kind := 1, Ns := 0, Nr := w64 (x50.tdiv (2)), Poll := decide ((x50.tmod (2)) = 1) } : api_Ctl)).Ns), Value.int .i64 ((({ Kind := 1, Ns := 0, Nr := w64 (x50.tdiv (2)), Poll := decide ((x50.tmod (2)) = 1) } : api_Ctl)).Nr), Value.bool ((({ Kind := 1, Ns := 0, Nr := w64 (x50.tdiv (2)), Poll := decide ((x50.tmod (2)) = 1) } : api_Ctl)).Poll)] HS rfl Tryz.underlying32 rfl inf32 rfl rfl) rfl (W.mv rfl (W.r (X.mul rfl rfl) rfl ?_))
            replace HS := HS.fr 1
            obtain ⟨hi65, HS⟩ := api_Ctl.open HS
            refine W.en (Y.storeSt (c' := #[Value.int .i64 ((({ Kind := 1, Ns := 0, Nr := w64 (x50.tdiv (2)), Poll := decide ((x50.tmod (2)) = 1) } : api_Ctl)).Kind), Value.int .i64 ((({ Kind := 1, Ns := 0, Nr := w64 (x50.tdiv (2)), Poll := decide ((x50.tmod (2)) = 1) } : api_Ctl)).Ns), Value.int .i64 ((({ Kind := 1, Ns := 0, Nr := w64 (x50.tdiv (2)), Poll := decide ((x50.tmod (2)) = 1) } : api_Ctl)).Nr), Value.bool ((({ Kind := 1, Ns := 0, Nr := w64 (x50.tdiv (2)), Poll := decide ((x50.tmod (2)) = 1) } : api_Ctl)).Poll)]) 0 [Value.int .i64 ((({ Kind := 1, Ns := 0, Nr := w64 (x50.tdiv (2)), Poll := decide ((x50.tmod (2)) = 1) } : api_Ctl)).Kind), Value.int .i64 ((({ Kind := 1, Ns := 0, Nr := w64 (x50.tdiv (2)), Poll := decide ((x50.tmod (2)) = 1) } : api_Ctl)).Ns), Value.int .i64 ((({ Kind := 1, Ns := 0, Nr := w64 (x50.tdiv (2)), Poll := decide ((x50.tmod (2)) = 1) } : api_Ctl)).Nr), Value.bool ((({ Kind := 1, Ns := 0, Nr := w64 (x50.tdiv (2)), Poll := decide ((x50.tmod (2)) = 1) } : api_Ctl)).Poll)] HS rfl inf32 rfl rfl rfl rfl rfl rfl) rfl ?_
            rintro _ w HS
            refine W.as rfl (W.as rfl (W.nx (V.ret ?_)))
            have hv66 := run_loadSt (P := Tryz.prog) (p := 0) 0 [Value.int .i64 ((({ Kind := 1, Ns := 0, Nr := w64 (x50.tdiv (2)), Poll := decide ((x50.tmod (2)) = 1) } : api_Ctl)).Kind), Value.int .i64 ((({ Kind := 1, Ns := 0, Nr := w64 (x50.tdiv (2)), Poll := decide ((x50.tmod (2)) = 1) } : api_Ctl)).Ns), Value.int .i64 ((({ Kind := 1, Ns := 0, Nr := w64 (x50.tdiv (2)), Poll := decide ((x50.tmod (2)) = 1) } : api_Ctl)).Nr), Value.bool ((({ Kind := 1, Ns := 0, Nr := w64 (x50.tdiv (2)), Poll := decide ((x50.tmod (2)) = 1) } : api_Ctl)).Poll)] HS rfl Tryz.underlying32 rfl inf32 rfl
            replace HS := HS.pk [3] [0, 1, 2]
            cases H
            exact At.retv3 rfl ⟨_, rfl, hv66⟩ rfl rfl ⟨_, rfl, rfl, HS⟩
      ·replace H := ite_f c39 H
       refine V.condF (sb (decide_eq_false c39)) (V.seq (V.region (W.mv rfl (W.r (X.indexSl Tryz.underlying33 inf5 rfl rfl c36.1 c36.2) rfl (W.r (X.load Tryz.underlying5 rfl rfl ((rdC.at 2 hr0 HS rfl).cellI c36.1 c36.2)) rfl (W.r (X.cmp (decide ((a0.getD (0 : Int).toNat 0) = 9)) rfl rfl rfl rfl) rfl (W.as rfl (W.nx ?_))))))))
       by_cases c73 : (a0.getD (0 : Int).toNat 0) = 9
       ·replace H := ite_t c73 H
        refine V.condT (sb (decide_eq_true c73)) (V.region (W.as rfl (W.nil (At.blockEnd (At.next (V.seq (V.region (W.as rfl (W.nx (V.meet (σ := Int) (fun st w => match st with | x74 => Sep.St [api_Ctl.at nb1 ({ Kind := 0, Ns := 0, Nr := 0, Poll := false } : api_Ctl), api_Ctl.at nb2 ({ Kind := 0, Ns := 0, Nr := 0, Poll := false } : api_Ctl), R] w0 w ∧ signalmanref6_ReadCtl.j6 a0 x74 = some r) (fun st => match st with | x74 => [(0, Value.slice (some ⟨eb37, eo38, none⟩) a0.length sc0), (4, Value.pointer (some ⟨nb1, 0, none⟩)), (7, Value.pointer (some ⟨nb2, 0, none⟩)), (10, Value.int .i64 (2)), (11, Value.int .i64 x74)]) ?_ ?_))))))))))
        ·refine V.seq (V.region (W.mv rfl (W.r (X.cmp (!(decide (a1 = 128))) rfl rfl rfl rfl) rfl (W.nx ?_))))
         by_cases c106 : a1 = 128
         ·replace H := ite_t c106 H
          refine V.condF (sb (n_t (decide_eq_true c106))) (V.skip ?_)
          exact At.meet (1) ⟨rfl, rfl, rfl, rfl, rfl, trivial⟩ ⟨HS, H⟩
         ·replace H := ite_f c106 H
          refine V.condT (sb (n_f (decide_eq_false c106))) (V.region (W.as rfl (W.nil ?_)))
          exact At.meet (2) ⟨rfl, rfl, rfl, rfl, rfl, trivial⟩ ⟨HS, H⟩
        ·rintro x74 w ⟨HS, H⟩
         unfold signalmanref6_ReadCtl.j6 at H
         refine V.seq (V.seq (V.region (W.mv rfl (W.r (X.lenSl Tryz.underlying33 rfl) rfl (W.mv rfl (W.r (X.mul rfl rfl) rfl (W.r (X.cmp (decide ((a0.length : Int) < (w64 (2 * x74)))) rfl rfl rfl rfl) rfl (W.nx ?_))))))))
         by_cases c76 : (a0.length : Int) < (w64 (2 * x74))
         ·replace H := ite_t c76 H
          refine V.condT (sb (decide_eq_true c76)) (V.seq (V.region ?_))
          replace HS := HS.fr 1
          obtain ⟨hi78, HS⟩ := api_Ctl.open HS
          refine W.r (X.loadSt 0 [Value.int .i64 (({ Kind := 0, Ns := 0, Nr := 0, Poll := false } : api_Ctl).Kind), Value.int .i64 (({ Kind := 0, Ns := 0, Nr := 0, Poll := false } : api_Ctl).Ns), Value.int .i64 (({ Kind := 0, Ns := 0, Nr := 0, Poll := false } : api_Ctl).Nr), Value.bool (({ Kind := 0, Ns := 0, Nr := 0, Poll := false } : api_Ctl).Poll)] HS rfl Tryz.underlying32 rfl inf32 rfl rfl) rfl ?_
          replace HS := HS.fr 1
          obtain ⟨hi80, HS⟩ := api_Ctl.open HS
          refine W.en (Y.storeSt (c' := #[Value.int .i64 (({ Kind := 0, Ns := 0, Nr := 0, Poll := false } : api_Ctl).Kind), Value.int .i64 (({ Kind := 0, Ns := 0, Nr := 0, Poll := false } : api_Ctl).Ns), Value.int .i64 (({ Kind := 0, Ns := 0, Nr := 0, Poll := false } : api_Ctl).Nr), Value.bool (({ Kind := 0, Ns := 0, Nr := 0, Poll := false } : api_Ctl).Poll)]) 0 [Value.int .i64 (({ Kind := 0, Ns := 0, Nr := 0, Poll := false } : api_Ctl).Kind), Value.int .i64 (({ Kind := 0, Ns := 0, Nr := 0, Poll := false } : api_Ctl).Ns), Value.int .i64 (({ Kind := 0, Ns := 0, Nr := 0, Poll := false } : api_Ctl).Nr), Value.bool (({ Kind := 0, Ns := 0, Nr := 0, Poll := false } : api_Ctl).Poll)] HS rfl inf32 rfl rfl rfl rfl rfl rfl) rfl ?_
          rintro _ w HS
          refine W.as rfl (W.as rfl (W.nx (V.ret (At.thenRet ?_))))
          have hv81 := run_loadSt (P := Tryz.prog) (p := 0) 0 [Value.int .i64 (({ Kind := 0, Ns := 0, Nr := 0, Poll := false } : api_Ctl).Kind), Value.int .i64 (({ Kind := 0, Ns := 0, Nr := 0, Poll := false } : api_Ctl).Ns), Value.int .i64 (({ Kind := 0, Ns := 0, Nr := 0, Poll := false } : api_Ctl).Nr), Value.bool (({ Kind := 0, Ns := 0, Nr := 0, Poll := false } : api_Ctl).Poll)] HS rfl Tryz.underlying32 rfl inf32 rfl
          replace HS := HS.pk [2] [0, 1]
          cases H
          exact At.retv3 rfl ⟨_, rfl, hv81⟩ rfl rfl ⟨_, rfl, rfl, HS⟩
         ·replace H := ite_f c76 H
          refine V.condF (sb (decide_eq_false c76)) (V.skip (At.next (V.seq (V.region (W.mv rfl (W.r (X.indexSl Tryz.underlying33 inf5 rfl rfl c36.1 c36.2) rfl (W.r (X.load Tryz.underlying5 rfl rfl ((rdC.at 2 hr0 HS rfl).cellI c36.1 c36.2)) rfl (W.r (X.conv Tryz.underlying5 Tryz.underlying3 rfl) rfl (W.as rfl (W.nx (V.seq (V.region (W.mv rfl (W.mv rfl ?_))))))))))))))
          obtain ⟨c82, H⟩ := ite_n H
          refine W.r (X.indexSl Tryz.underlying33 inf5 rfl rfl c82.1 c82.2) rfl (W.r (X.load Tryz.underlying5 rfl rfl ((rdC.at 2 hr0 HS rfl).cellI c82.1 c82.2)) rfl (W.r (X.conv Tryz.underlying5 Tryz.underlying3 rfl) rfl (W.as rfl (W.nx (V.meet (σ := Int × Int) (fun st w => match st with | (x83, x84) => Sep.St [api_Ctl.at nb1 ({ Kind := 0, Ns := 0, Nr := 0, Poll := false } : api_Ctl), api_Ctl.at nb2 ({ Kind := 0, Ns := 0, Nr := 0, Poll := false } : api_Ctl), R] w0 w ∧ signalmanref6_ReadCtl.j7 a0 x74 x83 x84 = some r) (fun st => match st with | (x83, x84) => [(0, Value.slice (some ⟨eb37, eo38, none⟩) a0.length sc0), (4, Value.pointer (some ⟨nb1, 0, none⟩)), (7, Value.pointer (some ⟨nb2, 0, none⟩)), (10, Value.int .i64 (2)), (11, Value.int .i64 x74), (12, Value.int .i64 x83), (13, Value.int .i64 x84)]) ?_ ?_)))))
          ·refine V.seq (V.region (W.mv rfl (W.r (X.cmp (decide (x74 = 2)) rfl rfl rfl rfl) rfl (W.nx ?_))))
           by_cases c103 : x74 = 2
           ·replace H := ite_t c103 H
            refine V.condT (sb (decide_eq_true c103)) (V.seq (V.region (W.mv rfl (W.mv rfl ?_))))
            obtain ⟨c104, H⟩ := ite_n H
            refine W.r (X.indexSl Tryz.underlying33 inf5 rfl rfl c104.1 c104.2) rfl (W.r (X.load Tryz.underlying5 rfl rfl ((rdC.at 2 hr0 HS rfl).cellI c104.1 c104.2)) rfl (W.r (X.conv Tryz.underlying5 Tryz.underlying3 rfl) rfl (W.r (X.mul rfl rfl) rfl (W.r (X.add rfl rfl) rfl (W.as rfl (W.nx (V.region (W.mv rfl (W.mv rfl ?_)))))))))
            obtain ⟨c105, H⟩ := ite_n H
            refine W.r (X.indexSl Tryz.underlying33 inf5 rfl rfl c105.1 c105.2) rfl (W.r (X.load Tryz.underlying5 rfl rfl ((rdC.at 2 hr0 HS rfl).cellI c105.1 c105.2)) rfl (W.r (X.conv Tryz.underlying5 Tryz.underlying3 rfl) rfl (W.r (X.mul rfl rfl) rfl (W.r (X.add rfl rfl) rfl (W.as rfl (W.nil ?_))))))
            exact At.meet (w64 ((w64 (a0.getD (0 : Int).toNat 0)) + (w64 (256 * (w64 (a0.getD (1 : Int).toNat 0))))), w64 ((w64 (a0.getD x74.toNat 0)) + (w64 (256 * (w64 (a0.getD (3 : Int).toNat 0)))))) ⟨rfl, rfl, rfl, rfl, rfl, rfl, rfl, trivial⟩ ⟨HS, H⟩
           ·replace H := ite_f c103 H
            refine V.condF (sb (decide_eq_false c103)) (V.skip ?_)
            exact At.meet (w64 (a0.getD (0 : Int).toNat 0), w64 (a0.getD x74.toNat 0)) ⟨rfl, rfl, rfl, rfl, rfl, rfl, rfl, trivial⟩ ⟨HS, H⟩
          ·rintro ⟨x83, x84⟩ w ⟨HS, H⟩
           unfold signalmanref6_ReadCtl.j7 at H
           refine V.seq (V.region (W.mv rfl (W.mv rfl (W.r (X.quo rfl rfl (by decide)) rfl (W.mv rfl (W.r (X.rem rfl rfl (by decide)) rfl (W.r (X.cmp (decide ((x84.tmod (2)) = 1)) rfl rfl rfl rfl) rfl (W.r (X.bd (Value.agg #[Value.int .i64 (2), Value.int .i64 (0), Value.int .i64 (w64 (x84.tdiv (2))), Value.bool (decide ((x84.tmod (2)) = 1))]) rfl (fun _ => by kernel_rfl)) rfl (W.e (Y.alloc (z := Value.agg (#[Value.int .i64 (0), Value.int .i64 (0), Value.int .i64 (0), Value.bool false])) HS ze32) rfl ?_)))))))))
           rintro _ w ⟨nb86, rfl, HS⟩
           refine W.en (Y.storeSt (c' := #[Value.int .i64 (2), Value.int .i64 (0), Value.int .i64 (w64 (x84.tdiv (2))), Value.bool (decide ((x84.tmod (2)) = 1))]) 0 [Value.int .i64 (2), Value.int .i64 (0), Value.int .i64 (w64 (x84.tdiv (2))), Value.bool (decide ((x84.tmod (2)) = 1))] HS rfl inf32 rfl rfl rfl rfl rfl rfl) rfl ?_
           rintro _ w HS
           refine W.nx (V.seq (V.seq (V.region (W.mv rfl (W.r (X.cmp false (by decide) rfl rfl rfl) rfl (W.nx (V.condF rfl (V.meet (σ := Bool) (fun st w => match st with | x88 => Sep.St [api_Ctl.at nb86 (({ Kind := 2, Ns := 0, Nr := w64 (x84.tdiv (2)), Poll := decide ((x84.tmod (2)) = 1) } : api_Ctl)), api_Ctl.at nb1 ({ Kind := 0, Ns := 0, Nr := 0, Poll := false } : api_Ctl), api_Ctl.at nb2 ({ Kind := 0, Ns := 0, Nr := 0, Poll := false } : api_Ctl), R] w0 w ∧ signalmanref6_ReadCtl.j8 x74 x84 x88 = some r) (fun st => match st with | x88 => [(4, Value.pointer (some ⟨nb1, 0, none⟩)), (7, Value.pointer (some ⟨nb2, 0, none⟩)), (11, Value.int .i64 x74), (14, Value.pointer (some ⟨nb86, 0, none⟩)), (117, Value.bool x88)]) ?_ ?_))))))))
           ·refine V.region (W.mv rfl (W.r (X.cmp (decide (x74 = 2)) rfl rfl rfl rfl) rfl (W.mv rfl ?_)))
            by_cases c101 : x74 = 2
            ·replace H := ite_t c101 H
             refine W.want 112 rfl (sb (decide_eq_true c101)) (W.mv rfl (W.want 112 rfl (sb (decide_eq_true c101)) ?_))
             obtain ⟨c102, H⟩ := ite_n H
             refine W.r (X.indexSl Tryz.underlying33 inf5 rfl rfl c102.1 c102.2) rfl (W.want 112 rfl (sb (decide_eq_true c101)) (W.r (X.load Tryz.underlying5 rfl rfl ((rdC.at 3 hr0 HS rfl).cellI c102.1 c102.2)) rfl (W.want 112 rfl (sb (decide_eq_true c101)) (W.r (X.cmp (!(decide ((a0.getD (1 : Int).toNat 0) = 0))) rfl rfl rfl rfl) rfl (W.r (X.pickT (sb (decide_eq_true c101)) rfl) rfl (W.nil ?_))))))
             replace HS := api_Ctl.close trivial HS
             exact At.meet (!(decide ((a0.getD (1 : Int).toNat 0) = 0))) ⟨rfl, rfl, rfl, rfl, rfl, trivial⟩ ⟨HS, H⟩
            ·replace H := ite_f c101 H
             refine W.pass 112 rfl (sb (decide_eq_false c101)) rfl rfl (W.pass 112 rfl (sb (decide_eq_false c101)) rfl rfl (W.pass 112 rfl (sb (decide_eq_false c101)) rfl rfl (W.pass 112 rfl (sb (decide_eq_false c101)) rfl rfl (W.r (X.pickF (sb (decide_eq_false c101)) rfl) rfl (W.nil ?_)))))
             replace HS := api_Ctl.close trivial HS
             exact At.meet false ⟨rfl, rfl, rfl, rfl, rfl, trivial⟩ ⟨HS, H⟩
           ·rintro x88 w ⟨HS, H⟩
            unfold signalmanref6_ReadCtl.j8 at H
            by_cases c90 : x88 = true
            ·replace H := ite_t c90 H
             refine V.condT (sb c90) (V.seq (V.region ?_))
             replace HS := HS.fr 2
             obtain ⟨hi92, HS⟩ := api_Ctl.open HS
             refine W.r (X.loadSt 0 [Value.int .i64 (({ Kind := 0, Ns := 0, Nr := 0, Poll := false } : api_Ctl).Kind), Value.int .i64 (({ Kind := 0, Ns := 0, Nr := 0, Poll := false } : api_Ctl).Ns), Value.int .i64 (({ Kind := 0, Ns := 0, Nr := 0, Poll := false } : api_Ctl).Nr), Value.bool (({ Kind := 0, Ns := 0, Nr := 0, Poll := false } : api_Ctl).Poll)] HS rfl Tryz.underlying32 rfl inf32 rfl rfl) rfl ?_
             replace HS := HS.fr 2
             obtain ⟨hi94, HS⟩ := api_Ctl.open HS
             refine W.en (Y.storeSt (c' := #[Value.int .i64 (({ Kind := 0, Ns := 0, Nr := 0, Poll := false } : api_Ctl).Kind), Value.int .i64 (({ Kind := 0, Ns := 0, Nr := 0, Poll := false } : api_Ctl).Ns), Value.int .i64 (({ Kind := 0, Ns := 0, Nr := 0, Poll := false } : api_Ctl).Nr), Value.bool (({ Kind := 0, Ns := 0, Nr := 0, Poll := false } : api_Ctl).Poll)]) 0 [Value.int .i64 (({ Kind := 0, Ns := 0, Nr := 0, Poll := false } : api_Ctl).Kind), Value.int .i64 (({ Kind := 0, Ns := 0, Nr := 0, Poll := false } : api_Ctl).Ns), Value.int .i64 (({ Kind := 0, Ns := 0, Nr := 0, Poll := false } : api_Ctl).Nr), Value.bool (({ Kind := 0, Ns := 0, Nr := 0, Poll := false } : api_Ctl).Poll)] HS rfl inf32 rfl rfl rfl rfl rfl rfl) rfl ?_
             rintro _ w HS
             refine W.as rfl (W.as rfl (W.nx (V.ret (At.thenRet ?_))))
             have hv95 := run_loadSt (P := Tryz.prog) (p := 0) 0 [Value.int .i64 (({ Kind := 0, Ns := 0, Nr := 0, Poll := false } : api_Ctl).Kind), Value.int .i64 (({ Kind := 0, Ns := 0, Nr := 0, Poll := false } : api_Ctl).Ns), Value.int .i64 (({ Kind := 0, Ns := 0, Nr := 0, Poll := false } : api_Ctl).Nr), Value.bool (({ Kind := 0, Ns := 0, Nr := 0, Poll := false } : api_Ctl).Poll)] HS rfl Tryz.underlying32 rfl inf32 rfl
             replace HS := HS.pk [3] [0, 1, 2]
             cases H
             exact At.retv3 rfl ⟨_, rfl, hv95⟩ rfl rfl ⟨_, rfl, rfl, HS⟩
            ·replace H := ite_f c90 H
             refine V.condF (sb (b_f c90)) (V.skip (At.next (V.seq (V.region ?_))))
             obtain ⟨hi97, HS⟩ := api_Ctl.open HS
             refine W.r (X.loadSt 0 [Value.int .i64 ((({ Kind := 2, Ns := 0, Nr := w64 (x84.tdiv (2)), Poll := decide ((x84.tmod (2)) = 1) } : api_Ctl)).Kind), Value.int .i64 ((({ Kind := 2, Ns := 0, Nr := w64 (x84.tdiv (2)), Poll := decide ((x84.tmod (2)) = 1) } : api_Ctl)).Ns), Value.int .i64 ((({ Kind := 2, Ns := 0, Nr := w64 (x84.tdiv (2)), Poll := decide ((x84.tmod (2)) = 1) } : api_Ctl)).Nr), Value.bool ((({ Kind := 2, Ns := 0, Nr := w64 (x84.tdiv (2)), Poll := decide ((x84.tmod (2)) = 1) } : api_Ctl)).Poll)] HS rfl Tryz.underlying32 rfl inf32 rfl rfl) rfl (W.mv rfl (W.r (X.mul rfl rfl) rfl ?_))
             replace HS := HS.fr 1
             obtain ⟨hi99, HS⟩ := api_Ctl.open HS
             refine W.en (Y.storeSt (c' := #[Value.int .i64 ((({ Kind := 2, Ns := 0, Nr := w64 (x84.tdiv (2)), Poll := decide ((x84.tmod (2)) = 1) } : api_Ctl)).Kind), Value.int .i64 ((({ Kind := 2, Ns := 0, Nr := w64 (x84.tdiv (2)), Poll := decide ((x84.tmod (2)) = 1) } : api_Ctl)).Ns), Value.int .i64 ((({ Kind := 2, Ns := 0, Nr := w64 (x84.tdiv (2)), Poll := decide ((x84.tmod (2)) = 1) } : api_Ctl)).Nr), Value.bool ((({ Kind := 2, Ns := 0, Nr := w64 (x84.tdiv (2)), Poll := decide ((x84.tmod (2)) = 1) } : api_Ctl)).Poll)]) 0 [Value.int .i64 ((({ Kind := 2, Ns := 0, Nr := w64 (x84.tdiv (2)), Poll := decide ((x84.tmod (2)) = 1) } : api_Ctl)).Kind), Value.int .i64 ((({ Kind := 2, Ns := 0, Nr := w64 (x84.tdiv (2)), Poll := decide ((x84.tmod (2)) = 1) } : api_Ctl)).Ns), Value.int .i64 ((({ Kind := 2, Ns := 0, Nr := w64 (x84.tdiv (2)), Poll := decide ((x84.tmod (2)) = 1) } : api_Ctl)).Nr), Value.bool ((({ Kind := 2, Ns := 0, Nr := w64 (x84.tdiv (2)), Poll := decide ((x84.tmod (2)) = 1) } : api_Ctl)).Poll)] HS rfl inf32 rfl rfl rfl rfl rfl rfl) rfl ?_
             rintro _ w HS
             refine W.as rfl (W.as rfl (W.nx (V.ret ?_)))
             have hv100 := run_loadSt (P := Tryz.prog) (p := 0) 0 [Value.int .i64 ((({ Kind := 2, Ns := 0, Nr := w64 (x84.tdiv (2)), Poll := decide ((x84.tmod (2)) = 1) } : api_Ctl)).Kind), Value.int .i64 ((({ Kind := 2, Ns := 0, Nr := w64 (x84.tdiv (2)), Poll := decide ((x84.tmod (2)) = 1) } : api_Ctl)).Ns), Value.int .i64 ((({ Kind := 2, Ns := 0, Nr := w64 (x84.tdiv (2)), Poll := decide ((x84.tmod (2)) = 1) } : api_Ctl)).Nr), Value.bool ((({ Kind := 2, Ns := 0, Nr := w64 (x84.tdiv (2)), Poll := decide ((x84.tmod (2)) = 1) } : api_Ctl)).Poll)] HS rfl Tryz.underlying32 rfl inf32 rfl
             replace HS := HS.pk [3] [0, 1, 2]
             cases H
             exact At.retv3 rfl ⟨_, rfl, hv100⟩ rfl rfl ⟨_, rfl, rfl, HS⟩
       ·replace H := ite_f c73 H
        refine V.condF (sb (decide_eq_false c73)) (V.seq (V.region (W.mv rfl (W.r (X.indexSl Tryz.underlying33 inf5 rfl rfl c36.1 c36.2) rfl (W.r (X.load Tryz.underlying5 rfl rfl ((rdC.at 2 hr0 HS rfl).cellI c36.1 c36.2)) rfl (W.r (X.rem rfl rfl (by decide)) rfl (W.r (X.cmp (decide (((a0.getD (0 : Int).toNat 0).tmod (2)) = 1)) rfl rfl rfl rfl) rfl (W.as rfl (W.nx ?_)))))))))
        by_cases c107 : ((a0.getD (0 : Int).toNat 0).tmod (2)) = 1
        ·replace H := ite_t c107 H
         refine V.condT (sb (decide_eq_true c107)) (V.seq (V.region ?_))
         replace HS := HS.fr 1
         obtain ⟨hi109, HS⟩ := api_Ctl.open HS
         refine W.r (X.loadSt 0 [Value.int .i64 (({ Kind := 0, Ns := 0, Nr := 0, Poll := false } : api_Ctl).Kind), Value.int .i64 (({ Kind := 0, Ns := 0, Nr := 0, Poll := false } : api_Ctl).Ns), Value.int .i64 (({ Kind := 0, Ns := 0, Nr := 0, Poll := false } : api_Ctl).Nr), Value.bool (({ Kind := 0, Ns := 0, Nr := 0, Poll := false } : api_Ctl).Poll)] HS rfl Tryz.underlying32 rfl inf32 rfl rfl) rfl ?_
         replace HS := HS.fr 1
         obtain ⟨hi111, HS⟩ := api_Ctl.open HS
         refine W.en (Y.storeSt (c' := #[Value.int .i64 (({ Kind := 0, Ns := 0, Nr := 0, Poll := false } : api_Ctl).Kind), Value.int .i64 (({ Kind := 0, Ns := 0, Nr := 0, Poll := false } : api_Ctl).Ns), Value.int .i64 (({ Kind := 0, Ns := 0, Nr := 0, Poll := false } : api_Ctl).Nr), Value.bool (({ Kind := 0, Ns := 0, Nr := 0, Poll := false } : api_Ctl).Poll)]) 0 [Value.int .i64 (({ Kind := 0, Ns := 0, Nr := 0, Poll := false } : api_Ctl).Kind), Value.int .i64 (({ Kind := 0, Ns := 0, Nr := 0, Poll := false } : api_Ctl).Ns), Value.int .i64 (({ Kind := 0, Ns := 0, Nr := 0, Poll := false } : api_Ctl).Nr), Value.bool (({ Kind := 0, Ns := 0, Nr := 0, Poll := false } : api_Ctl).Poll)] HS rfl inf32 rfl rfl rfl rfl rfl rfl) rfl ?_
         rintro _ w HS
         refine W.as rfl (W.as rfl (W.nx (V.ret (At.blockRet (At.thenRet ?_)))))
         have hv112 := run_loadSt (P := Tryz.prog) (p := 0) 0 [Value.int .i64 (({ Kind := 0, Ns := 0, Nr := 0, Poll := false } : api_Ctl).Kind), Value.int .i64 (({ Kind := 0, Ns := 0, Nr := 0, Poll := false } : api_Ctl).Ns), Value.int .i64 (({ Kind := 0, Ns := 0, Nr := 0, Poll := false } : api_Ctl).Nr), Value.bool (({ Kind := 0, Ns := 0, Nr := 0, Poll := false } : api_Ctl).Poll)] HS rfl Tryz.underlying32 rfl inf32 rfl
         replace HS := HS.pk [2] [0, 1]
         cases H
         exact At.retv3 rfl ⟨_, rfl, hv112⟩ rfl rfl ⟨_, rfl, rfl, HS⟩
        ·replace H := ite_f c107 H
         refine V.condF (sb (decide_eq_false c107)) (V.skip (At.blockEnd (At.next (V.seq (V.region (W.as rfl (W.nx (V.meet (σ := Int) (fun st w => match st with | x113 => Sep.St [api_Ctl.at nb1 ({ Kind := 0, Ns := 0, Nr := 0, Poll := false } : api_Ctl), api_Ctl.at nb2 ({ Kind := 0, Ns := 0, Nr := 0, Poll := false } : api_Ctl), R] w0 w ∧ signalmanref6_ReadCtl.j9 a0 x113 = some r) (fun st => match st with | x113 => [(0, Value.slice (some ⟨eb37, eo38, none⟩) a0.length sc0), (4, Value.pointer (some ⟨nb1, 0, none⟩)), (7, Value.pointer (some ⟨nb2, 0, none⟩)), (10, Value.int .i64 (0)), (11, Value.int .i64 x113)]) ?_ ?_))))))))
         ·refine V.seq (V.region (W.mv rfl (W.r (X.cmp (!(decide (a1 = 128))) rfl rfl rfl rfl) rfl (W.nx ?_))))
          by_cases c132 : a1 = 128
          ·replace H := ite_t c132 H
           refine V.condF (sb (n_t (decide_eq_true c132))) (V.skip ?_)
           exact At.meet (1) ⟨rfl, rfl, rfl, rfl, rfl, trivial⟩ ⟨HS, H⟩
          ·replace H := ite_f c132 H
           refine V.condT (sb (n_f (decide_eq_false c132))) (V.region (W.as rfl (W.nil ?_)))
           exact At.meet (2) ⟨rfl, rfl, rfl, rfl, rfl, trivial⟩ ⟨HS, H⟩
         ·rintro x113 w ⟨HS, H⟩
          unfold signalmanref6_ReadCtl.j9 at H
          refine V.seq (V.seq (V.region (W.mv rfl (W.r (X.lenSl Tryz.underlying33 rfl) rfl (W.mv rfl (W.r (X.mul rfl rfl) rfl (W.r (X.cmp (decide ((a0.length : Int) < (w64 (2 * x113)))) rfl rfl rfl rfl) rfl (W.nx ?_))))))))
          by_cases c115 : (a0.length : Int) < (w64 (2 * x113))
          ·replace H := ite_t c115 H
           refine V.condT (sb (decide_eq_true c115)) (V.seq (V.region ?_))
           replace HS := HS.fr 1
           obtain ⟨hi117, HS⟩ := api_Ctl.open HS
           refine W.r (X.loadSt 0 [Value.int .i64 (({ Kind := 0, Ns := 0, Nr := 0, Poll := false } : api_Ctl).Kind), Value.int .i64 (({ Kind := 0, Ns := 0, Nr := 0, Poll := false } : api_Ctl).Ns), Value.int .i64 (({ Kind := 0, Ns := 0, Nr := 0, Poll := false } : api_Ctl).Nr), Value.bool (({ Kind := 0, Ns := 0, Nr := 0, Poll := false } : api_Ctl).Poll)] HS rfl Tryz.underlying32 rfl inf32 rfl rfl) rfl ?_
           replace HS := HS.fr 1
           obtain ⟨hi119, HS⟩ := api_Ctl.open HS
           refine W.en (Y.storeSt (c' := #[Value.int .i64 (({ Kind := 0, Ns := 0, Nr := 0, Poll := false } : api_Ctl).Kind), Value.int .i64 (({ Kind := 0, Ns := 0, Nr := 0, Poll := false } : api_Ctl).Ns), Value.int .i64 (({ Kind := 0, Ns := 0, Nr := 0, Poll := false } : api_Ctl).Nr), Value.bool (({ Kind := 0, Ns := 0, Nr := 0, Poll := false } : api_Ctl).Poll)]) 0 [Value.int .i64 (({ Kind := 0, Ns := 0, Nr := 0, Poll := false } : api_Ctl).Kind), Value.int .i64 (({ Kind := 0, Ns := 0, Nr := 0, Poll := false } : api_Ctl).Ns), Value.int .i64 (({ Kind := 0, Ns := 0, Nr := 0, Poll := false } : api_Ctl).Nr), Value.bool (({ Kind := 0, Ns := 0, Nr := 0, Poll := false } : api_Ctl).Poll)] HS rfl inf32 rfl rfl rfl rfl rfl rfl) rfl ?_
           rintro _ w HS
           refine W.as rfl (W.as rfl (W.nx (V.ret (At.thenRet ?_))))
           have hv120 := run_loadSt (P := Tryz.prog) (p := 0) 0 [Value.int .i64 (({ Kind := 0, Ns := 0, Nr := 0, Poll := false } : api_Ctl).Kind), Value.int .i64 (({ Kind := 0, Ns := 0, Nr := 0, Poll := false } : api_Ctl).Ns), Value.int .i64 (({ Kind := 0, Ns := 0, Nr := 0, Poll := false } : api_Ctl).Nr), Value.bool (({ Kind := 0, Ns := 0, Nr := 0, Poll := false } : api_Ctl).Poll)] HS rfl Tryz.underlying32 rfl inf32 rfl
           replace HS := HS.pk [2] [0, 1]
           cases H
           exact At.retv3 rfl ⟨_, rfl, hv120⟩ rfl rfl ⟨_, rfl, rfl, HS⟩
          ·replace H := ite_f c115 H
           refine V.condF (sb (decide_eq_false c115)) (V.skip (At.next (V.seq (V.region (W.mv rfl (W.r (X.indexSl Tryz.underlying33 inf5 rfl rfl c36.1 c36.2) rfl (W.r (X.load Tryz.underlying5 rfl rfl ((rdC.at 2 hr0 HS rfl).cellI c36.1 c36.2)) rfl (W.r (X.conv Tryz.underlying5 Tryz.underlying3 rfl) rfl (W.as rfl (W.nx (V.seq (V.region (W.mv rfl (W.mv rfl ?_))))))))))))))
           obtain ⟨c121, H⟩ := ite_n H
           refine W.r (X.indexSl Tryz.underlying33 inf5 rfl rfl c121.1 c121.2) rfl (W.r (X.load Tryz.underlying5 rfl rfl ((rdC.at 2 hr0 HS rfl).cellI c121.1 c121.2)) rfl (W.r (X.conv Tryz.underlying5 Tryz.underlying3 rfl) rfl (W.as rfl (W.nx (V.meet (σ := Int × Int) (fun st w => match st with | (x122, x123) => Sep.St [api_Ctl.at nb1 ({ Kind := 0, Ns := 0, Nr := 0, Poll := false } : api_Ctl), api_Ctl.at nb2 ({ Kind := 0, Ns := 0, Nr := 0, Poll := false } : api_Ctl), R] w0 w ∧ signalmanref6_ReadCtl.j10 x113 x122 x123 = some r) (fun st => match st with | (x122, x123) => [(0, Value.slice (some ⟨eb37, eo38, none⟩) a0.length sc0), (4, Value.pointer (some ⟨nb1, 0, none⟩)), (7, Value.pointer (some ⟨nb2, 0, none⟩)), (10, Value.int .i64 (0)), (11, Value.int .i64 x113), (12, Value.int .i64 x122), (13, Value.int .i64 x123)]) ?_ ?_)))))
           ·refine V.seq (V.region (W.mv rfl (W.r (X.cmp (decide (x113 = 2)) rfl rfl rfl rfl) rfl (W.nx ?_))))
            by_cases c129 : x113 = 2
            ·replace H := ite_t c129 H
             refine V.condT (sb (decide_eq_true c129)) (V.seq (V.region (W.mv rfl (W.mv rfl ?_))))
             obtain ⟨c130, H⟩ := ite_n H
             refine W.r (X.indexSl Tryz.underlying33 inf5 rfl rfl c130.1 c130.2) rfl (W.r (X.load Tryz.underlying5 rfl rfl ((rdC.at 2 hr0 HS rfl).cellI c130.1 c130.2)) rfl (W.r (X.conv Tryz.underlying5 Tryz.underlying3 rfl) rfl (W.r (X.mul rfl rfl) rfl (W.r (X.add rfl rfl) rfl (W.as rfl (W.nx (V.region (W.mv rfl (W.mv rfl ?_)))))))))
             obtain ⟨c131, H⟩ := ite_n H
             refine W.r (X.indexSl Tryz.underlying33 inf5 rfl rfl c131.1 c131.2) rfl (W.r (X.load Tryz.underlying5 rfl rfl ((rdC.at 2 hr0 HS rfl).cellI c131.1 c131.2)) rfl (W.r (X.conv Tryz.underlying5 Tryz.underlying3 rfl) rfl (W.r (X.mul rfl rfl) rfl (W.r (X.add rfl rfl) rfl (W.as rfl (W.nil ?_))))))
             exact At.meet (w64 ((w64 (a0.getD (0 : Int).toNat 0)) + (w64 (256 * (w64 (a0.getD (1 : Int).toNat 0))))), w64 ((w64 (a0.getD x113.toNat 0)) + (w64 (256 * (w64 (a0.getD (3 : Int).toNat 0)))))) ⟨rfl, rfl, rfl, rfl, rfl, rfl, rfl, trivial⟩ ⟨HS, H⟩
            ·replace H := ite_f c129 H
             refine V.condF (sb (decide_eq_false c129)) (V.skip ?_)
             exact At.meet (w64 (a0.getD (0 : Int).toNat 0), w64 (a0.getD x113.toNat 0)) ⟨rfl, rfl, rfl, rfl, rfl, rfl, rfl, trivial⟩ ⟨HS, H⟩
           ·rintro ⟨x122, x123⟩ w ⟨HS, H⟩
            unfold signalmanref6_ReadCtl.j10 at H
            refine V.seq (V.region (W.mv rfl (W.mv rfl (W.r (X.quo rfl rfl (by decide)) rfl (W.mv rfl (W.r (X.rem rfl rfl (by decide)) rfl (W.r (X.cmp (decide ((x123.tmod (2)) = 1)) rfl rfl rfl rfl) rfl (W.r (X.bd (Value.agg #[Value.int .i64 (0), Value.int .i64 (0), Value.int .i64 (w64 (x123.tdiv (2))), Value.bool (decide ((x123.tmod (2)) = 1))]) rfl (fun _ => by kernel_rfl)) rfl (W.e (Y.alloc (z := Value.agg (#[Value.int .i64 (0), Value.int .i64 (0), Value.int .i64 (0), Value.bool false])) HS ze32) rfl ?_)))))))))
            rintro _ w ⟨nb125, rfl, HS⟩
            refine W.en (Y.storeSt (c' := #[Value.int .i64 (0), Value.int .i64 (0), Value.int .i64 (w64 (x123.tdiv (2))), Value.bool (decide ((x123.tmod (2)) = 1))]) 0 [Value.int .i64 (0), Value.int .i64 (0), Value.int .i64 (w64 (x123.tdiv (2))), Value.bool (decide ((x123.tmod (2)) = 1))] HS rfl inf32 rfl rfl rfl rfl rfl rfl) rfl ?_
            rintro _ w HS
            refine W.nx (V.seq (V.seq (V.region (W.mv rfl (W.r (X.cmp true (by decide) rfl rfl rfl) rfl (W.nx (V.condT rfl (V.region (W.mv rfl (W.r (X.quo rfl rfl (by decide)) rfl (W.fa fo32_1 rfl (W.st 0 1 HS inf3 rfl rfl rfl rfl rfl rfl fun w HS => ?_))))))))))))
            refine W.nx (V.seq (V.region (W.r (X.loadSt 0 [Value.int .i64 (0), Value.int .i64 (w64 (x122.tdiv (2))), Value.int .i64 (w64 (x123.tdiv (2))), Value.bool (decide ((x123.tmod (2)) = 1))] HS rfl Tryz.underlying32 rfl inf32 rfl rfl) rfl (W.mv rfl (W.r (X.mul rfl rfl) rfl ?_)))))
            replace HS := HS.fr 1
            obtain ⟨hi127, HS⟩ := api_Ctl.open HS
            refine W.en (Y.storeSt (c' := #[Value.int .i64 (0), Value.int .i64 (w64 (x122.tdiv (2))), Value.int .i64 (w64 (x123.tdiv (2))), Value.bool (decide ((x123.tmod (2)) = 1))]) 0 [Value.int .i64 (0), Value.int .i64 (w64 (x122.tdiv (2))), Value.int .i64 (w64 (x123.tdiv (2))), Value.bool (decide ((x123.tmod (2)) = 1))] HS rfl inf32 rfl rfl rfl rfl rfl rfl) rfl ?_
            rintro _ w HS
            refine W.as rfl (W.as rfl (W.nx (V.ret ?_)))
            have hv128 := run_loadSt (P := Tryz.prog) (p := 0) 0 [Value.int .i64 (0), Value.int .i64 (w64 (x122.tdiv (2))), Value.int .i64 (w64 (x123.tdiv (2))), Value.bool (decide ((x123.tmod (2)) = 1))] HS rfl Tryz.underlying32 rfl inf32 rfl
            replace HS := HS.pk [3] [0, 1, 2]
            cases H
            exact At.retv3 rfl ⟨_, rfl, hv128⟩ rfl rfl ⟨_, rfl, rfl, HS⟩
def signalmanref1_Dist.f (a0 : Int) (a1 : Int) (a2 : Int) : Option Int := ((signalmanref1_Mod.f a1 a2).bind fun t1 => ((signalmanref1_Mod.f a0 a2).bind fun t3 => ((signalmanref1_Mod.f (w64 (t1 - t3)) a2).bind fun t5 => some t5)))
theorem signalmanref1_Dist.calls {a0 : Int} {a1 : Int} {a2 : Int} {R : As} {w0 w : World}  {r : Int} (H : signalmanref1_Dist.f a0 a1 a2 = some r) (HS : Sep.St [R] w0 w)  : Calls Tryz.prog 124 #[Value.int .i64 a0, Value.int .i64 a1, Value.int .i64 a2] w (Ret fun u w => u = Value.int .i64 r ∧ Sep.St [R] w0 w) := by
 unfold signalmanref1_Dist.f at H
 refine calls_enter Tryz.func124 rfl rfl ?_
 have H : _ = some r := H
 refine V.seq (V.region (W.as rfl (W.nx (V.seq (V.region (W.mv rfl (W.mv rfl ?_)))))))
 obtain ⟨t1, A2, H⟩ := bind_s H
 refine W.e (Y.cl Tryz.func130 (signalmanref1_Mod.calls A2 HS.j0)) rfl ?_
 rintro _ w ⟨rfl, HS⟩
 replace HS := HS.o0
 refine W.mv rfl (W.mv rfl ?_)
 obtain ⟨t3, A4, H⟩ := bind_s H
 refine W.e (Y.cl Tryz.func130 (signalmanref1_Mod.calls A4 HS.j0)) rfl ?_
 rintro _ w ⟨rfl, HS⟩
 replace HS := HS.o0
 refine W.r (X.sub rfl rfl) rfl (W.mv rfl ?_)
 obtain ⟨t5, A6, H⟩ := bind_s H
 refine W.e (Y.cl Tryz.func130 (signalmanref1_Mod.calls A6 HS.j0)) rfl ?_
 rintro _ w ⟨rfl, HS⟩
 replace HS := HS.o0
 refine W.as rfl (W.nx (V.ret ?_))
 cases H
 exact At.ret1 rfl rfl ⟨_, rfl, rfl, HS⟩
def signalmanref15_ahead.f (a0 : Int) (a1 : Int) : Option Bool := ((signalmanref1_Dist.f a1 a0 65536).bind fun t1 => (if t1 ≥ 1 then some (decide (t1 ≤ 32767)) else some false))
theorem signalmanref15_ahead.calls {a0 : Int} {a1 : Int} {R : As} {w0 w : World}  {r : Bool} (H : signalmanref15_ahead.f a0 a1 = some r) (HS : Sep.St [R] w0 w)  : Calls Tryz.prog 106 #[Value.int .i64 a0, Value.int .i64 a1] w (Ret fun u w => u = Value.bool r ∧ Sep.St [R] w0 w) := by
 unfold signalmanref15_ahead.f at H
 refine calls_enter Tryz.func106 rfl rfl ?_
 have H : _ = some r := H
 refine V.seq (V.region (W.as rfl (W.nx (V.seq (V.region (W.mv rfl (W.mv rfl ?_)))))))
 obtain ⟨t1, A2, H⟩ := bind_s H
 refine W.e (Y.cl Tryz.func124 (signalmanref1_Dist.calls A2 HS.j0)) rfl ?_
 rintro _ w ⟨rfl, HS⟩
 replace HS := HS.o0
 refine W.as rfl (W.nx (V.seq (V.region (W.mv rfl (W.r (X.cmp (decide (t1 ≥ 1)) rfl rfl rfl rfl) rfl (W.mv rfl ?_))))))
 by_cases c3 : t1 ≥ 1
 ·replace H := ite_t c3 H
  refine W.want 11 rfl (sb (decide_eq_true c3)) (W.mv rfl (W.want 11 rfl (sb (decide_eq_true c3)) (W.r (X.cmp (decide (t1 ≤ 32767)) rfl rfl rfl rfl) rfl (W.r (X.pickT (sb (decide_eq_true c3)) rfl) rfl (W.as rfl (W.nx (V.ret ?_)))))))
  cases H
  exact At.ret1 rfl rfl ⟨_, rfl, rfl, HS⟩
 ·replace H := ite_f c3 H
  refine W.pass 11 rfl (sb (decide_eq_false c3)) rfl rfl (W.pass 11 rfl (sb (decide_eq_false c3)) rfl rfl (W.r (X.pickF (sb (decide_eq_false c3)) rfl) rfl (W.as rfl (W.nx (V.ret ?_)))))
  cases H
  exact At.ret1 rfl rfl ⟨_, rfl, rfl, HS⟩
def signalmanref15_Arq_ind.f (a0 : signalmanref15_Arq) (a1 : Int) : Option signalmanref15_Arq := (if (a0.inds.length : Int) + ([a1] : List Int).length ≤ 1099511627776 then some (({ a0 with inds := a0.inds ++ ([a1] : List Int) } : signalmanref15_Arq)) else none)
theorem signalmanref15_Arq_ind.calls {a0 : signalmanref15_Arq} {a1 : Int} {R : As} {w0 w : World} {b0 : Nat} {r : signalmanref15_Arq} (H : signalmanref15_Arq_ind.f a0 a1 = some r) (HS : Sep.St [signalmanref15_Arq.at b0 a0, R] w0 w)  : Calls Tryz.prog 123 #[Value.pointer (some ⟨b0, 0, none⟩), Value.int .i64 a1] w (Ret fun u w => u = Value.tuple #[] ∧ Sep.St [signalmanref15_Arq.at b0 r, R] w0 w) := by
 unfold signalmanref15_Arq_ind.f at H
 refine calls_enter Tryz.func123 rfl rfl ?_
 have H : _ = some r := H
 refine V.region (W.mv rfl (W.mv rfl (W.nc rfl ?_)))
 obtain ⟨b6_1, b7_1, a11_1, c11_1, d11_1, a12_1, c12_1, hi2, HS⟩ := signalmanref15_Arq.open HS
 refine W.fa fo71_12 rfl (W.ld 0 HS Tryz.underlying51 rfl rfl rfl rfl (W.mv rfl (W.e (Y.ls (e := 3) (Value.int .i64) ([a1] : List Int) HS rfl rfl (fun _ => by kernel_rfl)) rfl ?_)))
 rintro _ w ⟨lb5, rfl, HS⟩
 obtain ⟨c6, H⟩ := ite_n H
 refine W.e (Y.appF (Value.int .i64) (fun _ => rfl) 6 Tryz.underlying51 ap3 rfl HS rfl rfl rfl (rdC.at 0 row_rd HS rfl) (by omega) (by omega)) rfl ?_
 rintro _ w ⟨ra7, rc8, rfl, HS⟩
 refine W.nc rfl (W.fa fo71_12 rfl (W.st 1 12 HS inf51 rfl rfl rfl rfl rfl rfl fun w HS => ?_))
 refine W.nil ?_
 replace HS := HS.pm [1, 2, 3, 4, 5, 6, 0, 7]
 replace HS := signalmanref15_Arq.close trivial HS
 replace HS := HS.pk [0, 2] [1]
 cases H
 exact At.end0 rfl ⟨_, rfl, rfl, HS⟩
mutual
def signalmanref15_Arq_sabme.j1 (a0 : signalmanref15_Arq) (a1 : Int) (a2 : Bool) (x15 : Bool) : Option signalmanref15_Arq := (if x15 = true then ((signalmanref15_Arq_clear.f a0).bind fun t20 => ((signalmanref15_Arq_say.f ({ t20 with state := 2, tag := a1 } : signalmanref15_Arq) 4 a2).bind fun t24 => (if a0.state = 2 then ((signalmanref15_Arq_ind.f t24 3).bind fun t27 => some t27) else ((signalmanref15_Arq_ind.f t24 1).bind fun t29 => some t29)))) else (if a0.state = 0 then ((signalmanref15_Arq_say.f a0 6 false).bind fun t34 => some t34) else some a0))
def signalmanref15_Arq_sabme.j0 (a0 : signalmanref15_Arq) (a1 : Int) (a2 : Bool) (x10 : Bool) : Option signalmanref15_Arq := (if x10 = true then ((signalmanref15_Arq_say.f a0 4 a2).bind fun t13 => some t13) else (if a0.state = 1 then (if a1 = a0.tag then (signalmanref15_Arq_sabme.j1 a0 a1 a2 true) else ((signalmanref15_ahead.f a1 a0.tag).bind fun t40 => (signalmanref15_Arq_sabme.j1 a0 a1 a2 t40))) else ((signalmanref15_ahead.f a1 a0.tag).bind fun t42 => (signalmanref15_Arq_sabme.j1 a0 a1 a2 t42))))
end
def signalmanref15_Arq_sabme.f (a0 : signalmanref15_Arq) (a1 : Int) (a2 : Bool) : Option signalmanref15_Arq := (if a0.state = 3 then some a0 else (if a0.state = 2 then (signalmanref15_Arq_sabme.j0 a0 a1 a2 (decide (a1 = a0.tag))) else (signalmanref15_Arq_sabme.j0 a0 a1 a2 false)))
theorem signalmanref15_Arq_sabme.calls {a0 : signalmanref15_Arq} {a1 : Int} {a2 : Bool} {R : As} {w0 w : World} {b0 : Nat} {r : signalmanref15_Arq} (H : signalmanref15_Arq_sabme.f a0 a1 a2 = some r) (HS : Sep.St [signalmanref15_Arq.at b0 a0, R] w0 w)  : Calls Tryz.prog 103 #[Value.pointer (some ⟨b0, 0, none⟩), Value.int .i64 a1, Value.bool a2] w (Ret fun u w => u = Value.tuple #[] ∧ Sep.St [signalmanref15_Arq.at b0 r, R] w0 w) := by
 unfold signalmanref15_Arq_sabme.f at H
 refine calls_enter Tryz.func103 rfl rfl ?_
 have H : _ = some r := H
 refine V.block (V.seq (V.region (W.mv rfl (W.nc rfl ?_))))
 obtain ⟨b6_1, b7_1, a11_1, c11_1, d11_1, a12_1, c12_1, hi2, HS⟩ := signalmanref15_Arq.open HS
 refine W.fa fo71_4 rfl (W.ld 0 HS Tryz.underlying3 rfl rfl rfl rfl (W.r (X.cmp (decide (a0.state = 3)) rfl rfl rfl rfl) rfl (W.as rfl (W.nx ?_))))
 by_cases c3 : a0.state = 3
 ·replace H := ite_t c3 H
  refine V.condT (sb (decide_eq_true c3)) (V.skip (At.blockEnd ?_))
  replace HS := signalmanref15_Arq.close trivial HS
  cases H
  exact At.end0 rfl ⟨_, rfl, rfl, HS⟩
 ·replace H := ite_f c3 H
  refine V.condF (sb (decide_eq_false c3)) (V.meet (σ := Bool) (fun st w => match st with | x10 => Sep.St [signalmanref15_Arq.at b0 a0, R] w0 w ∧ signalmanref15_Arq_sabme.j0 a0 a1 a2 x10 = some r) (fun st => match st with | x10 => [(0, Value.pointer (some ⟨b0, 0, none⟩)), (1, Value.int .i64 a1), (2, Value.bool a2), (13, Value.bool x10)]) ?_ ?_)
  ·refine V.region (W.mv rfl (W.nc rfl (W.fa fo71_4 rfl (W.ld 0 HS Tryz.underlying3 rfl rfl rfl rfl (W.r (X.cmp (decide (a0.state = 2)) rfl rfl rfl rfl) rfl (W.mv rfl ?_))))))
   by_cases c44 : a0.state = 2
   ·replace H := ite_t c44 H
    refine W.want 19 rfl (sb (decide_eq_true c44)) (W.mv rfl (W.want 19 rfl (sb (decide_eq_true c44)) (W.mv rfl (W.want 19 rfl (sb (decide_eq_true c44)) (W.nc rfl (W.want 19 rfl (sb (decide_eq_true c44)) (W.fa fo71_5 rfl (W.want 19 rfl (sb (decide_eq_true c44)) (W.ld 0 HS Tryz.underlying3 rfl rfl rfl rfl (W.want 19 rfl (sb (decide_eq_true c44)) (W.r (X.cmp (decide (a1 = a0.tag)) rfl rfl rfl rfl) rfl (W.r (X.pickT (sb (decide_eq_true c44)) rfl) rfl (W.as rfl (W.nil ?_))))))))))))))
    replace HS := signalmanref15_Arq.close trivial HS
    exact At.meet (decide (a1 = a0.tag)) ⟨rfl, rfl, rfl, rfl, trivial⟩ ⟨HS, H⟩
   ·replace H := ite_f c44 H
    refine W.pass 19 rfl (sb (decide_eq_false c44)) rfl rfl (W.pass 19 rfl (sb (decide_eq_false c44)) rfl rfl (W.pass 19 rfl (sb (decide_eq_false c44)) rfl rfl (W.pass 19 rfl (sb (decide_eq_false c44)) rfl rfl (W.pass 19 rfl (sb (decide_eq_false c44)) rfl rfl (W.pass 19 rfl (sb (decide_eq_false c44)) rfl rfl (W.r (X.pickF (sb (decide_eq_false c44)) rfl) rfl (W.as rfl (W.nil ?_))))))))
    replace HS := signalmanref15_Arq.close trivial HS
    exact At.meet false ⟨rfl, rfl, rfl, rfl, trivial⟩ ⟨HS, H⟩
  ·rintro x10 w ⟨HS, H⟩
   unfold signalmanref15_Arq_sabme.j0 at H
   by_cases c12 : x10 = true
   ·replace H := ite_t c12 H
    refine V.condT (sb c12) (V.region (W.mv rfl (W.mv rfl ?_)))
    obtain ⟨t13, A14, H⟩ := bind_s H
    refine W.e (Y.cl Tryz.func48 (signalmanref15_Arq_say.calls A14 HS.j1)) rfl ?_
    rintro _ w ⟨rfl, HS⟩
    replace HS := HS.o1
    refine W.nil (At.blockEnd ?_)
    cases H
    exact At.end0 rfl ⟨_, rfl, rfl, HS⟩
   ·replace H := ite_f c12 H
    refine V.condF (sb (b_f c12)) (V.meet (σ := Bool) (fun st w => match st with | x15 => Sep.St [signalmanref15_Arq.at b0 a0, R] w0 w ∧ signalmanref15_Arq_sabme.j1 a0 a1 a2 x15 = some r) (fun st => match st with | x15 => [(0, Value.pointer (some ⟨b0, 0, none⟩)), (1, Value.int .i64 a1), (2, Value.bool a2), (30, Value.bool x15)]) ?_ ?_)
    ·refine V.region (W.mv rfl (W.nc rfl ?_))
     obtain ⟨b6_36, b7_36, a11_36, c11_36, d11_36, a12_36, c12_36, hi37, HS⟩ := signalmanref15_Arq.open HS
     refine W.fa fo71_4 rfl (W.ld 0 HS Tryz.underlying3 rfl rfl rfl rfl (W.r (X.cmp (decide (a0.state = 1)) rfl rfl rfl rfl) rfl (W.mv rfl ?_)))
     by_cases c38 : a0.state = 1
     ·replace H := ite_t c38 H
      refine W.want 36 rfl (sb (decide_eq_true c38)) (W.mv rfl (W.want 36 rfl (sb (decide_eq_true c38)) (W.mv rfl (W.want 36 rfl (sb (decide_eq_true c38)) (W.nc rfl (W.want 36 rfl (sb (decide_eq_true c38)) (W.fa fo71_5 rfl (W.want 36 rfl (sb (decide_eq_true c38)) (W.ld 0 HS Tryz.underlying3 rfl rfl rfl rfl (W.want 36 rfl (sb (decide_eq_true c38)) (W.r (X.cmp (decide (a1 = a0.tag)) rfl rfl rfl rfl) rfl (W.r (X.pickT (sb (decide_eq_true c38)) rfl) rfl (W.mv rfl ?_)))))))))))))
      by_cases c39 : a1 = a0.tag
      ·replace H := ite_t c39 H
       refine W.pass 44 rfl (sb (decide_eq_true c39)) rfl rfl (W.pass 44 rfl (sb (decide_eq_true c39)) rfl rfl (W.pass 44 rfl (sb (decide_eq_true c39)) rfl rfl (W.pass 44 rfl (sb (decide_eq_true c39)) rfl rfl (W.pass 44 rfl (sb (decide_eq_true c39)) rfl rfl (W.pass 44 rfl (sb (decide_eq_true c39)) rfl rfl (W.r (X.pickT (sb (decide_eq_true c39)) rfl) rfl (W.as rfl (W.nil ?_))))))))
       replace HS := signalmanref15_Arq.close trivial HS
       exact At.meet true ⟨rfl, rfl, rfl, rfl, trivial⟩ ⟨HS, H⟩
      ·replace H := ite_f c39 H
       refine W.want 44 rfl (sb (decide_eq_false c39)) (W.mv rfl (W.want 44 rfl (sb (decide_eq_false c39)) (W.mv rfl (W.want 44 rfl (sb (decide_eq_false c39)) (W.nc rfl (W.want 44 rfl (sb (decide_eq_false c39)) (W.fa fo71_5 rfl (W.want 44 rfl (sb (decide_eq_false c39)) (W.ld 0 HS Tryz.underlying3 rfl rfl rfl rfl (W.want 44 rfl (sb (decide_eq_false c39)) ?_))))))))))
       obtain ⟨t40, A41, H⟩ := bind_s H
       refine W.e (Y.cl Tryz.func106 (signalmanref15_ahead.calls A41 HS.j0)) rfl ?_
       rintro _ w ⟨rfl, HS⟩
       replace HS := HS.o0
       refine W.r (X.pickF (sb (decide_eq_false c39)) rfl) rfl (W.as rfl (W.nil ?_))
       replace HS := signalmanref15_Arq.close trivial HS
       exact At.meet t40 ⟨rfl, rfl, rfl, rfl, trivial⟩ ⟨HS, H⟩
     ·replace H := ite_f c38 H
      refine W.pass 36 rfl (sb (decide_eq_false c38)) rfl rfl (W.pass 36 rfl (sb (decide_eq_false c38)) rfl rfl (W.pass 36 rfl (sb (decide_eq_false c38)) rfl rfl (W.pass 36 rfl (sb (decide_eq_false c38)) rfl rfl (W.pass 36 rfl (sb (decide_eq_false c38)) rfl rfl (W.pass 36 rfl (sb (decide_eq_false c38)) rfl rfl (W.r (X.pickF (sb (decide_eq_false c38)) rfl) rfl (W.mv rfl (W.want 44 rfl rfl (W.mv rfl (W.want 44 rfl rfl (W.mv rfl (W.want 44 rfl rfl (W.nc rfl (W.want 44 rfl rfl (W.fa fo71_5 rfl (W.want 44 rfl rfl (W.ld 0 HS Tryz.underlying3 rfl rfl rfl rfl (W.want 44 rfl rfl ?_))))))))))))))))))
      obtain ⟨t42, A43, H⟩ := bind_s H
      refine W.e (Y.cl Tryz.func106 (signalmanref15_ahead.calls A43 HS.j0)) rfl ?_
      rintro _ w ⟨rfl, HS⟩
      replace HS := HS.o0
      refine W.r (X.pickF rfl rfl) rfl (W.as rfl (W.nil ?_))
      replace HS := signalmanref15_Arq.close trivial HS
      exact At.meet t42 ⟨rfl, rfl, rfl, rfl, trivial⟩ ⟨HS, H⟩
    ·rintro x15 w ⟨HS, H⟩
     unfold signalmanref15_Arq_sabme.j1 at H
     by_cases c17 : x15 = true
     ·replace H := ite_t c17 H
      refine V.condT (sb c17) (V.seq (V.region (W.mv rfl (W.nc rfl ?_))))
      obtain ⟨b6_18, b7_18, a11_18, c11_18, d11_18, a12_18, c12_18, hi19, HS⟩ := signalmanref15_Arq.open HS
      refine W.fa fo71_4 rfl (W.ld 0 HS Tryz.underlying3 rfl rfl rfl rfl (W.as rfl (W.nx (V.seq (V.region (W.mv rfl ?_))))))
      replace HS := signalmanref15_Arq.close trivial HS
      obtain ⟨t20, A21, H⟩ := bind_s H
      refine W.e (Y.cl Tryz.func50 (signalmanref15_Arq_clear.calls A21 HS.j1)) rfl ?_
      rintro _ w ⟨rfl, HS⟩
      replace HS := HS.o1
      refine W.nx (V.seq (V.region (W.mv rfl (W.mv rfl (W.nc rfl ?_)))))
      obtain ⟨b6_22, b7_22, a11_22, c11_22, d11_22, a12_22, c12_22, hi23, HS⟩ := signalmanref15_Arq.open HS
      refine W.fa fo71_5 rfl (W.st 0 5 HS inf3 rfl rfl rfl rfl rfl rfl fun w HS => ?_)
      refine W.nx (V.seq (V.region (W.mv rfl (W.nc rfl (W.fa fo71_4 rfl (W.st 0 4 HS inf3 rfl rfl rfl rfl rfl rfl fun w HS => ?_))))))
      refine W.nx (V.seq (V.region (W.mv rfl (W.mv rfl ?_))))
      replace HS := signalmanref15_Arq.close trivial HS
      obtain ⟨t24, A25, H⟩ := bind_s H
      refine W.e (Y.cl Tryz.func48 (signalmanref15_Arq_say.calls A25 HS.j1)) rfl ?_
      rintro _ w ⟨rfl, HS⟩
      replace HS := HS.o1
      refine W.nx (V.seq (V.region (W.mv rfl (W.r (X.cmp (decide (a0.state = 2)) rfl rfl rfl rfl) rfl (W.nx ?_)))))
      by_cases c26 : a0.state = 2
      ·replace H := ite_t c26 H
       refine V.condT (sb (decide_eq_true c26)) (V.region (W.mv rfl ?_))
       obtain ⟨t27, A28, H⟩ := bind_s H
       refine W.e (Y.cl Tryz.func123 (signalmanref15_Arq_ind.calls A28 HS.j1)) rfl ?_
       rintro _ w ⟨rfl, HS⟩
       replace HS := HS.o1
       refine W.nil (At.blockEnd ?_)
       cases H
       exact At.end0 rfl ⟨_, rfl, rfl, HS⟩
      ·replace H := ite_f c26 H
       refine V.condF (sb (decide_eq_false c26)) (V.region (W.mv rfl ?_))
       obtain ⟨t29, A30, H⟩ := bind_s H
       refine W.e (Y.cl Tryz.func123 (signalmanref15_Arq_ind.calls A30 HS.j1)) rfl ?_
       rintro _ w ⟨rfl, HS⟩
       replace HS := HS.o1
       refine W.nil (At.blockEnd ?_)
       cases H
       exact At.end0 rfl ⟨_, rfl, rfl, HS⟩
     ·replace H := ite_f c17 H
      refine V.condF (sb (b_f c17)) (V.seq (V.region (W.mv rfl (W.nc rfl ?_))))
      obtain ⟨b6_31, b7_31, a11_31, c11_31, d11_31, a12_31, c12_31, hi32, HS⟩ := signalmanref15_Arq.open HS
      refine W.fa fo71_4 rfl (W.ld 0 HS Tryz.underlying3 rfl rfl rfl rfl (W.r (X.cmp (decide (a0.state = 0)) rfl rfl rfl rfl) rfl (W.as rfl (W.nx ?_))))
      by_cases c33 : a0.state = 0
      ·replace H := ite_t c33 H
       refine V.condT (sb (decide_eq_true c33)) (V.region (W.mv rfl ?_))
       replace HS := signalmanref15_Arq.close trivial HS
       obtain ⟨t34, A35, H⟩ := bind_s H
       refine W.e (Y.cl Tryz.func48 (signalmanref15_Arq_say.calls A35 HS.j1)) rfl ?_
       rintro _ w ⟨rfl, HS⟩
       replace HS := HS.o1
       refine W.nil (At.blockEnd ?_)
       cases H
       exact At.end0 rfl ⟨_, rfl, rfl, HS⟩
      ·replace H := ite_f c33 H
       refine V.condF (sb (decide_eq_false c33)) (V.skip (At.blockEnd ?_))
       replace HS := signalmanref15_Arq.close trivial HS
       cases H
       exact At.end0 rfl ⟨_, rfl, rfl, HS⟩
def signalmanref15_Arq_end.f (a0 : signalmanref15_Arq) : Option signalmanref15_Arq := ((signalmanref15_Arq_clear.f a0).bind fun t1 => ((signalmanref15_Arq_ind.f ({ t1 with state := 0 } : signalmanref15_Arq) 2).bind fun t5 => some t5))
theorem signalmanref15_Arq_end.calls {a0 : signalmanref15_Arq} {R : As} {w0 w : World} {b0 : Nat} {r : signalmanref15_Arq} (H : signalmanref15_Arq_end.f a0 = some r) (HS : Sep.St [signalmanref15_Arq.at b0 a0, R] w0 w)  : Calls Tryz.prog 105 #[Value.pointer (some ⟨b0, 0, none⟩)] w (Ret fun u w => u = Value.tuple #[] ∧ Sep.St [signalmanref15_Arq.at b0 r, R] w0 w) := by
 unfold signalmanref15_Arq_end.f at H
 refine calls_enter Tryz.func105 rfl rfl ?_
 have H : _ = some r := H
 refine V.seq (V.region (W.mv rfl ?_))
 obtain ⟨t1, A2, H⟩ := bind_s H
 refine W.e (Y.cl Tryz.func50 (signalmanref15_Arq_clear.calls A2 HS.j1)) rfl ?_
 rintro _ w ⟨rfl, HS⟩
 replace HS := HS.o1
 refine W.nx (V.seq (V.region (W.mv rfl (W.nc rfl ?_))))
 obtain ⟨b6_3, b7_3, a11_3, c11_3, d11_3, a12_3, c12_3, hi4, HS⟩ := signalmanref15_Arq.open HS
 refine W.fa fo71_4 rfl (W.st 0 4 HS inf3 rfl rfl rfl rfl rfl rfl fun w HS => ?_)
 refine W.nx (V.region (W.mv rfl ?_))
 replace HS := signalmanref15_Arq.close trivial HS
 obtain ⟨t5, A6, H⟩ := bind_s H
 refine W.e (Y.cl Tryz.func123 (signalmanref15_Arq_ind.calls A6 HS.j1)) rfl ?_
 rintro _ w ⟨rfl, HS⟩
 replace HS := HS.o1
 refine W.nil ?_
 cases H
 exact At.end0 rfl ⟨_, rfl, rfl, HS⟩
def signalmanref15_Arq_ua.f (k : Nat) (a0 : signalmanref15_Arq) : Option signalmanref15_Arq := (if a0.state = 1 then ((signalmanref15_Arq_ind.f ({ a0 with state := 2, left := 0, tries := 0 } : signalmanref15_Arq) 1).bind fun t4 => ((signalmanref15_Arq_pump.f k t4).bind fun t6 => some t6)) else (if a0.state = 3 then ((signalmanref15_Arq_end.f a0).bind fun t9 => some t9) else some a0))
theorem signalmanref15_Arq_ua.calls {k : Nat} {a0 : signalmanref15_Arq} {R : As} {w0 w : World} {b0 : Nat} {r : signalmanref15_Arq} (H : signalmanref15_Arq_ua.f k a0 = some r) (HS : Sep.St [signalmanref15_Arq.at b0 a0, R] w0 w)  : Calls Tryz.prog 104 #[Value.pointer (some ⟨b0, 0, none⟩)] w (Ret fun u w => u = Value.tuple #[] ∧ Sep.St [signalmanref15_Arq.at b0 r, R] w0 w) := by
 unfold signalmanref15_Arq_ua.f at H
 refine calls_enter Tryz.func104 rfl rfl ?_
 have H : _ = some r := H
 refine V.seq (V.region (W.mv rfl (W.nc rfl ?_)))
 obtain ⟨b6_1, b7_1, a11_1, c11_1, d11_1, a12_1, c12_1, hi2, HS⟩ := signalmanref15_Arq.open HS
 refine W.fa fo71_4 rfl (W.ld 0 HS Tryz.underlying3 rfl rfl rfl rfl (W.nx (V.block (V.seq (V.region (W.r (X.cmp (decide (a0.state = 1)) rfl rfl rfl rfl) rfl (W.as rfl (W.nx ?_))))))))
 by_cases c3 : a0.state = 1
 ·replace H := ite_t c3 H
  refine V.condT (sb (decide_eq_true c3)) (V.seq (V.region (W.mv rfl (W.nc rfl (W.fa fo71_4 rfl (W.st 0 4 HS inf3 rfl rfl rfl rfl rfl rfl fun w HS => ?_))))))
  refine W.nx (V.seq (V.region (W.mv rfl (W.nc rfl (W.fa fo71_8 rfl (W.st 0 8 HS inf3 rfl rfl rfl rfl rfl rfl fun w HS => ?_))))))
  refine W.nx (V.seq (V.region (W.mv rfl (W.nc rfl (W.fa fo71_9 rfl (W.st 0 9 HS inf3 rfl rfl rfl rfl rfl rfl fun w HS => ?_))))))
  refine W.nx (V.seq (V.region (W.mv rfl ?_)))
  replace HS := signalmanref15_Arq.close trivial HS
  obtain ⟨t4, A5, H⟩ := bind_s H
  refine W.e (Y.cl Tryz.func123 (signalmanref15_Arq_ind.calls A5 HS.j1)) rfl ?_
  rintro _ w ⟨rfl, HS⟩
  replace HS := HS.o1
  refine W.nx (V.region (W.mv rfl ?_))
  obtain ⟨t6, A7, H⟩ := bind_s H
  refine W.e (Y.cl Tryz.func54 (signalmanref15_Arq_pump.calls A7 HS.j1)) rfl ?_
  rintro _ w ⟨rfl, HS⟩
  replace HS := HS.o1
  refine W.nil (At.blockEnd ?_)
  cases H
  exact At.end0 rfl ⟨_, rfl, rfl, HS⟩
 ·replace H := ite_f c3 H
  refine V.condF (sb (decide_eq_false c3)) (V.seq (V.region (W.r (X.cmp (decide (a0.state = 3)) rfl rfl rfl rfl) rfl (W.as rfl (W.nx ?_)))))
  by_cases c8 : a0.state = 3
  ·replace H := ite_t c8 H
   refine V.condT (sb (decide_eq_true c8)) (V.region (W.mv rfl ?_))
   replace HS := signalmanref15_Arq.close trivial HS
   obtain ⟨t9, A10, H⟩ := bind_s H
   refine W.e (Y.cl Tryz.func105 (signalmanref15_Arq_end.calls A10 HS.j1)) rfl ?_
   rintro _ w ⟨rfl, HS⟩
   replace HS := HS.o1
   refine W.nil (At.blockEnd ?_)
   cases H
   exact At.end0 rfl ⟨_, rfl, rfl, HS⟩
  ·replace H := ite_f c8 H
   refine V.condF (sb (decide_eq_false c8)) (V.skip (At.blockEnd ?_))
   replace HS := signalmanref15_Arq.close trivial HS
   cases H
   exact At.end0 rfl ⟨_, rfl, rfl, HS⟩
end Go.Proofs.YtnlcafmkmfnobaaGreat

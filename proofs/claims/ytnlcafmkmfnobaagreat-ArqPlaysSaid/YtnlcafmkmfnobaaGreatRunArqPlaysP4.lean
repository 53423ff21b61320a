/- ArqPlays: the functions that its law reaches, as plain functions, and that the machine's calls come to what these say. Conditions: those that stand at each. -/
import Derived.Test.YtnlcafmkmfnobaaGreatRunArqPlaysP3
set_option linter.all false
set_option maxRecDepth 100000
set_option maxHeartbeats 4000000
set_option synthInstance.maxSize 100000
set_option synthInstance.maxHeartbeats 1000000
namespace Go.Proofs.YtnlcafmkmfnobaaGreat
open Go.RowKit Go.Proofs.YtnlcafmkmfnobaaGreat.Sep Go.Proofs.YtnlcafmkmfnobaaGreat.Walk
mutual
def signalmanref15_Arq_bare.j0 (a0 : signalmanref15_Arq) (a1 : Int) (a2 : api_Ctl) (x19 : Bool) : Option signalmanref15_Arq := (if x19 = true then ((signalmanref15_Arq_say.f a0 4 a2.Poll).bind fun t24 => ((signalmanref15_Arq_end.f t24).bind fun t26 => some t26)) else ((signalmanref15_Arq_tell.f a0 a1 ({ Kind := 6, Ns := 0, Nr := 0, Poll := false } : api_Ctl) []).bind fun t28 => some t28))
def signalmanref15_Arq_bare.j2 (a0 : signalmanref15_Arq) (x47 : Bool) : Option signalmanref15_Arq := (if x47 = true then ((signalmanref15_Arq_end.f a0).bind fun t50 => some t50) else some a0)
def signalmanref15_Arq_bare.j1 (a0 : signalmanref15_Arq) (a1 : Int) (x40 : Bool) : Option signalmanref15_Arq := (if x40 = true then ((signalmanref15_Arq_end.f ({ a0 with tag := a1 } : signalmanref15_Arq)).bind fun t45 => some t45) else (if a1 = a0.tag then (signalmanref15_Arq_bare.j2 a0 (!(decide (a0.state = 0)))) else (signalmanref15_Arq_bare.j2 a0 false)))
def signalmanref15_Arq_bare.j3 (a0 : signalmanref15_Arq) (x66 : Bool) : Option signalmanref15_Arq := (if x66 = true then ((signalmanref15_Arq_end.f a0).bind fun t69 => some t69) else some a0)
end
def signalmanref15_Arq_bare.f (k : Nat) (a0 : signalmanref15_Arq) (a1 : Int) (a2 : api_Ctl) : Option signalmanref15_Arq := (if a2.Kind = 3 then ((signalmanref15_Arq_sabme.f a0 a1 a2.Poll).bind fun t5 => some t5) else (if a2.Kind = 4 then (if a1 = a0.tag then ((signalmanref15_Arq_ua.f k a0).bind fun t9 => some t9) else some a0) else (if a2.Kind = 5 then (if a1 = a0.tag then (if a0.state = 2 then (signalmanref15_Arq_bare.j0 a0 a1 a2 true) else (signalmanref15_Arq_bare.j0 a0 a1 a2 (decide (a0.state = 3)))) else (signalmanref15_Arq_bare.j0 a0 a1 a2 false)) else (if a2.Kind = 6 then (if a0.state = 1 then ((signalmanref15_ahead.f a1 a0.tag).bind fun t56 => (signalmanref15_Arq_bare.j1 a0 a1 t56)) else (signalmanref15_Arq_bare.j1 a0 a1 false)) else (if a2.Kind = 7 then (if a1 = a0.tag then (signalmanref15_Arq_bare.j3 a0 (decide (a0.state = 2))) else (signalmanref15_Arq_bare.j3 a0 false)) else some a0)))))
theorem signalmanref15_Arq_bare.calls {k : Nat} {a0 : signalmanref15_Arq} {a1 : Int} {a2 : api_Ctl} {R : As} {w0 w : World} {b0 : Nat} {r : signalmanref15_Arq} (H : signalmanref15_Arq_bare.f k a0 a1 a2 = some r) (HS : Sep.St [signalmanref15_Arq.at b0 a0, R] w0 w)  : Calls Tryz.prog 63 #[Value.pointer (some ⟨b0, 0, none⟩), Value.int .i64 a1, Value.agg #[Value.int .i64 a2.Kind, Value.int .i64 a2.Ns, Value.int .i64 a2.Nr, Value.bool a2.Poll]] w (Ret fun u w => u = Value.tuple #[] ∧ Sep.St [signalmanref15_Arq.at b0 r, R] w0 w) := by
 unfold signalmanref15_Arq_bare.f at H
 refine calls_enter Tryz.func63 rfl rfl ?_
 have H : _ = some r := H
 refine V.seq (V.region (W.e (Y.box HS rfl) rfl ?_))
 rintro _ w ⟨nb1, rfl, HS⟩
 refine W.nx (V.seq (V.region (W.mv rfl (W.mv rfl (W.nc rfl ?_)))))
 replace HS := HS.fr 1
 obtain ⟨b6_2, b7_2, a11_2, c11_2, d11_2, a12_2, c12_2, hi3, HS⟩ := signalmanref15_Arq.open HS
 refine W.fa fo71_5 rfl (W.ld 0 HS Tryz.underlying3 rfl rfl rfl rfl (W.r (X.cmp (decide (a1 = a0.tag)) rfl rfl rfl rfl) rfl (W.as rfl (W.nx (V.seq (V.region (W.fa fo32_0 rfl (W.ld 6 HS Tryz.underlying3 rfl rfl rfl rfl (W.nx (V.block (V.seq (V.region (W.r (X.cmp (decide (a2.Kind = 3)) rfl rfl rfl rfl) rfl (W.as rfl (W.nx ?_)))))))))))))))
 by_cases c4 : a2.Kind = 3
 ·replace H := ite_t c4 H
  refine V.condT (sb (decide_eq_true c4)) (V.region (W.mv rfl (W.mv rfl (W.fa fo32_3 rfl (W.ld 6 HS Tryz.underlying4 rfl rfl rfl rfl ?_)))))
  replace HS := signalmanref15_Arq.close trivial HS
  obtain ⟨t5, A6, H⟩ := bind_s H
  refine W.e (Y.cl Tryz.func103 (signalmanref15_Arq_sabme.calls A6 HS.j1)) rfl ?_
  rintro _ w ⟨rfl, HS⟩
  replace HS := HS.o1
  refine W.nil (At.blockEnd ?_)
  replace HS := HS.pk [0, 2] [1]
  cases H
  exact At.end0 rfl ⟨_, rfl, rfl, HS⟩
 ·replace H := ite_f c4 H
  refine V.condF (sb (decide_eq_false c4)) (V.seq (V.region (W.r (X.cmp (decide (a2.Kind = 4)) rfl rfl rfl rfl) rfl (W.as rfl (W.nx ?_)))))
  by_cases c7 : a2.Kind = 4
  ·replace H := ite_t c7 H
   refine V.condT (sb (decide_eq_true c7)) (V.seq (V.region (W.mv rfl (W.nx ?_))))
   by_cases c8 : a1 = a0.tag
   ·replace H := ite_t c8 H
    refine V.condT (sb (decide_eq_true c8)) (V.region (W.mv rfl ?_))
    replace HS := signalmanref15_Arq.close trivial HS
    obtain ⟨t9, A10, H⟩ := bind_s H
    refine W.e (Y.cl Tryz.func104 (signalmanref15_Arq_ua.calls A10 HS.j1)) rfl ?_
    rintro _ w ⟨rfl, HS⟩
    replace HS := HS.o1
    refine W.nil (At.blockEnd ?_)
    replace HS := HS.pk [0, 2] [1]
    cases H
    exact At.end0 rfl ⟨_, rfl, rfl, HS⟩
   ·replace H := ite_f c8 H
    refine V.condF (sb (decide_eq_false c8)) (V.skip (At.blockEnd ?_))
    replace HS := signalmanref15_Arq.close trivial HS
    replace HS := HS.pk [0, 2] [1]
    cases H
    exact At.end0 rfl ⟨_, rfl, rfl, HS⟩
  ·replace H := ite_f c7 H
   refine V.condF (sb (decide_eq_false c7)) (V.seq (V.region (W.r (X.cmp (decide (a2.Kind = 5)) rfl rfl rfl rfl) rfl (W.as rfl (W.nx ?_)))))
   by_cases c11 : a2.Kind = 5
   ·replace H := ite_t c11 H
    refine V.condT (sb (decide_eq_true c11)) (V.meet (σ := Bool) (fun st w => match st with | x19 => Sep.St [api_Ctl.at nb1 a2, signalmanref15_Arq.at b0 a0, R] w0 w ∧ signalmanref15_Arq_bare.j0 a0 a1 a2 x19 = some r) (fun st => match st with | x19 => [(0, Value.pointer (some ⟨b0, 0, none⟩)), (1, Value.int .i64 a1), (5, Value.pointer (some ⟨nb1, 0, none⟩)), (43, Value.bool x19)]) ?_ ?_)
    ·refine V.region (W.mv rfl (W.mv rfl ?_))
     by_cases c30 : a1 = a0.tag
     ·replace H := ite_t c30 H
      refine W.want 30 rfl (sb (decide_eq_true c30)) (W.mv rfl (W.want 30 rfl (sb (decide_eq_true c30)) (W.nc rfl (W.want 30 rfl (sb (decide_eq_true c30)) (W.fa fo71_4 rfl (W.want 30 rfl (sb (decide_eq_true c30)) (W.ld 0 HS Tryz.underlying3 rfl rfl rfl rfl (W.want 30 rfl (sb (decide_eq_true c30)) (W.r (X.cmp (decide (a0.state = 2)) rfl rfl rfl rfl) rfl (W.want 30 rfl (sb (decide_eq_true c30)) (W.mv rfl ?_)))))))))))
      by_cases c31 : a0.state = 2
      ·replace H := ite_t c31 H
       refine W.pass 36 rfl (sb (decide_eq_true c31)) rfl rfl (W.pass 36 rfl (sb (decide_eq_true c31)) rfl rfl (W.pass 36 rfl (sb (decide_eq_true c31)) rfl rfl (W.pass 36 rfl (sb (decide_eq_true c31)) rfl rfl (W.pass 36 rfl (sb (decide_eq_true c31)) rfl rfl (W.want 30 rfl (sb (decide_eq_true c30)) (W.r (X.pickT (sb (decide_eq_true c31)) rfl) rfl (W.r (X.pickT (sb (decide_eq_true c30)) rfl) rfl (W.nil ?_))))))))
       replace HS := HS.pm [6, 0, 1, 2, 3, 4, 5, 7]
       replace HS := api_Ctl.close trivial HS
       replace HS := HS.pm [1, 2, 3, 4, 5, 6, 0, 7]
       replace HS := signalmanref15_Arq.close trivial HS
       replace HS := HS.pk [1, 0, 2] []
       exact At.meet true ⟨rfl, rfl, rfl, rfl, trivial⟩ ⟨HS, H⟩
      ·replace H := ite_f c31 H
       refine W.want 36 rfl (sb (decide_eq_false c31)) (W.mv rfl (W.want 36 rfl (sb (decide_eq_false c31)) (W.nc rfl (W.want 36 rfl (sb (decide_eq_false c31)) (W.fa fo71_4 rfl (W.want 36 rfl (sb (decide_eq_false c31)) (W.ld 0 HS Tryz.underlying3 rfl rfl rfl rfl (W.want 36 rfl (sb (decide_eq_false c31)) (W.r (X.cmp (decide (a0.state = 3)) rfl rfl rfl rfl) rfl (W.want 30 rfl (sb (decide_eq_true c30)) (W.r (X.pickF (sb (decide_eq_false c31)) rfl) rfl (W.r (X.pickT (sb (decide_eq_true c30)) rfl) rfl (W.nil ?_)))))))))))))
       replace HS := HS.pm [6, 0, 1, 2, 3, 4, 5, 7]
       replace HS := api_Ctl.close trivial HS
       replace HS := HS.pm [1, 2, 3, 4, 5, 6, 0, 7]
       replace HS := signalmanref15_Arq.close trivial HS
       replace HS := HS.pk [1, 0, 2] []
       exact At.meet (decide (a0.state = 3)) ⟨rfl, rfl, rfl, rfl, trivial⟩ ⟨HS, H⟩
     ·replace H := ite_f c30 H
      refine W.pass 30 rfl (sb (decide_eq_false c30)) rfl rfl (W.pass 30 rfl (sb (decide_eq_false c30)) rfl rfl (W.pass 30 rfl (sb (decide_eq_false c30)) rfl rfl (W.pass 30 rfl (sb (decide_eq_false c30)) rfl rfl (W.pass 30 rfl (sb (decide_eq_false c30)) rfl rfl (W.pass 30 rfl (sb (decide_eq_false c30)) rfl rfl (W.passU 36 rfl rfl rfl (W.passU 36 rfl rfl rfl (W.passU 36 rfl rfl rfl (W.passU 36 rfl rfl rfl (W.passU 36 rfl rfl rfl (W.pass 30 rfl (sb (decide_eq_false c30)) rfl rfl (W.r (X.pickF (sb (decide_eq_false c30)) rfl) rfl (W.nil ?_)))))))))))))
      replace HS := HS.pm [6, 0, 1, 2, 3, 4, 5, 7]
      replace HS := api_Ctl.close trivial HS
      replace HS := HS.pm [1, 2, 3, 4, 5, 6, 0, 7]
      replace HS := signalmanref15_Arq.close trivial HS
      replace HS := HS.pk [1, 0, 2] []
      exact At.meet false ⟨rfl, rfl, rfl, rfl, trivial⟩ ⟨HS, H⟩
    ·rintro x19 w ⟨HS, H⟩
     unfold signalmanref15_Arq_bare.j0 at H
     by_cases c21 : x19 = true
     ·replace H := ite_t c21 H
      refine V.condT (sb c21) (V.seq (V.region (W.mv rfl ?_)))
      obtain ⟨hi23, HS⟩ := api_Ctl.open HS
      refine W.fa fo32_3 rfl (W.ld 0 HS Tryz.underlying4 rfl rfl rfl rfl ?_)
      obtain ⟨t24, A25, H⟩ := bind_s H
      replace HS := HS.pm [1, 0, 2]
      refine W.e (Y.cl Tryz.func48 (signalmanref15_Arq_say.calls A25 HS.j1)) rfl ?_
      rintro _ w ⟨rfl, HS⟩
      replace HS := HS.o1
      refine W.nx (V.region (W.mv rfl ?_))
      obtain ⟨t26, A27, H⟩ := bind_s H
      refine W.e (Y.cl Tryz.func105 (signalmanref15_Arq_end.calls A27 HS.j1)) rfl ?_
      rintro _ w ⟨rfl, HS⟩
      replace HS := HS.o1
      refine W.nil (At.blockEnd ?_)
      replace HS := HS.pk [0, 2] [1]
      cases H
      exact At.end0 rfl ⟨_, rfl, rfl, HS⟩
     ·replace H := ite_f c21 H
      refine V.condF (sb (b_f c21)) (V.region (W.mv rfl (W.mv rfl (W.r (X.bd (Value.agg #[Value.int .i64 (6), Value.int .i64 (0), Value.int .i64 (0), Value.bool false]) rfl (fun _ => by kernel_rfl)) rfl ?_))))
      obtain ⟨t28, A29, H⟩ := bind_s H
      replace HS := HS.pm [1, 0, 2]
      refine W.e (Y.cl Tryz.func84 (signalmanref15_Arq_tell.calls A29 HS.j1 (rdC.nil rfl))) rfl ?_
      rintro _ w ⟨rfl, HS⟩
      replace HS := HS.o1
      refine W.nil (At.blockEnd ?_)
      replace HS := HS.pk [0, 2] [1]
      cases H
      exact At.end0 rfl ⟨_, rfl, rfl, HS⟩
   ·replace H := ite_f c11 H
    refine V.condF (sb (decide_eq_false c11)) (V.seq (V.region (W.r (X.cmp (decide (a2.Kind = 6)) rfl rfl rfl rfl) rfl (W.as rfl (W.nx ?_)))))
    by_cases c32 : a2.Kind = 6
    ·replace H := ite_t c32 H
     refine V.condT (sb (decide_eq_true c32)) (V.meet (σ := Bool) (fun st w => match st with | x40 => Sep.St [api_Ctl.at nb1 a2, signalmanref15_Arq.at b0 a0, R] w0 w ∧ signalmanref15_Arq_bare.j1 a0 a1 x40 = some r) (fun st => match st with | x40 => [(0, Value.pointer (some ⟨b0, 0, none⟩)), (1, Value.int .i64 a1), (6, Value.bool (decide (a1 = a0.tag))), (68, Value.bool x40)]) ?_ ?_)
     ·refine V.region (W.mv rfl (W.nc rfl (W.fa fo71_4 rfl (W.ld 0 HS Tryz.underlying3 rfl rfl rfl rfl (W.r (X.cmp (decide (a0.state = 1)) rfl rfl rfl rfl) rfl (W.mv rfl ?_))))))
      by_cases c55 : a0.state = 1
      ·replace H := ite_t c55 H
       refine W.want 61 rfl (sb (decide_eq_true c55)) (W.mv rfl (W.want 61 rfl (sb (decide_eq_true c55)) (W.mv rfl (W.want 61 rfl (sb (decide_eq_true c55)) (W.nc rfl (W.want 61 rfl (sb (decide_eq_true c55)) (W.fa fo71_5 rfl (W.want 61 rfl (sb (decide_eq_true c55)) (W.ld 0 HS Tryz.underlying3 rfl rfl rfl rfl (W.want 61 rfl (sb (decide_eq_true c55)) ?_))))))))))
       obtain ⟨t56, A57, H⟩ := bind_s H
       refine W.e (Y.cl Tryz.func106 (signalmanref15_ahead.calls A57 HS.j0)) rfl ?_
       rintro _ w ⟨rfl, HS⟩
       replace HS := HS.o0
       refine W.r (X.pickT (sb (decide_eq_true c55)) rfl) rfl (W.nil ?_)
       replace HS := HS.pm [6, 0, 1, 2, 3, 4, 5, 7]
       replace HS := api_Ctl.close trivial HS
       replace HS := HS.pm [1, 2, 3, 4, 5, 6, 0, 7]
       replace HS := signalmanref15_Arq.close trivial HS
       replace HS := HS.pk [1, 0, 2] []
       exact At.meet t56 ⟨rfl, rfl, rfl, rfl, trivial⟩ ⟨HS, H⟩
      ·replace H := ite_f c55 H
       refine W.pass 61 rfl (sb (decide_eq_false c55)) rfl rfl (W.pass 61 rfl (sb (decide_eq_false c55)) rfl rfl (W.pass 61 rfl (sb (decide_eq_false c55)) rfl rfl (W.pass 61 rfl (sb (decide_eq_false c55)) rfl rfl (W.pass 61 rfl (sb (decide_eq_false c55)) rfl rfl (W.pass 61 rfl (sb (decide_eq_false c55)) rfl rfl (W.r (X.pickF (sb (decide_eq_false c55)) rfl) rfl (W.nil ?_)))))))
       replace HS := HS.pm [6, 0, 1, 2, 3, 4, 5, 7]
       replace HS := api_Ctl.close trivial HS
       replace HS := HS.pm [1, 2, 3, 4, 5, 6, 0, 7]
       replace HS := signalmanref15_Arq.close trivial HS
       replace HS := HS.pk [1, 0, 2] []
       exact At.meet false ⟨rfl, rfl, rfl, rfl, trivial⟩ ⟨HS, H⟩
     ·rintro x40 w ⟨HS, H⟩
      unfold signalmanref15_Arq_bare.j1 at H
      by_cases c42 : x40 = true
      ·replace H := ite_t c42 H
       refine V.condT (sb c42) (V.seq (V.region (W.mv rfl (W.mv rfl (W.nc rfl ?_)))))
       replace HS := HS.fr 1
       obtain ⟨b6_43, b7_43, a11_43, c11_43, d11_43, a12_43, c12_43, hi44, HS⟩ := signalmanref15_Arq.open HS
       refine W.fa fo71_5 rfl (W.st 0 5 HS inf3 rfl rfl rfl rfl rfl rfl fun w HS => ?_)
       refine W.nx (V.region (W.mv rfl ?_))
       replace HS := signalmanref15_Arq.close trivial HS
       obtain ⟨t45, A46, H⟩ := bind_s H
       refine W.e (Y.cl Tryz.func105 (signalmanref15_Arq_end.calls A46 HS.j1)) rfl ?_
       rintro _ w ⟨rfl, HS⟩
       replace HS := HS.o1
       refine W.nil (At.blockEnd ?_)
       replace HS := HS.pk [0, 2] [1]
       cases H
       exact At.end0 rfl ⟨_, rfl, rfl, HS⟩
      ·replace H := ite_f c42 H
       refine V.condF (sb (b_f c42)) (V.meet (σ := Bool) (fun st w => match st with | x47 => Sep.St [api_Ctl.at nb1 a2, signalmanref15_Arq.at b0 a0, R] w0 w ∧ signalmanref15_Arq_bare.j2 a0 x47 = some r) (fun st => match st with | x47 => [(0, Value.pointer (some ⟨b0, 0, none⟩)), (82, Value.bool x47)]) ?_ ?_)
       ·refine V.region (W.mv rfl (W.mv rfl ?_))
        by_cases c52 : a1 = a0.tag
        ·replace H := ite_t c52 H
         refine W.want 76 rfl (sb (decide_eq_true c52)) (W.mv rfl (W.want 76 rfl (sb (decide_eq_true c52)) (W.nc rfl (W.want 76 rfl (sb (decide_eq_true c52)) ?_))))
         replace HS := HS.fr 1
         obtain ⟨b6_53, b7_53, a11_53, c11_53, d11_53, a12_53, c12_53, hi54, HS⟩ := signalmanref15_Arq.open HS
         refine W.fa fo71_4 rfl (W.want 76 rfl (sb (decide_eq_true c52)) (W.ld 0 HS Tryz.underlying3 rfl rfl rfl rfl (W.want 76 rfl (sb (decide_eq_true c52)) (W.r (X.cmp (!(decide (a0.state = 0))) rfl rfl rfl rfl) rfl (W.r (X.pickT (sb (decide_eq_true c52)) rfl) rfl (W.nil ?_))))))
         replace HS := signalmanref15_Arq.close trivial HS
         replace HS := HS.pk [1, 0, 2] []
         exact At.meet (!(decide (a0.state = 0))) ⟨rfl, rfl, trivial⟩ ⟨HS, H⟩
        ·replace H := ite_f c52 H
         refine W.pass 76 rfl (sb (decide_eq_false c52)) rfl rfl (W.pass 76 rfl (sb (decide_eq_false c52)) rfl rfl (W.pass 76 rfl (sb (decide_eq_false c52)) rfl rfl (W.pass 76 rfl (sb (decide_eq_false c52)) rfl rfl (W.pass 76 rfl (sb (decide_eq_false c52)) rfl rfl (W.r (X.pickF (sb (decide_eq_false c52)) rfl) rfl (W.nil ?_))))))
         exact At.meet false ⟨rfl, rfl, trivial⟩ ⟨HS, H⟩
       ·rintro x47 w ⟨HS, H⟩
        unfold signalmanref15_Arq_bare.j2 at H
        by_cases c49 : x47 = true
        ·replace H := ite_t c49 H
         refine V.condT (sb c49) (V.region (W.mv rfl ?_))
         obtain ⟨t50, A51, H⟩ := bind_s H
         replace HS := HS.pm [1, 0, 2]
         refine W.e (Y.cl Tryz.func105 (signalmanref15_Arq_end.calls A51 HS.j1)) rfl ?_
         rintro _ w ⟨rfl, HS⟩
         replace HS := HS.o1
         refine W.nil (At.blockEnd ?_)
         replace HS := HS.pk [0, 2] [1]
         cases H
         exact At.end0 rfl ⟨_, rfl, rfl, HS⟩
        ·replace H := ite_f c49 H
         refine V.condF (sb (b_f c49)) (V.skip (At.blockEnd ?_))
         replace HS := HS.pk [1, 2] [0]
         cases H
         exact At.end0 rfl ⟨_, rfl, rfl, HS⟩
    ·replace H := ite_f c32 H
     refine V.condF (sb (decide_eq_false c32)) (V.seq (V.region (W.r (X.cmp (decide (a2.Kind = 7)) rfl rfl rfl rfl) rfl (W.as rfl (W.nx ?_)))))
     by_cases c58 : a2.Kind = 7
     ·replace H := ite_t c58 H
      refine V.condT (sb (decide_eq_true c58)) (V.meet (σ := Bool) (fun st w => match st with | x66 => Sep.St [api_Ctl.at nb1 a2, signalmanref15_Arq.at b0 a0, R] w0 w ∧ signalmanref15_Arq_bare.j3 a0 x66 = some r) (fun st => match st with | x66 => [(0, Value.pointer (some ⟨b0, 0, none⟩)), (94, Value.bool x66)]) ?_ ?_)
      ·refine V.region (W.mv rfl (W.mv rfl ?_))
       by_cases c71 : a1 = a0.tag
       ·replace H := ite_t c71 H
        refine W.want 88 rfl (sb (decide_eq_true c71)) (W.mv rfl (W.want 88 rfl (sb (decide_eq_true c71)) (W.nc rfl (W.want 88 rfl (sb (decide_eq_true c71)) (W.fa fo71_4 rfl (W.want 88 rfl (sb (decide_eq_true c71)) (W.ld 0 HS Tryz.underlying3 rfl rfl rfl rfl (W.want 88 rfl (sb (decide_eq_true c71)) (W.r (X.cmp (decide (a0.state = 2)) rfl rfl rfl rfl) rfl (W.r (X.pickT (sb (decide_eq_true c71)) rfl) rfl (W.nil ?_)))))))))))
        replace HS := HS.pm [6, 0, 1, 2, 3, 4, 5, 7]
        replace HS := api_Ctl.close trivial HS
        replace HS := HS.pm [1, 2, 3, 4, 5, 6, 0, 7]
        replace HS := signalmanref15_Arq.close trivial HS
        replace HS := HS.pk [1, 0, 2] []
        exact At.meet (decide (a0.state = 2)) ⟨rfl, rfl, trivial⟩ ⟨HS, H⟩
       ·replace H := ite_f c71 H
        refine W.pass 88 rfl (sb (decide_eq_false c71)) rfl rfl (W.pass 88 rfl (sb (decide_eq_false c71)) rfl rfl (W.pass 88 rfl (sb (decide_eq_false c71)) rfl rfl (W.pass 88 rfl (sb (decide_eq_false c71)) rfl rfl (W.pass 88 rfl (sb (decide_eq_false c71)) rfl rfl (W.r (X.pickF (sb (decide_eq_false c71)) rfl) rfl (W.nil ?_))))))
        replace HS := HS.pm [6, 0, 1, 2, 3, 4, 5, 7]
        replace HS := api_Ctl.close trivial HS
        replace HS := HS.pm [1, 2, 3, 4, 5, 6, 0, 7]
        replace HS := signalmanref15_Arq.close trivial HS
        replace HS := HS.pk [1, 0, 2] []
        exact At.meet false ⟨rfl, rfl, trivial⟩ ⟨HS, H⟩
      ·rintro x66 w ⟨HS, H⟩
       unfold signalmanref15_Arq_bare.j3 at H
       by_cases c68 : x66 = true
       ·replace H := ite_t c68 H
        refine V.condT (sb c68) (V.region (W.mv rfl ?_))
        obtain ⟨t69, A70, H⟩ := bind_s H
        replace HS := HS.pm [1, 0, 2]
        refine W.e (Y.cl Tryz.func105 (signalmanref15_Arq_end.calls A70 HS.j1)) rfl ?_
        rintro _ w ⟨rfl, HS⟩
        replace HS := HS.o1
        refine W.nil (At.blockEnd ?_)
        replace HS := HS.pk [0, 2] [1]
        cases H
        exact At.end0 rfl ⟨_, rfl, rfl, HS⟩
       ·replace H := ite_f c68 H
        refine V.condF (sb (b_f c68)) (V.skip (At.blockEnd ?_))
        replace HS := HS.pk [1, 2] [0]
        cases H
        exact At.end0 rfl ⟨_, rfl, rfl, HS⟩
     ·replace H := ite_f c58 H
      refine V.condF (sb (decide_eq_false c58)) (V.skip (At.blockEnd ?_))
      replace HS := signalmanref15_Arq.close trivial HS
      replace HS := HS.pk [0, 2] [1]
      cases H
      exact At.end0 rfl ⟨_, rfl, rfl, HS⟩
mutual
def signalmanref6_Log_Ack.l0 : Nat → signalmanref6_Log → Int → Int → Option (Int × Bool × signalmanref6_Log)
 | 0, _, _, _ => none
 | k + 1, a0, a1, x2 => (if x2 ≤ (a0.out.length : Int) then (if x2 < (a0.out.length : Int) then (if 0 ≤ x2 ∧ x2 < (a0.out.length : Int) then (signalmanref6_Log_Ack.j1 a0 a1 x2 (signalmanref6_Log_Ack.l0 k a0 a1) ((a0.out.getD x2.toNat default).n)) else none) else (signalmanref6_Log_Ack.j1 a0 a1 x2 (signalmanref6_Log_Ack.l0 k a0 a1) a0.next)) else some (0, false, a0))
def signalmanref6_Log_Ack.j1 (a0 : signalmanref6_Log) (a1 : Int) (x2 : Int) (Lq14 : Int → Option (Int × Bool × signalmanref6_Log)) (x12 : Int) : Option (Int × Bool × signalmanref6_Log) := (if x12 = a1 then (if 0 ≤ x2 ∧ x2 ≤ (a0.out.length : Int) ∧ (a0.out.length : Int) ≤ (a0.out.length : Int) then (if (([] : List signalmanref6_message).length : Int) + (cut a0.out x2 (a0.out.length : Int)).length ≤ 1099511627776 then some (x2, true, ({ a0 with out := ([] : List signalmanref6_message) ++ (cut a0.out x2 (a0.out.length : Int)) } : signalmanref6_Log)) else none) else none) else (Lq14 (w64 (x2 + 1))))
end
def signalmanref6_Log_Ack.f (k : Nat) (a0 : signalmanref6_Log) (a1 : Int) : Option (Int × Bool × signalmanref6_Log) := (signalmanref6_Log_Ack.l0 k a0 a1 0)
theorem signalmanref6_Log_Ack.calls {k : Nat} {a0 : signalmanref6_Log} {a1 : Int} {R : As} {w0 w : World} {b0 : Nat} {r : Int × Bool × signalmanref6_Log} (H : signalmanref6_Log_Ack.f k a0 a1 = some r) (HS : Sep.St [signalmanref6_Log.at b0 a0, R] w0 w)  : Calls Tryz.prog 107 #[Value.pointer (some ⟨b0, 0, none⟩), Value.int .i64 a1] w (Ret fun u w => u = Value.tuple #[Value.int .i64 r.1, Value.bool r.2.1] ∧ Sep.St [signalmanref6_Log.at b0 r.2.2, R] w0 w) := by
 unfold signalmanref6_Log_Ack.f at H
 refine calls_enter Tryz.func107 rfl rfl ?_
 have H : _ = some r := H
 refine V.seq (V.region (W.as rfl (W.as rfl (W.nx (V.seq (V.seq (V.region (W.as rfl (W.nx (V.block (V.loop (σ := Int) (fun kq (st : Int) w => match st with | x2 => Sep.St [signalmanref6_Log.at b0 a0, R] w0 w ∧ signalmanref6_Log_Ack.l0 kq a0 a1 x2 = some r ∧ kq ≤ k) (fun st => match st with | x2 => [(0, Value.pointer (some ⟨b0, 0, none⟩)), (1, Value.int .i64 a1), (6, Value.int .i64 x2)]) k (0) ⟨rfl, rfl, rfl, trivial⟩ ⟨HS, H, Nat.le_refl _⟩ ?_)))))))))))
 rintro kq3 x2 w ⟨HS, H, hk4⟩
 cases kq3 with
 | zero => exact absurd H (by simp [signalmanref6_Log_Ack.l0])
 | succ kq3 =>
  simp only [signalmanref6_Log_Ack.l0] at H
  refine V.seq (V.seq (V.region (W.mv rfl (W.mv rfl (W.nc rfl ?_)))))
  obtain ⟨a4_5, c4_5, d4_5, a5_5, c5_5, d5_5, hi6, HS⟩ := signalmanref6_Log.open HS
  refine W.fa fo98_4 rfl (W.ld 0 HS Tryz.underlying96 rfl rfl rfl rfl (W.r (X.lenSl Tryz.underlying96 rfl) rfl (W.r (X.cmp (decide (x2 ≤ (a0.out.length : Int))) rfl rfl rfl rfl) rfl (W.nx ?_))))
  by_cases c7 : x2 ≤ (a0.out.length : Int)
  ·replace H := ite_t c7 H
   refine V.condT (sb (decide_eq_true c7)) (V.skip (At.next (V.seq (V.block (V.seq (V.region (W.mv rfl (W.nc rfl (W.fa fo98_3 rfl (W.ld 0 HS Tryz.underlying3 rfl rfl rfl rfl (W.as rfl (W.nx (V.meet (σ := Int) (fun st w => match st with | x12 => Sep.St [signalmanref6_Log.at b0 a0, R] w0 w ∧ ∃ kl15, kl15 ≤ kq3 ∧ signalmanref6_Log_Ack.j1 a0 a1 x2 (signalmanref6_Log_Ack.l0 kl15 a0 a1) x12 = some r) (fun st => match st with | x12 => [(0, Value.pointer (some ⟨b0, 0, none⟩)), (1, Value.int .i64 a1), (6, Value.int .i64 x2), (7, Value.int .i64 x12)]) ?_ ?_)))))))))))))
   ·refine V.seq (V.region (W.mv rfl (W.mv rfl (W.nc rfl (W.fa fo98_4 rfl (W.ld 0 HS Tryz.underlying96 rfl rfl rfl rfl (W.r (X.lenSl Tryz.underlying96 rfl) rfl (W.r (X.cmp (decide (x2 < (a0.out.length : Int))) rfl rfl rfl rfl) rfl (W.nx ?_)))))))))
    by_cases c23 : x2 < (a0.out.length : Int)
    ·replace H := ite_t c23 H
     refine V.condT (sb (decide_eq_true c23)) (V.region (W.mv rfl (W.nc rfl (W.fa fo98_4 rfl (W.ld 0 HS Tryz.underlying96 rfl rfl rfl rfl (W.mv rfl ?_))))))
     obtain ⟨c24, H⟩ := ite_n H
     obtain ⟨eb25, eo26, hh⟩ := (rdC.at 1 row_rd HS rfl).some (by decide) c24.1 c24.2; subst hh
     refine W.r (X.indexSl Tryz.underlying96 inf118 rfl rfl c24.1 c24.2) rfl (W.fa fo118_0 rfl ?_)
     obtain ⟨ec27, hc28, HS⟩ := St.tie_at 2 HS rfl default c24.1 c24.2
     obtain ⟨ea29, em30, he31, HN⟩ := signalmanref6_message.unpack HS; clear HS; subst he31; have HS := HN
     refine W.r (X.load Tryz.underlying3 rfl rfl ((rdC.at 2 row_rd HS rfl).cellEl (hc28 0 _ rfl))) rfl (W.as rfl (W.nil ?_))
     replace HS := HS.pm [1, 2, 3, 4, 5, 0, 6]
     replace HS := signalmanref6_Log.close trivial HS
     replace HS := HS.pk [0, 2] [1]
     exact At.meet ((a0.out.getD x2.toNat default).n) ⟨rfl, rfl, rfl, rfl, trivial⟩ ⟨HS, kq3, by omega, H⟩
    ·replace H := ite_f c23 H
     refine V.condF (sb (decide_eq_false c23)) (V.skip ?_)
     replace HS := signalmanref6_Log.close trivial HS
     exact At.meet a0.next ⟨rfl, rfl, rfl, rfl, trivial⟩ ⟨HS, kq3, by omega, H⟩
   ·rintro x12 w ⟨HS, kl15, hkkl15, H⟩
    unfold signalmanref6_Log_Ack.j1 at H
    refine V.seq (V.region (W.mv rfl (W.mv rfl (W.r (X.cmp (decide (x12 = a1)) rfl rfl rfl rfl) rfl (W.nx ?_)))))
    by_cases c16 : x12 = a1
    ·replace H := ite_t c16 H
     refine V.condT (sb (decide_eq_true c16)) (V.seq (V.region (W.mv rfl (W.mv rfl (W.nc rfl ?_)))))
     obtain ⟨a4_17, c4_17, d4_17, a5_17, c5_17, d5_17, hi18, HS⟩ := signalmanref6_Log.open HS
     refine W.fa fo98_4 rfl (W.ld 0 HS Tryz.underlying96 rfl rfl rfl rfl (W.mv rfl ?_))
     obtain ⟨c19, H⟩ := ite_n H
     refine W.r (X.slL Tryz.underlying96 inf118 rfl rfl c19) rfl ?_
     obtain ⟨c20, H⟩ := ite_n H
     replace HS := row_nilE signalmanref6_message.El 118 2 HS
     replace HS := St.tie_cut2 4 x2 (a0.out.length : Int) HS rfl
     have HS : Sep.St [tie signalmanref6_message.El (cutC 2 d4_17 x2 (a0.out.length : Int)) (cut a0.out x2 (a0.out.length : Int)), row 118 2 (.slice none ([] : List signalmanref6_message).length 0) ([] : List signalmanref6_message).length ([]), tie signalmanref6_message.El ([]) ([] : List signalmanref6_message), blk b0 (#[Value.int .i64 a0.m, Value.int .i64 a0.window, Value.int .i64 a0.queue, Value.int .i64 a0.next, Value.slice a4_17 a0.out.length c4_17, Value.slice a5_17 a0.wait.length c5_17]) 98, row 118 2 (.slice a4_17 a0.out.length c4_17) a0.out.length d4_17, tie signalmanref6_message.El d4_17 a0.out, row 33 1 (.slice a5_17 a0.wait.length c5_17) a0.wait.length d5_17, tie (El.sl (El.int .u8)) d5_17 a0.wait, R] w0 w := HS
     refine W.e (Y.app (xs := ([] : List signalmanref6_message)) (ys := cut a0.out x2 (a0.out.length : Int)) 1 Tryz.underlying96 ap118 rfl (by decide) HS rfl rfl rfl (rdC.at 4 (rdC.sub row_rd c19) HS rfl) (St.tie_one 0 HS rfl) (by omega) (by omega)) rfl ?_
     rintro _ w ⟨ra21, rc22, rfl, HS⟩
     replace HS := HS.fr 2
     replace HS := St.tie_app 1 HS rfl
     refine W.nc rfl (W.fa fo98_4 rfl (W.st 3 4 HS inf96 rfl rfl rfl rfl rfl rfl fun w HS => ?_))
     refine W.nx (V.seq (V.region (W.mv rfl (W.as rfl (W.as rfl (W.nx (V.ret (At.blockRet (At.thenRet (At.thenRet (At.blockRet (At.thenRet ?_))))))))))))
     replace HS := HS.pm [3, 2, 0, 6, 7, 1, 4, 5, 8]
     replace HS := signalmanref6_Log.close trivial HS
     replace HS := HS.pk [0, 4] [1, 2, 3]
     cases H
     exact At.ret2 rfl rfl rfl ⟨_, rfl, rfl, HS⟩
    ·replace H := ite_f c16 H
     refine V.condF (sb (decide_eq_false c16)) (V.skip (At.blockEnd (At.next (V.region (W.mv rfl (W.r (X.add rfl rfl) rfl (W.as rfl (W.nil ?_))))))))
     exact At.round kl15 (by omega) (w64 (x2 + 1)) ⟨rfl, rfl, rfl, trivial⟩ ⟨HS, H, by omega⟩
  ·replace H := ite_f c7 H
   refine V.condF (sb (decide_eq_false c7)) (V.exit (At.thenExit (At.thenExit (At.blockExit (At.next (V.seq (V.region (W.as rfl (W.as rfl (W.nx (V.ret ?_)))))))))))
   replace HS := signalmanref6_Log.close trivial HS
   cases H
   exact At.ret2 rfl rfl rfl ⟨_, rfl, rfl, HS⟩
mutual
def signalmanref6_Log_Out.l0 : Nat → signalmanref6_Log → Int → (List Int) → Option (List Int)
 | 0, _, _, _ => none
 | k + 1, a0, x7, x10 => (if x7 < (a0.out.length : Int) then (if 0 ≤ x7 ∧ x7 < (a0.out.length : Int) then (if (x10.length : Int) + (([(a0.out.getD x7.toNat default).n] : List Int)).length ≤ 1099511627776 then (signalmanref6_Log_Out.l0 k a0 (w64 (x7 + 1)) (x10 ++ ([(a0.out.getD x7.toNat default).n] : List Int))) else none) else none) else some x10)
end
def signalmanref6_Log_Out.f (k : Nat) (a0 : signalmanref6_Log) : Option (List Int) := (signalmanref6_Log_Out.l0 k a0 0 ([] : List Int))
theorem signalmanref6_Log_Out.calls {k : Nat} {a0 : signalmanref6_Log} {R : As} {w0 w : World} {b0 : Nat} {a4_p0 : Option Addr} {c4_p0 : Nat} {d4_p0 : List Value} {a5_p0 : Option Addr} {c5_p0 : Nat} {d5_p0 : List Value} {r : List Int} (H : signalmanref6_Log_Out.f k a0 = some r) (HS : Sep.St [blk b0 (#[Value.int .i64 a0.m, Value.int .i64 a0.window, Value.int .i64 a0.queue, Value.int .i64 a0.next, Value.slice a4_p0 a0.out.length c4_p0, Value.slice a5_p0 a0.wait.length c5_p0]) 98, row 118 2 (.slice a4_p0 a0.out.length c4_p0) a0.out.length d4_p0, tie signalmanref6_message.El d4_p0 a0.out, row 33 1 (.slice a5_p0 a0.wait.length c5_p0) a0.wait.length d5_p0, tie (El.sl (El.int .u8)) d5_p0 a0.wait, R] w0 w)  : Calls Tryz.prog 108 #[Value.pointer (some ⟨b0, 0, none⟩)] w (Ret fun u w => ∃ (aq0 : Option Addr) (cq0 : Nat), u = Value.slice aq0 r.length cq0 ∧ Sep.St [row 3 1 (.slice aq0 r.length cq0) r.length (r.map (Value.int .i64)), blk b0 (#[Value.int .i64 a0.m, Value.int .i64 a0.window, Value.int .i64 a0.queue, Value.int .i64 a0.next, Value.slice a4_p0 a0.out.length c4_p0, Value.slice a5_p0 a0.wait.length c5_p0]) 98, row 118 2 (.slice a4_p0 a0.out.length c4_p0) a0.out.length d4_p0, tie signalmanref6_message.El d4_p0 a0.out, row 33 1 (.slice a5_p0 a0.wait.length c5_p0) a0.wait.length d5_p0, tie (El.sl (El.int .u8)) d5_p0 a0.wait, R] w0 w) := by
 unfold signalmanref6_Log_Out.f at H
 refine calls_enter Tryz.func108 rfl rfl ?_
 have H : _ = some r := H
 refine V.seq (V.region (W.as rfl (W.nx (V.seq (V.region (W.as rfl (W.nx (V.seq (V.seq (V.region (W.as rfl (W.nx (V.block ?_)))))))))))))
 replace HS := row_nilF (Value.int .i64) 3 1 HS
 refine V.loop (σ := Int × Option Addr × Nat × List Int) (fun kq (st : Int × Option Addr × Nat × List Int) w => match st with | (x7, ra8, rc9, x10) => Sep.St [row 3 1 (.slice ra8 x10.length rc9) x10.length (x10.map (Value.int .i64)), blk b0 (#[Value.int .i64 a0.m, Value.int .i64 a0.window, Value.int .i64 a0.queue, Value.int .i64 a0.next, Value.slice a4_p0 a0.out.length c4_p0, Value.slice a5_p0 a0.wait.length c5_p0]) 98, row 118 2 (.slice a4_p0 a0.out.length c4_p0) a0.out.length d4_p0, tie signalmanref6_message.El d4_p0 a0.out, row 33 1 (.slice a5_p0 a0.wait.length c5_p0) a0.wait.length d5_p0, tie (El.sl (El.int .u8)) d5_p0 a0.wait, R] w0 w ∧ signalmanref6_Log_Out.l0 kq a0 x7 x10 = some r ∧ kq ≤ k) (fun st => match st with | (x7, ra8, rc9, x10) => [(0, Value.pointer (some ⟨b0, 0, none⟩)), (3, Value.slice ra8 x10.length rc9), (4, Value.int .i64 x7)]) k (0, none, 0, ([] : List Int)) ⟨rfl, rfl, rfl, trivial⟩ ⟨HS, H, Nat.le_refl _⟩ ?_
 rintro kq11 ⟨x7, ra8, rc9, x10⟩ w ⟨HS, H, hk12⟩
 cases kq11 with
 | zero => exact absurd H (by simp [signalmanref6_Log_Out.l0])
 | succ kq11 =>
  simp only [signalmanref6_Log_Out.l0] at H
  refine V.seq (V.seq (V.region (W.mv rfl (W.mv rfl (W.nc rfl (W.fa fo98_4 rfl (W.ld 1 HS Tryz.underlying96 rfl rfl rfl rfl (W.r (X.lenSl Tryz.underlying96 rfl) rfl (W.r (X.cmp (decide (x7 < (a0.out.length : Int))) rfl rfl rfl rfl) rfl (W.nx ?_))))))))))
  by_cases c13 : x7 < (a0.out.length : Int)
  ·replace H := ite_t c13 H
   refine V.condT (sb (decide_eq_true c13)) (V.skip (At.next (V.seq (V.block (V.region (W.mv rfl (W.mv rfl (W.nc rfl (W.fa fo98_4 rfl (W.ld 1 HS Tryz.underlying96 rfl rfl rfl rfl (W.mv rfl ?_)))))))))))
   obtain ⟨c14, H⟩ := ite_n H
   obtain ⟨eb15, eo16, hh⟩ := (rdC.at 2 row_rd HS rfl).some (by decide) c14.1 c14.2; subst hh
   refine W.r (X.indexSl Tryz.underlying96 inf118 rfl rfl c14.1 c14.2) rfl (W.fa fo118_0 rfl ?_)
   obtain ⟨ec17, hc18, HS⟩ := St.tie_at 3 HS rfl default c14.1 c14.2
   obtain ⟨ea19, em20, he21, HN⟩ := signalmanref6_message.unpack HS; clear HS; subst he21; have HS := HN
   refine W.r (X.load Tryz.underlying3 rfl rfl ((rdC.at 3 row_rd HS rfl).cellEl (hc18 0 _ rfl))) rfl (W.e (Y.ls (e := 3) (Value.int .i64) ([(a0.out.getD x7.toNat default).n] : List Int) HS rfl rfl (fun _ => by kernel_rfl)) rfl ?_)
   rintro _ w ⟨lb24, rfl, HS⟩
   obtain ⟨c25, H⟩ := ite_n H
   refine W.e (Y.appF (Value.int .i64) (fun _ => rfl) 2 Tryz.underlying51 ap3 rfl HS rfl rfl rfl (rdC.at 0 row_rd HS rfl) (by omega) (by omega)) rfl ?_
   rintro _ w ⟨ra26, rc27, rfl, HS⟩
   refine W.as rfl (W.nil (At.blockEnd (At.next (V.region (W.mv rfl (W.r (X.add rfl rfl) rfl (W.as rfl (W.nil ?_))))))))
   replace HS := HS.pk [2, 3, 4, 5, 6, 7, 8] [0, 1]
   exact At.round kq11 (by omega) (w64 (x7 + 1), ra26, rc27, x10 ++ ([(a0.out.getD x7.toNat default).n] : List Int)) ⟨rfl, rfl, rfl, trivial⟩ ⟨HS, H, by omega⟩
  ·replace H := ite_f c13 H
   refine V.condF (sb (decide_eq_false c13)) (V.exit (At.thenExit (At.thenExit (At.blockExit (At.next (V.seq (V.region (W.mv rfl (W.as rfl (W.nx (V.ret ?_)))))))))))
   cases H
   exact At.ret1 rfl rfl ⟨_, rfl, ra8, rc9, rfl, HS⟩
mutual
def signalmanref15_Arq_again.l0 : Nat → (List Int) → Int → signalmanref15_Arq → Option signalmanref15_Arq
 | 0, _, _, _ => none
 | k + 1, t5, x18, x19 => (if x18 < (t5.length : Int) then (if 0 ≤ x18 ∧ x18 < (t5.length : Int) then ((signalmanref15_Arq_info.f k x19 (t5.getD x18.toNat 0) false).bind fun t26 => (signalmanref15_Arq_again.l0 k t5 (w64 (x18 + 1)) t26)) else none) else (if (t5.length : Int) > 0 then some ({ x19 with left := x19.t1 } : signalmanref15_Arq) else some x19))
end
def signalmanref15_Arq_again.f (k : Nat) (a0 : signalmanref15_Arq) : Option signalmanref15_Arq := ((signalmanref6_Log_Out.f k a0.log).bind fun t5 => (signalmanref15_Arq_again.l0 k t5 0 a0))
theorem signalmanref15_Arq_again.calls {k : Nat} {a0 : signalmanref15_Arq} {R : As} {w0 w : World} {b0 : Nat} {r : signalmanref15_Arq} (H : signalmanref15_Arq_again.f k a0 = some r) (HS : Sep.St [signalmanref15_Arq.at b0 a0, R] w0 w)  : Calls Tryz.prog 67 #[Value.pointer (some ⟨b0, 0, none⟩)] w (Ret fun u w => u = Value.tuple #[] ∧ Sep.St [signalmanref15_Arq.at b0 r, R] w0 w) := by
 unfold signalmanref15_Arq_again.f at H
 refine calls_enter Tryz.func67 rfl rfl ?_
 have H : _ = some r := H
 refine V.seq (V.region (W.mv rfl (W.nc rfl ?_)))
 obtain ⟨b6_1, b7_1, a11_1, c11_1, d11_1, a12_1, c12_1, hi2, HS⟩ := signalmanref15_Arq.open HS
 refine W.fa fo71_6 rfl (W.ld 0 HS Tryz.underlying66 rfl rfl rfl rfl ?_)
 replace HS := HS.fr 1
 obtain ⟨a4_3, c4_3, d4_3, a5_3, c5_3, d5_3, hi4, HS⟩ := signalmanref6_Log.open HS
 obtain ⟨t5, A6, H⟩ := bind_s H
 refine W.e (Y.cl Tryz.func108 (signalmanref6_Log_Out.calls A6 HS.j5)) rfl ?_
 rintro _ w ⟨at5_0, ct5_0, rfl, HS⟩
 replace HS := HS.o6
 refine W.as rfl (W.nx (V.seq (V.seq (V.region (W.as rfl (W.nx (V.block ?_)))))))
 replace HS := HS.pm [1, 2, 3, 4, 5, 0, 6, 7, 8, 9, 10, 11]
 replace HS := signalmanref6_Log.close trivial HS
 replace HS := HS.pm [2, 0, 3, 4, 5, 6, 1, 7]
 replace HS := signalmanref15_Arq.close trivial HS
 refine V.loop (σ := Int × signalmanref15_Arq) (fun kq (st : Int × signalmanref15_Arq) w => match st with | (x18, x19) => Sep.St [signalmanref15_Arq.at b0 x19, row 3 1 (.slice at5_0 t5.length ct5_0) t5.length (t5.map (Value.int .i64)), R] w0 w ∧ signalmanref15_Arq_again.l0 kq t5 x18 x19 = some r ∧ kq ≤ k) (fun st => match st with | (x18, x19) => [(0, Value.pointer (some ⟨b0, 0, none⟩)), (2, Value.slice at5_0 t5.length ct5_0), (3, Value.int .i64 x18)]) k (0, a0) ⟨rfl, rfl, rfl, trivial⟩ ⟨HS, H, Nat.le_refl _⟩ ?_
 rintro kq20 ⟨x18, x19⟩ w ⟨HS, H, hk21⟩
 cases kq20 with
 | zero => exact absurd H (by simp [signalmanref15_Arq_again.l0])
 | succ kq20 =>
  simp only [signalmanref15_Arq_again.l0] at H
  refine V.seq (V.seq (V.region (W.mv rfl (W.mv rfl (W.r (X.lenSl Tryz.underlying51 rfl) rfl (W.r (X.cmp (decide (x18 < (t5.length : Int))) rfl rfl rfl rfl) rfl (W.nx ?_)))))))
  by_cases c22 : x18 < (t5.length : Int)
  ·replace H := ite_t c22 H
   refine V.condT (sb (decide_eq_true c22)) (V.skip (At.next (V.seq (V.block (V.region (W.mv rfl (W.mv rfl (W.mv rfl ?_))))))))
   obtain ⟨c23, H⟩ := ite_n H
   obtain ⟨eb24, eo25, hh⟩ := (rdC.at 1 row_rd HS rfl).some (by decide) c23.1 c23.2; subst hh
   refine W.r (X.indexSl Tryz.underlying51 inf3 rfl rfl c23.1 c23.2) rfl (W.r (X.load Tryz.underlying3 rfl rfl ((rdC.at 1 row_rd HS rfl).cellI c23.1 c23.2)) rfl ?_)
   obtain ⟨t26, A27, H⟩ := bind_s H
   refine W.e (Y.cl Tryz.func94 (signalmanref15_Arq_info.calls A27 HS.j1)) rfl ?_
   rintro _ w ⟨rfl, HS⟩
   replace HS := HS.o1
   refine W.nil (At.blockEnd (At.next (V.region (W.mv rfl (W.r (X.add rfl rfl) rfl (W.as rfl (W.nil ?_)))))))
   exact At.round kq20 (by omega) (w64 (x18 + 1), t26) ⟨rfl, rfl, rfl, trivial⟩ ⟨HS, H, by omega⟩
  ·replace H := ite_f c22 H
   refine V.condF (sb (decide_eq_false c22)) (V.exit (At.thenExit (At.thenExit (At.blockExit (At.next (V.seq (V.region (W.mv rfl (W.r (X.lenSl Tryz.underlying51 rfl) rfl (W.r (X.cmp (decide ((t5.length : Int) > 0)) rfl rfl rfl rfl) rfl (W.nx ?_)))))))))))
   by_cases c28 : (t5.length : Int) > 0
   ·replace H := ite_t c28 H
    refine V.condT (sb (decide_eq_true c28)) (V.region (W.mv rfl (W.mv rfl (W.nc rfl ?_))))
    obtain ⟨b6_29, b7_29, a11_29, c11_29, d11_29, a12_29, c12_29, hi30, HS⟩ := signalmanref15_Arq.open HS
    refine W.fa fo71_1 rfl (W.ld 0 HS Tryz.underlying3 rfl rfl rfl rfl (W.nc rfl (W.fa fo71_8 rfl (W.st 0 8 HS inf3 rfl rfl rfl rfl rfl rfl fun w HS => ?_))))
    refine W.nil ?_
    replace HS := signalmanref15_Arq.close trivial HS
    replace HS := HS.pk [0, 2] [1]
    cases H
    exact At.end0 rfl ⟨_, rfl, rfl, HS⟩
   ·replace H := ite_f c28 H
    refine V.condF (sb (decide_eq_false c28)) (V.skip ?_)
    replace HS := HS.pk [0, 2] [1]
    cases H
    exact At.end0 rfl ⟨_, rfl, rfl, HS⟩
mutual
def signalmanref6_Order_find.l0 : Nat → signalmanref6_Order → Int → Int → Option Int
 | 0, _, _, _ => none
 | k + 1, a0, a1, x6 => (if x6 < (a0.kept.length : Int) then (if 0 ≤ x6 ∧ x6 < (a0.kept.length : Int) then (if ((a0.kept.getD x6.toNat default).n) = a1 then some x6 else (signalmanref6_Order_find.l0 k a0 a1 (w64 (x6 + 1)))) else none) else some (-1))
end
def signalmanref6_Order_find.f (k : Nat) (a0 : signalmanref6_Order) (a1 : Int) : Option Int := (signalmanref6_Order_find.l0 k a0 a1 0)
theorem signalmanref6_Order_find.calls {k : Nat} {a0 : signalmanref6_Order} {a1 : Int} {R : As} {w0 w : World} {b0 : Nat} {a3_p0 : Option Addr} {c3_p0 : Nat} {d3_p0 : List Value} {a4_p0 : Option Addr} {c4_p0 : Nat} {d4_p0 : List Value} {r : Int} (H : signalmanref6_Order_find.f k a0 a1 = some r) (HS : Sep.St [blk b0 (#[Value.int .i64 a0.m, Value.int .i64 a0.window, Value.int .i64 a0.next, Value.slice a3_p0 a0.kept.length c3_p0, Value.slice a4_p0 a0.ready.length c4_p0]) 100, row 118 2 (.slice a3_p0 a0.kept.length c3_p0) a0.kept.length d3_p0, tie signalmanref6_message.El d3_p0 a0.kept, row 33 1 (.slice a4_p0 a0.ready.length c4_p0) a0.ready.length d4_p0, tie (El.sl (El.int .u8)) d4_p0 a0.ready, R] w0 w)  : Calls Tryz.prog 132 #[Value.pointer (some ⟨b0, 0, none⟩), Value.int .i64 a1] w (Ret fun u w => u = Value.int .i64 r ∧ Sep.St [blk b0 (#[Value.int .i64 a0.m, Value.int .i64 a0.window, Value.int .i64 a0.next, Value.slice a3_p0 a0.kept.length c3_p0, Value.slice a4_p0 a0.ready.length c4_p0]) 100, row 118 2 (.slice a3_p0 a0.kept.length c3_p0) a0.kept.length d3_p0, tie signalmanref6_message.El d3_p0 a0.kept, row 33 1 (.slice a4_p0 a0.ready.length c4_p0) a0.ready.length d4_p0, tie (El.sl (El.int .u8)) d4_p0 a0.ready, R] w0 w) := by
 unfold signalmanref6_Order_find.f at H
 refine calls_enter Tryz.func132 rfl rfl ?_
 have H : _ = some r := H
 refine V.seq (V.region (W.as rfl (W.nx (V.seq (V.seq (V.region (W.as rfl (W.nx (V.block (V.loop (σ := Int) (fun kq (st : Int) w => match st with | x6 => Sep.St [blk b0 (#[Value.int .i64 a0.m, Value.int .i64 a0.window, Value.int .i64 a0.next, Value.slice a3_p0 a0.kept.length c3_p0, Value.slice a4_p0 a0.ready.length c4_p0]) 100, row 118 2 (.slice a3_p0 a0.kept.length c3_p0) a0.kept.length d3_p0, tie signalmanref6_message.El d3_p0 a0.kept, row 33 1 (.slice a4_p0 a0.ready.length c4_p0) a0.ready.length d4_p0, tie (El.sl (El.int .u8)) d4_p0 a0.ready, R] w0 w ∧ signalmanref6_Order_find.l0 kq a0 a1 x6 = some r ∧ kq ≤ k) (fun st => match st with | x6 => [(0, Value.pointer (some ⟨b0, 0, none⟩)), (1, Value.int .i64 a1), (5, Value.int .i64 x6)]) k (0) ⟨rfl, rfl, rfl, trivial⟩ ⟨HS, H, Nat.le_refl _⟩ ?_))))))))))
 rintro kq7 x6 w ⟨HS, H, hk8⟩
 cases kq7 with
 | zero => exact absurd H (by simp [signalmanref6_Order_find.l0])
 | succ kq7 =>
  simp only [signalmanref6_Order_find.l0] at H
  refine V.seq (V.seq (V.region (W.mv rfl (W.mv rfl (W.nc rfl (W.fa fo100_3 rfl (W.ld 0 HS Tryz.underlying96 rfl rfl rfl rfl (W.r (X.lenSl Tryz.underlying96 rfl) rfl (W.r (X.cmp (decide (x6 < (a0.kept.length : Int))) rfl rfl rfl rfl) rfl (W.nx ?_))))))))))
  by_cases c9 : x6 < (a0.kept.length : Int)
  ·replace H := ite_t c9 H
   refine V.condT (sb (decide_eq_true c9)) (V.skip (At.next (V.seq (V.block (V.seq (V.region (W.mv rfl (W.nc rfl (W.fa fo100_3 rfl (W.ld 0 HS Tryz.underlying96 rfl rfl rfl rfl (W.mv rfl ?_)))))))))))
   obtain ⟨c10, H⟩ := ite_n H
   obtain ⟨eb11, eo12, hh⟩ := (rdC.at 1 row_rd HS rfl).some (by decide) c10.1 c10.2; subst hh
   refine W.r (X.indexSl Tryz.underlying96 inf118 rfl rfl c10.1 c10.2) rfl (W.fa fo118_0 rfl ?_)
   obtain ⟨ec13, hc14, HS⟩ := St.tie_at 2 HS rfl default c10.1 c10.2
   obtain ⟨ea15, em16, he17, HN⟩ := signalmanref6_message.unpack HS; clear HS; subst he17; have HS := HN
   refine W.r (X.load Tryz.underlying3 rfl rfl ((rdC.at 2 row_rd HS rfl).cellEl (hc14 0 _ rfl))) rfl (W.mv rfl (W.r (X.cmp (decide (((a0.kept.getD x6.toNat default).n) = a1)) rfl rfl rfl rfl) rfl (W.nx ?_)))
   by_cases c18 : ((a0.kept.getD x6.toNat default).n) = a1
   ·replace H := ite_t c18 H
    refine V.condT (sb (decide_eq_true c18)) (V.seq (V.region (W.mv rfl (W.as rfl (W.nx (V.ret (At.blockRet (At.thenRet (At.thenRet (At.blockRet (At.thenRet ?_)))))))))))
    replace HS := HS.pk [1, 2, 3, 4, 5, 6] [0]
    cases H
    exact At.ret1 rfl rfl ⟨_, rfl, rfl, HS⟩
   ·replace H := ite_f c18 H
    refine V.condF (sb (decide_eq_false c18)) (V.skip (At.blockEnd (At.next (V.region (W.mv rfl (W.r (X.add rfl rfl) rfl (W.as rfl (W.nil ?_))))))))
    replace HS := HS.pk [1, 2, 3, 4, 5, 6] [0]
    exact At.round kq7 (by omega) (w64 (x6 + 1)) ⟨rfl, rfl, rfl, trivial⟩ ⟨HS, H, by omega⟩
  ·replace H := ite_f c9 H
   refine V.condF (sb (decide_eq_false c9)) (V.exit (At.thenExit (At.thenExit (At.blockExit (At.next (V.seq (V.region (W.as rfl (W.nx (V.ret ?_))))))))))
   cases H
   exact At.ret1 rfl rfl ⟨_, rfl, rfl, HS⟩
mutual
def signalmanref6_Order_Put.l0 : Nat → Int → signalmanref6_Order → Option (Int × signalmanref6_Order)
 | 0, _, _ => none
 | k + 1, x28, x29 => ((signalmanref6_Order_find.f k x29 x29.next).bind fun t34 => (if t34 ≥ 0 then ((signalmanref6_Order_find.f k x29 x29.next).bind fun t37 => (if 0 ≤ t37 ∧ t37 < (x29.kept.length : Int) then (if (x29.ready.length : Int) + (([(x29.kept.getD t37.toNat default).b] : List (List Int))).length ≤ 1099511627776 then (if 0 ≤ (0 : Int) ∧ (0 : Int) ≤ t37 ∧ t37 ≤ (x29.kept.length : Int) then (if 0 ≤ w64 (t37 + 1) ∧ w64 (t37 + 1) ≤ (x29.kept.length : Int) ∧ (x29.kept.length : Int) ≤ (x29.kept.length : Int) then (if (([] : List signalmanref6_message).length : Int) + (cut x29.kept (0 : Int) t37).length ≤ 1099511627776 then (if ((([] : List signalmanref6_message) ++ (cut x29.kept (0 : Int) t37)).length : Int) + (cut x29.kept (w64 (t37 + 1)) (x29.kept.length : Int)).length ≤ 1099511627776 then ((signalmanref1_Next.f x29.next x29.m).bind fun t61 => (signalmanref6_Order_Put.l0 k (w64 (x28 + 1)) ({ m := x29.m, window := x29.window, next := t61, kept := (([] : List signalmanref6_message) ++ (cut x29.kept (0 : Int) t37)) ++ (cut x29.kept (w64 (t37 + 1)) (x29.kept.length : Int)), ready := x29.ready ++ ([(x29.kept.getD t37.toNat default).b] : List (List Int)) } : signalmanref6_Order))) else none) else none) else none) else none) else none) else none)) else some (x28, x29)))
end
def signalmanref6_Order_Put.f (k : Nat) (a0 : signalmanref6_Order) (a1 : Int) (a2 : List Int) : Option (Int × signalmanref6_Order) := ((signalmanref1_Mod.f a1 a0.m).bind fun t3 => ((signalmanref1_Dist.f a0.next t3 a0.m).bind fun t10 => (if t10 ≥ a0.window then some ((-1), a0) else ((signalmanref6_Order_find.f k a0 t3).bind fun t13 => (if t13 ≥ 0 then some (0, a0) else (if (([] : List Int).length : Int) + a2.length ≤ 1099511627776 then (if (a0.kept.length : Int) + (([({ n := t3, b := ([] : List Int) ++ a2 } : signalmanref6_message)] : List signalmanref6_message)).length ≤ 1099511627776 then (signalmanref6_Order_Put.l0 k 0 ({ a0 with kept := a0.kept ++ ([({ n := t3, b := ([] : List Int) ++ a2 } : signalmanref6_message)] : List signalmanref6_message) } : signalmanref6_Order)) else none) else none))))))
theorem signalmanref6_Order_Put.calls {k : Nat} {a0 : signalmanref6_Order} {a1 : Int} {a2 : List Int} {R : As} {w0 w : World} {b0 : Nat} {sa2 : Option Addr} {sc2 : Nat} {r : Int × signalmanref6_Order} (H : signalmanref6_Order_Put.f k a0 a1 a2 = some r) (HS : Sep.St [signalmanref6_Order.at b0 a0, R] w0 w) (hr2 : rdC R 1 (.slice sa2 a2.length sc2) a2.length (a2.map (Value.int .u8))) : Calls Tryz.prog 125 #[Value.pointer (some ⟨b0, 0, none⟩), Value.int .i64 a1, Value.slice sa2 a2.length sc2] w (Ret fun u w => u = Value.int .i64 r.1 ∧ Sep.St [signalmanref6_Order.at b0 r.2, R] w0 w) := by
 unfold signalmanref6_Order_Put.f at H
 refine calls_enter Tryz.func125 rfl rfl ?_
 have H : _ = some r := H
 refine V.seq (V.region (W.as rfl (W.nx (V.seq (V.region (W.mv rfl (W.mv rfl (W.nc rfl ?_))))))))
 obtain ⟨a3_1, c3_1, d3_1, a4_1, c4_1, d4_1, hi2, HS⟩ := signalmanref6_Order.open HS
 refine W.fa fo100_0 rfl (W.ld 0 HS Tryz.underlying3 rfl rfl rfl rfl ?_)
 obtain ⟨t3, A4, H⟩ := bind_s H
 refine W.e (Y.cl Tryz.func130 (signalmanref1_Mod.calls A4 HS.j0)) rfl ?_
 rintro _ w ⟨rfl, HS⟩
 replace HS := HS.o0
 refine W.as rfl (W.nx (V.seq (V.seq (V.dr [9] [14] [(15, Value.pointer (some ⟨b0, 0, none⟩)), (16, Value.pointer (some ⟨b0, 0, none⟩)), (17, Value.pointer (some ⟨b0, 0 + 2, none⟩)), (18, Value.int .i64 a0.next), (19, Value.int .i64 t3), (20, Value.pointer (some ⟨b0, 0, none⟩)), (21, Value.pointer (some ⟨b0, 0, none⟩)), (22, Value.pointer (some ⟨b0, 0 + 0, none⟩)), (23, Value.int .i64 a0.m), (25, Value.pointer (some ⟨b0, 0, none⟩)), (26, Value.pointer (some ⟨b0, 0, none⟩)), (27, Value.pointer (some ⟨b0, 0 + 1, none⟩)), (28, Value.int .i64 a0.window)] mo HS ?_))))
 refine T.ev [(18, _), (19, _), (23, _)] [] [0, 1, 2, 3, 4, 5, 6, 7, 8] ⟨rfl, rfl, rfl, trivial⟩ ⟨.mv 0, .nc 15, .fa 16 fo100_2, .ld 17 0 Tryz.underlying3, .mv 1, .mv 0, .nc 20, .fa 21 fo100_0, .ld 22 0 Tryz.underlying3, .mv 0, .nc 25, .fa 26 fo100_1, .ld 27 0 Tryz.underlying3, trivial⟩ rfl (fun w HS => ?_)
 obtain ⟨t10, A11, H⟩ := bind_s H
 refine ⟨_, Y.cl Tryz.func124 (signalmanref1_Dist.calls A11 HS.j0), ?_⟩
 rintro _ w ⟨rfl, HS⟩
 replace HS := HS.o0
 refine T.nm [(24, Value.int .i64 t10), (29, Value.bool (decide (t10 ≥ a0.window)))] HS ⟨.inl ⟨rfl, rfl⟩, ⟨.inr ⟨by decide, rfl⟩, trivial⟩⟩ ?_
 refine T.fn [(0, _), (1, _), (2, _), (29, _)] ⟨rfl, rfl, rfl, rfl, trivial⟩ ⟨.mv 0, .nc 25, .fa 26 fo100_1, .ld 27 0 Tryz.underlying3, .n2 24 28 rfl rfl rfl (fun w HS => X.cmp (decide (t10 ≥ a0.window)) rfl rfl rfl rfl), trivial⟩ (fun w HS => ?_)
 refine At.next ?_
 by_cases c12 : t10 ≥ a0.window
 ·replace H := ite_t c12 H
  refine V.condT (sb (decide_eq_true c12)) (V.seq (V.region (W.as rfl (W.nx (V.ret (At.thenRet ?_))))))
  replace HS := signalmanref6_Order.close trivial HS
  cases H
  exact At.ret1 rfl rfl ⟨_, rfl, rfl, HS⟩
 ·replace H := ite_f c12 H
  refine V.condF (sb (decide_eq_false c12)) (V.skip (At.next (V.seq (V.seq (V.region (W.mv rfl (W.mv rfl ?_)))))))
  obtain ⟨t13, A14, H⟩ := bind_s H
  refine W.e (Y.cl Tryz.func132 (signalmanref6_Order_find.calls A14 HS.j5)) rfl ?_
  rintro _ w ⟨rfl, HS⟩
  replace HS := HS.o5
  refine W.r (X.cmp (decide (t13 ≥ 0)) rfl rfl rfl rfl) rfl (W.nx ?_)
  by_cases c15 : t13 ≥ 0
  ·replace H := ite_t c15 H
   refine V.condT (sb (decide_eq_true c15)) (V.seq (V.region (W.as rfl (W.nx (V.ret (At.thenRet ?_))))))
   replace HS := signalmanref6_Order.close trivial HS
   cases H
   exact At.ret1 rfl rfl ⟨_, rfl, rfl, HS⟩
  ·replace H := ite_f c15 H
   refine V.condF (sb (decide_eq_false c15)) (V.skip (At.next (V.seq (V.dr [7, 9, 10, 13] [8, 11, 12] [(34, Value.pointer (some ⟨b0, 0, none⟩)), (35, Value.pointer (some ⟨b0, 0, none⟩)), (36, Value.pointer (some ⟨b0, 0, none⟩)), (37, Value.pointer (some ⟨b0, 0 + 3, none⟩)), (38, Value.slice a3_1 a0.kept.length c3_1), (39, Value.int .i64 t3), (40, Value.slice sa2 a2.length sc2)] mo HS ?_))))
   refine T.ev [(40, _)] [11, 12] [6] ⟨rfl, trivial⟩ ⟨.mv 0, .mv 0, .nc 35, .fa 36 fo100_3, .ld 37 0 Tryz.underlying96, .mv 1, .mv 2, trivial⟩ rfl (fun w HS => ?_)
   obtain ⟨c16, H⟩ := ite_n H
   replace HS := row_nilF (Value.int .u8) 5 1 HS
   have HS : Sep.St [row 5 1 (.slice none ([] : List Int).length 0) ([] : List Int).length (([] : List Int).map (Value.int .u8)), blk b0 (#[Value.int .i64 a0.m, Value.int .i64 a0.window, Value.int .i64 a0.next, Value.slice a3_1 a0.kept.length c3_1, Value.slice a4_1 a0.ready.length c4_1]) 100, row 118 2 (.slice a3_1 a0.kept.length c3_1) a0.kept.length d3_1, tie signalmanref6_message.El d3_1 a0.kept, row 33 1 (.slice a4_1 a0.ready.length c4_1) a0.ready.length d4_1, tie (El.sl (El.int .u8)) d4_1 a0.ready, R] w0 w := HS
   refine ⟨_, Y.appF (Value.int .u8) (fun _ => rfl) 0 Tryz.underlying33 ap5 rfl HS rfl rfl rfl (rdC.at 6 hr2 HS rfl) (by omega) (by omega), ?_⟩
   rintro _ w ⟨ra17, rc18, rfl, HS⟩
   refine T.nm [(41, Value.slice ra17 (([] : List Int) ++ a2).length rc18), (42, Value.agg #[Value.int .i64 t3, Value.slice ra17 (([] : List Int) ++ a2).length rc18])] HS ⟨.inl ⟨rfl, rfl⟩, ⟨.inr ⟨by decide, rfl⟩, trivial⟩⟩ ?_
   refine T.ev [(42, _)] [11, 12] [5, 8] ⟨rfl, trivial⟩ ⟨.mv 0, .mv 0, .nc 35, .fa 36 fo100_3, .ld 37 1 Tryz.underlying96, .mv 1, .n2 39 41 rfl rfl rfl (fun w HS => X.bd (Value.agg #[Value.int .i64 t3, Value.slice ra17 (([] : List Int) ++ a2).length rc18]) rfl (fun _ => by kernel_rfl)), trivial⟩ rfl (fun w HS => ?_)
   replace HS := St.row_freeze HS
   refine ⟨_, Y.lc (e := 118) (sz := 2) [Value.int .i64 t3, Value.slice ra17 (([] : List Int) ++ a2).length rc18] HS rfl rfl (fun _ => by kernel_rfl), ?_⟩
   rintro _ w ⟨lb19, rfl, HS⟩
   replace HS := St.put (A := tie signalmanref6_message.El ([]) ([] : List signalmanref6_message)) (fun _ => tie.nil) HS
   replace HS := HS.more 2 rfl (fun _ t => t) fsl.pers
   replace HS := signalmanref6_message.pack (x := ({ n := t3, b := ([] : List Int) ++ a2 } : signalmanref6_message)) HS
   replace HS := HS.fr 1
   replace HS := HS.fr 1
   replace HS := St.tie_cons HS
   refine T.nw HS ?_
   refine T.ev [(38, _), (43, _)] [] [1, 2, 3, 4] ⟨rfl, rfl, trivial⟩ ⟨.mv 0, .mv 0, .nc 35, .fa 36 fo100_3, .ld 37 3 Tryz.underlying96, trivial⟩ rfl (fun w HS => ?_)
   obtain ⟨c22, H⟩ := ite_n H
   refine ⟨_, Y.app (xs := a0.kept) (ys := ([({ n := t3, b := ([] : List Int) ++ a2 } : signalmanref6_message)] : List signalmanref6_message)) 4 Tryz.underlying96 ap118 rfl (by decide) HS rfl rfl rfl (rdC.at 1 row_rd HS rfl) (St.tie_one 0 HS rfl) (by omega) (by omega), ?_⟩
   rintro _ w ⟨ra23, rc24, rfl, HS⟩
   replace HS := HS.fr 5
   replace HS := St.tie_app 1 HS rfl
   refine T.nm [(44, Value.slice ra23 (a0.kept ++ ([({ n := t3, b := ([] : List Int) ++ a2 } : signalmanref6_message)] : List signalmanref6_message)).length rc24), (45, Value.pointer (some ⟨b0, 0, none⟩)), (46, Value.pointer (some ⟨b0, 0 + 3, none⟩))] HS ⟨.inl ⟨rfl, rfl⟩, ⟨.inr ⟨by decide, rfl⟩, ⟨.inr ⟨by decide, rfl⟩, trivial⟩⟩⟩ ?_
   refine T.ev [(44, _), (46, _)] [] [0, 11, 12] ⟨rfl, rfl, trivial⟩ ⟨.mv 0, .nc 34, .fa 45 fo100_3, trivial⟩ rfl (fun w HS => ?_)
   refine ⟨_, Y.sto 4 3 HS inf96 rfl rfl rfl rfl rfl rfl, ?_⟩
   rintro _ w HS
   refine T.nn HS ?_
   refine T.fn [(0, _)] ⟨rfl, trivial⟩ trivial (fun w HS => ?_)
   refine At.next (V.seq (V.region (W.as rfl (W.nx (V.seq (V.block ?_))))))
   replace HS := HS.pm [4, 5, 0, 6, 7, 1, 2, 3, 8]
   replace HS := signalmanref6_Order.close trivial HS
   refine V.loop (σ := Int × signalmanref6_Order) (fun kq (st : Int × signalmanref6_Order) w => match st with | (x28, x29) => Sep.St [signalmanref6_Order.at b0 x29, tie signalmanref6_message.El ([Value.int .i64 t3, Value.slice ra17 (([] : List Int) ++ a2).length rc18]) (([({ n := t3, b := ([] : List Int) ++ a2 } : signalmanref6_message)] : List signalmanref6_message)), row 118 2 (.slice (some ⟨lb19, 0, none⟩) (([({ n := t3, b := ([] : List Int) ++ a2 } : signalmanref6_message)] : List signalmanref6_message)).length 1) (([({ n := t3, b := ([] : List Int) ++ a2 } : signalmanref6_message)] : List signalmanref6_message)).length ([Value.int .i64 t3, Value.slice ra17 (([] : List Int) ++ a2).length rc18]), fsl 1 (.slice ra17 (([] : List Int) ++ a2).length rc18) (([] : List Int) ++ a2).length ((([] : List Int) ++ a2).map (Value.int .u8)), R] w0 w ∧ signalmanref6_Order_Put.l0 kq x28 x29 = some r ∧ kq ≤ k) (fun st => match st with | (x28, x29) => [(0, Value.pointer (some ⟨b0, 0, none⟩)), (7, Value.int .i64 x28)]) k (0, ({ a0 with kept := a0.kept ++ ([({ n := t3, b := ([] : List Int) ++ a2 } : signalmanref6_message)] : List signalmanref6_message) } : signalmanref6_Order)) ⟨rfl, rfl, trivial⟩ ⟨HS, H, Nat.le_refl _⟩ ?_
   rintro kq30 ⟨x28, x29⟩ w ⟨HS, H, hk31⟩
   cases kq30 with
   | zero => exact absurd H (by simp [signalmanref6_Order_Put.l0])
   | succ kq30 =>
    simp only [signalmanref6_Order_Put.l0] at H
    refine V.seq (V.seq (V.region (W.mv rfl (W.mv rfl (W.nc rfl ?_)))))
    obtain ⟨a3_32, c3_32, d3_32, a4_32, c4_32, d4_32, hi33, HS⟩ := signalmanref6_Order.open HS
    refine W.fa fo100_2 rfl (W.ld 0 HS Tryz.underlying3 rfl rfl rfl rfl ?_)
    obtain ⟨t34, A35, H⟩ := bind_s H
    refine W.e (Y.cl Tryz.func132 (signalmanref6_Order_find.calls A35 HS.j5)) rfl ?_
    rintro _ w ⟨rfl, HS⟩
    replace HS := HS.o5
    refine W.r (X.cmp (decide (t34 ≥ 0)) rfl rfl rfl rfl) rfl (W.nx ?_)
    by_cases c36 : t34 ≥ 0
    ·replace H := ite_t c36 H
     refine V.condT (sb (decide_eq_true c36)) (V.skip (At.next (V.block (V.seq (V.region (W.mv rfl (W.mv rfl (W.nc rfl (W.fa fo100_2 rfl (W.ld 0 HS Tryz.underlying3 rfl rfl rfl rfl ?_))))))))))
     obtain ⟨t37, A38, H⟩ := bind_s H
     refine W.e (Y.cl Tryz.func132 (signalmanref6_Order_find.calls A38 HS.j5)) rfl ?_
     rintro _ w ⟨rfl, HS⟩
     replace HS := HS.o5
     refine W.as rfl (W.nx (V.seq ?_))
     obtain ⟨c39, H⟩ := ite_n H
     obtain ⟨eb40, eo41, hh⟩ := (rdC.at 1 row_rd HS rfl).some (by decide) c39.1 c39.2; subst hh
     obtain ⟨ec42, hc43, HS⟩ := St.tie_at 2 HS rfl default c39.1 c39.2
     obtain ⟨ea44, em45, he46, HN⟩ := signalmanref6_message.unpack HS; clear HS; subst he46; have HS := HN
     refine V.dr [13, 14, 17] [15, 16] [(60, Value.pointer (some ⟨b0, 0, none⟩)), (61, Value.pointer (some ⟨b0, 0, none⟩)), (62, Value.pointer (some ⟨b0, 0, none⟩)), (63, Value.pointer (some ⟨b0, 0 + 4, none⟩)), (64, Value.slice a4_32 x29.ready.length c4_32), (65, Value.pointer (some ⟨b0, 0, none⟩)), (66, Value.pointer (some ⟨b0, 0, none⟩)), (67, Value.pointer (some ⟨b0, 0 + 3, none⟩)), (68, Value.slice (some ⟨eb40, eo41, none⟩) x29.kept.length c3_32), (69, Value.int .i64 t37), (70, Value.pointer (some ⟨eb40, eo41 + t37.toNat * 2, none⟩)), (71, Value.pointer (some ⟨eb40, eo41 + t37.toNat * 2 + 1, none⟩)), (72, Value.slice ea44 ((x29.kept.getD t37.toNat default).b).length em45)] mo HS ?_
     refine T.ev [(72, _)] [15, 16] [5, 6, 7, 8, 9, 10, 11, 12] ⟨rfl, trivial⟩ ⟨.mv 0, .mv 0, .nc 61, .fa 62 fo100_4, .ld 63 1 Tryz.underlying46, .mv 0, .nc 65, .fa 66 fo100_3, .ld 67 1 Tryz.underlying96, .mv 8, .n2 68 69 rfl rfl rfl (fun w HS => X.indexSl Tryz.underlying96 inf118 rfl rfl c39.1 c39.2), .fa 70 fo118_1, .n1 71 rfl rfl (fun w HS => X.load Tryz.underlying33 rfl rfl ((rdC.at 2 row_rd HS rfl).cellEl (hc43 1 _ rfl))), trivial⟩ rfl (fun w HS => ?_)
     refine ⟨_, Y.lc (e := 33) (sz := 1) [Value.slice ea44 ((x29.kept.getD t37.toNat default).b).length em45] HS rfl rfl (fun _ => by kernel_rfl), ?_⟩
     rintro _ w ⟨lb47, rfl, HS⟩
     replace HS := St.put (A := tie (El.sl (El.int .u8)) ([]) (([] : List (List Int)))) (fun _ => tie.nil) HS
     replace HS := HS.more 2 rfl (fun _ t => t) fsl.pers
     replace HS := St.put (A := tie (El.int .u8) (((x29.kept.getD t37.toNat default).b).map (Value.int .u8)) ((x29.kept.getD t37.toNat default).b)) (fun _ => int_tie) HS
     replace HS := St.swap HS
     replace HS := St.sl_close (E := (El.int .u8)) HS
     replace HS := HS.fr 1
     replace HS := HS.fr 1
     replace HS := St.tie_cons HS
     refine T.nw HS ?_
     refine T.ev [(64, _), (73, _)] [] [1, 2, 3, 4] ⟨rfl, rfl, trivial⟩ ⟨.mv 0, .mv 0, .nc 61, .fa 62 fo100_4, .ld 63 3 Tryz.underlying46, trivial⟩ rfl (fun w HS => ?_)
     obtain ⟨c50, H⟩ := ite_n H
     refine ⟨_, Y.app (xs := x29.ready) (ys := ([(x29.kept.getD t37.toNat default).b] : List (List Int))) 6 Tryz.underlying46 ap33 rfl (by decide) HS rfl rfl rfl (rdC.at 1 row_rd HS rfl) (St.tie_one 0 HS rfl) (by omega) (by omega), ?_⟩
     rintro _ w ⟨ra51, rc52, rfl, HS⟩
     replace HS := HS.fr 7
     replace HS := St.tie_app 1 HS rfl
     refine T.nm [(74, Value.slice ra51 (x29.ready ++ ([(x29.kept.getD t37.toNat default).b] : List (List Int))).length rc52), (75, Value.pointer (some ⟨b0, 0, none⟩)), (76, Value.pointer (some ⟨b0, 0 + 4, none⟩))] HS ⟨.inl ⟨rfl, rfl⟩, ⟨.inr ⟨by decide, rfl⟩, ⟨.inr ⟨by decide, rfl⟩, trivial⟩⟩⟩ ?_
     refine T.ev [(74, _), (76, _)] [] [0, 15, 16] ⟨rfl, rfl, trivial⟩ ⟨.mv 0, .nc 60, .fa 75 fo100_4, trivial⟩ rfl (fun w HS => ?_)
     refine ⟨_, Y.sto 4 4 HS inf46 rfl rfl rfl rfl rfl rfl, ?_⟩
     rintro _ w HS
     refine T.nn HS ?_
     refine T.fn [(0, _), (7, _), (8, _)] ⟨rfl, rfl, rfl, trivial⟩ trivial (fun w HS => ?_)
     refine At.next (V.seq ?_)
     obtain ⟨c53, H⟩ := ite_n H
     obtain ⟨c54, H⟩ := ite_n H
     refine V.dr [7, 15, 18] [16, 17] [(77, Value.pointer (some ⟨b0, 0, none⟩)), (78, Value.pointer (some ⟨b0, 0, none⟩)), (79, Value.pointer (some ⟨b0, 0, none⟩)), (80, Value.pointer (some ⟨b0, 0 + 3, none⟩)), (81, Value.slice (some ⟨eb40, eo41, none⟩) x29.kept.length c3_32), (82, Value.int .i64 t37), (83, Value.slice (vaddr (some ⟨eb40, eo41, none⟩) c3_32 (0 : Int).toNat 2) (cut x29.kept (0 : Int) t37).length (c3_32 - (0 : Int).toNat)), (85, Value.pointer (some ⟨b0, 0, none⟩)), (86, Value.pointer (some ⟨b0, 0, none⟩)), (87, Value.pointer (some ⟨b0, 0 + 3, none⟩)), (88, Value.slice (some ⟨eb40, eo41, none⟩) x29.kept.length c3_32), (89, Value.int .i64 t37), (90, Value.int .i64 (w64 (t37 + 1))), (91, Value.slice (vaddr (some ⟨eb40, eo41, none⟩) c3_32 (w64 (t37 + 1)).toNat 2) (cut x29.kept (w64 (t37 + 1)) (x29.kept.length : Int)).length (c3_32 - (w64 (t37 + 1)).toNat))] mo HS ?_
     refine T.ev [(83, _)] [16, 17] [1, 2, 3, 4, 5, 6] ⟨rfl, trivial⟩ ⟨.mv 0, .mv 0, .nc 78, .fa 79 fo100_3, .ld 80 4 Tryz.underlying96, .mv 8, .n2 81 82 rfl rfl rfl (fun w HS => X.slH Tryz.underlying96 inf118 rfl rfl c53 (rdC.at 5 row_rd HS rfl).cap), .mv 0, .nc 85, .fa 86 fo100_3, .ld 87 4 Tryz.underlying96, .mv 8, .n1 89 rfl rfl (fun w HS => X.add rfl rfl), .n2 88 90 rfl rfl rfl (fun w HS => X.slL Tryz.underlying96 inf118 rfl rfl c54), trivial⟩ rfl (fun w HS => ?_)
     obtain ⟨c55, H⟩ := ite_n H
     replace HS := row_nilE signalmanref6_message.El 118 2 HS
     replace HS := St.tie_cut2 8 (0 : Int) t37 HS rfl
     have HS : Sep.St [tie signalmanref6_message.El (cutC 2 d3_32 (0 : Int) t37) (cut x29.kept (0 : Int) t37), row 118 2 (.slice none ([] : List signalmanref6_message).length 0) ([] : List signalmanref6_message).length ([]), tie signalmanref6_message.El ([]) ([] : List signalmanref6_message), tie (El.sl (El.int .u8)) (d4_32 ++ ([Value.slice ea44 ((x29.kept.getD t37.toNat default).b).length em45])) (x29.ready ++ ([(x29.kept.getD t37.toNat default).b] : List (List Int))), tie (El.sl (El.int .u8)) ([Value.slice ea44 ((x29.kept.getD t37.toNat default).b).length em45]) (([(x29.kept.getD t37.toNat default).b] : List (List Int))), row 33 1 (.slice (some ⟨lb47, 0, none⟩) (([(x29.kept.getD t37.toNat default).b] : List (List Int))).length 1) (([(x29.kept.getD t37.toNat default).b] : List (List Int))).length ([Value.slice ea44 ((x29.kept.getD t37.toNat default).b).length em45]), fsl 1 (.slice ea44 ((x29.kept.getD t37.toNat default).b).length em45) ((x29.kept.getD t37.toNat default).b).length (((x29.kept.getD t37.toNat default).b).map (Value.int .u8)), blk b0 (#[Value.int .i64 x29.m, Value.int .i64 x29.window, Value.int .i64 x29.next, Value.slice (some ⟨eb40, eo41, none⟩) x29.kept.length c3_32, Value.slice ra51 (x29.ready ++ ([(x29.kept.getD t37.toNat default).b] : List (List Int))).length rc52]) 100, row 118 2 (.slice (some ⟨eb40, eo41, none⟩) x29.kept.length c3_32) x29.kept.length d3_32, tie signalmanref6_message.El d3_32 x29.kept, row 33 1 (.slice ra51 (x29.ready ++ ([(x29.kept.getD t37.toNat default).b] : List (List Int))).length rc52) (x29.ready ++ ([(x29.kept.getD t37.toNat default).b] : List (List Int))).length (d4_32 ++ ([Value.slice ea44 ((x29.kept.getD t37.toNat default).b).length em45])), tie signalmanref6_message.El ([Value.int .i64 t3, Value.slice ra17 (([] : List Int) ++ a2).length rc18]) (([({ n := t3, b := ([] : List Int) ++ a2 } : signalmanref6_message)] : List signalmanref6_message)), row 118 2 (.slice (some ⟨lb19, 0, none⟩) (([({ n := t3, b := ([] : List Int) ++ a2 } : signalmanref6_message)] : List signalmanref6_message)).length 1) (([({ n := t3, b := ([] : List Int) ++ a2 } : signalmanref6_message)] : List signalmanref6_message)).length ([Value.int .i64 t3, Value.slice ra17 (([] : List Int) ++ a2).length rc18]), fsl 1 (.slice ra17 (([] : List Int) ++ a2).length rc18) (([] : List Int) ++ a2).length ((([] : List Int) ++ a2).map (Value.int .u8)), R] w0 w := HS
     refine ⟨_, Y.app (xs := ([] : List signalmanref6_message)) (ys := cut x29.kept (0 : Int) t37) 1 Tryz.underlying96 ap118 rfl (by decide) HS rfl rfl rfl (rdC.at 8 (rdC.sub row_rd c53) HS rfl) (St.tie_one 0 HS rfl) (by omega) (by omega), ?_⟩
     rintro _ w ⟨ra56, rc57, rfl, HS⟩
     replace HS := HS.fr 2
     replace HS := St.tie_app 1 HS rfl
     refine T.nw HS ?_
     refine T.ev [(84, _), (91, _)] [] [8, 9, 10, 11, 12, 13, 14] ⟨rfl, rfl, trivial⟩ ⟨.mv 0, .mv 0, .nc 85, .fa 86 fo100_3, .ld 87 7 Tryz.underlying96, .mv 8, .n1 89 rfl rfl (fun w HS => X.add rfl rfl), .n2 88 90 rfl rfl rfl (fun w HS => X.slL Tryz.underlying96 inf118 rfl rfl c54), trivial⟩ rfl (fun w HS => ?_)
     obtain ⟨c58, H⟩ := ite_n H
     replace HS := St.tie_cut2 9 (w64 (t37 + 1)) (x29.kept.length : Int) HS rfl
     have HS : Sep.St [tie signalmanref6_message.El (cutC 2 d3_32 (w64 (t37 + 1)) (x29.kept.length : Int)) (cut x29.kept (w64 (t37 + 1)) (x29.kept.length : Int)), tie signalmanref6_message.El (([]) ++ (cutC 2 d3_32 (0 : Int) t37)) (([] : List signalmanref6_message) ++ (cut x29.kept (0 : Int) t37)), tie signalmanref6_message.El (cutC 2 d3_32 (0 : Int) t37) (cut x29.kept (0 : Int) t37), row 118 2 (.slice ra56 (([] : List signalmanref6_message) ++ (cut x29.kept (0 : Int) t37)).length rc57) (([] : List signalmanref6_message) ++ (cut x29.kept (0 : Int) t37)).length (([]) ++ (cutC 2 d3_32 (0 : Int) t37)), tie (El.sl (El.int .u8)) (d4_32 ++ ([Value.slice ea44 ((x29.kept.getD t37.toNat default).b).length em45])) (x29.ready ++ ([(x29.kept.getD t37.toNat default).b] : List (List Int))), tie (El.sl (El.int .u8)) ([Value.slice ea44 ((x29.kept.getD t37.toNat default).b).length em45]) (([(x29.kept.getD t37.toNat default).b] : List (List Int))), row 33 1 (.slice (some ⟨lb47, 0, none⟩) (([(x29.kept.getD t37.toNat default).b] : List (List Int))).length 1) (([(x29.kept.getD t37.toNat default).b] : List (List Int))).length ([Value.slice ea44 ((x29.kept.getD t37.toNat default).b).length em45]), fsl 1 (.slice ea44 ((x29.kept.getD t37.toNat default).b).length em45) ((x29.kept.getD t37.toNat default).b).length (((x29.kept.getD t37.toNat default).b).map (Value.int .u8)), blk b0 (#[Value.int .i64 x29.m, Value.int .i64 x29.window, Value.int .i64 x29.next, Value.slice (some ⟨eb40, eo41, none⟩) x29.kept.length c3_32, Value.slice ra51 (x29.ready ++ ([(x29.kept.getD t37.toNat default).b] : List (List Int))).length rc52]) 100, row 118 2 (.slice (some ⟨eb40, eo41, none⟩) x29.kept.length c3_32) x29.kept.length d3_32, tie signalmanref6_message.El d3_32 x29.kept, row 33 1 (.slice ra51 (x29.ready ++ ([(x29.kept.getD t37.toNat default).b] : List (List Int))).length rc52) (x29.ready ++ ([(x29.kept.getD t37.toNat default).b] : List (List Int))).length (d4_32 ++ ([Value.slice ea44 ((x29.kept.getD t37.toNat default).b).length em45])), tie signalmanref6_message.El ([Value.int .i64 t3, Value.slice ra17 (([] : List Int) ++ a2).length rc18]) (([({ n := t3, b := ([] : List Int) ++ a2 } : signalmanref6_message)] : List signalmanref6_message)), row 118 2 (.slice (some ⟨lb19, 0, none⟩) (([({ n := t3, b := ([] : List Int) ++ a2 } : signalmanref6_message)] : List signalmanref6_message)).length 1) (([({ n := t3, b := ([] : List Int) ++ a2 } : signalmanref6_message)] : List signalmanref6_message)).length ([Value.int .i64 t3, Value.slice ra17 (([] : List Int) ++ a2).length rc18]), fsl 1 (.slice ra17 (([] : List Int) ++ a2).length rc18) (([] : List Int) ++ a2).length ((([] : List Int) ++ a2).map (Value.int .u8)), R] w0 w := HS
     refine ⟨_, Y.app (xs := ([] : List signalmanref6_message) ++ (cut x29.kept (0 : Int) t37)) (ys := cut x29.kept (w64 (t37 + 1)) (x29.kept.length : Int)) 3 Tryz.underlying96 ap118 rfl (by decide) HS rfl rfl rfl (rdC.at 9 (rdC.sub row_rd c54) HS rfl) (St.tie_one 0 HS rfl) (by omega) (by omega), ?_⟩
     rintro _ w ⟨ra59, rc60, rfl, HS⟩
     replace HS := HS.fr 1
     replace HS := St.tie_app 1 HS rfl
     refine T.nm [(92, Value.slice ra59 ((([] : List signalmanref6_message) ++ (cut x29.kept (0 : Int) t37)) ++ (cut x29.kept (w64 (t37 + 1)) (x29.kept.length : Int))).length rc60), (93, Value.pointer (some ⟨b0, 0, none⟩)), (94, Value.pointer (some ⟨b0, 0 + 3, none⟩))] HS ⟨.inl ⟨rfl, rfl⟩, ⟨.inr ⟨by decide, rfl⟩, ⟨.inr ⟨by decide, rfl⟩, trivial⟩⟩⟩ ?_
     refine T.ev [(92, _), (94, _)] [] [0, 16, 17] ⟨rfl, rfl, trivial⟩ ⟨.mv 0, .nc 77, .fa 93 fo100_3, trivial⟩ rfl (fun w HS => ?_)
     refine ⟨_, Y.sto 8 3 HS inf96 rfl rfl rfl rfl rfl rfl, ?_⟩
     rintro _ w HS
     refine T.nn HS ?_
     refine T.fn [(0, _), (7, _)] ⟨rfl, rfl, trivial⟩ trivial (fun w HS => ?_)
     refine At.next (V.seq (V.dr [9, 12] [10, 11] [(95, Value.pointer (some ⟨b0, 0, none⟩)), (96, Value.pointer (some ⟨b0, 0, none⟩)), (97, Value.pointer (some ⟨b0, 0, none⟩)), (98, Value.pointer (some ⟨b0, 0 + 2, none⟩)), (99, Value.int .i64 x29.next), (100, Value.pointer (some ⟨b0, 0, none⟩)), (101, Value.pointer (some ⟨b0, 0, none⟩)), (102, Value.pointer (some ⟨b0, 0 + 0, none⟩)), (103, Value.int .i64 x29.m)] mo HS ?_))
     refine T.ev [(99, _), (103, _)] [] [1, 2, 3, 4, 5, 6, 7, 8] ⟨rfl, rfl, trivial⟩ ⟨.mv 0, .mv 0, .nc 96, .fa 97 fo100_2, .ld 98 8 Tryz.underlying3, .mv 0, .nc 100, .fa 101 fo100_0, .ld 102 8 Tryz.underlying3, trivial⟩ rfl (fun w HS => ?_)
     obtain ⟨t61, A62, H⟩ := bind_s H
     refine ⟨_, Y.cl Tryz.func116 (signalmanref1_Next.calls A62 HS.j0), ?_⟩
     rintro _ w ⟨rfl, HS⟩
     replace HS := HS.o0
     refine T.nm [(104, Value.int .i64 t61), (105, Value.pointer (some ⟨b0, 0, none⟩)), (106, Value.pointer (some ⟨b0, 0 + 2, none⟩))] HS ⟨.inl ⟨rfl, rfl⟩, ⟨.inr ⟨by decide, rfl⟩, ⟨.inr ⟨by decide, rfl⟩, trivial⟩⟩⟩ ?_
     refine T.ev [(104, _), (106, _)] [] [0, 10, 11] ⟨rfl, rfl, trivial⟩ ⟨.mv 0, .nc 95, .fa 105 fo100_2, trivial⟩ rfl (fun w HS => ?_)
     refine ⟨_, Y.sto 8 2 HS inf3 rfl rfl rfl rfl rfl rfl, ?_⟩
     rintro _ w HS
     refine T.nn HS ?_
     refine T.fn [(0, _), (7, _)] ⟨rfl, rfl, trivial⟩ trivial (fun w HS => ?_)
     refine At.next (V.region (W.mv rfl (W.r (X.add rfl rfl) rfl (W.as rfl (W.nil (At.blockEnd ?_))))))
     replace HS := HS.pm [8, 3, 0, 11, 4, 1, 2, 5, 6, 7, 9, 10, 12, 13, 14, 15]
     replace HS := signalmanref6_Order.close trivial HS
     replace HS := HS.pk [0, 8, 9, 10, 11] [1, 2, 3, 4, 5, 6, 7]
     exact At.round kq30 (by omega) (w64 (x28 + 1), ({ m := x29.m, window := x29.window, next := t61, kept := (([] : List signalmanref6_message) ++ (cut x29.kept (0 : Int) t37)) ++ (cut x29.kept (w64 (t37 + 1)) (x29.kept.length : Int)), ready := x29.ready ++ ([(x29.kept.getD t37.toNat default).b] : List (List Int)) } : signalmanref6_Order)) ⟨rfl, rfl, trivial⟩ ⟨HS, H, by omega⟩
    ·replace H := ite_f c36 H
     refine V.condF (sb (decide_eq_false c36)) (V.exit (At.thenExit (At.thenExit (At.blockExit (At.next (V.seq (V.region (W.mv rfl (W.as rfl (W.nx (V.ret ?_)))))))))))
     replace HS := signalmanref6_Order.close trivial HS
     replace HS := HS.pk [0, 4] [1, 2, 3]
     cases H
     exact At.ret1 rfl rfl ⟨_, rfl, rfl, HS⟩
def signalmanref6_Order_Gap.f (a0 : signalmanref6_Order) : Option Bool := some (decide ((a0.kept.length : Int) > 0))
theorem signalmanref6_Order_Gap.calls {a0 : signalmanref6_Order} {R : As} {w0 w : World} {b0 : Nat} {a3_p0 : Option Addr} {c3_p0 : Nat} {d3_p0 : List Value} {a4_p0 : Option Addr} {c4_p0 : Nat} {d4_p0 : List Value} {r : Bool} (H : signalmanref6_Order_Gap.f a0 = some r) (HS : Sep.St [blk b0 (#[Value.int .i64 a0.m, Value.int .i64 a0.window, Value.int .i64 a0.next, Value.slice a3_p0 a0.kept.length c3_p0, Value.slice a4_p0 a0.ready.length c4_p0]) 100, row 118 2 (.slice a3_p0 a0.kept.length c3_p0) a0.kept.length d3_p0, tie signalmanref6_message.El d3_p0 a0.kept, row 33 1 (.slice a4_p0 a0.ready.length c4_p0) a0.ready.length d4_p0, tie (El.sl (El.int .u8)) d4_p0 a0.ready, R] w0 w)  : Calls Tryz.prog 126 #[Value.pointer (some ⟨b0, 0, none⟩)] w (Ret fun u w => u = Value.bool r ∧ Sep.St [blk b0 (#[Value.int .i64 a0.m, Value.int .i64 a0.window, Value.int .i64 a0.next, Value.slice a3_p0 a0.kept.length c3_p0, Value.slice a4_p0 a0.ready.length c4_p0]) 100, row 118 2 (.slice a3_p0 a0.kept.length c3_p0) a0.kept.length d3_p0, tie signalmanref6_message.El d3_p0 a0.kept, row 33 1 (.slice a4_p0 a0.ready.length c4_p0) a0.ready.length d4_p0, tie (El.sl (El.int .u8)) d4_p0 a0.ready, R] w0 w) := by
 unfold signalmanref6_Order_Gap.f at H
 refine calls_enter Tryz.func126 rfl rfl ?_
 have H : _ = some r := H
 refine V.seq (V.region (W.as rfl (W.nx (V.seq (V.region (W.mv rfl (W.nc rfl (W.fa fo100_3 rfl (W.ld 0 HS Tryz.underlying96 rfl rfl rfl rfl (W.r (X.lenSl Tryz.underlying96 rfl) rfl (W.r (X.cmp (decide ((a0.kept.length : Int) > 0)) rfl rfl rfl rfl) rfl (W.as rfl (W.nx (V.ret ?_))))))))))))))
 cases H
 exact At.ret1 rfl rfl ⟨_, rfl, rfl, HS⟩
mutual
def signalmanref15_Arq_took.j2  (x10 : signalmanref15_Arq) (x11 : api_Ctl) : Option signalmanref15_Arq := ((signalmanref15_Arq_tell.f x10 x10.tag x11 []).bind fun t17 => some t17)
def signalmanref15_Arq_took.j3 (x4 : signalmanref15_Arq) (x7 : api_Ctl) (x19 : Bool) : Option signalmanref15_Arq := (if x19 = true then (signalmanref15_Arq_took.j2 ({ x4 with rejected := true } : signalmanref15_Arq) ({ Kind := 2, Ns := x7.Ns, Nr := x7.Nr, Poll := false } : api_Ctl)) else (signalmanref15_Arq_took.j2 x4 x7))
def signalmanref15_Arq_took.j1 (x4 : signalmanref15_Arq) (x7 : api_Ctl) : Option signalmanref15_Arq := ((signalmanref6_Order_Gap.f x4.order).bind fun t30 => (if t30 = true then (signalmanref15_Arq_took.j3 x4 x7 (!x4.rejected)) else (signalmanref15_Arq_took.j3 x4 x7 false)))
def signalmanref15_Arq_took.j0 (a1 : api_Ctl) (x4 : signalmanref15_Arq) : Option signalmanref15_Arq := ((signalmanref6_Order_Next.f x4.order).bind fun t39 => (signalmanref15_Arq_took.j1 x4 ({ Kind := 1, Ns := 0, Nr := t39, Poll := a1.Poll } : api_Ctl)))
end
def signalmanref15_Arq_took.f (k : Nat) (a0 : signalmanref15_Arq) (a1 : api_Ctl) (a2 : List Int) : Option signalmanref15_Arq := ((signalmanref6_Order_Put.f k a0.order a1.Ns a2).bind fun t49 => (if t49.1 > 0 then (signalmanref15_Arq_took.j0 a1 ({ a0 with order := t49.2, rejected := false } : signalmanref15_Arq)) else (signalmanref15_Arq_took.j0 a1 ({ a0 with order := t49.2 } : signalmanref15_Arq))))
theorem signalmanref15_Arq_took.calls {k : Nat} {a0 : signalmanref15_Arq} {a1 : api_Ctl} {a2 : List Int} {R : As} {w0 w : World} {b0 : Nat} {sa2 : Option Addr} {sc2 : Nat} {r : signalmanref15_Arq} (H : signalmanref15_Arq_took.f k a0 a1 a2 = some r) (HS : Sep.St [signalmanref15_Arq.at b0 a0, R] w0 w) (hr2 : rdC R 1 (.slice sa2 a2.length sc2) a2.length (a2.map (Value.int .u8))) : Calls Tryz.prog 109 #[Value.pointer (some ⟨b0, 0, none⟩), Value.agg #[Value.int .i64 a1.Kind, Value.int .i64 a1.Ns, Value.int .i64 a1.Nr, Value.bool a1.Poll], Value.slice sa2 a2.length sc2] w (Ret fun u w => u = Value.tuple #[] ∧ Sep.St [signalmanref15_Arq.at b0 r, R] w0 w) := by
 unfold signalmanref15_Arq_took.f at H
 refine calls_enter Tryz.func109 rfl rfl ?_
 have H : _ = some r := H
 refine V.seq (V.region (W.e (Y.box HS rfl) rfl ?_))
 rintro _ w ⟨nb1, rfl, HS⟩
 refine W.nx (V.meet (σ := signalmanref15_Arq) (fun st w => match st with | x4 => Sep.St [api_Ctl.at nb1 a1, signalmanref15_Arq.at b0 x4, R] w0 w ∧ signalmanref15_Arq_took.j0 a1 x4 = some r) (fun st => match st with | x4 => [(0, Value.pointer (some ⟨b0, 0, none⟩)), (4, Value.pointer (some ⟨nb1, 0, none⟩))]) ?_ ?_)
 ·refine V.seq ?_
  replace HS := HS.fr 1
  obtain ⟨b6_47, b7_47, a11_47, c11_47, d11_47, a12_47, c12_47, hi48, HS⟩ := signalmanref15_Arq.open HS
  refine V.dr [7] [8] [(7, Value.pointer (some ⟨b0, 0, none⟩)), (8, Value.pointer (some ⟨b0, 0, none⟩)), (9, Value.pointer (some ⟨b0, 0 + 7, none⟩)), (10, Value.pointer (some ⟨b7_47, 0, none⟩)), (11, Value.pointer (some ⟨nb1, 0 + 1, none⟩)), (12, Value.int .i64 a1.Ns), (13, Value.slice sa2 a2.length sc2)] mo HS ?_
  refine T.ev [(10, _), (12, _), (13, _)] [] [0, 1, 2, 3, 4, 5, 6] ⟨rfl, rfl, rfl, trivial⟩ ⟨.mv 0, .nc 7, .fa 8 fo71_7, .ld 9 0 Tryz.underlying68, .fa 4 fo32_1, .ld 11 6 Tryz.underlying3, .mv 2, trivial⟩ rfl (fun w HS => ?_)
  obtain ⟨t49, A50, H⟩ := bind_s H
  replace HS := HS.pm [2, 0, 1, 3, 4, 5, 6, 7]
  refine ⟨_, Y.cl Tryz.func125 (signalmanref6_Order_Put.calls A50 HS.j1 (rdC.part 6 hr2 rfl)), ?_⟩
  rintro _ w ⟨rfl, HS⟩
  replace HS := HS.o1
  refine T.nm [(14, Value.int .i64 t49.1), (15, Value.bool (decide (t49.1 > 0)))] HS ⟨.inl ⟨rfl, rfl⟩, ⟨.inr ⟨by decide, rfl⟩, trivial⟩⟩ ?_
  refine T.fn [(0, _), (4, _), (15, _)] ⟨rfl, rfl, rfl, trivial⟩ ⟨.n1 14 rfl rfl (fun w HS => X.cmp (decide (t49.1 > 0)) rfl rfl rfl rfl), trivial⟩ (fun w HS => ?_)
  refine At.next ?_
  by_cases c51 : t49.1 > 0
  ·replace H := ite_t c51 H
   refine V.condT (sb (decide_eq_true c51)) (V.region (W.mv rfl (W.nc rfl (W.fa fo71_10 rfl (W.st 1 10 HS inf4 rfl rfl rfl rfl rfl rfl fun w HS => ?_)))))
   refine W.nil ?_
   replace HS := HS.pm [6, 0, 1, 2, 3, 4, 5, 7]
   replace HS := api_Ctl.close trivial HS
   replace HS := HS.pm [2, 3, 1, 4, 5, 6, 0, 7]
   replace HS := signalmanref15_Arq.close trivial HS
   replace HS := HS.pk [1, 0, 2] []
   exact At.meet ({ a0 with order := t49.2, rejected := false } : signalmanref15_Arq) ⟨rfl, rfl, trivial⟩ ⟨HS, H⟩
  ·replace H := ite_f c51 H
   refine V.condF (sb (decide_eq_false c51)) (V.skip ?_)
   replace HS := HS.pm [6, 0, 1, 2, 3, 4, 5, 7]
   replace HS := api_Ctl.close trivial HS
   replace HS := HS.pm [2, 3, 1, 4, 5, 6, 0, 7]
   replace HS := signalmanref15_Arq.close trivial HS
   replace HS := HS.pk [1, 0, 2] []
   exact At.meet ({ a0 with order := t49.2 } : signalmanref15_Arq) ⟨rfl, rfl, trivial⟩ ⟨HS, H⟩
 ·rintro x4 w ⟨HS, H⟩
  unfold signalmanref15_Arq_took.j0 at H
  refine V.meet (σ := Nat × api_Ctl) (fun st w => match st with | (nb6, x7) => Sep.St [api_Ctl.at nb6 x7, api_Ctl.at nb1 a1, signalmanref15_Arq.at b0 x4, R] w0 w ∧ signalmanref15_Arq_took.j1 x4 x7 = some r) (fun st => match st with | (nb6, x7) => [(0, Value.pointer (some ⟨b0, 0, none⟩)), (6, Value.pointer (some ⟨nb6, 0, none⟩))]) ?_ ?_
  ·replace HS := HS.fr 1
   obtain ⟨b6_33, b7_33, a11_33, c11_33, d11_33, a12_33, c12_33, hi34, HS⟩ := signalmanref15_Arq.open HS
   replace HS := HS.fr 6
   obtain ⟨hi36, HS⟩ := api_Ctl.open HS
   refine V.dr [4, 8, 9] [7] [(19, Value.pointer (some ⟨b0, 0, none⟩)), (20, Value.pointer (some ⟨b0, 0, none⟩)), (21, Value.pointer (some ⟨b0, 0 + 7, none⟩)), (22, Value.pointer (some ⟨b7_33, 0, none⟩)), (24, Value.pointer (some ⟨nb1, 0 + 3, none⟩)), (25, Value.bool a1.Poll)] mo HS ?_
   refine T.two rfl rfl ⟨.mv 0, .nc 19, .fa 20 fo71_7, .ld 21 1 Tryz.underlying68, .fa 4 fo32_3, .ld 24 0 Tryz.underlying4, trivial⟩ (T.step (es := [8, 9]) _ [(22, Value.pointer (some ⟨b7_33, 0, none⟩))] rfl ⟨.inr ⟨rfl, rfl⟩, trivial⟩ (Or.inl rfl) (by intro d hd; cases hd; exact ⟨by decide, rfl, rfl⟩) [] [0, 1, 2, 3] rfl rfl rfl rfl rfl (fun w HS => ?_)) (T.step (es := [4, 9]) _ [] rfl trivial (Or.inl rfl) (by intro d hd; cases hd; exact ⟨by decide, rfl, rfl⟩) [7] [] rfl rfl rfl rfl rfl (fun w HS => ?_))
   ·have HS : Sep.St [blk nb1 (#[Value.int .i64 a1.Kind, Value.int .i64 a1.Ns, Value.int .i64 a1.Nr, Value.bool a1.Poll]) 32, blk b0 (#[Value.int .i64 x4.m, Value.int .i64 x4.t1, Value.int .i64 x4.n2, Value.int .i64 x4.size, Value.int .i64 x4.state, Value.int .i64 x4.tag, Value.pointer (some ⟨b6_33, 0, none⟩), Value.pointer (some ⟨b7_33, 0, none⟩), Value.int .i64 x4.left, Value.int .i64 x4.tries, Value.bool x4.rejected, Value.slice a11_33 x4.out.length c11_33, Value.slice a12_33 x4.inds.length c12_33, Value.int .i64 x4.sent, Value.int .i64 x4.acked, Value.int .i64 x4.lost]) 71, signalmanref6_Log.at b6_33 x4.log, signalmanref6_Order.at b7_33 x4.order, row 33 1 (.slice a11_33 x4.out.length c11_33) x4.out.length d11_33, tie (El.sl (El.int .u8)) d11_33 x4.out, row 3 1 (.slice a12_33 x4.inds.length c12_33) x4.inds.length (x4.inds.map (Value.int .i64)), R] w0 w := HS
    replace HS := HS.fr 3
    obtain ⟨a3_37, c3_37, d3_37, a4_37, c4_37, d4_37, hi38, HS⟩ := signalmanref6_Order.open HS
    obtain ⟨t39, A40, H⟩ := bind_s H
    refine ⟨_, Y.cl Tryz.func118 (signalmanref6_Order_Next.calls A40 HS.j5), ?_⟩
    rintro _ w ⟨rfl, HS⟩
    replace HS := HS.o5
    refine T.nm [(23, Value.int .i64 t39), (26, Value.agg #[Value.int .i64 (1), Value.int .i64 (0), Value.int .i64 t39, Value.bool a1.Poll])] HS ⟨.inl ⟨rfl, rfl⟩, ⟨.inr ⟨by decide, rfl⟩, trivial⟩⟩ ?_
    refine T.ev [] [] [] trivial ⟨.fa 4 fo32_3, .ld 24 5 Tryz.underlying4, .n2 23 25 rfl rfl rfl (fun w HS => X.bd (Value.agg #[Value.int .i64 (1), Value.int .i64 (0), Value.int .i64 t39, Value.bool a1.Poll]) rfl (fun _ => by kernel_rfl)), trivial⟩ rfl (fun w HS => ?_)
    refine ⟨_, Y.alloc (z := Value.agg (#[Value.int .i64 (0), Value.int .i64 (0), Value.int .i64 (0), Value.bool false])) HS ze32, ?_⟩
    rintro _ w ⟨nb41, rfl, HS⟩
    refine T.nw HS ?_
    refine T.ev [(6, _), (26, _)] [] [5, 6, 7] ⟨rfl, rfl, trivial⟩ ⟨.fa 4 fo32_3, .ld 24 6 Tryz.underlying4, .n2 23 25 rfl rfl rfl (fun w HS => X.bd (Value.agg #[Value.int .i64 (1), Value.int .i64 (0), Value.int .i64 t39, Value.bool a1.Poll]) rfl (fun _ => by kernel_rfl)), trivial⟩ rfl (fun w HS => ?_)
    refine ⟨_, Y.storeSt (c' := #[Value.int .i64 (1), Value.int .i64 (0), Value.int .i64 t39, Value.bool a1.Poll]) 0 [Value.int .i64 (1), Value.int .i64 (0), Value.int .i64 t39, Value.bool a1.Poll] HS rfl inf32 rfl rfl rfl rfl rfl rfl, ?_⟩
    rintro _ w HS
    refine T.nn HS ?_
    refine T.fn [(0, _), (6, _)] ⟨rfl, rfl, trivial⟩ trivial (fun w HS => ?_)
    replace HS := api_Ctl.close trivial HS
    replace HS := HS.pm [6, 0, 1, 2, 3, 4, 5, 7, 8, 9, 10, 11, 12]
    replace HS := api_Ctl.close trivial HS
    replace HS := HS.pm [2, 3, 4, 5, 6, 0, 1, 7, 8, 9, 10, 11, 12]
    replace HS := signalmanref6_Order.close trivial HS
    replace HS := HS.pm [3, 4, 0, 5, 6, 7, 1, 2, 8]
    replace HS := signalmanref15_Arq.close trivial HS
    replace HS := HS.pk [2, 1, 0, 3] []
    exact At.meet (nb41, ({ Kind := 1, Ns := 0, Nr := t39, Poll := a1.Poll } : api_Ctl)) ⟨rfl, rfl, trivial⟩ ⟨HS, H⟩
   ·have HS : Sep.St [blk nb1 (#[Value.int .i64 a1.Kind, Value.int .i64 a1.Ns, Value.int .i64 a1.Nr, Value.bool a1.Poll]) 32, blk b0 (#[Value.int .i64 x4.m, Value.int .i64 x4.t1, Value.int .i64 x4.n2, Value.int .i64 x4.size, Value.int .i64 x4.state, Value.int .i64 x4.tag, Value.pointer (some ⟨b6_33, 0, none⟩), Value.pointer (some ⟨b7_33, 0, none⟩), Value.int .i64 x4.left, Value.int .i64 x4.tries, Value.bool x4.rejected, Value.slice a11_33 x4.out.length c11_33, Value.slice a12_33 x4.inds.length c12_33, Value.int .i64 x4.sent, Value.int .i64 x4.acked, Value.int .i64 x4.lost]) 71, signalmanref6_Log.at b6_33 x4.log, signalmanref6_Order.at b7_33 x4.order, row 33 1 (.slice a11_33 x4.out.length c11_33) x4.out.length d11_33, tie (El.sl (El.int .u8)) d11_33 x4.out, row 3 1 (.slice a12_33 x4.inds.length c12_33) x4.inds.length (x4.inds.map (Value.int .i64)), R] w0 w := HS
    refine ⟨_, Y.alloc (z := Value.agg (#[Value.int .i64 (0), Value.int .i64 (0), Value.int .i64 (0), Value.bool false])) HS ze32, ?_⟩
    rintro _ w ⟨nb42, rfl, HS⟩
    refine T.nw HS ?_
    refine T.ev [(22, _)] [] [0, 1, 2, 3] ⟨rfl, trivial⟩ ⟨.mv 0, .nc 19, .fa 20 fo71_7, .ld 21 2 Tryz.underlying68, .fa 4 fo32_3, .ld 24 1 Tryz.underlying4, trivial⟩ rfl (fun w HS => ?_)
    replace HS := HS.fr 4
    obtain ⟨a3_43, c3_43, d3_43, a4_43, c4_43, d4_43, hi44, HS⟩ := signalmanref6_Order.open HS
    obtain ⟨t45, A46, H⟩ := bind_s H
    refine ⟨_, Y.cl Tryz.func118 (signalmanref6_Order_Next.calls A46 HS.j5), ?_⟩
    rintro _ w ⟨rfl, HS⟩
    replace HS := HS.o5
    refine T.nm [(23, Value.int .i64 t45), (26, Value.agg #[Value.int .i64 (1), Value.int .i64 (0), Value.int .i64 t45, Value.bool a1.Poll])] HS ⟨.inl ⟨rfl, rfl⟩, ⟨.inr ⟨by decide, rfl⟩, trivial⟩⟩ ?_
    refine T.ev [(6, _), (26, _)] [] [5, 6, 7] ⟨rfl, rfl, trivial⟩ ⟨.fa 4 fo32_3, .ld 24 6 Tryz.underlying4, .n2 23 25 rfl rfl rfl (fun w HS => X.bd (Value.agg #[Value.int .i64 (1), Value.int .i64 (0), Value.int .i64 t45, Value.bool a1.Poll]) rfl (fun _ => by kernel_rfl)), trivial⟩ rfl (fun w HS => ?_)
    refine ⟨_, Y.storeSt (c' := #[Value.int .i64 (1), Value.int .i64 (0), Value.int .i64 t45, Value.bool a1.Poll]) 5 [Value.int .i64 (1), Value.int .i64 (0), Value.int .i64 t45, Value.bool a1.Poll] HS rfl inf32 rfl rfl rfl rfl rfl rfl, ?_⟩
    rintro _ w HS
    refine T.nn HS ?_
    refine T.fn [(0, _), (6, _)] ⟨rfl, rfl, trivial⟩ trivial (fun w HS => ?_)
    replace HS := HS.pm [5, 0, 1, 2, 3, 4, 6, 7, 8, 9, 10, 11, 12]
    replace HS := api_Ctl.close trivial HS
    replace HS := HS.pm [6, 0, 1, 2, 3, 4, 5, 7, 8, 9, 10, 11, 12]
    replace HS := api_Ctl.close trivial HS
    replace HS := HS.pm [2, 3, 4, 5, 6, 0, 1, 7, 8, 9, 10, 11, 12]
    replace HS := signalmanref6_Order.close trivial HS
    replace HS := HS.pm [3, 4, 0, 5, 6, 7, 1, 2, 8]
    replace HS := signalmanref15_Arq.close trivial HS
    replace HS := HS.pk [2, 1, 0, 3] []
    exact At.meet (nb42, ({ Kind := 1, Ns := 0, Nr := t45, Poll := a1.Poll } : api_Ctl)) ⟨rfl, rfl, trivial⟩ ⟨HS, H⟩
  ·rintro ⟨nb6, x7⟩ w ⟨HS, H⟩
   unfold signalmanref15_Arq_took.j1 at H
   refine V.meet (σ := signalmanref15_Arq × api_Ctl) (fun st w => match st with | (x10, x11) => Sep.St [api_Ctl.at nb6 x11, api_Ctl.at nb1 a1, signalmanref15_Arq.at b0 x10, R] w0 w ∧ signalmanref15_Arq_took.j2 x10 x11 = some r) (fun st => match st with | (x10, x11) => [(0, Value.pointer (some ⟨b0, 0, none⟩)), (6, Value.pointer (some ⟨nb6, 0, none⟩))]) ?_ ?_
   ·refine V.meet (σ := Bool) (fun st w => match st with | x19 => Sep.St [api_Ctl.at nb6 x7, api_Ctl.at nb1 a1, signalmanref15_Arq.at b0 x4, R] w0 w ∧ signalmanref15_Arq_took.j3 x4 x7 x19 = some r) (fun st => match st with | x19 => [(0, Value.pointer (some ⟨b0, 0, none⟩)), (6, Value.pointer (some ⟨nb6, 0, none⟩)), (38, Value.bool x19)]) ?_ ?_
    ·refine V.region (W.mv rfl (W.nc rfl ?_))
     replace HS := HS.fr 2
     obtain ⟨b6_26, b7_26, a11_26, c11_26, d11_26, a12_26, c12_26, hi27, HS⟩ := signalmanref15_Arq.open HS
     refine W.fa fo71_7 rfl (W.ld 0 HS Tryz.underlying68 rfl rfl rfl rfl ?_)
     replace HS := HS.fr 2
     obtain ⟨a3_28, c3_28, d3_28, a4_28, c4_28, d4_28, hi29, HS⟩ := signalmanref6_Order.open HS
     obtain ⟨t30, A31, H⟩ := bind_s H
     refine W.e (Y.cl Tryz.func126 (signalmanref6_Order_Gap.calls A31 HS.j5)) rfl ?_
     rintro _ w ⟨rfl, HS⟩
     replace HS := HS.o5
     refine W.mv rfl ?_
     by_cases c32 : t30 = true
     ·replace H := ite_t c32 H
      refine W.want 32 rfl (sb c32) (W.mv rfl (W.want 32 rfl (sb c32) (W.nc rfl (W.want 32 rfl (sb c32) (W.fa fo71_10 rfl (W.want 32 rfl (sb c32) (W.ld 5 HS Tryz.underlying4 rfl rfl rfl rfl (W.want 32 rfl (sb c32) (W.r (X.not rfl) rfl (W.r (X.pickT (sb c32) rfl) rfl (W.nil ?_)))))))))))
      replace HS := signalmanref6_Order.close trivial HS
      replace HS := HS.pm [1, 2, 0, 3, 4, 5, 6, 7, 8]
      replace HS := signalmanref15_Arq.close trivial HS
      replace HS := HS.pk [1, 2, 0, 3] []
      exact At.meet (!x4.rejected) ⟨rfl, rfl, rfl, trivial⟩ ⟨HS, H⟩
     ·replace H := ite_f c32 H
      refine W.pass 32 rfl (sb (b_f c32)) rfl rfl (W.pass 32 rfl (sb (b_f c32)) rfl rfl (W.pass 32 rfl (sb (b_f c32)) rfl rfl (W.pass 32 rfl (sb (b_f c32)) rfl rfl (W.pass 32 rfl (sb (b_f c32)) rfl rfl (W.r (X.pickF (sb (b_f c32)) rfl) rfl (W.nil ?_))))))
      replace HS := signalmanref6_Order.close trivial HS
      replace HS := HS.pm [1, 2, 0, 3, 4, 5, 6, 7, 8]
      replace HS := signalmanref15_Arq.close trivial HS
      replace HS := HS.pk [1, 2, 0, 3] []
      exact At.meet false ⟨rfl, rfl, rfl, trivial⟩ ⟨HS, H⟩
    ·rintro x19 w ⟨HS, H⟩
     unfold signalmanref15_Arq_took.j3 at H
     by_cases c21 : x19 = true
     ·replace H := ite_t c21 H
      refine V.condT (sb c21) (V.seq (V.region (W.mv rfl (W.nc rfl ?_))))
      replace HS := HS.fr 2
      obtain ⟨b6_22, b7_22, a11_22, c11_22, d11_22, a12_22, c12_22, hi23, HS⟩ := signalmanref15_Arq.open HS
      refine W.fa fo71_10 rfl (W.st 0 10 HS inf4 rfl rfl rfl rfl rfl rfl fun w HS => ?_)
      refine W.nx (V.seq (V.region ?_))
      replace HS := HS.fr 6
      obtain ⟨hi25, HS⟩ := api_Ctl.open HS
      refine W.fa fo32_0 rfl (W.st 0 0 HS inf3 rfl rfl rfl rfl rfl rfl fun w HS => ?_)
      refine W.nx (V.region (W.fa fo32_3 rfl (W.st 0 3 HS inf4 rfl rfl rfl rfl rfl rfl fun w HS => ?_)))
      refine W.nil ?_
      replace HS := api_Ctl.close trivial HS
      replace HS := HS.pm [1, 2, 3, 4, 5, 6, 0, 7, 8]
      replace HS := signalmanref15_Arq.close trivial HS
      replace HS := HS.pk [1, 2, 0, 3] []
      exact At.meet (({ x4 with rejected := true } : signalmanref15_Arq), ({ Kind := 2, Ns := x7.Ns, Nr := x7.Nr, Poll := false } : api_Ctl)) ⟨rfl, rfl, trivial⟩ ⟨HS, H⟩
     ·replace H := ite_f c21 H
      refine V.condF (sb (b_f c21)) (V.skip ?_)
      exact At.meet (x4, x7) ⟨rfl, rfl, trivial⟩ ⟨HS, H⟩
   ·rintro ⟨x10, x11⟩ w ⟨HS, H⟩
    unfold signalmanref15_Arq_took.j2 at H
    replace HS := HS.fr 2
    obtain ⟨b6_13, b7_13, a11_13, c11_13, d11_13, a12_13, c12_13, hi14, HS⟩ := signalmanref15_Arq.open HS
    replace HS := HS.fr 6
    obtain ⟨hi16, HS⟩ := api_Ctl.open HS
    refine V.dr [6] [] [(44, Value.pointer (some ⟨b0, 0, none⟩)), (45, Value.pointer (some ⟨b0, 0, none⟩)), (46, Value.pointer (some ⟨b0, 0, none⟩)), (47, Value.pointer (some ⟨b0, 0 + 5, none⟩)), (48, Value.int .i64 x10.tag), (49, Value.agg #[Value.int .i64 x11.Kind, Value.int .i64 x11.Ns, Value.int .i64 x11.Nr, Value.bool x11.Poll])] mo HS ?_
    refine T.ev [(44, _), (48, _), (49, _)] [] [0, 1, 2, 3, 4, 5] ⟨rfl, rfl, rfl, trivial⟩ ⟨.mv 0, .mv 0, .nc 45, .fa 46 fo71_5, .ld 47 1 Tryz.underlying3, .n1 6 rfl rfl (fun w HS => X.loadSt 0 [Value.int .i64 x11.Kind, Value.int .i64 x11.Ns, Value.int .i64 x11.Nr, Value.bool x11.Poll] HS rfl Tryz.underlying32 rfl inf32 rfl rfl), trivial⟩ rfl (fun w HS => ?_)
    replace HS := HS.pm [1, 2, 3, 4, 5, 6, 0, 7, 8]
    replace HS := signalmanref15_Arq.close trivial HS
    obtain ⟨t17, A18, H⟩ := bind_s H
    refine ⟨_, Y.cl Tryz.func84 (signalmanref15_Arq_tell.calls A18 HS.j1 (rdC.nil rfl)), ?_⟩
    rintro _ w ⟨rfl, HS⟩
    replace HS := HS.o1
    refine T.nw HS ?_
    refine T.fn [] trivial trivial (fun w HS => ?_)
    replace HS := HS.pk [0, 3] [1, 2]
    cases H
    exact At.end0 rfl ⟨_, rfl, rfl, HS⟩
mutual
def signalmanref15_Arq_numbered.j3 (k : Nat)  (x37 : signalmanref15_Arq) : Option signalmanref15_Arq := ((signalmanref15_Arq_pump.f k x37).bind fun t39 => some t39)
def signalmanref15_Arq_numbered.j2 (k : Nat) (a2 : api_Ctl) (a3 : List Int) (t28 : Int × Bool × signalmanref6_Log) (x35 : signalmanref15_Arq) : Option signalmanref15_Arq := (if a2.Kind = 2 then (if t28.2.1 = true then ((signalmanref15_Arq_again.f k x35).bind fun t45 => (signalmanref15_Arq_numbered.j3 k t45)) else (signalmanref15_Arq_numbered.j3 k x35)) else (if a2.Kind = 0 then ((signalmanref15_Arq_took.f k x35 a2 a3).bind fun t48 => (signalmanref15_Arq_numbered.j3 k t48)) else (signalmanref15_Arq_numbered.j3 k x35)))
def signalmanref15_Arq_numbered.j1 (k : Nat) (a0 : signalmanref15_Arq) (a2 : api_Ctl) (a3 : List Int) (x17 : Bool) : Option signalmanref15_Arq := (if x17 = true then ((signalmanref15_Arq_say.f a0 7 false).bind fun t20 => ((signalmanref15_Arq_end.f t20).bind fun t22 => some t22)) else ((signalmanref6_Log_Ack.f k a0.log a2.Nr).bind fun t28 => (if t28.1 > 0 then ((signalmanref6_Log_Out.f k t28.2.2).bind fun t53 => (if (t53.length : Int) > 0 then (signalmanref15_Arq_numbered.j2 k a2 a3 t28 ({ a0 with log := t28.2.2, left := a0.t1, tries := 0, acked := w64 (a0.acked + t28.1) } : signalmanref15_Arq)) else (signalmanref15_Arq_numbered.j2 k a2 a3 t28 ({ a0 with log := t28.2.2, left := 0, tries := 0, acked := w64 (a0.acked + t28.1) } : signalmanref15_Arq)))) else (signalmanref15_Arq_numbered.j2 k a2 a3 t28 ({ a0 with log := t28.2.2, acked := w64 (a0.acked + t28.1) } : signalmanref15_Arq)))))
def signalmanref15_Arq_numbered.j0 (k : Nat) (a0 : signalmanref15_Arq) (a2 : api_Ctl) (a3 : List Int) (x14 : Bool) : Option signalmanref15_Arq := (if x14 = true then some a0 else (if a2.Kind = 0 then (signalmanref15_Arq_numbered.j1 k a0 a2 a3 (decide ((a3.length : Int) > a0.size))) else (signalmanref15_Arq_numbered.j1 k a0 a2 a3 false)))
end
def signalmanref15_Arq_numbered.f (k : Nat) (a0 : signalmanref15_Arq) (a1 : Int) (a2 : api_Ctl) (a3 : List Int) : Option signalmanref15_Arq := (if a0.state = 0 then ((signalmanref15_Arq_tell.f a0 a1 ({ Kind := 6, Ns := 0, Nr := 0, Poll := false } : api_Ctl) []).bind fun t7 => some t7) else (if a0.state = 2 then (signalmanref15_Arq_numbered.j0 k a0 a2 a3 (!(decide (a1 = a0.tag)))) else (signalmanref15_Arq_numbered.j0 k a0 a2 a3 true)))
theorem signalmanref15_Arq_numbered.calls {k : Nat} {a0 : signalmanref15_Arq} {a1 : Int} {a2 : api_Ctl} {a3 : List Int} {R : As} {w0 w : World} {b0 : Nat} {sa3 : Option Addr} {sc3 : Nat} {r : signalmanref15_Arq} (H : signalmanref15_Arq_numbered.f k a0 a1 a2 a3 = some r) (HS : Sep.St [signalmanref15_Arq.at b0 a0, R] w0 w) (hr3 : rdC R 1 (.slice sa3 a3.length sc3) a3.length (a3.map (Value.int .u8))) : Calls Tryz.prog 64 #[Value.pointer (some ⟨b0, 0, none⟩), Value.int .i64 a1, Value.agg #[Value.int .i64 a2.Kind, Value.int .i64 a2.Ns, Value.int .i64 a2.Nr, Value.bool a2.Poll], Value.slice sa3 a3.length sc3] w (Ret fun u w => u = Value.tuple #[] ∧ Sep.St [signalmanref15_Arq.at b0 r, R] w0 w) := by
 unfold signalmanref15_Arq_numbered.f at H
 refine calls_enter Tryz.func64 rfl rfl ?_
 have H : _ = some r := H
 refine V.seq (V.region (W.e (Y.box HS rfl) rfl ?_))
 rintro _ w ⟨nb1, rfl, HS⟩
 refine W.nx (V.seq (V.seq (V.region (W.mv rfl (W.nc rfl ?_)))))
 replace HS := HS.fr 1
 obtain ⟨b6_4, b7_4, a11_4, c11_4, d11_4, a12_4, c12_4, hi5, HS⟩ := signalmanref15_Arq.open HS
 refine W.fa fo71_4 rfl (W.ld 0 HS Tryz.underlying3 rfl rfl rfl rfl (W.r (X.cmp (decide (a0.state = 0)) rfl rfl rfl rfl) rfl (W.nx ?_)))
 by_cases c6 : a0.state = 0
 ·replace H := ite_t c6 H
  refine V.condT (sb (decide_eq_true c6)) (V.seq (V.region (W.mv rfl (W.mv rfl (W.r (X.bd (Value.agg #[Value.int .i64 (6), Value.int .i64 (0), Value.int .i64 (0), Value.bool false]) rfl (fun _ => by kernel_rfl)) rfl ?_)))))
  replace HS := signalmanref15_Arq.close trivial HS
  obtain ⟨t7, A8, H⟩ := bind_s H
  refine W.e (Y.cl Tryz.func84 (signalmanref15_Arq_tell.calls A8 HS.j1 (rdC.nil rfl))) rfl ?_
  rintro _ w ⟨rfl, HS⟩
  replace HS := HS.o1
  refine W.nx (V.ret (At.thenRet ?_))
  replace HS := HS.pk [0, 2] [1]
  cases H
  exact At.ret0 rfl ⟨_, rfl, rfl, HS⟩
 ·replace H := ite_f c6 H
  refine V.condF (sb (decide_eq_false c6)) (V.skip (At.next (V.seq (V.meet (σ := Bool) (fun st w => match st with | x14 => Sep.St [api_Ctl.at nb1 a2, signalmanref15_Arq.at b0 a0, R] w0 w ∧ ∃ kf15, kf15 ≤ k ∧ signalmanref15_Arq_numbered.j0 kf15 a0 a2 a3 x14 = some r) (fun st => match st with | x14 => [(0, Value.pointer (some ⟨b0, 0, none⟩)), (3, Value.slice sa3 a3.length sc3), (6, Value.pointer (some ⟨nb1, 0, none⟩)), (31, Value.bool x14)]) ?_ ?_))))
  ·refine V.region (W.mv rfl (W.nc rfl (W.fa fo71_4 rfl (W.ld 0 HS Tryz.underlying3 rfl rfl rfl rfl (W.r (X.cmp (!(decide (a0.state = 2))) rfl rfl rfl rfl) rfl (W.mv rfl ?_))))))
   by_cases c61 : a0.state = 2
   ·replace H := ite_t c61 H
    refine W.want 24 rfl (sb (n_t (decide_eq_true c61))) (W.mv rfl (W.want 24 rfl (sb (n_t (decide_eq_true c61))) (W.mv rfl (W.want 24 rfl (sb (n_t (decide_eq_true c61))) (W.nc rfl (W.want 24 rfl (sb (n_t (decide_eq_true c61))) (W.fa fo71_5 rfl (W.want 24 rfl (sb (n_t (decide_eq_true c61))) (W.ld 0 HS Tryz.underlying3 rfl rfl rfl rfl (W.want 24 rfl (sb (n_t (decide_eq_true c61))) (W.r (X.cmp (!(decide (a1 = a0.tag))) rfl rfl rfl rfl) rfl (W.r (X.pickF (sb (n_t (decide_eq_true c61))) rfl) rfl (W.nil ?_)))))))))))))
    replace HS := HS.pm [6, 0, 1, 2, 3, 4, 5, 7]
    replace HS := api_Ctl.close trivial HS
    replace HS := HS.pm [1, 2, 3, 4, 5, 6, 0, 7]
    replace HS := signalmanref15_Arq.close trivial HS
    replace HS := HS.pk [1, 0, 2] []
    exact At.meet (!(decide (a1 = a0.tag))) ⟨rfl, rfl, rfl, rfl, trivial⟩ ⟨HS, k, by omega, H⟩
   ·replace H := ite_f c61 H
    refine W.pass 24 rfl (sb (n_f (decide_eq_false c61))) rfl rfl (W.pass 24 rfl (sb (n_f (decide_eq_false c61))) rfl rfl (W.pass 24 rfl (sb (n_f (decide_eq_false c61))) rfl rfl (W.pass 24 rfl (sb (n_f (decide_eq_false c61))) rfl rfl (W.pass 24 rfl (sb (n_f (decide_eq_false c61))) rfl rfl (W.pass 24 rfl (sb (n_f (decide_eq_false c61))) rfl rfl (W.r (X.pickT (sb (n_f (decide_eq_false c61))) rfl) rfl (W.nil ?_)))))))
    replace HS := HS.pm [6, 0, 1, 2, 3, 4, 5, 7]
    replace HS := api_Ctl.close trivial HS
    replace HS := HS.pm [1, 2, 3, 4, 5, 6, 0, 7]
    replace HS := signalmanref15_Arq.close trivial HS
    replace HS := HS.pk [1, 0, 2] []
    exact At.meet true ⟨rfl, rfl, rfl, rfl, trivial⟩ ⟨HS, k, by omega, H⟩
  ·rintro x14 w ⟨HS, kf15, hkkf15, H⟩
   unfold signalmanref15_Arq_numbered.j0 at H
   by_cases c16 : x14 = true
   ·replace H := ite_t c16 H
    refine V.condT (sb c16) (V.ret (At.thenRet ?_))
    replace HS := HS.pk [1, 2] [0]
    cases H
    exact At.ret0 rfl ⟨_, rfl, rfl, HS⟩
   ·replace H := ite_f c16 H
    refine V.condF (sb (b_f c16)) (V.skip (At.next (V.seq (V.meet (σ := Bool) (fun st w => match st with | x17 => Sep.St [api_Ctl.at nb1 a2, signalmanref15_Arq.at b0 a0, R] w0 w ∧ ∃ kf18, kf18 ≤ kf15 ∧ signalmanref15_Arq_numbered.j1 kf18 a0 a2 a3 x17 = some r) (fun st => match st with | x17 => [(0, Value.pointer (some ⟨b0, 0, none⟩)), (3, Value.slice sa3 a3.length sc3), (6, Value.pointer (some ⟨nb1, 0, none⟩)), (43, Value.bool x17)]) ?_ ?_))))
    ·refine V.region ?_
     obtain ⟨hi57, HS⟩ := api_Ctl.open HS
     refine W.fa fo32_0 rfl (W.ld 0 HS Tryz.underlying3 rfl rfl rfl rfl (W.r (X.cmp (decide (a2.Kind = 0)) rfl rfl rfl rfl) rfl (W.mv rfl ?_)))
     by_cases c58 : a2.Kind = 0
     ·replace H := ite_t c58 H
      refine W.want 35 rfl (sb (decide_eq_true c58)) (W.mv rfl (W.want 35 rfl (sb (decide_eq_true c58)) (W.r (X.lenSl Tryz.underlying33 rfl) rfl (W.want 35 rfl (sb (decide_eq_true c58)) (W.mv rfl (W.want 35 rfl (sb (decide_eq_true c58)) (W.nc rfl (W.want 35 rfl (sb (decide_eq_true c58)) ?_))))))))
      replace HS := HS.fr 1
      obtain ⟨b6_59, b7_59, a11_59, c11_59, d11_59, a12_59, c12_59, hi60, HS⟩ := signalmanref15_Arq.open HS
      refine W.fa fo71_3 rfl (W.want 35 rfl (sb (decide_eq_true c58)) (W.ld 0 HS Tryz.underlying3 rfl rfl rfl rfl (W.want 35 rfl (sb (decide_eq_true c58)) (W.r (X.cmp (decide ((a3.length : Int) > a0.size)) rfl rfl rfl rfl) rfl (W.r (X.pickT (sb (decide_eq_true c58)) rfl) rfl (W.nil ?_))))))
      replace HS := HS.pm [6, 0, 1, 2, 3, 4, 5, 7]
      replace HS := api_Ctl.close trivial HS
      replace HS := HS.pm [1, 2, 3, 4, 5, 6, 0, 7]
      replace HS := signalmanref15_Arq.close trivial HS
      replace HS := HS.pk [1, 0, 2] []
      exact At.meet (decide ((a3.length : Int) > a0.size)) ⟨rfl, rfl, rfl, rfl, trivial⟩ ⟨HS, kf15, by omega, H⟩
     ·replace H := ite_f c58 H
      refine W.pass 35 rfl (sb (decide_eq_false c58)) rfl rfl (W.pass 35 rfl (sb (decide_eq_false c58)) rfl rfl (W.pass 35 rfl (sb (decide_eq_false c58)) rfl rfl (W.pass 35 rfl (sb (decide_eq_false c58)) rfl rfl (W.pass 35 rfl (sb (decide_eq_false c58)) rfl rfl (W.pass 35 rfl (sb (decide_eq_false c58)) rfl rfl (W.pass 35 rfl (sb (decide_eq_false c58)) rfl rfl (W.r (X.pickF (sb (decide_eq_false c58)) rfl) rfl (W.nil ?_))))))))
      replace HS := api_Ctl.close trivial HS
      exact At.meet false ⟨rfl, rfl, rfl, rfl, trivial⟩ ⟨HS, kf15, by omega, H⟩
    ·rintro x17 w ⟨HS, kf18, hkkf18, H⟩
     unfold signalmanref15_Arq_numbered.j1 at H
     by_cases c19 : x17 = true
     ·replace H := ite_t c19 H
      refine V.condT (sb c19) (V.seq (V.region (W.mv rfl ?_)))
      obtain ⟨t20, A21, H⟩ := bind_s H
      replace HS := HS.pm [1, 0, 2]
      refine W.e (Y.cl Tryz.func48 (signalmanref15_Arq_say.calls A21 HS.j1)) rfl ?_
      rintro _ w ⟨rfl, HS⟩
      replace HS := HS.o1
      refine W.nx (V.seq (V.region (W.mv rfl ?_)))
      obtain ⟨t22, A23, H⟩ := bind_s H
      refine W.e (Y.cl Tryz.func105 (signalmanref15_Arq_end.calls A23 HS.j1)) rfl ?_
      rintro _ w ⟨rfl, HS⟩
      replace HS := HS.o1
      refine W.nx (V.ret (At.thenRet ?_))
      replace HS := HS.pk [0, 2] [1]
      cases H
      exact At.ret0 rfl ⟨_, rfl, rfl, HS⟩
     ·replace H := ite_f c19 H
      refine V.condF (sb (b_f c19)) (V.skip (At.next (V.seq ?_)))
      replace HS := HS.fr 1
      obtain ⟨b6_24, b7_24, a11_24, c11_24, d11_24, a12_24, c12_24, hi25, HS⟩ := signalmanref15_Arq.open HS
      replace HS := HS.fr 6
      obtain ⟨hi27, HS⟩ := api_Ctl.open HS
      refine V.dr [6] [7, 8, 9, 10, 11] [(49, Value.pointer (some ⟨b0, 0, none⟩)), (50, Value.pointer (some ⟨b0, 0, none⟩)), (51, Value.pointer (some ⟨b0, 0 + 6, none⟩)), (52, Value.pointer (some ⟨b6_24, 0, none⟩)), (53, Value.pointer (some ⟨nb1, 0 + 2, none⟩)), (54, Value.int .i64 a2.Nr)] mo HS ?_
      refine T.ev [(52, _), (54, _)] [] [0, 1, 2, 3, 4, 5] ⟨rfl, rfl, trivial⟩ ⟨.mv 0, .nc 49, .fa 50 fo71_6, .ld 51 1 Tryz.underlying66, .fa 6 fo32_2, .ld 53 0 Tryz.underlying3, trivial⟩ rfl (fun w HS => ?_)
      obtain ⟨t28, A29, H⟩ := bind_s H
      replace HS := HS.pm [2, 0, 1, 3, 4, 5, 6, 7]
      refine ⟨_, Y.cl Tryz.func107 (signalmanref6_Log_Ack.calls A29 HS.j1), ?_⟩
      rintro _ w ⟨rfl, HS⟩
      replace HS := HS.o1
      refine T.nm [(55, Value.tuple #[Value.int .i64 t28.1, Value.bool t28.2.1]), (48, Value.tuple #[Value.int .i64 t28.1, Value.bool t28.2.1]), (56, Value.int .i64 t28.1), (57, Value.bool t28.2.1), (8, Value.int .i64 t28.1), (9, Value.bool t28.2.1)] HS ⟨.inl ⟨rfl, rfl⟩, ⟨.inr ⟨by decide, rfl⟩, ⟨.inr ⟨by decide, rfl⟩, ⟨.inr ⟨by decide, rfl⟩, ⟨.inr ⟨by decide, rfl⟩, ⟨.inr ⟨by decide, rfl⟩, trivial⟩⟩⟩⟩⟩⟩ ?_
      refine T.fn [(0, _), (3, _), (6, _), (8, _), (9, _)] ⟨rfl, rfl, rfl, rfl, rfl, trivial⟩ ⟨.mv 55, .n1 48 rfl rfl (fun w HS => X.extract rfl rfl), .n1 48 rfl rfl (fun w HS => X.extract rfl rfl), .as 56, .as 57, trivial⟩ (fun w HS => ?_)
      refine At.next (V.seq (V.region (W.mv rfl (W.mv rfl (W.nc rfl (W.fa fo71_14 rfl (W.ld 2 HS Tryz.underlying3 rfl rfl rfl rfl (W.mv rfl (W.r (X.add rfl rfl) rfl (W.nc rfl (W.fa fo71_14 rfl (W.st 2 14 HS inf3 rfl rfl rfl rfl rfl rfl fun w HS => ?_))))))))))))
      refine W.nx (V.meet (σ := signalmanref15_Arq) (fun st w => match st with | x35 => Sep.St [signalmanref15_Arq.at b0 x35, api_Ctl.at nb1 a2, R] w0 w ∧ ∃ kf36, kf36 ≤ kf18 ∧ signalmanref15_Arq_numbered.j2 kf36 a2 a3 t28 x35 = some r) (fun st => match st with | x35 => [(0, Value.pointer (some ⟨b0, 0, none⟩)), (3, Value.slice sa3 a3.length sc3), (6, Value.pointer (some ⟨nb1, 0, none⟩)), (9, Value.bool t28.2.1)]) ?_ ?_)
      ·refine V.seq (V.region (W.mv rfl (W.r (X.cmp (decide (t28.1 > 0)) rfl rfl rfl rfl) rfl (W.nx ?_))))
       by_cases c50 : t28.1 > 0
       ·replace H := ite_t c50 H
        refine V.condT (sb (decide_eq_true c50)) (V.seq (V.region (W.mv rfl (W.nc rfl (W.fa fo71_9 rfl (W.st 2 9 HS inf3 rfl rfl rfl rfl rfl rfl fun w HS => ?_))))))
        refine W.nx (V.seq (V.region (W.mv rfl (W.nc rfl (W.fa fo71_8 rfl (W.st 2 8 HS inf3 rfl rfl rfl rfl rfl rfl fun w HS => ?_))))))
        refine W.nx (V.seq (V.region (W.mv rfl (W.nc rfl (W.fa fo71_6 rfl (W.ld 2 HS Tryz.underlying66 rfl rfl rfl rfl ?_))))))
        obtain ⟨a4_51, c4_51, d4_51, a5_51, c5_51, d5_51, hi52, HS⟩ := signalmanref6_Log.open HS
        obtain ⟨t53, A54, H⟩ := bind_s H
        refine W.e (Y.cl Tryz.func108 (signalmanref6_Log_Out.calls A54 HS.j5)) rfl ?_
        rintro _ w ⟨at53_0, ct53_0, rfl, HS⟩
        replace HS := HS.o6
        refine W.r (X.lenSl Tryz.underlying51 rfl) rfl (W.r (X.cmp (decide ((t53.length : Int) > 0)) rfl rfl rfl rfl) rfl (W.nx ?_))
        by_cases c55 : (t53.length : Int) > 0
        ·replace H := ite_t c55 H
         refine V.condT (sb (decide_eq_true c55)) (V.region (W.mv rfl (W.mv rfl (W.nc rfl (W.fa fo71_1 rfl (W.ld 7 HS Tryz.underlying3 rfl rfl rfl rfl (W.nc rfl (W.fa fo71_8 rfl (W.st 7 8 HS inf3 rfl rfl rfl rfl rfl rfl fun w HS => ?_)))))))))
         refine W.nil ?_
         replace HS := HS.pm [1, 2, 3, 4, 5, 0, 6, 7, 8, 9, 10, 11, 12]
         replace HS := signalmanref6_Log.close trivial HS
         replace HS := HS.pm [3, 0, 4, 5, 6, 7, 1, 2, 8]
         replace HS := signalmanref15_Arq.close trivial HS
         replace HS := HS.pm [2, 0, 1, 3]
         replace HS := api_Ctl.close trivial HS
         replace HS := HS.pk [1, 0, 3] [2]
         exact At.meet (({ a0 with log := t28.2.2, left := a0.t1, tries := 0, acked := w64 (a0.acked + t28.1) } : signalmanref15_Arq)) ⟨rfl, rfl, rfl, rfl, trivial⟩ ⟨HS, kf18, by omega, H⟩
        ·replace H := ite_f c55 H
         refine V.condF (sb (decide_eq_false c55)) (V.skip ?_)
         replace HS := HS.pm [1, 2, 3, 4, 5, 0, 6, 7, 8, 9, 10, 11, 12]
         replace HS := signalmanref6_Log.close trivial HS
         replace HS := HS.pm [3, 0, 4, 5, 6, 7, 1, 2, 8]
         replace HS := signalmanref15_Arq.close trivial HS
         replace HS := HS.pm [2, 0, 1, 3]
         replace HS := api_Ctl.close trivial HS
         replace HS := HS.pk [1, 0, 3] [2]
         exact At.meet (({ a0 with log := t28.2.2, left := 0, tries := 0, acked := w64 (a0.acked + t28.1) } : signalmanref15_Arq)) ⟨rfl, rfl, rfl, rfl, trivial⟩ ⟨HS, kf18, by omega, H⟩
       ·replace H := ite_f c50 H
        refine V.condF (sb (decide_eq_false c50)) (V.skip ?_)
        replace HS := HS.pm [2, 0, 3, 4, 5, 6, 1, 7]
        replace HS := signalmanref15_Arq.close trivial HS
        replace HS := HS.pm [1, 0, 2]
        replace HS := api_Ctl.close trivial HS
        replace HS := HS.pk [1, 0, 2] []
        exact At.meet (({ a0 with log := t28.2.2, acked := w64 (a0.acked + t28.1) } : signalmanref15_Arq)) ⟨rfl, rfl, rfl, rfl, trivial⟩ ⟨HS, kf18, by omega, H⟩
      ·rintro x35 w ⟨HS, kf36, hkkf36, H⟩
       unfold signalmanref15_Arq_numbered.j2 at H
       refine V.meet (σ := signalmanref15_Arq) (fun st w => match st with | x37 => Sep.St [signalmanref15_Arq.at b0 x37, api_Ctl.at nb1 a2, R] w0 w ∧ ∃ kf38, kf38 ≤ kf36 ∧ signalmanref15_Arq_numbered.j3 kf38 x37 = some r) (fun st => match st with | x37 => [(0, Value.pointer (some ⟨b0, 0, none⟩))]) ?_ ?_
       ·refine V.seq (V.region ?_)
        replace HS := HS.fr 1
        obtain ⟨hi42, HS⟩ := api_Ctl.open HS
        refine W.fa fo32_0 rfl (W.ld 0 HS Tryz.underlying3 rfl rfl rfl rfl (W.nx (V.block (V.seq (V.region (W.r (X.cmp (decide (a2.Kind = 2)) rfl rfl rfl rfl) rfl (W.as rfl (W.nx ?_))))))))
        by_cases c43 : a2.Kind = 2
        ·replace H := ite_t c43 H
         refine V.condT (sb (decide_eq_true c43)) (V.seq (V.region (W.mv rfl (W.nx ?_))))
         by_cases c44 : t28.2.1 = true
         ·replace H := ite_t c44 H
          refine V.condT (sb c44) (V.region (W.mv rfl ?_))
          obtain ⟨t45, A46, H⟩ := bind_s H
          replace HS := HS.pm [1, 0, 2]
          refine W.e (Y.cl Tryz.func67 (signalmanref15_Arq_again.calls A46 HS.j1)) rfl ?_
          rintro _ w ⟨rfl, HS⟩
          replace HS := HS.o1
          refine W.nil (At.blockEnd ?_)
          replace HS := HS.pm [1, 0, 2]
          replace HS := api_Ctl.close trivial HS
          replace HS := HS.pk [1, 0, 2] []
          exact At.meet t45 ⟨rfl, trivial⟩ ⟨HS, kf36, by omega, H⟩
         ·replace H := ite_f c44 H
          refine V.condF (sb (b_f c44)) (V.skip (At.blockEnd ?_))
          replace HS := api_Ctl.close trivial HS
          replace HS := HS.pk [1, 0, 2] []
          exact At.meet x35 ⟨rfl, trivial⟩ ⟨HS, kf36, by omega, H⟩
        ·replace H := ite_f c43 H
         refine V.condF (sb (decide_eq_false c43)) (V.seq (V.region (W.r (X.cmp (decide (a2.Kind = 0)) rfl rfl rfl rfl) rfl (W.as rfl (W.nx ?_)))))
         by_cases c47 : a2.Kind = 0
         ·replace H := ite_t c47 H
          refine V.condT (sb (decide_eq_true c47)) (V.region (W.mv rfl (W.r (X.loadSt 0 [Value.int .i64 a2.Kind, Value.int .i64 a2.Ns, Value.int .i64 a2.Nr, Value.bool a2.Poll] HS rfl Tryz.underlying32 rfl inf32 rfl rfl) rfl (W.mv rfl ?_))))
          obtain ⟨t48, A49, H⟩ := bind_s H
          replace HS := HS.pm [1, 0, 2]
          refine W.e (Y.cl Tryz.func109 (signalmanref15_Arq_took.calls A49 HS.j1 (rdC.part 1 hr3 rfl))) rfl ?_
          rintro _ w ⟨rfl, HS⟩
          replace HS := HS.o1
          refine W.nil (At.blockEnd ?_)
          replace HS := HS.pm [1, 0, 2]
          replace HS := api_Ctl.close trivial HS
          replace HS := HS.pk [1, 0, 2] []
          exact At.meet t48 ⟨rfl, trivial⟩ ⟨HS, kf36, by omega, H⟩
         ·replace H := ite_f c47 H
          refine V.condF (sb (decide_eq_false c47)) (V.skip (At.blockEnd ?_))
          replace HS := api_Ctl.close trivial HS
          replace HS := HS.pk [1, 0, 2] []
          exact At.meet x35 ⟨rfl, trivial⟩ ⟨HS, kf36, by omega, H⟩
       ·rintro x37 w ⟨HS, kf38, hkkf38, H⟩
        unfold signalmanref15_Arq_numbered.j3 at H
        refine V.region (W.mv rfl ?_)
        obtain ⟨t39, A40, H⟩ := bind_s H
        refine W.e (Y.cl Tryz.func54 (signalmanref15_Arq_pump.calls A40 HS.j1)) rfl ?_
        rintro _ w ⟨rfl, HS⟩
        replace HS := HS.o1
        refine W.nil ?_
        replace HS := HS.pk [0, 2] [1]
        cases H
        exact At.end0 rfl ⟨_, rfl, rfl, HS⟩
mutual
def signalmanref15_Arq_Input.j0 (k : Nat) (a0 : signalmanref15_Arq) (a1 : List Int) (x4 : api_Ctl) (x5 : Int) (x6 : Int) : Option signalmanref15_Arq := (if x6 = 0 then (if 0 ≤ (0 : Int) ∧ (0 : Int) < (a1.length : Int) then (if 0 ≤ (1 : Int) ∧ (1 : Int) < (a1.length : Int) then (if x4.Kind ≥ 3 then ((signalmanref15_Arq_bare.f k a0 (w64 ((w64 ((w64 (a1.getD (0 : Int).toNat 0)) * 256)) + (w64 (a1.getD (1 : Int).toNat 0)))) x4).bind fun t17 => some t17) else (if 0 ≤ w64 (2 + x5) ∧ w64 (2 + x5) ≤ (a1.length : Int) ∧ (a1.length : Int) ≤ (a1.length : Int) then ((signalmanref15_Arq_numbered.f k a0 (w64 ((w64 ((w64 (a1.getD (0 : Int).toNat 0)) * 256)) + (w64 (a1.getD (1 : Int).toNat 0)))) x4 (cut a1 (w64 (2 + x5)) (a1.length : Int))).bind fun t20 => some t20) else none)) else none) else none) else some a0)
end
def signalmanref15_Arq_Input.f (k : Nat) (a0 : signalmanref15_Arq) (a1 : List Int) : Option signalmanref15_Arq := (if (a1.length : Int) < 2 then some a0 else (if 0 ≤ (2 : Int) ∧ (2 : Int) ≤ (a1.length : Int) ∧ (a1.length : Int) ≤ (a1.length : Int) then ((signalmanref6_ReadCtl.f k (cut a1 (2 : Int) (a1.length : Int)) a0.m).bind fun t25 => (signalmanref15_Arq_Input.j0 k a0 a1 t25.1 t25.2.1 t25.2.2)) else none))
theorem signalmanref15_Arq_Input.calls {k : Nat} {a0 : signalmanref15_Arq} {a1 : List Int} {R : As} {w0 w : World} {b0 : Nat} {sa1 : Option Addr} {sc1 : Nat} {r : signalmanref15_Arq} (H : signalmanref15_Arq_Input.f k a0 a1 = some r) (HS : Sep.St [signalmanref15_Arq.at b0 a0, R] w0 w) (hr1 : rdC R 1 (.slice sa1 a1.length sc1) a1.length (a1.map (Value.int .u8))) : Calls Tryz.prog 18 #[Value.pointer (some ⟨b0, 0, none⟩), Value.slice sa1 a1.length sc1] w (Ret fun u w => u = Value.tuple #[] ∧ Sep.St [signalmanref15_Arq.at b0 r, R] w0 w) := by
 unfold signalmanref15_Arq_Input.f at H
 refine calls_enter Tryz.func18 rfl rfl ?_
 have H : _ = some r := H
 refine V.seq (V.seq (V.region (W.mv rfl (W.r (X.lenSl Tryz.underlying33 rfl) rfl (W.r (X.cmp (decide ((a1.length : Int) < 2)) rfl rfl rfl rfl) rfl (W.nx ?_))))))
 by_cases c2 : (a1.length : Int) < 2
 ·replace H := ite_t c2 H
  refine V.condT (sb (decide_eq_true c2)) (V.ret (At.thenRet ?_))
  cases H
  exact At.ret0 rfl ⟨_, rfl, rfl, HS⟩
 ·replace H := ite_f c2 H
  refine V.condF (sb (decide_eq_false c2)) (V.skip (At.next (V.meet (σ := Nat × api_Ctl × Int × Int) (fun st w => match st with | (nb3, x4, x5, x6) => Sep.St [api_Ctl.at nb3 x4, signalmanref15_Arq.at b0 a0, R] w0 w ∧ ∃ kf7, kf7 ≤ k ∧ signalmanref15_Arq_Input.j0 kf7 a0 a1 x4 x5 x6 = some r) (fun st => match st with | (nb3, x4, x5, x6) => [(0, Value.pointer (some ⟨b0, 0, none⟩)), (1, Value.slice sa1 a1.length sc1), (4, Value.pointer (some ⟨nb3, 0, none⟩)), (5, Value.int .i64 x5), (6, Value.int .i64 x6)]) ?_ ?_)))
  ·obtain ⟨c22, H⟩ := ite_n H
   obtain ⟨b6_23, b7_23, a11_23, c11_23, d11_23, a12_23, c12_23, hi24, HS⟩ := signalmanref15_Arq.open HS
   refine V.dr [6, 11, 12] [7, 8, 9, 10, 13, 14] [(12, Value.slice sa1 a1.length sc1), (13, Value.slice (vaddr sa1 sc1 (2 : Int).toNat 1) (cut a1 (2 : Int) (a1.length : Int)).length (sc1 - (2 : Int).toNat)), (14, Value.pointer (some ⟨b0, 0, none⟩)), (15, Value.pointer (some ⟨b0, 0, none⟩)), (16, Value.pointer (some ⟨b0, 0 + 0, none⟩)), (17, Value.int .i64 a0.m)] mo HS ?_
   refine T.two rfl rfl ⟨.mv 1, .n1 12 rfl rfl (fun w HS => X.slL Tryz.underlying33 inf5 rfl rfl c22), .mv 0, .nc 14, .fa 15 fo71_0, .ld 16 0 Tryz.underlying3, trivial⟩ (T.step (es := [11, 12]) _ [(13, Value.slice (vaddr sa1 sc1 (2 : Int).toNat 1) (cut a1 (2 : Int) (a1.length : Int)).length (sc1 - (2 : Int).toNat)), (17, Value.int .i64 a0.m)] rfl ⟨.inr ⟨rfl, rfl⟩, ⟨.inr ⟨rfl, rfl⟩, trivial⟩⟩ (Or.inl rfl) (by intro d hd; cases hd; exact ⟨by decide, rfl, rfl⟩) [13, 14] [0, 1, 2, 3, 4, 5] rfl rfl rfl rfl rfl (fun w HS => ?_)) (T.step (es := [6, 12]) _ [] rfl trivial (Or.inl rfl) (by intro d hd; cases hd; exact ⟨by decide, rfl, rfl⟩) [7, 8, 9, 10, 13, 14] [] rfl rfl rfl rfl rfl (fun w HS => ?_))
   ·have HS : Sep.St [blk b0 (#[Value.int .i64 a0.m, Value.int .i64 a0.t1, Value.int .i64 a0.n2, Value.int .i64 a0.size, Value.int .i64 a0.state, Value.int .i64 a0.tag, Value.pointer (some ⟨b6_23, 0, none⟩), Value.pointer (some ⟨b7_23, 0, none⟩), Value.int .i64 a0.left, Value.int .i64 a0.tries, Value.bool a0.rejected, Value.slice a11_23 a0.out.length c11_23, Value.slice a12_23 a0.inds.length c12_23, Value.int .i64 a0.sent, Value.int .i64 a0.acked, Value.int .i64 a0.lost]) 71, signalmanref6_Log.at b6_23 a0.log, signalmanref6_Order.at b7_23 a0.order, row 33 1 (.slice a11_23 a0.out.length c11_23) a0.out.length d11_23, tie (El.sl (El.int .u8)) d11_23 a0.out, row 3 1 (.slice a12_23 a0.inds.length c12_23) a0.inds.length (a0.inds.map (Value.int .i64)), R] w0 w := HS
    obtain ⟨t25, A26, H⟩ := bind_s H
    refine ⟨_, Y.cl Tryz.func62 (signalmanref6_ReadCtl.calls A26 HS.j0 (rdC.part 6 (rdC.subM hr1 c22) rfl)), ?_⟩
    rintro _ w ⟨rfl, HS⟩
    replace HS := HS.o0
    refine T.nm [(18, Value.tuple #[Value.agg #[Value.int .i64 t25.1.Kind, Value.int .i64 t25.1.Ns, Value.int .i64 t25.1.Nr, Value.bool t25.1.Poll], Value.int .i64 t25.2.1, Value.int .i64 t25.2.2]), (11, Value.tuple #[Value.agg #[Value.int .i64 t25.1.Kind, Value.int .i64 t25.1.Ns, Value.int .i64 t25.1.Nr, Value.bool t25.1.Poll], Value.int .i64 t25.2.1, Value.int .i64 t25.2.2]), (19, Value.agg #[Value.int .i64 t25.1.Kind, Value.int .i64 t25.1.Ns, Value.int .i64 t25.1.Nr, Value.bool t25.1.Poll]), (20, Value.int .i64 t25.2.1), (21, Value.int .i64 t25.2.2)] HS ⟨.inl ⟨rfl, rfl⟩, ⟨.inr ⟨by decide, rfl⟩, ⟨.inr ⟨by decide, rfl⟩, ⟨.inr ⟨by decide, rfl⟩, ⟨.inr ⟨by decide, rfl⟩, trivial⟩⟩⟩⟩⟩ ?_
    refine T.ev [] [13, 14] [] trivial ⟨.mv 18, .n1 11 rfl rfl (fun w HS => X.extract rfl rfl), .n1 11 rfl rfl (fun w HS => X.extract rfl rfl), .n1 11 rfl rfl (fun w HS => X.extract rfl rfl), trivial⟩ rfl (fun w HS => ?_)
    refine ⟨_, Y.alloc (z := Value.agg (#[Value.int .i64 (0), Value.int .i64 (0), Value.int .i64 (0), Value.bool false])) HS ze32, ?_⟩
    rintro _ w ⟨nb27, rfl, HS⟩
    refine T.nw HS ?_
    refine T.ev [(4, _), (19, _)] [] [7, 8] ⟨rfl, rfl, trivial⟩ ⟨.mv 18, .n1 11 rfl rfl (fun w HS => X.extract rfl rfl), .n1 11 rfl rfl (fun w HS => X.extract rfl rfl), .n1 11 rfl rfl (fun w HS => X.extract rfl rfl), trivial⟩ rfl (fun w HS => ?_)
    refine ⟨_, Y.storeSt (c' := #[Value.int .i64 t25.1.Kind, Value.int .i64 t25.1.Ns, Value.int .i64 t25.1.Nr, Value.bool t25.1.Poll]) 0 [Value.int .i64 t25.1.Kind, Value.int .i64 t25.1.Ns, Value.int .i64 t25.1.Nr, Value.bool t25.1.Poll] HS rfl inf32 rfl rfl rfl rfl rfl rfl, ?_⟩
    rintro _ w HS
    refine T.nm [(5, Value.int .i64 t25.2.1), (6, Value.int .i64 t25.2.2)] HS ⟨.inr ⟨by decide, rfl⟩, ⟨.inr ⟨by decide, rfl⟩, trivial⟩⟩ ?_
    refine T.fn [(0, _), (1, _), (4, _), (5, _), (6, _)] ⟨rfl, rfl, rfl, rfl, rfl, trivial⟩ ⟨.n1 11 rfl rfl (fun w HS => X.extract rfl rfl), .n1 11 rfl rfl (fun w HS => X.extract rfl rfl), .as 20, .as 21, trivial⟩ (fun w HS => ?_)
    replace HS := api_Ctl.close trivial HS
    replace HS := HS.pm [1, 2, 3, 4, 5, 6, 0, 7]
    replace HS := signalmanref15_Arq.close trivial HS
    replace HS := HS.pk [1, 0, 2] []
    exact At.meet (nb27, t25.1, t25.2.1, t25.2.2) ⟨rfl, rfl, rfl, rfl, rfl, trivial⟩ ⟨HS, k, by omega, H⟩
   ·have HS : Sep.St [blk b0 (#[Value.int .i64 a0.m, Value.int .i64 a0.t1, Value.int .i64 a0.n2, Value.int .i64 a0.size, Value.int .i64 a0.state, Value.int .i64 a0.tag, Value.pointer (some ⟨b6_23, 0, none⟩), Value.pointer (some ⟨b7_23, 0, none⟩), Value.int .i64 a0.left, Value.int .i64 a0.tries, Value.bool a0.rejected, Value.slice a11_23 a0.out.length c11_23, Value.slice a12_23 a0.inds.length c12_23, Value.int .i64 a0.sent, Value.int .i64 a0.acked, Value.int .i64 a0.lost]) 71, signalmanref6_Log.at b6_23 a0.log, signalmanref6_Order.at b7_23 a0.order, row 33 1 (.slice a11_23 a0.out.length c11_23) a0.out.length d11_23, tie (El.sl (El.int .u8)) d11_23 a0.out, row 3 1 (.slice a12_23 a0.inds.length c12_23) a0.inds.length (a0.inds.map (Value.int .i64)), R] w0 w := HS
    refine ⟨_, Y.alloc (z := Value.agg (#[Value.int .i64 (0), Value.int .i64 (0), Value.int .i64 (0), Value.bool false])) HS ze32, ?_⟩
    rintro _ w ⟨nb28, rfl, HS⟩
    refine T.nw HS ?_
    refine T.ev [(13, _), (17, _)] [13, 14] [0, 1, 2, 3, 4, 5] ⟨rfl, rfl, trivial⟩ ⟨.mv 1, .n1 12 rfl rfl (fun w HS => X.slL Tryz.underlying33 inf5 rfl rfl c22), .mv 0, .nc 14, .fa 15 fo71_0, .ld 16 1 Tryz.underlying3, trivial⟩ rfl (fun w HS => ?_)
    obtain ⟨t29, A30, H⟩ := bind_s H
    refine ⟨_, Y.cl Tryz.func62 (signalmanref6_ReadCtl.calls A30 HS.j0 (rdC.part 7 (rdC.subM hr1 c22) rfl)), ?_⟩
    rintro _ w ⟨rfl, HS⟩
    replace HS := HS.o0
    refine T.nm [(18, Value.tuple #[Value.agg #[Value.int .i64 t29.1.Kind, Value.int .i64 t29.1.Ns, Value.int .i64 t29.1.Nr, Value.bool t29.1.Poll], Value.int .i64 t29.2.1, Value.int .i64 t29.2.2]), (11, Value.tuple #[Value.agg #[Value.int .i64 t29.1.Kind, Value.int .i64 t29.1.Ns, Value.int .i64 t29.1.Nr, Value.bool t29.1.Poll], Value.int .i64 t29.2.1, Value.int .i64 t29.2.2]), (19, Value.agg #[Value.int .i64 t29.1.Kind, Value.int .i64 t29.1.Ns, Value.int .i64 t29.1.Nr, Value.bool t29.1.Poll]), (20, Value.int .i64 t29.2.1), (21, Value.int .i64 t29.2.2)] HS ⟨.inl ⟨rfl, rfl⟩, ⟨.inr ⟨by decide, rfl⟩, ⟨.inr ⟨by decide, rfl⟩, ⟨.inr ⟨by decide, rfl⟩, ⟨.inr ⟨by decide, rfl⟩, trivial⟩⟩⟩⟩⟩ ?_
    refine T.ev [(4, _), (19, _)] [] [7, 8] ⟨rfl, rfl, trivial⟩ ⟨.mv 18, .n1 11 rfl rfl (fun w HS => X.extract rfl rfl), .n1 11 rfl rfl (fun w HS => X.extract rfl rfl), .n1 11 rfl rfl (fun w HS => X.extract rfl rfl), trivial⟩ rfl (fun w HS => ?_)
    refine ⟨_, Y.storeSt (c' := #[Value.int .i64 t29.1.Kind, Value.int .i64 t29.1.Ns, Value.int .i64 t29.1.Nr, Value.bool t29.1.Poll]) 0 [Value.int .i64 t29.1.Kind, Value.int .i64 t29.1.Ns, Value.int .i64 t29.1.Nr, Value.bool t29.1.Poll] HS rfl inf32 rfl rfl rfl rfl rfl rfl, ?_⟩
    rintro _ w HS
    refine T.nm [(5, Value.int .i64 t29.2.1), (6, Value.int .i64 t29.2.2)] HS ⟨.inr ⟨by decide, rfl⟩, ⟨.inr ⟨by decide, rfl⟩, trivial⟩⟩ ?_
    refine T.fn [(0, _), (1, _), (4, _), (5, _), (6, _)] ⟨rfl, rfl, rfl, rfl, rfl, trivial⟩ ⟨.n1 11 rfl rfl (fun w HS => X.extract rfl rfl), .n1 11 rfl rfl (fun w HS => X.extract rfl rfl), .as 20, .as 21, trivial⟩ (fun w HS => ?_)
    replace HS := api_Ctl.close trivial HS
    replace HS := HS.pm [1, 2, 3, 4, 5, 6, 0, 7]
    replace HS := signalmanref15_Arq.close trivial HS
    replace HS := HS.pk [1, 0, 2] []
    exact At.meet (nb28, t29.1, t29.2.1, t29.2.2) ⟨rfl, rfl, rfl, rfl, rfl, trivial⟩ ⟨HS, k, by omega, H⟩
  ·rintro ⟨nb3, x4, x5, x6⟩ w ⟨HS, kf7, hkkf7, H⟩
   unfold signalmanref15_Arq_Input.j0 at H
   refine V.seq (V.seq (V.region (W.mv rfl (W.r (X.cmp (!(decide (x6 = 0))) rfl rfl rfl rfl) rfl (W.nx ?_)))))
   by_cases c9 : x6 = 0
   ·replace H := ite_t c9 H
    refine V.condF (sb (n_t (decide_eq_true c9))) (V.skip (At.next (V.seq ?_)))
    obtain ⟨c10, H⟩ := ite_n H
    obtain ⟨eb11, eo12, hh⟩ := (rdC.at 2 hr1 HS rfl).some (by decide) c10.1 c10.2; subst hh
    obtain ⟨c13, H⟩ := ite_n H
    refine V.dr [] [] [(24, Value.slice (some ⟨eb11, eo12, none⟩) a1.length sc1), (25, Value.pointer (some ⟨eb11, eo12 + (0 : Int).toNat * 1, none⟩)), (26, Value.int .u8 (a1.getD (0 : Int).toNat 0)), (27, Value.int .i64 (w64 (a1.getD (0 : Int).toNat 0))), (28, Value.int .i64 (w64 ((w64 (a1.getD (0 : Int).toNat 0)) * 256))), (29, Value.slice (some ⟨eb11, eo12, none⟩) a1.length sc1), (30, Value.pointer (some ⟨eb11, eo12 + (1 : Int).toNat * 1, none⟩)), (31, Value.int .u8 (a1.getD (1 : Int).toNat 0)), (32, Value.int .i64 (w64 (a1.getD (1 : Int).toNat 0))), (33, Value.int .i64 (w64 ((w64 ((w64 (a1.getD (0 : Int).toNat 0)) * 256)) + (w64 (a1.getD (1 : Int).toNat 0))))), (7, Value.int .i64 (w64 ((w64 ((w64 (a1.getD (0 : Int).toNat 0)) * 256)) + (w64 (a1.getD (1 : Int).toNat 0)))))] mo HS ?_
    refine T.fn [(0, _), (1, _), (4, _), (5, _), (7, _)] ⟨rfl, rfl, rfl, rfl, rfl, trivial⟩ ⟨.mv 1, .n1 24 rfl rfl (fun w HS => X.indexSl Tryz.underlying33 inf5 rfl rfl c10.1 c10.2), .n1 25 rfl rfl (fun w HS => X.load Tryz.underlying5 rfl rfl ((rdC.at 2 hr1 HS rfl).cellI c10.1 c10.2)), .n1 26 rfl rfl (fun w HS => X.conv Tryz.underlying5 Tryz.underlying3 rfl), .n1 27 rfl rfl (fun w HS => X.mul rfl rfl), .mv 1, .n1 29 rfl rfl (fun w HS => X.indexSl Tryz.underlying33 inf5 rfl rfl c13.1 c13.2), .n1 30 rfl rfl (fun w HS => X.load Tryz.underlying5 rfl rfl ((rdC.at 2 hr1 HS rfl).cellI c13.1 c13.2)), .n1 31 rfl rfl (fun w HS => X.conv Tryz.underlying5 Tryz.underlying3 rfl), .n2 28 32 rfl rfl rfl (fun w HS => X.add rfl rfl), .as 33, trivial⟩ (fun w HS => ?_)
    refine At.next (V.seq (V.region ?_))
    obtain ⟨hi15, HS⟩ := api_Ctl.open HS
    refine W.fa fo32_0 rfl (W.ld 0 HS Tryz.underlying3 rfl rfl rfl rfl (W.r (X.cmp (decide (x4.Kind ≥ 3)) rfl rfl rfl rfl) rfl (W.nx ?_)))
    by_cases c16 : x4.Kind ≥ 3
    ·replace H := ite_t c16 H
     refine V.condT (sb (decide_eq_true c16)) (V.region (W.mv rfl (W.mv rfl (W.r (X.loadSt 0 [Value.int .i64 x4.Kind, Value.int .i64 x4.Ns, Value.int .i64 x4.Nr, Value.bool x4.Poll] HS rfl Tryz.underlying32 rfl inf32 rfl rfl) rfl ?_))))
     obtain ⟨t17, A18, H⟩ := bind_s H
     replace HS := HS.pm [1, 0, 2]
     refine W.e (Y.cl Tryz.func63 (signalmanref15_Arq_bare.calls A18 HS.j1)) rfl ?_
     rintro _ w ⟨rfl, HS⟩
     replace HS := HS.o1
     refine W.nil ?_
     replace HS := HS.pk [0, 2] [1]
     cases H
     exact At.end0 rfl ⟨_, rfl, rfl, HS⟩
    ·replace H := ite_f c16 H
     refine V.condF (sb (decide_eq_false c16)) ?_
     obtain ⟨c19, H⟩ := ite_n H
     refine V.dr [7] [] [(41, Value.pointer (some ⟨b0, 0, none⟩)), (42, Value.int .i64 (w64 ((w64 ((w64 (a1.getD (0 : Int).toNat 0)) * 256)) + (w64 (a1.getD (1 : Int).toNat 0))))), (43, Value.agg #[Value.int .i64 x4.Kind, Value.int .i64 x4.Ns, Value.int .i64 x4.Nr, Value.bool x4.Poll]), (44, Value.slice (some ⟨eb11, eo12, none⟩) a1.length sc1), (45, Value.int .i64 x5), (46, Value.int .i64 (w64 (2 + x5))), (47, Value.slice (vaddr (some ⟨eb11, eo12, none⟩) sc1 (w64 (2 + x5)).toNat 1) (cut a1 (w64 (2 + x5)) (a1.length : Int)).length (sc1 - (w64 (2 + x5)).toNat))] mo HS ?_
     refine T.ev [(41, _), (42, _), (43, _), (47, _)] [] [0, 1, 2, 3, 4, 5, 6] ⟨rfl, rfl, rfl, rfl, trivial⟩ ⟨.mv 0, .mv 7, .n1 4 rfl rfl (fun w HS => X.loadSt 0 [Value.int .i64 x4.Kind, Value.int .i64 x4.Ns, Value.int .i64 x4.Nr, Value.bool x4.Poll] HS rfl Tryz.underlying32 rfl inf32 rfl rfl), .mv 1, .mv 5, .n1 45 rfl rfl (fun w HS => X.add rfl rfl), .n2 44 46 rfl rfl rfl (fun w HS => X.slL Tryz.underlying33 inf5 rfl rfl c19), trivial⟩ rfl (fun w HS => ?_)
     obtain ⟨t20, A21, H⟩ := bind_s H
     replace HS := HS.pm [1, 0, 2]
     refine ⟨_, Y.cl Tryz.func64 (signalmanref15_Arq_numbered.calls A21 HS.j1 (rdC.part 1 (rdC.subM hr1 c19) rfl)), ?_⟩
     rintro _ w ⟨rfl, HS⟩
     replace HS := HS.o1
     refine T.nw HS ?_
     refine T.fn [] trivial trivial (fun w HS => ?_)
     replace HS := HS.pk [0, 2] [1]
     cases H
     exact At.end0 rfl ⟨_, rfl, rfl, HS⟩
   ·replace H := ite_f c9 H
    refine V.condT (sb (n_f (decide_eq_false c9))) (V.ret (At.thenRet ?_))
    replace HS := HS.pk [1, 2] [0]
    cases H
    exact At.ret0 rfl ⟨_, rfl, rfl, HS⟩
def signalmanref15_Arq_late.f (k : Nat) (a0 : signalmanref15_Arq) : Option signalmanref15_Arq := (if (w64 (a0.tries + 1)) > a0.n2 then ((signalmanref15_Arq_end.f ({ a0 with tries := w64 (a0.tries + 1) } : signalmanref15_Arq)).bind fun t10 => some t10) else (if a0.state = 1 then ((signalmanref15_Arq_say.f ({ a0 with left := a0.t1, tries := w64 (a0.tries + 1) } : signalmanref15_Arq) 3 true).bind fun t13 => some t13) else (if a0.state = 3 then ((signalmanref15_Arq_say.f ({ a0 with left := a0.t1, tries := w64 (a0.tries + 1) } : signalmanref15_Arq) 5 true).bind fun t16 => some t16) else (if a0.state = 2 then ((signalmanref6_Log_Out.f k a0.log).bind fun t21 => (if (t21.length : Int) > 0 then (if 0 ≤ (0 : Int) ∧ (0 : Int) < (t21.length : Int) then ((signalmanref15_Arq_info.f k ({ a0 with left := a0.t1, tries := w64 (a0.tries + 1) } : signalmanref15_Arq) (t21.getD (0 : Int).toNat 0) true).bind fun t27 => some t27) else none) else some (({ a0 with left := a0.t1, tries := w64 (a0.tries + 1) } : signalmanref15_Arq)))) else some (({ a0 with left := a0.t1, tries := w64 (a0.tries + 1) } : signalmanref15_Arq))))))
theorem signalmanref15_Arq_late.calls {k : Nat} {a0 : signalmanref15_Arq} {R : As} {w0 w : World} {b0 : Nat} {r : signalmanref15_Arq} (H : signalmanref15_Arq_late.f k a0 = some r) (HS : Sep.St [signalmanref15_Arq.at b0 a0, R] w0 w)  : Calls Tryz.prog 65 #[Value.pointer (some ⟨b0, 0, none⟩)] w (Ret fun u w => u = Value.tuple #[] ∧ Sep.St [signalmanref15_Arq.at b0 r, R] w0 w) := by
 unfold signalmanref15_Arq_late.f at H
 refine calls_enter Tryz.func65 rfl rfl ?_
 have H : _ = some r := H
 refine V.seq (V.region (W.mv rfl (W.nc rfl ?_)))
 obtain ⟨b6_1, b7_1, a11_1, c11_1, d11_1, a12_1, c12_1, hi2, HS⟩ := signalmanref15_Arq.open HS
 refine W.fa fo71_9 rfl (W.ld 0 HS Tryz.underlying3 rfl rfl rfl rfl (W.r (X.add rfl rfl) rfl (W.nc rfl (W.fa fo71_9 rfl (W.st 0 9 HS inf3 rfl rfl rfl rfl rfl rfl fun w HS => ?_)))))
 refine W.nx (V.seq (V.seq (V.dr [] [] [(10, Value.pointer (some ⟨b0, 0, none⟩)), (11, Value.pointer (some ⟨b0, 0, none⟩)), (12, Value.pointer (some ⟨b0, 0 + 9, none⟩)), (13, Value.int .i64 (w64 (a0.tries + 1))), (14, Value.pointer (some ⟨b0, 0, none⟩)), (15, Value.pointer (some ⟨b0, 0, none⟩)), (16, Value.pointer (some ⟨b0, 0 + 2, none⟩)), (17, Value.int .i64 a0.n2), (18, Value.bool (decide ((w64 (a0.tries + 1)) > a0.n2)))] mo HS ?_)))
 refine T.fn [(0, _), (18, _)] ⟨rfl, rfl, trivial⟩ ⟨.mv 0, .nc 10, .fa 11 fo71_9, .ld 12 0 Tryz.underlying3, .mv 0, .nc 14, .fa 15 fo71_2, .ld 16 0 Tryz.underlying3, .n2 13 17 rfl rfl rfl (fun w HS => X.cmp (decide ((w64 (a0.tries + 1)) > a0.n2)) rfl rfl rfl rfl), trivial⟩ (fun w HS => ?_)
 refine At.next ?_
 by_cases c9 : (w64 (a0.tries + 1)) > a0.n2
 ·replace H := ite_t c9 H
  refine V.condT (sb (decide_eq_true c9)) (V.seq (V.region (W.mv rfl ?_)))
  replace HS := signalmanref15_Arq.close trivial HS
  obtain ⟨t10, A11, H⟩ := bind_s H
  refine W.e (Y.cl Tryz.func105 (signalmanref15_Arq_end.calls A11 HS.j1)) rfl ?_
  rintro _ w ⟨rfl, HS⟩
  replace HS := HS.o1
  refine W.nx (V.ret (At.thenRet ?_))
  cases H
  exact At.ret0 rfl ⟨_, rfl, rfl, HS⟩
 ·replace H := ite_f c9 H
  refine V.condF (sb (decide_eq_false c9)) (V.skip (At.next (V.seq (V.region (W.mv rfl (W.mv rfl (W.nc rfl (W.fa fo71_1 rfl (W.ld 0 HS Tryz.underlying3 rfl rfl rfl rfl (W.nc rfl (W.fa fo71_8 rfl (W.st 0 8 HS inf3 rfl rfl rfl rfl rfl rfl fun w HS => ?_))))))))))))
  refine W.nx (V.seq (V.region (W.mv rfl (W.nc rfl (W.fa fo71_4 rfl (W.ld 0 HS Tryz.underlying3 rfl rfl rfl rfl (W.nx (V.block (V.seq (V.region (W.r (X.cmp (decide (a0.state = 1)) rfl rfl rfl rfl) rfl (W.as rfl (W.nx ?_)))))))))))))
  by_cases c12 : a0.state = 1
  ·replace H := ite_t c12 H
   refine V.condT (sb (decide_eq_true c12)) (V.region (W.mv rfl ?_))
   replace HS := signalmanref15_Arq.close trivial HS
   obtain ⟨t13, A14, H⟩ := bind_s H
   refine W.e (Y.cl Tryz.func48 (signalmanref15_Arq_say.calls A14 HS.j1)) rfl ?_
   rintro _ w ⟨rfl, HS⟩
   replace HS := HS.o1
   refine W.nil (At.blockEnd ?_)
   cases H
   exact At.end0 rfl ⟨_, rfl, rfl, HS⟩
  ·replace H := ite_f c12 H
   refine V.condF (sb (decide_eq_false c12)) (V.seq (V.region (W.r (X.cmp (decide (a0.state = 3)) rfl rfl rfl rfl) rfl (W.as rfl (W.nx ?_)))))
   by_cases c15 : a0.state = 3
   ·replace H := ite_t c15 H
    refine V.condT (sb (decide_eq_true c15)) (V.region (W.mv rfl ?_))
    replace HS := signalmanref15_Arq.close trivial HS
    obtain ⟨t16, A17, H⟩ := bind_s H
    refine W.e (Y.cl Tryz.func48 (signalmanref15_Arq_say.calls A17 HS.j1)) rfl ?_
    rintro _ w ⟨rfl, HS⟩
    replace HS := HS.o1
    refine W.nil (At.blockEnd ?_)
    cases H
    exact At.end0 rfl ⟨_, rfl, rfl, HS⟩
   ·replace H := ite_f c15 H
    refine V.condF (sb (decide_eq_false c15)) (V.seq (V.region (W.r (X.cmp (decide (a0.state = 2)) rfl rfl rfl rfl) rfl (W.as rfl (W.nx ?_)))))
    by_cases c18 : a0.state = 2
    ·replace H := ite_t c18 H
     refine V.condT (sb (decide_eq_true c18)) (V.seq (V.region (W.mv rfl (W.nc rfl (W.fa fo71_6 rfl (W.ld 0 HS Tryz.underlying66 rfl rfl rfl rfl ?_))))))
     replace HS := HS.fr 1
     obtain ⟨a4_19, c4_19, d4_19, a5_19, c5_19, d5_19, hi20, HS⟩ := signalmanref6_Log.open HS
     obtain ⟨t21, A22, H⟩ := bind_s H
     refine W.e (Y.cl Tryz.func108 (signalmanref6_Log_Out.calls A22 HS.j5)) rfl ?_
     rintro _ w ⟨at21_0, ct21_0, rfl, HS⟩
     replace HS := HS.o6
     refine W.as rfl (W.nx (V.seq (V.region (W.mv rfl (W.r (X.lenSl Tryz.underlying51 rfl) rfl (W.r (X.cmp (decide ((t21.length : Int) > 0)) rfl rfl rfl rfl) rfl (W.nx ?_)))))))
     by_cases c23 : (t21.length : Int) > 0
     ·replace H := ite_t c23 H
      refine V.condT (sb (decide_eq_true c23)) (V.region (W.mv rfl (W.mv rfl ?_)))
      obtain ⟨c24, H⟩ := ite_n H
      obtain ⟨eb25, eo26, hh⟩ := (rdC.at 0 row_rd HS rfl).some (by decide) c24.1 c24.2; subst hh
      refine W.r (X.indexSl Tryz.underlying51 inf3 rfl rfl c24.1 c24.2) rfl (W.r (X.load Tryz.underlying3 rfl rfl ((rdC.at 0 row_rd HS rfl).cellI c24.1 c24.2)) rfl ?_)
      replace HS := HS.pm [1, 2, 3, 4, 5, 0, 6, 7, 8, 9, 10, 11]
      replace HS := signalmanref6_Log.close trivial HS
      replace HS := HS.pm [2, 0, 3, 4, 5, 6, 1, 7]
      replace HS := signalmanref15_Arq.close trivial HS
      obtain ⟨t27, A28, H⟩ := bind_s H
      refine W.e (Y.cl Tryz.func94 (signalmanref15_Arq_info.calls A28 HS.j1)) rfl ?_
      rintro _ w ⟨rfl, HS⟩
      replace HS := HS.o1
      refine W.nil (At.blockEnd ?_)
      replace HS := HS.pk [0, 2] [1]
      cases H
      exact At.end0 rfl ⟨_, rfl, rfl, HS⟩
     ·replace H := ite_f c23 H
      refine V.condF (sb (decide_eq_false c23)) (V.skip (At.blockEnd ?_))
      replace HS := HS.pm [1, 2, 3, 4, 5, 0, 6, 7, 8, 9, 10, 11]
      replace HS := signalmanref6_Log.close trivial HS
      replace HS := HS.pm [2, 0, 3, 4, 5, 6, 1, 7]
      replace HS := signalmanref15_Arq.close trivial HS
      replace HS := HS.pk [0, 2] [1]
      cases H
      exact At.end0 rfl ⟨_, rfl, rfl, HS⟩
    ·replace H := ite_f c18 H
     refine V.condF (sb (decide_eq_false c18)) (V.skip (At.blockEnd ?_))
     replace HS := signalmanref15_Arq.close trivial HS
     cases H
     exact At.end0 rfl ⟨_, rfl, rfl, HS⟩
mutual
def signalmanref15_Arq_Pass.l0 : Nat → Int → Int → signalmanref15_Arq → Option signalmanref15_Arq
 | 0, _, _, _ => none
 | k + 1, t1, x4, x5 => (if x5.left > 0 then (signalmanref15_Arq_Pass.j1 k t1 x4 x5 (signalmanref15_Arq_Pass.l0 k t1) (decide (x5.left ≤ x4))) else (signalmanref15_Arq_Pass.j1 k t1 x4 x5 (signalmanref15_Arq_Pass.l0 k t1) false))
def signalmanref15_Arq_Pass.j1 (k : Nat) (t1 : Int) (x4 : Int) (x5 : signalmanref15_Arq) (Lq10 : Int → signalmanref15_Arq → Option signalmanref15_Arq) (x8 : Bool) : Option signalmanref15_Arq := (if x8 = true then ((signalmanref15_Arq_late.f k ({ x5 with left := 0 } : signalmanref15_Arq)).bind fun t15 => (Lq10 (w64 (x4 - x5.left)) t15)) else (if x5.left > 0 then some (({ x5 with left := w64 (x5.left - x4) } : signalmanref15_Arq)) else some x5))
end
def signalmanref15_Arq_Pass.f (k : Nat) (a0 : signalmanref15_Arq) (a1 : Int) : Option signalmanref15_Arq := ((signalmanref1_Cut.f a1 0 1048576).bind fun t1 => (signalmanref15_Arq_Pass.l0 k t1 t1 a0))
theorem signalmanref15_Arq_Pass.calls {k : Nat} {a0 : signalmanref15_Arq} {a1 : Int} {R : As} {w0 w : World} {b0 : Nat} {r : signalmanref15_Arq} (H : signalmanref15_Arq_Pass.f k a0 a1 = some r) (HS : Sep.St [signalmanref15_Arq.at b0 a0, R] w0 w)  : Calls Tryz.prog 19 #[Value.pointer (some ⟨b0, 0, none⟩), Value.int .i64 a1] w (Ret fun u w => u = Value.tuple #[] ∧ Sep.St [signalmanref15_Arq.at b0 r, R] w0 w) := by
 unfold signalmanref15_Arq_Pass.f at H
 refine calls_enter Tryz.func19 rfl rfl ?_
 have H : _ = some r := H
 refine V.seq (V.region (W.mv rfl ?_))
 obtain ⟨t1, A2, H⟩ := bind_s H
 refine W.e (Y.cl Tryz.func38 (signalmanref1_Cut.calls A2 HS.j0)) rfl ?_
 rintro _ w ⟨rfl, HS⟩
 replace HS := HS.o0
 refine W.as rfl (W.nx (V.seq (V.block (V.loop (σ := Int × signalmanref15_Arq) (fun kq (st : Int × signalmanref15_Arq) w => match st with | (x4, x5) => Sep.St [signalmanref15_Arq.at b0 x5, R] w0 w ∧ signalmanref15_Arq_Pass.l0 kq t1 x4 x5 = some r ∧ kq ≤ k) (fun st => match st with | (x4, x5) => [(0, Value.pointer (some ⟨b0, 0, none⟩)), (1, Value.int .i64 x4)]) k (t1, a0) ⟨rfl, rfl, trivial⟩ ⟨HS, H, Nat.le_refl _⟩ ?_))))
 rintro kq6 ⟨x4, x5⟩ w ⟨HS, H, hk7⟩
 cases kq6 with
 | zero => exact absurd H (by simp [signalmanref15_Arq_Pass.l0])
 | succ kq6 =>
  simp only [signalmanref15_Arq_Pass.l0] at H
  refine V.seq (V.meet (σ := Bool) (fun st w => match st with | x8 => Sep.St [signalmanref15_Arq.at b0 x5, R] w0 w ∧ ∃ kf9 kl11, kf9 ≤ kq6 ∧ kl11 ≤ kq6 ∧ signalmanref15_Arq_Pass.j1 kf9 t1 x4 x5 (signalmanref15_Arq_Pass.l0 kl11 t1) x8 = some r) (fun st => match st with | x8 => [(0, Value.pointer (some ⟨b0, 0, none⟩)), (1, Value.int .i64 x4), (18, Value.bool x8)]) ?_ ?_)
  ·refine V.region (W.mv rfl (W.nc rfl ?_))
   obtain ⟨b6_20, b7_20, a11_20, c11_20, d11_20, a12_20, c12_20, hi21, HS⟩ := signalmanref15_Arq.open HS
   refine W.fa fo71_8 rfl (W.ld 0 HS Tryz.underlying3 rfl rfl rfl rfl (W.r (X.cmp (decide (x5.left > 0)) rfl rfl rfl rfl) rfl (W.mv rfl ?_)))
   by_cases c22 : x5.left > 0
   ·replace H := ite_t c22 H
    refine W.want 11 rfl (sb (decide_eq_true c22)) (W.mv rfl (W.want 11 rfl (sb (decide_eq_true c22)) (W.nc rfl (W.want 11 rfl (sb (decide_eq_true c22)) (W.fa fo71_8 rfl (W.want 11 rfl (sb (decide_eq_true c22)) (W.ld 0 HS Tryz.underlying3 rfl rfl rfl rfl (W.want 11 rfl (sb (decide_eq_true c22)) (W.mv rfl (W.want 11 rfl (sb (decide_eq_true c22)) (W.r (X.cmp (decide (x5.left ≤ x4)) rfl rfl rfl rfl) rfl (W.r (X.pickT (sb (decide_eq_true c22)) rfl) rfl (W.nil ?_)))))))))))))
    replace HS := signalmanref15_Arq.close trivial HS
    exact At.meet (decide (x5.left ≤ x4)) ⟨rfl, rfl, rfl, trivial⟩ ⟨HS, kq6, kq6, by omega, by omega, H⟩
   ·replace H := ite_f c22 H
    refine W.pass 11 rfl (sb (decide_eq_false c22)) rfl rfl (W.pass 11 rfl (sb (decide_eq_false c22)) rfl rfl (W.pass 11 rfl (sb (decide_eq_false c22)) rfl rfl (W.pass 11 rfl (sb (decide_eq_false c22)) rfl rfl (W.pass 11 rfl (sb (decide_eq_false c22)) rfl rfl (W.pass 11 rfl (sb (decide_eq_false c22)) rfl rfl (W.r (X.pickF (sb (decide_eq_false c22)) rfl) rfl (W.nil ?_)))))))
    replace HS := signalmanref15_Arq.close trivial HS
    exact At.meet false ⟨rfl, rfl, rfl, trivial⟩ ⟨HS, kq6, kq6, by omega, by omega, H⟩
  ·rintro x8 w ⟨HS, kf9, kl11, hkkf9, hkkl11, H⟩
   unfold signalmanref15_Arq_Pass.j1 at H
   by_cases c12 : x8 = true
   ·replace H := ite_t c12 H
    refine V.condT (sb c12) (V.skip (At.next (V.block (V.seq (V.region (W.mv rfl (W.mv rfl (W.nc rfl ?_))))))))
    obtain ⟨b6_13, b7_13, a11_13, c11_13, d11_13, a12_13, c12_13, hi14, HS⟩ := signalmanref15_Arq.open HS
    refine W.fa fo71_8 rfl (W.ld 0 HS Tryz.underlying3 rfl rfl rfl rfl (W.r (X.sub rfl rfl) rfl (W.as rfl (W.nx (V.seq (V.region (W.mv rfl (W.nc rfl (W.fa fo71_8 rfl (W.st 0 8 HS inf3 rfl rfl rfl rfl rfl rfl fun w HS => ?_))))))))))
    refine W.nx (V.region (W.mv rfl ?_))
    replace HS := signalmanref15_Arq.close trivial HS
    obtain ⟨t15, A16, H⟩ := bind_s H
    refine W.e (Y.cl Tryz.func65 (signalmanref15_Arq_late.calls A16 HS.j1)) rfl ?_
    rintro _ w ⟨rfl, HS⟩
    replace HS := HS.o1
    refine W.nil (At.blockEnd ?_)
    exact At.round kl11 (by omega) (w64 (x4 - x5.left), t15) ⟨rfl, rfl, trivial⟩ ⟨HS, H, by omega⟩
   ·replace H := ite_f c12 H
    refine V.condF (sb (b_f c12)) (V.exit (At.thenExit (At.thenExit (At.blockExit (At.next (V.seq (V.region (W.mv rfl (W.nc rfl ?_)))))))))
    obtain ⟨b6_17, b7_17, a11_17, c11_17, d11_17, a12_17, c12_17, hi18, HS⟩ := signalmanref15_Arq.open HS
    refine W.fa fo71_8 rfl (W.ld 0 HS Tryz.underlying3 rfl rfl rfl rfl (W.r (X.cmp (decide (x5.left > 0)) rfl rfl rfl rfl) rfl (W.nx ?_)))
    by_cases c19 : x5.left > 0
    ·replace H := ite_t c19 H
     refine V.condT (sb (decide_eq_true c19)) (V.region (W.mv rfl (W.mv rfl (W.nc rfl (W.fa fo71_8 rfl (W.ld 0 HS Tryz.underlying3 rfl rfl rfl rfl (W.mv rfl (W.r (X.sub rfl rfl) rfl (W.nc rfl (W.fa fo71_8 rfl (W.st 0 8 HS inf3 rfl rfl rfl rfl rfl rfl fun w HS => ?_)))))))))))
     refine W.nil ?_
     replace HS := signalmanref15_Arq.close trivial HS
     cases H
     exact At.end0 rfl ⟨_, rfl, rfl, HS⟩
    ·replace H := ite_f c19 H
     refine V.condF (sb (decide_eq_false c19)) (V.skip ?_)
     replace HS := signalmanref15_Arq.close trivial HS
     cases H
     exact At.end0 rfl ⟨_, rfl, rfl, HS⟩
def signalmanref15_Arq_Again.f (k : Nat) (a0 : signalmanref15_Arq) : Option signalmanref15_Arq := (if a0.state = 2 then ((signalmanref15_Arq_again.f k a0).bind fun t4 => some t4) else some a0)
theorem signalmanref15_Arq_Again.calls {k : Nat} {a0 : signalmanref15_Arq} {R : As} {w0 w : World} {b0 : Nat} {r : signalmanref15_Arq} (H : signalmanref15_Arq_Again.f k a0 = some r) (HS : Sep.St [signalmanref15_Arq.at b0 a0, R] w0 w)  : Calls Tryz.prog 21 #[Value.pointer (some ⟨b0, 0, none⟩)] w (Ret fun u w => u = Value.tuple #[] ∧ Sep.St [signalmanref15_Arq.at b0 r, R] w0 w) := by
 unfold signalmanref15_Arq_Again.f at H
 refine calls_enter Tryz.func21 rfl rfl ?_
 have H : _ = some r := H
 refine V.seq (V.region (W.mv rfl (W.nc rfl ?_)))
 obtain ⟨b6_1, b7_1, a11_1, c11_1, d11_1, a12_1, c12_1, hi2, HS⟩ := signalmanref15_Arq.open HS
 refine W.fa fo71_4 rfl (W.ld 0 HS Tryz.underlying3 rfl rfl rfl rfl (W.r (X.cmp (decide (a0.state = 2)) rfl rfl rfl rfl) rfl (W.nx ?_)))
 by_cases c3 : a0.state = 2
 ·replace H := ite_t c3 H
  refine V.condT (sb (decide_eq_true c3)) (V.region (W.mv rfl ?_))
  replace HS := signalmanref15_Arq.close trivial HS
  obtain ⟨t4, A5, H⟩ := bind_s H
  refine W.e (Y.cl Tryz.func67 (signalmanref15_Arq_again.calls A5 HS.j1)) rfl ?_
  rintro _ w ⟨rfl, HS⟩
  replace HS := HS.o1
  refine W.nil ?_
  cases H
  exact At.end0 rfl ⟨_, rfl, rfl, HS⟩
 ·replace H := ite_f c3 H
  refine V.condF (sb (decide_eq_false c3)) (V.skip ?_)
  replace HS := signalmanref15_Arq.close trivial HS
  cases H
  exact At.end0 rfl ⟨_, rfl, rfl, HS⟩
def signalmanref15_Arq_Output.f (a0 : signalmanref15_Arq) : Option (List (List Int) × signalmanref15_Arq) := some (a0.out, ({ a0 with out := ([] : List (List Int)) } : signalmanref15_Arq))
theorem signalmanref15_Arq_Output.calls {a0 : signalmanref15_Arq} {R : As} {w0 w : World} {b0 : Nat} {r : List (List Int) × signalmanref15_Arq} (H : signalmanref15_Arq_Output.f a0 = some r) (HS : Sep.St [signalmanref15_Arq.at b0 a0, R] w0 w)  : Calls Tryz.prog 24 #[Value.pointer (some ⟨b0, 0, none⟩)] w (Ret fun u w => ∃ (aq0 : Option Addr) (cq0 : Nat) (dq0 : List Value), u = Value.slice aq0 r.1.length cq0 ∧ Sep.St [row 33 1 (.slice aq0 r.1.length cq0) r.1.length dq0, tie (El.sl (El.int .u8)) dq0 r.1, signalmanref15_Arq.at b0 r.2, R] w0 w) := by
 unfold signalmanref15_Arq_Output.f at H
 refine calls_enter Tryz.func24 rfl rfl ?_
 have H : _ = some r := H
 refine V.seq (V.region (W.as rfl (W.nx (V.seq (V.region (W.mv rfl (W.nc rfl ?_)))))))
 obtain ⟨b6_1, b7_1, a11_1, c11_1, d11_1, a12_1, c12_1, hi2, HS⟩ := signalmanref15_Arq.open HS
 refine W.fa fo71_11 rfl (W.ld 0 HS Tryz.underlying46 rfl rfl rfl rfl (W.as rfl (W.nx (V.seq (V.region (W.mv rfl (W.nc rfl (W.fa fo71_11 rfl (W.st 0 11 HS inf46 rfl rfl rfl rfl rfl rfl fun w HS => ?_)))))))))
 refine W.nx (V.seq (V.region (W.mv rfl (W.as rfl (W.nx (V.ret ?_))))))
 replace HS := row_nilE (El.sl (El.int .u8)) 33 1 HS
 replace HS := HS.pm [2, 3, 4, 0, 1, 7, 5, 6, 8]
 replace HS := signalmanref15_Arq.close (l11 := ([] : List (List Int))) trivial HS
 replace HS := HS.pk [1, 2, 0, 3] []
 cases H
 exact At.ret1 rfl rfl ⟨_, rfl, a11_1, c11_1, d11_1, rfl, HS⟩
mutual
def signalmanref6_SameLists.l0 : Nat → (List (List Int)) → (List (List Int)) → Int → Option Bool
 | 0, _, _, _ => none
 | k + 1, a0, a1, x4 => (if x4 < (a0.length : Int) then (if 0 ≤ x4 ∧ x4 < (a0.length : Int) then (if 0 ≤ x4 ∧ x4 < (a1.length : Int) then (if sEq (a0.getD x4.toNat []) (a1.getD x4.toNat []) = true then (signalmanref6_SameLists.l0 k a0 a1 (w64 (x4 + 1))) else some false) else none) else none) else some true)
end
def signalmanref6_SameLists.f (k : Nat) (a0 : List (List Int)) (a1 : List (List Int)) : Option Bool := (if (a0.length : Int) = (a1.length : Int) then (signalmanref6_SameLists.l0 k a0 a1 0) else some false)
theorem signalmanref6_SameLists.calls {k : Nat} {a0 : List (List Int)} {a1 : List (List Int)} {R : As} {w0 w : World} {sa0 : Option Addr} {sc0 : Nat} {sd0 : List Value} {sa1 : Option Addr} {sc1 : Nat} {sd1 : List Value} {r : Bool} (H : signalmanref6_SameLists.f k a0 a1 = some r) (HS : Sep.St [R] w0 w) (hr0 : rdC R 1 (.slice sa0 a0.length sc0) a0.length sd0) (ht0 : ∀ h, R h → tie (El.sl (El.int .u8)) sd0 a0 h) (hr1 : rdC R 1 (.slice sa1 a1.length sc1) a1.length sd1) (ht1 : ∀ h, R h → tie (El.sl (El.int .u8)) sd1 a1 h) : Calls Tryz.prog 22 #[Value.slice sa0 a0.length sc0, Value.slice sa1 a1.length sc1] w (Ret fun u w => u = Value.bool r ∧ Sep.St [R] w0 w) := by
 unfold signalmanref6_SameLists.f at H
 refine calls_enter Tryz.func22 rfl rfl ?_
 have H : _ = some r := H
 replace HS := St.more 0 HS rfl ht0 tie.pers
 replace HS := St.more 1 HS rfl ht1 tie.pers
 refine V.seq (V.region (W.as rfl (W.nx (V.seq (V.seq (V.region (W.mv rfl (W.r (X.lenSl Tryz.underlying46 rfl) rfl (W.mv rfl (W.r (X.lenSl Tryz.underlying46 rfl) rfl (W.r (X.cmp (!(decide ((a0.length : Int) = (a1.length : Int)))) rfl rfl rfl rfl) rfl (W.nx ?_))))))))))))
 by_cases c3 : (a0.length : Int) = (a1.length : Int)
 ·replace H := ite_t c3 H
  refine V.condF (sb (n_t (decide_eq_true c3))) (V.skip (At.next (V.seq (V.seq (V.region (W.as rfl (W.nx (V.block (V.loop (σ := Int) (fun kq (st : Int) w => match st with | x4 => Sep.St [tie (El.sl (El.int .u8)) sd1 a1, tie (El.sl (El.int .u8)) sd0 a0, R] w0 w ∧ signalmanref6_SameLists.l0 kq a0 a1 x4 = some r ∧ kq ≤ k) (fun st => match st with | x4 => [(0, Value.slice sa0 a0.length sc0), (1, Value.slice sa1 a1.length sc1), (5, Value.int .i64 x4)]) k (0) ⟨rfl, rfl, rfl, trivial⟩ ⟨HS, H, Nat.le_refl _⟩ ?_)))))))))
  rintro kq5 x4 w ⟨HS, H, hk6⟩
  cases kq5 with
  | zero => exact absurd H (by simp [signalmanref6_SameLists.l0])
  | succ kq5 =>
   simp only [signalmanref6_SameLists.l0] at H
   refine V.seq (V.seq (V.region (W.mv rfl (W.mv rfl (W.r (X.lenSl Tryz.underlying46 rfl) rfl (W.r (X.cmp (decide (x4 < (a0.length : Int))) rfl rfl rfl rfl) rfl (W.nx ?_)))))))
   by_cases c7 : x4 < (a0.length : Int)
   ·replace H := ite_t c7 H
    refine V.condT (sb (decide_eq_true c7)) (V.skip (At.next (V.seq (V.block (V.seq ?_)))))
    obtain ⟨c8, H⟩ := ite_n H
    obtain ⟨eb9, eo10, hh⟩ := (rdC.at 2 hr0 HS rfl).some (by decide) c8.1 c8.2; subst hh
    obtain ⟨ec11, hc12, HS⟩ := St.tie_at 1 HS rfl ([]) c8.1 c8.2
    obtain ⟨ea13, em14, he16, HN⟩ := St.sl_openF (Value.int .u8) (fun t => tie_int t) HS; clear HS; subst he16; have HS := HN
    obtain ⟨c17, H⟩ := ite_n H
    obtain ⟨eb18, eo19, hh⟩ := (rdC.at 3 hr1 HS rfl).some (by decide) c17.1 c17.2; subst hh
    obtain ⟨ec20, hc21, HS⟩ := St.tie_at 1 HS rfl ([]) c17.1 c17.2
    obtain ⟨ea22, em23, he25, HN⟩ := St.sl_openF (Value.int .u8) (fun t => tie_int t) HS; clear HS; subst he25; have HS := HN
    refine V.dr [] [] [(17, Value.slice (some ⟨eb9, eo10, none⟩) a0.length sc0), (18, Value.int .i64 x4), (19, Value.pointer (some ⟨eb9, eo10 + x4.toNat * 1, none⟩)), (20, Value.slice ea13 (a0.getD x4.toNat []).length em14), (21, Value.string (strOf (a0.getD x4.toNat []))), (22, Value.slice (some ⟨eb18, eo19, none⟩) a1.length sc1), (23, Value.int .i64 x4), (24, Value.pointer (some ⟨eb18, eo19 + x4.toNat * 1, none⟩)), (25, Value.slice ea22 (a1.getD x4.toNat []).length em23), (26, Value.string (strOf (a1.getD x4.toNat []))), (27, Value.bool (!(sEq (a0.getD x4.toNat []) (a1.getD x4.toNat []))))] mo HS ?_
    refine T.fn [(0, _), (1, _), (5, _), (27, _)] ⟨rfl, rfl, rfl, rfl, trivial⟩ ⟨.mv 0, .mv 5, .n2 17 18 rfl rfl rfl (fun w HS => X.indexSl Tryz.underlying46 inf33 rfl rfl c8.1 c8.2), .n1 19 rfl rfl (fun w HS => X.load Tryz.underlying33 rfl rfl ((rdC.at 4 hr0 HS rfl).cellEl0 (hc12 0 _ rfl))), .n1 20 rfl rfl (fun w HS => X.bytesStr Tryz.underlying33 Tryz.underlying5 Tryz.underlying9 rfl (rdC.at 1 fsl.rd HS rfl)), .mv 1, .mv 5, .n2 22 23 rfl rfl rfl (fun w HS => X.indexSl Tryz.underlying46 inf33 rfl rfl c17.1 c17.2), .n1 24 rfl rfl (fun w HS => X.load Tryz.underlying33 rfl rfl ((rdC.at 4 hr1 HS rfl).cellEl0 (hc21 0 _ rfl))), .n1 25 rfl rfl (fun w HS => X.bytesStr Tryz.underlying33 Tryz.underlying5 Tryz.underlying9 rfl (rdC.at 0 fsl.rd HS rfl)), .n2 21 26 rfl rfl rfl (fun w HS => X.neStr (a := a0.getD x4.toNat []) (b := a1.getD x4.toNat []) rfl rfl), trivial⟩ (fun w HS => ?_)
    refine At.next ?_
    by_cases c26 : sEq (a0.getD x4.toNat []) (a1.getD x4.toNat []) = true
    ·replace H := ite_t c26 H
     refine V.condF (sb (n_t c26)) (V.skip (At.blockEnd (At.next (V.region (W.mv rfl (W.r (X.add rfl rfl) rfl (W.as rfl (W.nil ?_))))))))
     replace HS := HS.pk [2, 3, 4] [0, 1]
     exact At.round kq5 (by omega) (w64 (x4 + 1)) ⟨rfl, rfl, rfl, trivial⟩ ⟨HS, H, by omega⟩
    ·replace H := ite_f c26 H
     refine V.condT (sb (n_f (b_f c26))) (V.seq (V.region (W.as rfl (W.nx (V.ret (At.blockRet (At.thenRet (At.thenRet (At.blockRet (At.thenRet ?_))))))))))
     replace HS := HS.pk [4] [0, 1, 2, 3]
     cases H
     exact At.ret1 rfl rfl ⟨_, rfl, rfl, HS⟩
   ·replace H := ite_f c7 H
    refine V.condF (sb (decide_eq_false c7)) (V.exit (At.thenExit (At.thenExit (At.blockExit (At.next (V.seq (V.region (W.as rfl (W.nx (V.ret ?_))))))))))
    replace HS := HS.pk [2] [0, 1]
    cases H
    exact At.ret1 rfl rfl ⟨_, rfl, rfl, HS⟩
 ·replace H := ite_f c3 H
  refine V.condT (sb (n_f (decide_eq_false c3))) (V.seq (V.region (W.as rfl (W.nx (V.ret (At.thenRet ?_))))))
  replace HS := HS.pk [2] [0, 1]
  cases H
  exact At.ret1 rfl rfl ⟨_, rfl, rfl, HS⟩
def signalmanref6_Order_Take.f (a0 : signalmanref6_Order) : Option (List Int × Bool × signalmanref6_Order) := (if (a0.ready.length : Int) = 0 then some (([] : List Int), false, a0) else (if 0 ≤ (0 : Int) ∧ (0 : Int) < (a0.ready.length : Int) then (if 0 ≤ (1 : Int) ∧ (1 : Int) ≤ (a0.ready.length : Int) ∧ (a0.ready.length : Int) ≤ (a0.ready.length : Int) then (if ((([] : List (List Int))).length : Int) + (cut a0.ready (1 : Int) (a0.ready.length : Int)).length ≤ 1099511627776 then some (a0.ready.getD (0 : Int).toNat [], true, ({ a0 with ready := ([] : List (List Int)) ++ (cut a0.ready (1 : Int) (a0.ready.length : Int)) } : signalmanref6_Order)) else none) else none) else none))
theorem signalmanref6_Order_Take.calls {a0 : signalmanref6_Order} {R : As} {w0 w : World} {b0 : Nat} {r : List Int × Bool × signalmanref6_Order} (H : signalmanref6_Order_Take.f a0 = some r) (HS : Sep.St [signalmanref6_Order.at b0 a0, R] w0 w)  : Calls Tryz.prog 69 #[Value.pointer (some ⟨b0, 0, none⟩)] w (Ret fun u w => ∃ (aq0 : Option Addr) (cq0 : Nat), u = Value.tuple #[Value.slice aq0 r.1.length cq0, Value.bool r.2.1] ∧ Sep.St [fsl 1 (.slice aq0 r.1.length cq0) r.1.length (r.1.map (Value.int .u8)), signalmanref6_Order.at b0 r.2.2, R] w0 w) := by
 unfold signalmanref6_Order_Take.f at H
 refine calls_enter Tryz.func69 rfl rfl ?_
 have H : _ = some r := H
 refine V.seq (V.region (W.as rfl (W.as rfl (W.nx (V.seq (V.seq (V.region (W.mv rfl (W.nc rfl ?_)))))))))
 obtain ⟨a3_2, c3_2, d3_2, a4_2, c4_2, d4_2, hi3, HS⟩ := signalmanref6_Order.open HS
 refine W.fa fo100_4 rfl (W.ld 0 HS Tryz.underlying46 rfl rfl rfl rfl (W.r (X.lenSl Tryz.underlying46 rfl) rfl (W.r (X.cmp (decide ((a0.ready.length : Int) = 0)) rfl rfl rfl rfl) rfl (W.nx ?_))))
 by_cases c4 : (a0.ready.length : Int) = 0
 ·replace H := ite_t c4 H
  refine V.condT (sb (decide_eq_true c4)) (V.seq (V.region (W.as rfl (W.as rfl (W.nx (V.ret (At.thenRet ?_)))))))
  replace HS := row_nilF (Value.int .u8) 5 1 HS
  replace HS := St.row_freeze HS
  replace HS := HS.pm [1, 2, 3, 4, 5, 0, 6]
  replace HS := signalmanref6_Order.close trivial HS
  replace HS := HS.pk [1, 0, 2] []
  cases H
  exact At.ret2 rfl rfl rfl ⟨_, rfl, none, 0, rfl, HS⟩
 ·replace H := ite_f c4 H
  refine V.condF (sb (decide_eq_false c4)) (V.skip (At.next (V.seq (V.region (W.mv rfl (W.nc rfl (W.fa fo100_4 rfl (W.ld 0 HS Tryz.underlying46 rfl rfl rfl rfl ?_))))))))
  obtain ⟨c5, H⟩ := ite_n H
  obtain ⟨eb6, eo7, hh⟩ := (rdC.at 3 row_rd HS rfl).some (by decide) c5.1 c5.2; subst hh
  refine W.r (X.indexSl Tryz.underlying46 inf33 rfl rfl c5.1 c5.2) rfl ?_
  obtain ⟨ec8, hc9, HS⟩ := St.tie_at 4 HS rfl ([]) c5.1 c5.2
  obtain ⟨ea10, em11, he13, HN⟩ := St.sl_openF (Value.int .u8) (fun t => tie_int t) HS; clear HS; subst he13; have HS := HN
  refine W.r (X.load Tryz.underlying33 rfl rfl ((rdC.at 4 row_rd HS rfl).cellEl0 (hc9 0 _ rfl))) rfl (W.as rfl (W.nx (V.seq (V.region (W.mv rfl (W.mv rfl (W.nc rfl (W.fa fo100_4 rfl (W.ld 1 HS Tryz.underlying46 rfl rfl rfl rfl ?_)))))))))
  obtain ⟨c14, H⟩ := ite_n H
  refine W.r (X.slL Tryz.underlying46 inf33 rfl rfl c14) rfl ?_
  obtain ⟨c15, H⟩ := ite_n H
  replace HS := row_nilE (El.sl (El.int .u8)) 33 1 HS
  replace HS := St.tie_cut2 7 (1 : Int) (a0.ready.length : Int) HS rfl
  have HS : Sep.St [tie (El.sl (El.int .u8)) (cutC 1 d4_2 (1 : Int) (a0.ready.length : Int)) (cut a0.ready (1 : Int) (a0.ready.length : Int)), row 33 1 (.slice none (([] : List (List Int))).length 0) (([] : List (List Int))).length ([]), tie (El.sl (El.int .u8)) ([]) (([] : List (List Int))), fsl 1 (.slice ea10 (a0.ready.getD (0 : Int).toNat []).length em11) (a0.ready.getD (0 : Int).toNat []).length ((a0.ready.getD (0 : Int).toNat []).map (Value.int .u8)), blk b0 (#[Value.int .i64 a0.m, Value.int .i64 a0.window, Value.int .i64 a0.next, Value.slice a3_2 a0.kept.length c3_2, Value.slice (some ⟨eb6, eo7, none⟩) a0.ready.length c4_2]) 100, row 118 2 (.slice a3_2 a0.kept.length c3_2) a0.kept.length d3_2, tie signalmanref6_message.El d3_2 a0.kept, row 33 1 (.slice (some ⟨eb6, eo7, none⟩) a0.ready.length c4_2) a0.ready.length d4_2, tie (El.sl (El.int .u8)) d4_2 a0.ready, R] w0 w := HS
  refine W.e (Y.app (xs := ([] : List (List Int))) (ys := cut a0.ready (1 : Int) (a0.ready.length : Int)) 1 Tryz.underlying46 ap33 rfl (by decide) HS rfl rfl rfl (rdC.at 7 (rdC.sub row_rd c14) HS rfl) (St.tie_one 0 HS rfl) (by omega) (by omega)) rfl ?_
  rintro _ w ⟨ra16, rc17, rfl, HS⟩
  replace HS := HS.fr 2
  replace HS := St.tie_app 1 HS rfl
  refine W.nc rfl (W.fa fo100_4 rfl (W.st 4 4 HS inf46 rfl rfl rfl rfl rfl rfl fun w HS => ?_))
  refine W.nx (V.seq (V.region (W.mv rfl (W.as rfl (W.as rfl (W.nx (V.ret ?_)))))))
  replace HS := HS.pm [4, 5, 6, 2, 0, 1, 3, 7, 8, 9]
  replace HS := signalmanref6_Order.close trivial HS
  replace HS := HS.pk [2, 0, 5] [1, 3, 4]
  cases H
  exact At.ret2 rfl rfl rfl ⟨_, rfl, ea10, em11, rfl, HS⟩
def signalmanref15_Arq_Recv.f (a0 : signalmanref15_Arq) : Option (List Int × Bool × signalmanref15_Arq) := ((signalmanref6_Order_Take.f a0.order).bind fun t3 => some (t3.1, t3.2.1, ({ a0 with order := t3.2.2 } : signalmanref15_Arq)))
theorem signalmanref15_Arq_Recv.calls {a0 : signalmanref15_Arq} {R : As} {w0 w : World} {b0 : Nat} {r : List Int × Bool × signalmanref15_Arq} (H : signalmanref15_Arq_Recv.f a0 = some r) (HS : Sep.St [signalmanref15_Arq.at b0 a0, R] w0 w)  : Calls Tryz.prog 26 #[Value.pointer (some ⟨b0, 0, none⟩)] w (Ret fun u w => ∃ (aq0 : Option Addr) (cq0 : Nat), u = Value.tuple #[Value.slice aq0 r.1.length cq0, Value.bool r.2.1] ∧ Sep.St [fsl 1 (.slice aq0 r.1.length cq0) r.1.length (r.1.map (Value.int .u8)), signalmanref15_Arq.at b0 r.2.2, R] w0 w) := by
 unfold signalmanref15_Arq_Recv.f at H
 refine calls_enter Tryz.func26 rfl rfl ?_
 have H : _ = some r := H
 refine V.seq (V.region (W.as rfl (W.as rfl (W.nx (V.seq (V.region (W.mv rfl (W.nc rfl ?_))))))))
 obtain ⟨b6_1, b7_1, a11_1, c11_1, d11_1, a12_1, c12_1, hi2, HS⟩ := signalmanref15_Arq.open HS
 refine W.fa fo71_7 rfl (W.ld 0 HS Tryz.underlying68 rfl rfl rfl rfl ?_)
 obtain ⟨t3, A4, H⟩ := bind_s H
 replace HS := HS.pm [2, 0, 1, 3, 4, 5, 6]
 refine W.e (Y.cl Tryz.func69 (signalmanref6_Order_Take.calls A4 HS.j1)) rfl ?_
 rintro _ w ⟨at3_0, ct3_0, rfl, HS⟩
 replace HS := HS.o2
 refine W.r (X.extract rfl rfl) rfl (W.r (X.extract rfl rfl) rfl (W.as rfl (W.as rfl (W.nx (V.ret ?_)))))
 replace HS := HS.pm [2, 3, 1, 4, 5, 6, 0, 7]
 replace HS := signalmanref15_Arq.close trivial HS
 replace HS := HS.pk [1, 0, 2] []
 cases H
 exact At.ret2 rfl rfl rfl ⟨_, rfl, at3_0, ct3_0, rfl, HS⟩
def signalmanref15_Arq_Inds.f (a0 : signalmanref15_Arq) : Option (List Int × signalmanref15_Arq) := some (a0.inds, ({ a0 with inds := ([] : List Int) } : signalmanref15_Arq))
theorem signalmanref15_Arq_Inds.calls {a0 : signalmanref15_Arq} {R : As} {w0 w : World} {b0 : Nat} {r : List Int × signalmanref15_Arq} (H : signalmanref15_Arq_Inds.f a0 = some r) (HS : Sep.St [signalmanref15_Arq.at b0 a0, R] w0 w)  : Calls Tryz.prog 29 #[Value.pointer (some ⟨b0, 0, none⟩)] w (Ret fun u w => ∃ (aq0 : Option Addr) (cq0 : Nat), u = Value.slice aq0 r.1.length cq0 ∧ Sep.St [row 3 1 (.slice aq0 r.1.length cq0) r.1.length (r.1.map (Value.int .i64)), signalmanref15_Arq.at b0 r.2, R] w0 w) := by
 unfold signalmanref15_Arq_Inds.f at H
 refine calls_enter Tryz.func29 rfl rfl ?_
 have H : _ = some r := H
 refine V.seq (V.region (W.as rfl (W.nx (V.seq (V.region (W.mv rfl (W.nc rfl ?_)))))))
 obtain ⟨b6_1, b7_1, a11_1, c11_1, d11_1, a12_1, c12_1, hi2, HS⟩ := signalmanref15_Arq.open HS
 refine W.fa fo71_12 rfl (W.ld 0 HS Tryz.underlying51 rfl rfl rfl rfl (W.as rfl (W.nx (V.seq (V.region (W.mv rfl (W.nc rfl (W.fa fo71_12 rfl (W.st 0 12 HS inf51 rfl rfl rfl rfl rfl rfl fun w HS => ?_)))))))))
 refine W.nx (V.seq (V.region (W.mv rfl (W.as rfl (W.nx (V.ret ?_))))))
 replace HS := row_nilF (Value.int .i64) 3 1 HS
 replace HS := HS.pm [1, 2, 3, 4, 5, 0, 6, 7]
 replace HS := signalmanref15_Arq.close (l12 := ([] : List Int)) trivial HS
 replace HS := HS.pk [1, 0, 2] []
 cases H
 exact At.ret1 rfl rfl ⟨_, rfl, a12_1, c12_1, rfl, HS⟩
mutual
def signalmanref6_SameInts.l0 : Nat → (List Int) → (List Int) → Int → Option Bool
 | 0, _, _, _ => none
 | k + 1, a0, a1, x2 => (if x2 < (a0.length : Int) then (if 0 ≤ x2 ∧ x2 < (a0.length : Int) then (if 0 ≤ x2 ∧ x2 < (a1.length : Int) then (if (a0.getD x2.toNat 0) = (a1.getD x2.toNat 0) then (signalmanref6_SameInts.l0 k a0 a1 (w64 (x2 + 1))) else some false) else none) else none) else some true)
end
def signalmanref6_SameInts.f (k : Nat) (a0 : List Int) (a1 : List Int) : Option Bool := (if (a0.length : Int) = (a1.length : Int) then (signalmanref6_SameInts.l0 k a0 a1 0) else some false)
theorem signalmanref6_SameInts.calls {k : Nat} {a0 : List Int} {a1 : List Int} {R : As} {w0 w : World} {sa0 : Option Addr} {sc0 : Nat} {sa1 : Option Addr} {sc1 : Nat} {r : Bool} (H : signalmanref6_SameInts.f k a0 a1 = some r) (HS : Sep.St [R] w0 w) (hr0 : rdC R 1 (.slice sa0 a0.length sc0) a0.length (a0.map (Value.int .i64))) (hr1 : rdC R 1 (.slice sa1 a1.length sc1) a1.length (a1.map (Value.int .i64))) : Calls Tryz.prog 27 #[Value.slice sa0 a0.length sc0, Value.slice sa1 a1.length sc1] w (Ret fun u w => u = Value.bool r ∧ Sep.St [R] w0 w) := by
 unfold signalmanref6_SameInts.f at H
 refine calls_enter Tryz.func27 rfl rfl ?_
 have H : _ = some r := H
 refine V.seq (V.region (W.as rfl (W.nx (V.seq (V.seq (V.region (W.mv rfl (W.r (X.lenSl Tryz.underlying51 rfl) rfl (W.mv rfl (W.r (X.lenSl Tryz.underlying51 rfl) rfl (W.r (X.cmp (!(decide ((a0.length : Int) = (a1.length : Int)))) rfl rfl rfl rfl) rfl (W.nx ?_))))))))))))
 by_cases c1 : (a0.length : Int) = (a1.length : Int)
 ·replace H := ite_t c1 H
  refine V.condF (sb (n_t (decide_eq_true c1))) (V.skip (At.next (V.seq (V.seq (V.region (W.as rfl (W.nx (V.block (V.loop (σ := Int) (fun kq (st : Int) w => match st with | x2 => Sep.St [R] w0 w ∧ signalmanref6_SameInts.l0 kq a0 a1 x2 = some r ∧ kq ≤ k) (fun st => match st with | x2 => [(0, Value.slice sa0 a0.length sc0), (1, Value.slice sa1 a1.length sc1), (5, Value.int .i64 x2)]) k (0) ⟨rfl, rfl, rfl, trivial⟩ ⟨HS, H, Nat.le_refl _⟩ ?_)))))))))
  rintro kq3 x2 w ⟨HS, H, hk4⟩
  cases kq3 with
  | zero => exact absurd H (by simp [signalmanref6_SameInts.l0])
  | succ kq3 =>
   simp only [signalmanref6_SameInts.l0] at H
   refine V.seq (V.seq (V.region (W.mv rfl (W.mv rfl (W.r (X.lenSl Tryz.underlying51 rfl) rfl (W.r (X.cmp (decide (x2 < (a0.length : Int))) rfl rfl rfl rfl) rfl (W.nx ?_)))))))
   by_cases c5 : x2 < (a0.length : Int)
   ·replace H := ite_t c5 H
    refine V.condT (sb (decide_eq_true c5)) (V.skip (At.next (V.seq (V.block (V.seq ?_)))))
    obtain ⟨c6, H⟩ := ite_n H
    obtain ⟨eb7, eo8, hh⟩ := (rdC.at 0 hr0 HS rfl).some (by decide) c6.1 c6.2; subst hh
    obtain ⟨c9, H⟩ := ite_n H
    obtain ⟨eb10, eo11, hh⟩ := (rdC.at 0 hr1 HS rfl).some (by decide) c9.1 c9.2; subst hh
    refine V.dr [] [] [(17, Value.slice (some ⟨eb7, eo8, none⟩) a0.length sc0), (18, Value.int .i64 x2), (19, Value.pointer (some ⟨eb7, eo8 + x2.toNat * 1, none⟩)), (20, Value.int .i64 (a0.getD x2.toNat 0)), (21, Value.slice (some ⟨eb10, eo11, none⟩) a1.length sc1), (22, Value.int .i64 x2), (23, Value.pointer (some ⟨eb10, eo11 + x2.toNat * 1, none⟩)), (24, Value.int .i64 (a1.getD x2.toNat 0)), (25, Value.bool (!(decide ((a0.getD x2.toNat 0) = (a1.getD x2.toNat 0)))))] mo HS ?_
    refine T.fn [(0, _), (1, _), (5, _), (25, _)] ⟨rfl, rfl, rfl, rfl, trivial⟩ ⟨.mv 0, .mv 5, .n2 17 18 rfl rfl rfl (fun w HS => X.indexSl Tryz.underlying51 inf3 rfl rfl c6.1 c6.2), .n1 19 rfl rfl (fun w HS => X.load Tryz.underlying3 rfl rfl ((rdC.at 0 hr0 HS rfl).cellI c6.1 c6.2)), .mv 1, .mv 5, .n2 21 22 rfl rfl rfl (fun w HS => X.indexSl Tryz.underlying51 inf3 rfl rfl c9.1 c9.2), .n1 23 rfl rfl (fun w HS => X.load Tryz.underlying3 rfl rfl ((rdC.at 0 hr1 HS rfl).cellI c9.1 c9.2)), .n2 20 24 rfl rfl rfl (fun w HS => X.cmp (!(decide ((a0.getD x2.toNat 0) = (a1.getD x2.toNat 0)))) rfl rfl rfl rfl), trivial⟩ (fun w HS => ?_)
    refine At.next ?_
    by_cases c12 : (a0.getD x2.toNat 0) = (a1.getD x2.toNat 0)
    ·replace H := ite_t c12 H
     refine V.condF (sb (n_t (decide_eq_true c12))) (V.skip (At.blockEnd (At.next (V.region (W.mv rfl (W.r (X.add rfl rfl) rfl (W.as rfl (W.nil ?_))))))))
     exact At.round kq3 (by omega) (w64 (x2 + 1)) ⟨rfl, rfl, rfl, trivial⟩ ⟨HS, H, by omega⟩
    ·replace H := ite_f c12 H
     refine V.condT (sb (n_f (decide_eq_false c12))) (V.seq (V.region (W.as rfl (W.nx (V.ret (At.blockRet (At.thenRet (At.thenRet (At.blockRet (At.thenRet ?_))))))))))
     cases H
     exact At.ret1 rfl rfl ⟨_, rfl, rfl, HS⟩
   ·replace H := ite_f c5 H
    refine V.condF (sb (decide_eq_false c5)) (V.exit (At.thenExit (At.thenExit (At.blockExit (At.next (V.seq (V.region (W.as rfl (W.nx (V.ret ?_))))))))))
    cases H
    exact At.ret1 rfl rfl ⟨_, rfl, rfl, HS⟩
 ·replace H := ite_f c1 H
  refine V.condT (sb (n_f (decide_eq_false c1))) (V.seq (V.region (W.as rfl (W.nx (V.ret (At.thenRet ?_))))))
  cases H
  exact At.ret1 rfl rfl ⟨_, rfl, rfl, HS⟩
def signalmanref15_Arq_Counts.f (a0 : signalmanref15_Arq) : Option (Int × Int × Int) := some (a0.sent, a0.acked, a0.lost)
theorem signalmanref15_Arq_Counts.calls {a0 : signalmanref15_Arq} {R : As} {w0 w : World} {b0 : Nat} {b6_p0 : Nat} {b7_p0 : Nat} {a11_p0 : Option Addr} {c11_p0 : Nat} {d11_p0 : List Value} {a12_p0 : Option Addr} {c12_p0 : Nat} {r : Int × Int × Int} (H : signalmanref15_Arq_Counts.f a0 = some r) (HS : Sep.St [blk b0 (#[Value.int .i64 a0.m, Value.int .i64 a0.t1, Value.int .i64 a0.n2, Value.int .i64 a0.size, Value.int .i64 a0.state, Value.int .i64 a0.tag, Value.pointer (some ⟨b6_p0, 0, none⟩), Value.pointer (some ⟨b7_p0, 0, none⟩), Value.int .i64 a0.left, Value.int .i64 a0.tries, Value.bool a0.rejected, Value.slice a11_p0 a0.out.length c11_p0, Value.slice a12_p0 a0.inds.length c12_p0, Value.int .i64 a0.sent, Value.int .i64 a0.acked, Value.int .i64 a0.lost]) 71, signalmanref6_Log.at b6_p0 a0.log, signalmanref6_Order.at b7_p0 a0.order, row 33 1 (.slice a11_p0 a0.out.length c11_p0) a0.out.length d11_p0, tie (El.sl (El.int .u8)) d11_p0 a0.out, row 3 1 (.slice a12_p0 a0.inds.length c12_p0) a0.inds.length (a0.inds.map (Value.int .i64)), R] w0 w)  : Calls Tryz.prog 31 #[Value.pointer (some ⟨b0, 0, none⟩)] w (Ret fun u w => u = Value.tuple #[Value.int .i64 r.1, Value.int .i64 r.2.1, Value.int .i64 r.2.2] ∧ Sep.St [blk b0 (#[Value.int .i64 a0.m, Value.int .i64 a0.t1, Value.int .i64 a0.n2, Value.int .i64 a0.size, Value.int .i64 a0.state, Value.int .i64 a0.tag, Value.pointer (some ⟨b6_p0, 0, none⟩), Value.pointer (some ⟨b7_p0, 0, none⟩), Value.int .i64 a0.left, Value.int .i64 a0.tries, Value.bool a0.rejected, Value.slice a11_p0 a0.out.length c11_p0, Value.slice a12_p0 a0.inds.length c12_p0, Value.int .i64 a0.sent, Value.int .i64 a0.acked, Value.int .i64 a0.lost]) 71, signalmanref6_Log.at b6_p0 a0.log, signalmanref6_Order.at b7_p0 a0.order, row 33 1 (.slice a11_p0 a0.out.length c11_p0) a0.out.length d11_p0, tie (El.sl (El.int .u8)) d11_p0 a0.out, row 3 1 (.slice a12_p0 a0.inds.length c12_p0) a0.inds.length (a0.inds.map (Value.int .i64)), R] w0 w) := by
 unfold signalmanref15_Arq_Counts.f at H
 refine calls_enter Tryz.func31 rfl rfl ?_
 have H : _ = some r := H
 refine V.seq (V.region (W.as rfl (W.as rfl (W.as rfl (W.nx (V.seq (V.dr [] [] [(5, Value.pointer (some ⟨b0, 0, none⟩)), (6, Value.pointer (some ⟨b0, 0, none⟩)), (7, Value.pointer (some ⟨b0, 0 + 13, none⟩)), (8, Value.int .i64 a0.sent), (9, Value.pointer (some ⟨b0, 0, none⟩)), (10, Value.pointer (some ⟨b0, 0, none⟩)), (11, Value.pointer (some ⟨b0, 0 + 14, none⟩)), (12, Value.int .i64 a0.acked), (13, Value.pointer (some ⟨b0, 0, none⟩)), (14, Value.pointer (some ⟨b0, 0, none⟩)), (15, Value.pointer (some ⟨b0, 0 + 15, none⟩)), (16, Value.int .i64 a0.lost), (2, Value.int .i64 a0.sent), (3, Value.int .i64 a0.acked), (4, Value.int .i64 a0.lost)] mo HS ?_)))))))
 refine T.fn [(2, _), (3, _), (4, _)] ⟨rfl, rfl, rfl, trivial⟩ ⟨.mv 0, .nc 5, .fa 6 fo71_13, .ld 7 0 Tryz.underlying3, .mv 0, .nc 9, .fa 10 fo71_14, .ld 11 0 Tryz.underlying3, .mv 0, .nc 13, .fa 14 fo71_15, .ld 15 0 Tryz.underlying3, .as 8, .as 12, .as 16, trivial⟩ (fun w HS => ?_)
 refine At.next (V.ret ?_)
 cases H
 exact At.ret3 rfl rfl rfl rfl ⟨_, rfl, rfl, HS⟩
def signalmanref15_Arq_State.f (a0 : signalmanref15_Arq) : Option Int := some a0.state
theorem signalmanref15_Arq_State.calls {a0 : signalmanref15_Arq} {R : As} {w0 w : World} {b0 : Nat} {b6_p0 : Nat} {b7_p0 : Nat} {a11_p0 : Option Addr} {c11_p0 : Nat} {d11_p0 : List Value} {a12_p0 : Option Addr} {c12_p0 : Nat} {r : Int} (H : signalmanref15_Arq_State.f a0 = some r) (HS : Sep.St [blk b0 (#[Value.int .i64 a0.m, Value.int .i64 a0.t1, Value.int .i64 a0.n2, Value.int .i64 a0.size, Value.int .i64 a0.state, Value.int .i64 a0.tag, Value.pointer (some ⟨b6_p0, 0, none⟩), Value.pointer (some ⟨b7_p0, 0, none⟩), Value.int .i64 a0.left, Value.int .i64 a0.tries, Value.bool a0.rejected, Value.slice a11_p0 a0.out.length c11_p0, Value.slice a12_p0 a0.inds.length c12_p0, Value.int .i64 a0.sent, Value.int .i64 a0.acked, Value.int .i64 a0.lost]) 71, signalmanref6_Log.at b6_p0 a0.log, signalmanref6_Order.at b7_p0 a0.order, row 33 1 (.slice a11_p0 a0.out.length c11_p0) a0.out.length d11_p0, tie (El.sl (El.int .u8)) d11_p0 a0.out, row 3 1 (.slice a12_p0 a0.inds.length c12_p0) a0.inds.length (a0.inds.map (Value.int .i64)), R] w0 w)  : Calls Tryz.prog 33 #[Value.pointer (some ⟨b0, 0, none⟩)] w (Ret fun u w => u = Value.int .i64 r ∧ Sep.St [blk b0 (#[Value.int .i64 a0.m, Value.int .i64 a0.t1, Value.int .i64 a0.n2, Value.int .i64 a0.size, Value.int .i64 a0.state, Value.int .i64 a0.tag, Value.pointer (some ⟨b6_p0, 0, none⟩), Value.pointer (some ⟨b7_p0, 0, none⟩), Value.int .i64 a0.left, Value.int .i64 a0.tries, Value.bool a0.rejected, Value.slice a11_p0 a0.out.length c11_p0, Value.slice a12_p0 a0.inds.length c12_p0, Value.int .i64 a0.sent, Value.int .i64 a0.acked, Value.int .i64 a0.lost]) 71, signalmanref6_Log.at b6_p0 a0.log, signalmanref6_Order.at b7_p0 a0.order, row 33 1 (.slice a11_p0 a0.out.length c11_p0) a0.out.length d11_p0, tie (El.sl (El.int .u8)) d11_p0 a0.out, row 3 1 (.slice a12_p0 a0.inds.length c12_p0) a0.inds.length (a0.inds.map (Value.int .i64)), R] w0 w) := by
 unfold signalmanref15_Arq_State.f at H
 refine calls_enter Tryz.func33 rfl rfl ?_
 have H : _ = some r := H
 refine V.seq (V.region (W.as rfl (W.nx (V.seq (V.region (W.mv rfl (W.nc rfl (W.fa fo71_4 rfl (W.ld 0 HS Tryz.underlying3 rfl rfl rfl rfl (W.as rfl (W.nx (V.ret ?_))))))))))))
 cases H
 exact At.ret1 rfl rfl ⟨_, rfl, rfl, HS⟩
def api_Ctl.El : El api_Ctl := El.iso (El.prod (El.int .i64) (El.prod (El.int .i64) (El.prod (El.int .i64) (El.prod El.bool El.unit)))) (fun x => (x.Kind, (x.Ns, (x.Nr, (x.Poll, ())))))
theorem api_Ctl.unpack {c : List Value} {x : api_Ctl} {L : List As} {w0 w : World} (hs : Sep.St (api_Ctl.El.p c x :: L) w0 w) : c = [Value.int .i64 x.Kind, Value.int .i64 x.Ns, Value.int .i64 x.Nr, Value.bool x.Poll] ∧ Sep.St L w0 w := by
 have hs : Sep.St ((El.prod (El.int .i64) (El.prod (El.int .i64) (El.prod (El.int .i64) (El.prod El.bool El.unit)))).p c (x.Kind, (x.Ns, (x.Nr, (x.Poll, ())))) :: L) w0 w := hs
 obtain ⟨c0, r0, e0, hs⟩ := St.prod_open hs
 have hs : Sep.St ((El.int .i64).p c0 x.Kind :: (El.prod (El.int .i64) (El.prod (El.int .i64) (El.prod El.bool El.unit))).p r0 (x.Ns, (x.Nr, (x.Poll, ()))) :: L) w0 w := hs
 obtain ⟨q0, hs⟩ := St.int_open hs
 have hs : Sep.St ((El.prod (El.int .i64) (El.prod (El.int .i64) (El.prod El.bool El.unit))).p r0 (x.Ns, (x.Nr, (x.Poll, ()))) :: L) w0 w := hs
 obtain ⟨c1, r1, e1, hs⟩ := St.prod_open hs
 have hs : Sep.St ((El.int .i64).p c1 x.Ns :: (El.prod (El.int .i64) (El.prod El.bool El.unit)).p r1 (x.Nr, (x.Poll, ())) :: L) w0 w := hs
 obtain ⟨q1, hs⟩ := St.int_open hs
 have hs : Sep.St ((El.prod (El.int .i64) (El.prod El.bool El.unit)).p r1 (x.Nr, (x.Poll, ())) :: L) w0 w := hs
 obtain ⟨c2, r2, e2, hs⟩ := St.prod_open hs
 have hs : Sep.St ((El.int .i64).p c2 x.Nr :: (El.prod El.bool El.unit).p r2 (x.Poll, ()) :: L) w0 w := hs
 obtain ⟨q2, hs⟩ := St.int_open hs
 have hs : Sep.St ((El.prod El.bool El.unit).p r2 (x.Poll, ()) :: L) w0 w := hs
 obtain ⟨c3, r3, e3, hs⟩ := St.prod_open hs
 have hs : Sep.St (El.bool.p c3 x.Poll :: El.unit.p r3 () :: L) w0 w := hs
 obtain ⟨q3, hs⟩ := St.bool_open hs
 have hs : Sep.St (El.unit.p r3 () :: L) w0 w := hs
 obtain ⟨qu, hs⟩ := St.unit_open hs
 exact ⟨by rw [e0, q0, e1, q1, e2, q2, e3, q3, qu]; rfl, hs⟩
theorem api_Ctl.pack  {x : api_Ctl} {L : List As} {w0 w : World} (hs : Sep.St L w0 w) : Sep.St (api_Ctl.El.p [Value.int .i64 x.Kind, Value.int .i64 x.Ns, Value.int .i64 x.Nr, Value.bool x.Poll] x :: L) w0 w := by
 have h1 := St.join (m := []) hs
 exact h1.mono fun h hh => ⟨[Value.int .i64 x.Kind], [Value.int .i64 x.Ns, Value.int .i64 x.Nr, Value.bool x.Poll], rfl, rfl, ⟨[Value.int .i64 x.Ns], [Value.int .i64 x.Nr, Value.bool x.Poll], rfl, rfl, ⟨[Value.int .i64 x.Nr], [Value.bool x.Poll], rfl, rfl, ⟨[Value.bool x.Poll], [], rfl, rfl, rfl⟩⟩⟩⟩
def signalmanlaw15_Act.El : El signalmanlaw15_Act := El.iso (El.prod (El.int .i64) (El.prod (El.int .i64) (El.prod (El.int .i64) (El.prod El.bool (El.prod api_Ctl.El (El.prod (El.sl (El.int .u8)) El.unit)))))) (fun x => (x.Way, (x.N, (x.T, (x.Own, (x.C, (x.B, ())))))))
theorem signalmanlaw15_Act.unpack {c : List Value} {x : signalmanlaw15_Act} {L : List As} {w0 w : World} (hs : Sep.St (signalmanlaw15_Act.El.p c x :: L) w0 w) : ∃ a5 : Option Addr, ∃ m5 : Nat, c = [Value.int .i64 x.Way, Value.int .i64 x.N, Value.int .i64 x.T, Value.bool x.Own, Value.int .i64 x.C.Kind, Value.int .i64 x.C.Ns, Value.int .i64 x.C.Nr, Value.bool x.C.Poll, Value.slice a5 x.B.length m5] ∧ Sep.St (fsl 1 (.slice a5 x.B.length m5) x.B.length (x.B.map (Value.int .u8)) :: L) w0 w := by
 have hs : Sep.St ((El.prod (El.int .i64) (El.prod (El.int .i64) (El.prod (El.int .i64) (El.prod El.bool (El.prod api_Ctl.El (El.prod (El.sl (El.int .u8)) El.unit)))))).p c (x.Way, (x.N, (x.T, (x.Own, (x.C, (x.B, ())))))) :: L) w0 w := hs
 obtain ⟨c0, r0, e0, hs⟩ := St.prod_open hs
 have hs : Sep.St ((El.int .i64).p c0 x.Way :: (El.prod (El.int .i64) (El.prod (El.int .i64) (El.prod El.bool (El.prod api_Ctl.El (El.prod (El.sl (El.int .u8)) El.unit))))).p r0 (x.N, (x.T, (x.Own, (x.C, (x.B, ()))))) :: L) w0 w := hs
 obtain ⟨q0, hs⟩ := St.int_open hs
 have hs : Sep.St ((El.prod (El.int .i64) (El.prod (El.int .i64) (El.prod El.bool (El.prod api_Ctl.El (El.prod (El.sl (El.int .u8)) El.unit))))).p r0 (x.N, (x.T, (x.Own, (x.C, (x.B, ()))))) :: L) w0 w := hs
 obtain ⟨c1, r1, e1, hs⟩ := St.prod_open hs
 have hs : Sep.St ((El.int .i64).p c1 x.N :: (El.prod (El.int .i64) (El.prod El.bool (El.prod api_Ctl.El (El.prod (El.sl (El.int .u8)) El.unit)))).p r1 (x.T, (x.Own, (x.C, (x.B, ())))) :: L) w0 w := hs
 obtain ⟨q1, hs⟩ := St.int_open hs
 have hs : Sep.St ((El.prod (El.int .i64) (El.prod El.bool (El.prod api_Ctl.El (El.prod (El.sl (El.int .u8)) El.unit)))).p r1 (x.T, (x.Own, (x.C, (x.B, ())))) :: L) w0 w := hs
 obtain ⟨c2, r2, e2, hs⟩ := St.prod_open hs
 have hs : Sep.St ((El.int .i64).p c2 x.T :: (El.prod El.bool (El.prod api_Ctl.El (El.prod (El.sl (El.int .u8)) El.unit))).p r2 (x.Own, (x.C, (x.B, ()))) :: L) w0 w := hs
 obtain ⟨q2, hs⟩ := St.int_open hs
 have hs : Sep.St ((El.prod El.bool (El.prod api_Ctl.El (El.prod (El.sl (El.int .u8)) El.unit))).p r2 (x.Own, (x.C, (x.B, ()))) :: L) w0 w := hs
 obtain ⟨c3, r3, e3, hs⟩ := St.prod_open hs
 have hs : Sep.St (El.bool.p c3 x.Own :: (El.prod api_Ctl.El (El.prod (El.sl (El.int .u8)) El.unit)).p r3 (x.C, (x.B, ())) :: L) w0 w := hs
 obtain ⟨q3, hs⟩ := St.bool_open hs
 have hs : Sep.St ((El.prod api_Ctl.El (El.prod (El.sl (El.int .u8)) El.unit)).p r3 (x.C, (x.B, ())) :: L) w0 w := hs
 obtain ⟨c4, r4, e4, hs⟩ := St.prod_open hs
 have hs : Sep.St (api_Ctl.El.p c4 x.C :: (El.prod (El.sl (El.int .u8)) El.unit).p r4 (x.B, ()) :: L) w0 w := hs
 obtain ⟨q4, hs⟩ := api_Ctl.unpack hs
 have hs : Sep.St ((El.prod (El.sl (El.int .u8)) El.unit).p r4 (x.B, ()) :: L) w0 w := hs
 obtain ⟨c5, r5, e5, hs⟩ := St.prod_open hs
 have hs : Sep.St ((El.sl (El.int .u8)).p c5 x.B :: El.unit.p r5 () :: L) w0 w := hs
 obtain ⟨a5, m5, q5, hs⟩ := St.sl_openF (Value.int .u8) (fun t => tie_int t) hs
 have hs : Sep.St (fsl 1 (.slice a5 x.B.length m5) x.B.length (x.B.map (Value.int .u8)) :: El.unit.p r5 () :: L) w0 w := hs
 replace hs := hs.front 1 rfl
 have hs : Sep.St (El.unit.p r5 () :: fsl 1 (.slice a5 x.B.length m5) x.B.length (x.B.map (Value.int .u8)) :: L) w0 w := hs
 obtain ⟨qu, hs⟩ := St.unit_open hs
 exact ⟨a5, m5, by rw [e0, q0, e1, q1, e2, q2, e3, q3, e4, q4, e5, q5, qu]; rfl, hs⟩
theorem signalmanlaw15_Act.pack {a5 : Option Addr} {m5 : Nat} {x : signalmanlaw15_Act} {L : List As} {w0 w : World} (hs : Sep.St (fsl 1 (.slice a5 x.B.length m5) x.B.length (x.B.map (Value.int .u8)) :: L) w0 w) : Sep.St (signalmanlaw15_Act.El.p [Value.int .i64 x.Way, Value.int .i64 x.N, Value.int .i64 x.T, Value.bool x.Own, Value.int .i64 x.C.Kind, Value.int .i64 x.C.Ns, Value.int .i64 x.C.Nr, Value.bool x.C.Poll, Value.slice a5 x.B.length m5] x :: L) w0 w := by
 have h1 := St.join (m := [fsl 1 (.slice a5 x.B.length m5) x.B.length (x.B.map (Value.int .u8))]) hs
 exact h1.mono fun h hh => ⟨[Value.int .i64 x.Way], [Value.int .i64 x.N, Value.int .i64 x.T, Value.bool x.Own, Value.int .i64 x.C.Kind, Value.int .i64 x.C.Ns, Value.int .i64 x.C.Nr, Value.bool x.C.Poll, Value.slice a5 x.B.length m5], rfl, rfl, ⟨[Value.int .i64 x.N], [Value.int .i64 x.T, Value.bool x.Own, Value.int .i64 x.C.Kind, Value.int .i64 x.C.Ns, Value.int .i64 x.C.Nr, Value.bool x.C.Poll, Value.slice a5 x.B.length m5], rfl, rfl, ⟨[Value.int .i64 x.T], [Value.bool x.Own, Value.int .i64 x.C.Kind, Value.int .i64 x.C.Ns, Value.int .i64 x.C.Nr, Value.bool x.C.Poll, Value.slice a5 x.B.length m5], rfl, rfl, ⟨[Value.bool x.Own], [Value.int .i64 x.C.Kind, Value.int .i64 x.C.Ns, Value.int .i64 x.C.Nr, Value.bool x.C.Poll, Value.slice a5 x.B.length m5], rfl, rfl, ⟨[Value.int .i64 x.C.Kind, Value.int .i64 x.C.Ns, Value.int .i64 x.C.Nr, Value.bool x.C.Poll], [Value.slice a5 x.B.length m5], rfl, ⟨[Value.int .i64 x.C.Kind], [Value.int .i64 x.C.Ns, Value.int .i64 x.C.Nr, Value.bool x.C.Poll], rfl, rfl, ⟨[Value.int .i64 x.C.Ns], [Value.int .i64 x.C.Nr, Value.bool x.C.Poll], rfl, rfl, ⟨[Value.int .i64 x.C.Nr], [Value.bool x.C.Poll], rfl, rfl, ⟨[Value.bool x.C.Poll], [], rfl, rfl, rfl⟩⟩⟩⟩, ⟨[Value.slice a5 x.B.length m5], [], rfl, ⟨_, _, rfl, Sp.fsl 0 hh rfl, int_tie⟩, rfl⟩⟩⟩⟩⟩⟩
end Go.Proofs.YtnlcafmkmfnobaaGreat

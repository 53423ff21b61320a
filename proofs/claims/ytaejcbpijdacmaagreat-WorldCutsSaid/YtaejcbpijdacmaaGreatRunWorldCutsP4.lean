/- WorldCuts: the functions that its law reaches, as plain functions, and that the machine's calls come to what these say. Conditions: those that stand at each. -/
import Derived.Test.YtaejcbpijdacmaaGreatRunWorldCutsP3
set_option linter.all false
set_option maxRecDepth 100000
set_option maxHeartbeats 4000000
set_option synthInstance.maxSize 100000
set_option synthInstance.maxHeartbeats 1000000
namespace Go.Proofs.YtaejcbpijdacmaaGreat
open Go.RowKit Go.Proofs.YtaejcbpijdacmaaGreat.Sep Go.Proofs.YtaejcbpijdacmaaGreat.Walk Go.Proofs.Tryz
mutual
def arq_Arq_numbered.j3 (k : Nat)  (x27 : arq_Arq) : Option arq_Arq := ((arq_Arq_pump.f k x27).bind fun t29 => some t29)
def arq_Arq_numbered.j2 (k : Nat) (a2 : api_Ctl) (a3 : List Int) (x25 : arq_Arq) : Option arq_Arq := (if a2.Kind = 0 then ((arq_Arq_come.f k x25 a2 a3).bind fun t34 => (arq_Arq_numbered.j3 k t34)) else (arq_Arq_numbered.j3 k x25))
def arq_Arq_numbered.j4 (k : Nat) (a2 : api_Ctl) (a3 : List Int) (x36 : arq_Arq) (x37 : Bool) : Option arq_Arq := (if x37 = true then ((arq_Arq_resend.f k x36).bind fun t40 => (arq_Arq_numbered.j2 k a2 a3 t40)) else (arq_Arq_numbered.j2 k a2 a3 x36))
def arq_Arq_numbered.j1 (k : Nat) (a0 : arq_Arq) (a2 : api_Ctl) (a3 : List Int) (x18 : Bool) : Option arq_Arq := (if x18 = true then ((arq_Arq_tell.f k a0 ({ Kind := 7, Ns := 0, Nr := 0, Poll := false } : api_Ctl)).bind fun t21 => ((arq_Arq_end.f t21).bind fun t23 => some t23)) else ((arq_Arq_acknowledged.f k a0 a2.Nr).bind fun t44 => (if t44.1 = true then (arq_Arq_numbered.j4 k a2 a3 t44.2 (decide (a2.Kind = 2))) else (arq_Arq_numbered.j4 k a2 a3 t44.2 false))))
def arq_Arq_numbered.j0 (k : Nat) (a0 : arq_Arq) (a2 : api_Ctl) (a3 : List Int) (x15 : Bool) : Option arq_Arq := (if x15 = true then some a0 else (if a2.Kind = 0 then (arq_Arq_numbered.j1 k a0 a2 a3 (decide ((a3.length : Int) > a0.size))) else (arq_Arq_numbered.j1 k a0 a2 a3 false)))
end
def arq_Arq_numbered.f (k : Nat) (a0 : arq_Arq) (a1 : Int) (a2 : api_Ctl) (a3 : List Int) : Option arq_Arq := (if a0.state = 0 then ((arq_Arq_put.f k a0 a1 ({ Kind := 6, Ns := 0, Nr := 0, Poll := false } : api_Ctl) ([] : List Int)).bind fun t7 => some t7) else (if a0.state = 2 then (arq_Arq_numbered.j0 k a0 a2 a3 (!(decide (a1 = a0.tag)))) else (arq_Arq_numbered.j0 k a0 a2 a3 true)))
theorem arq_Arq_numbered.calls {k : Nat} {a0 : arq_Arq} {a1 : Int} {a2 : api_Ctl} {a3 : List Int} {R : As} {w0 w : World} {b0 : Nat} {sa3 : Option Addr} {sc3 : Nat} {r : arq_Arq} (H : arq_Arq_numbered.f k a0 a1 a2 a3 = some r) (HS : Sep.St [arq_Arq.at b0 a0, R] w0 w) (hr3 : rdC R 1 (.slice sa3 a3.length sc3) a3.length (a3.map (Value.int .u8))) : Calls Tryz.prog 284 #[pt b0, vi a1, Value.agg #[vi a2.Kind, vi a2.Ns, vi a2.Nr, vb a2.Poll], vs sa3 a3.length sc3] w (Ret fun u w => u = Value.tuple #[] ∧ Sep.St [arq_Arq.at b0 r, R] w0 w) := by
 unfold arq_Arq_numbered.f at H
 refine calls_enter func284 rfl rfl ?_
 have H : _ = some r := H
 refine V.seq (V.region (W.e (Y.box HS rfl) rfl ?_))
 rintro _ w ⟨nb1, rfl, HS⟩
 refine W.nx (V.seq (V.block (V.seq (V.region (W.mv rfl (W.nc rfl ?_))))))
 replace HS := HS.fr 1
 obtain ⟨b8_4, b9_4, b10_4, a11_4, c11_4, d11_4, a12_4, c12_4, hi5, HS⟩ := arq_Arq.open HS
 refine W.fa fo158_4 rfl (W.ld 0 HS underlying3 rfl rfl rfl rfl (W.r (X.cmp (decide (a0.state = 0)) rfl rfl rfl rfl) rfl (W.as rfl (W.nx ?_))))
 by_cases c6 : a0.state = 0
 ·replace H := ite_t c6 H
  refine V.condT (sb (dT c6)) (V.seq (V.region (W.mv rfl (W.mv rfl (W.r (X.bd (Value.agg #[vi (6), vi (0), vi (0), vb false]) rfl (fun _ => by kernel_rfl)) rfl ?_)))))
  replace HS := arq_Arq.close tv HS
  replace HS := row_nilF (Value.int .u8) 5 1 HS
  replace HS := St.row_freeze HS
  replace HS := HS.more 0 rfl (fun _ t => t) fsl.pers
  obtain ⟨t7, A8, H⟩ := bind_s H
  replace HS := HS.pm [2, 0, 1, 3, 4]
  refine W.e (Y.cl func176 (arq_Arq_put.calls A8 HS.j2)) rfl ?_
  rintro _ w ⟨rfl, HS⟩
  replace HS := HS.o1
  refine W.nx (V.ret (At.blockRet (At.thenRet ?_)))
  replace HS := HS.pk [0, 3] [1, 2]
  cases H
  exact At.ret0 rfl ⟨_, rfl, rfl, HS⟩
 ·replace H := ite_f c6 H
  refine V.condF (sb (dF c6)) (V.meet (σ := Bool) (fun st w => match st with | x15 => Sep.St [api_Ctl.at nb1 a2, arq_Arq.at b0 a0, R] w0 w ∧ ∃ kf16, kf16 ≤ k ∧ arq_Arq_numbered.j0 kf16 a0 a2 a3 x15 = some r) (fun st => match st with | x15 => [(0, pt b0), (3, vs sa3 a3.length sc3), (6, pt nb1), (18, vb x15)]) ?_ ?_)
  ·refine V.region (W.mv rfl (W.nc rfl (W.fa fo158_4 rfl (W.ld 0 HS underlying3 rfl rfl rfl rfl (W.r (X.cmp (!(decide (a0.state = 2))) rfl rfl rfl rfl) rfl (W.mv rfl ?_))))))
   by_cases c52 : a0.state = 2
   ·replace H := ite_t c52 H
    refine W.want 24 rfl (sb (n_t (dT c52))) (W.mv rfl (W.want 24 rfl (sb (n_t (dT c52))) (W.mv rfl (W.want 24 rfl (sb (n_t (dT c52))) (W.nc rfl (W.want 24 rfl (sb (n_t (dT c52))) (W.fa fo158_5 rfl (W.want 24 rfl (sb (n_t (dT c52))) (W.ld 0 HS underlying3 rfl rfl rfl rfl (W.want 24 rfl (sb (n_t (dT c52))) (W.r (X.cmp (!(decide (a1 = a0.tag))) rfl rfl rfl rfl) rfl (W.r (X.pickF (sb (n_t (dT c52))) rfl) rfl (W.as rfl (W.nil ?_))))))))))))))
    replace HS := HS.pm [7, 0, 1, 2, 3, 4, 5, 6, 8]
    replace HS := api_Ctl.close tv HS
    replace HS := HS.pm [1, 2, 3, 4, 5, 6, 7, 0, 8]
    replace HS := arq_Arq.close tv HS
    replace HS := HS.pk [1, 0, 2] []
    exact At.meet (!(decide (a1 = a0.tag))) ⟨rfl, rfl, rfl, rfl, tv⟩ ⟨HS, k, by omega, H⟩
   ·replace H := ite_f c52 H
    refine W.pass 24 rfl (sb (n_f (dF c52))) rfl rfl (W.pass 24 rfl (sb (n_f (dF c52))) rfl rfl (W.pass 24 rfl (sb (n_f (dF c52))) rfl rfl (W.pass 24 rfl (sb (n_f (dF c52))) rfl rfl (W.pass 24 rfl (sb (n_f (dF c52))) rfl rfl (W.pass 24 rfl (sb (n_f (dF c52))) rfl rfl (W.r (X.pickT (sb (n_f (dF c52))) rfl) rfl (W.as rfl (W.nil ?_))))))))
    replace HS := HS.pm [7, 0, 1, 2, 3, 4, 5, 6, 8]
    replace HS := api_Ctl.close tv HS
    replace HS := HS.pm [1, 2, 3, 4, 5, 6, 7, 0, 8]
    replace HS := arq_Arq.close tv HS
    replace HS := HS.pk [1, 0, 2] []
    exact At.meet true ⟨rfl, rfl, rfl, rfl, tv⟩ ⟨HS, k, by omega, H⟩
  ·rintro x15 w ⟨HS, kf16, hkkf16, H⟩
   unfold arq_Arq_numbered.j0 at H
   by_cases c17 : x15 = true
   ·replace H := ite_t c17 H
    refine V.condT (sb c17) (V.ret (At.blockRet (At.thenRet ?_)))
    replace HS := HS.pk [1, 2] [0]
    cases H
    exact At.ret0 rfl ⟨_, rfl, rfl, HS⟩
   ·replace H := ite_f c17 H
    refine V.condF (sb (b_f c17)) (V.meet (σ := Bool) (fun st w => match st with | x18 => Sep.St [api_Ctl.at nb1 a2, arq_Arq.at b0 a0, R] w0 w ∧ ∃ kf19, kf19 ≤ kf16 ∧ arq_Arq_numbered.j1 kf19 a0 a2 a3 x18 = some r) (fun st => match st with | x18 => [(0, pt b0), (3, vs sa3 a3.length sc3), (6, pt nb1), (32, vb x18)]) ?_ ?_)
    ·refine V.region ?_
     obtain ⟨hi48, HS⟩ := api_Ctl.open HS
     refine W.fa fo161_0 rfl (W.ld 0 HS underlying3 rfl rfl rfl rfl (W.r (X.cmp (decide (a2.Kind = 0)) rfl rfl rfl rfl) rfl (W.mv rfl ?_)))
     by_cases c49 : a2.Kind = 0
     ·replace H := ite_t c49 H
      refine W.want 36 rfl (sb (dT c49)) (W.mv rfl (W.want 36 rfl (sb (dT c49)) (W.r (X.lenSl underlying48 rfl) rfl (W.want 36 rfl (sb (dT c49)) (W.mv rfl (W.want 36 rfl (sb (dT c49)) (W.nc rfl (W.want 36 rfl (sb (dT c49)) ?_))))))))
      replace HS := HS.fr 1
      obtain ⟨b8_50, b9_50, b10_50, a11_50, c11_50, d11_50, a12_50, c12_50, hi51, HS⟩ := arq_Arq.open HS
      refine W.fa fo158_3 rfl (W.want 36 rfl (sb (dT c49)) (W.ld 0 HS underlying3 rfl rfl rfl rfl (W.want 36 rfl (sb (dT c49)) (W.r (X.cmp (decide ((a3.length : Int) > a0.size)) rfl rfl rfl rfl) rfl (W.r (X.pickT (sb (dT c49)) rfl) rfl (W.as rfl (W.nil ?_)))))))
      replace HS := HS.pm [7, 0, 1, 2, 3, 4, 5, 6, 8]
      replace HS := api_Ctl.close tv HS
      replace HS := HS.pm [1, 2, 3, 4, 5, 6, 7, 0, 8]
      replace HS := arq_Arq.close tv HS
      replace HS := HS.pk [1, 0, 2] []
      exact At.meet (decide ((a3.length : Int) > a0.size)) ⟨rfl, rfl, rfl, rfl, tv⟩ ⟨HS, kf16, by omega, H⟩
     ·replace H := ite_f c49 H
      refine W.pass 36 rfl (sb (dF c49)) rfl rfl (W.pass 36 rfl (sb (dF c49)) rfl rfl (W.pass 36 rfl (sb (dF c49)) rfl rfl (W.pass 36 rfl (sb (dF c49)) rfl rfl (W.pass 36 rfl (sb (dF c49)) rfl rfl (W.pass 36 rfl (sb (dF c49)) rfl rfl (W.pass 36 rfl (sb (dF c49)) rfl rfl (W.r (X.pickF (sb (dF c49)) rfl) rfl (W.as rfl (W.nil ?_)))))))))
      replace HS := api_Ctl.close tv HS
      exact At.meet false ⟨rfl, rfl, rfl, rfl, tv⟩ ⟨HS, kf16, by omega, H⟩
    ·rintro x18 w ⟨HS, kf19, hkkf19, H⟩
     unfold arq_Arq_numbered.j1 at H
     by_cases c20 : x18 = true
     ·replace H := ite_t c20 H
      refine V.condT (sb c20) (V.seq (V.region (W.mv rfl (W.r (X.bd (Value.agg #[vi (7), vi (0), vi (0), vb false]) rfl (fun _ => by kernel_rfl)) rfl ?_))))
      obtain ⟨t21, A22, H⟩ := bind_s H
      replace HS := HS.pm [1, 0, 2]
      refine W.e (Y.cl func113 (arq_Arq_tell.calls A22 HS.j1)) rfl ?_
      rintro _ w ⟨rfl, HS⟩
      replace HS := HS.o1
      refine W.nx (V.seq (V.region (W.mv rfl ?_)))
      obtain ⟨t23, A24, H⟩ := bind_s H
      refine W.e (Y.cl func236 (arq_Arq_end.calls A24 HS.j1)) rfl ?_
      rintro _ w ⟨rfl, HS⟩
      replace HS := HS.o1
      refine W.nx (V.ret (At.blockRet (At.thenRet ?_)))
      replace HS := HS.pk [0, 2] [1]
      cases H
      exact At.ret0 rfl ⟨_, rfl, rfl, HS⟩
     ·replace H := ite_f c20 H
      refine V.condF (sb (b_f c20)) (V.skip (At.blockEnd (At.next (V.meet (σ := arq_Arq) (fun st w => match st with | x25 => Sep.St [api_Ctl.at nb1 a2, arq_Arq.at b0 x25, R] w0 w ∧ ∃ kf26, kf26 ≤ kf19 ∧ arq_Arq_numbered.j2 kf26 a2 a3 x25 = some r) (fun st => match st with | x25 => [(0, pt b0), (3, vs sa3 a3.length sc3), (6, pt nb1)]) ?_ ?_))))
      ·refine V.meet (σ := arq_Arq × Bool) (fun st w => match st with | (x36, x37) => Sep.St [api_Ctl.at nb1 a2, arq_Arq.at b0 x36, R] w0 w ∧ ∃ kf38, kf38 ≤ kf19 ∧ arq_Arq_numbered.j4 kf38 a2 a3 x36 x37 = some r) (fun st => match st with | (x36, x37) => [(0, pt b0), (3, vs sa3 a3.length sc3), (6, pt nb1), (58, vb x37)]) ?_ ?_
       ·refine V.region (W.mv rfl ?_)
        obtain ⟨hi43, HS⟩ := api_Ctl.open HS
        refine W.fa fo161_2 rfl (W.ld 0 HS underlying3 rfl rfl rfl rfl ?_)
        obtain ⟨t44, A45, H⟩ := bind_s H
        replace HS := HS.pm [1, 0, 2]
        refine W.e (Y.cl func306 (arq_Arq_acknowledged.calls A45 HS.j1)) rfl ?_
        rintro _ w ⟨rfl, HS⟩
        replace HS := HS.o1
        refine W.mv rfl ?_
        by_cases c46 : t44.1 = true
        ·replace H := ite_t c46 H
         refine W.want 54 rfl (sb c46) (W.fa fo161_0 rfl (W.want 54 rfl (sb c46) (W.ld 1 HS underlying3 rfl rfl rfl rfl (W.want 54 rfl (sb c46) (W.r (X.cmp (decide (a2.Kind = 2)) rfl rfl rfl rfl) rfl (W.r (X.pickT (sb c46) rfl) rfl (W.nil ?_)))))))
         replace HS := HS.pm [1, 0, 2]
         replace HS := api_Ctl.close tv HS
         exact At.meet (t44.2, decide (a2.Kind = 2)) ⟨rfl, rfl, rfl, rfl, tv⟩ ⟨HS, kf19, by omega, H⟩
        ·replace H := ite_f c46 H
         refine W.pass 54 rfl (sb (b_f c46)) rfl rfl (W.pass 54 rfl (sb (b_f c46)) rfl rfl (W.pass 54 rfl (sb (b_f c46)) rfl rfl (W.r (X.pickF (sb (b_f c46)) rfl) rfl (W.nil ?_))))
         replace HS := HS.pm [1, 0, 2]
         replace HS := api_Ctl.close tv HS
         exact At.meet (t44.2, false) ⟨rfl, rfl, rfl, rfl, tv⟩ ⟨HS, kf19, by omega, H⟩
       ·rintro ⟨x36, x37⟩ w ⟨HS, kf38, hkkf38, H⟩
        unfold arq_Arq_numbered.j4 at H
        by_cases c39 : x37 = true
        ·replace H := ite_t c39 H
         refine V.condT (sb c39) (V.region (W.mv rfl ?_))
         obtain ⟨t40, A41, H⟩ := bind_s H
         replace HS := HS.pm [1, 0, 2]
         refine W.e (Y.cl func183 (arq_Arq_resend.calls A41 HS.j1)) rfl ?_
         rintro _ w ⟨rfl, HS⟩
         replace HS := HS.o1
         refine W.nil ?_
         replace HS := HS.pk [1, 0, 2] []
         exact At.meet t40 ⟨rfl, rfl, rfl, tv⟩ ⟨HS, kf38, by omega, H⟩
        ·replace H := ite_f c39 H
         refine V.condF (sb (b_f c39)) (V.skip ?_)
         exact At.meet x36 ⟨rfl, rfl, rfl, tv⟩ ⟨HS, kf38, by omega, H⟩
      ·rintro x25 w ⟨HS, kf26, hkkf26, H⟩
       unfold arq_Arq_numbered.j2 at H
       refine V.meet (σ := arq_Arq) (fun st w => match st with | x27 => Sep.St [api_Ctl.at nb1 a2, arq_Arq.at b0 x27, R] w0 w ∧ ∃ kf28, kf28 ≤ kf26 ∧ arq_Arq_numbered.j3 kf28 x27 = some r) (fun st => match st with | x27 => [(0, pt b0)]) ?_ ?_
       ·refine V.seq (V.region ?_)
        obtain ⟨hi32, HS⟩ := api_Ctl.open HS
        refine W.fa fo161_0 rfl (W.ld 0 HS underlying3 rfl rfl rfl rfl (W.r (X.cmp (decide (a2.Kind = 0)) rfl rfl rfl rfl) rfl (W.nx ?_)))
        by_cases c33 : a2.Kind = 0
        ·replace H := ite_t c33 H
         refine V.condT (sb (dT c33)) (V.region (W.mv rfl (W.r (X.loadSt 0 [vi a2.Kind, vi a2.Ns, vi a2.Nr, vb a2.Poll] HS rfl underlying161 rfl inf161 rfl rfl) rfl (W.mv rfl ?_))))
         obtain ⟨t34, A35, H⟩ := bind_s H
         replace HS := HS.pm [1, 0, 2]
         refine W.e (Y.cl func307 (arq_Arq_come.calls A35 HS.j1 (rdC.part 1 hr3 rfl))) rfl ?_
         rintro _ w ⟨rfl, HS⟩
         replace HS := HS.o1
         refine W.nil ?_
         replace HS := HS.pm [1, 0, 2]
         replace HS := api_Ctl.close tv HS
         exact At.meet t34 ⟨rfl, tv⟩ ⟨HS, kf26, by omega, H⟩
        ·replace H := ite_f c33 H
         refine V.condF (sb (dF c33)) (V.skip ?_)
         replace HS := api_Ctl.close tv HS
         exact At.meet x25 ⟨rfl, tv⟩ ⟨HS, kf26, by omega, H⟩
       ·rintro x27 w ⟨HS, kf28, hkkf28, H⟩
        unfold arq_Arq_numbered.j3 at H
        refine V.region (W.mv rfl ?_)
        obtain ⟨t29, A30, H⟩ := bind_s H
        replace HS := HS.pm [1, 0, 2]
        refine W.e (Y.cl func152 (arq_Arq_pump.calls A30 HS.j1)) rfl ?_
        rintro _ w ⟨rfl, HS⟩
        replace HS := HS.o1
        refine W.nil ?_
        replace HS := HS.pk [0, 2] [1]
        cases H
        exact At.end0 rfl ⟨_, rfl, rfl, HS⟩
mutual
def arq_Arq_Input.j1 (a0 : arq_Arq) (x32 : Bool) : Option arq_Arq := (if x32 = true then ((arq_Arq_end.f a0).bind fun t35 => some t35) else some a0)
def arq_Arq_Input.j0 (k : Nat) (a0 : arq_Arq) (a1 : List Int) (x8 : api_Ctl) (x9 : Int) (x10 : Int) : Option arq_Arq := (if x10 = 0 then (if x8.Kind = 3 then ((arq_Arq_asked.f k a0 (ior .i64 (w64 ((w64 (a1.getD (0 : Int).toNat 0)) * 2 ^ (min (8 : Int).toNat IntKind.i64.bits))) (w64 (a1.getD (1 : Int).toNat 0))) x8.Poll).bind fun t17 => some t17) else (if x8.Kind = 4 then (if (ior .i64 (w64 ((w64 (a1.getD (0 : Int).toNat 0)) * 2 ^ (min (8 : Int).toNat IntKind.i64.bits))) (w64 (a1.getD (1 : Int).toNat 0))) = a0.tag then ((arq_Arq_accepted.f k a0).bind fun t23 => some t23) else some a0) else (if x8.Kind = 5 then ((arq_Arq_closed.f k a0 (ior .i64 (w64 ((w64 (a1.getD (0 : Int).toNat 0)) * 2 ^ (min (8 : Int).toNat IntKind.i64.bits))) (w64 (a1.getD (1 : Int).toNat 0))) x8.Poll).bind fun t26 => some t26) else (if x8.Kind = 6 then ((arq_Arq_refused.f a0 (ior .i64 (w64 ((w64 (a1.getD (0 : Int).toNat 0)) * 2 ^ (min (8 : Int).toNat IntKind.i64.bits))) (w64 (a1.getD (1 : Int).toNat 0)))).bind fun t29 => some t29) else (if x8.Kind = 7 then (if (ior .i64 (w64 ((w64 (a1.getD (0 : Int).toNat 0)) * 2 ^ (min (8 : Int).toNat IntKind.i64.bits))) (w64 (a1.getD (1 : Int).toNat 0))) = a0.tag then (arq_Arq_Input.j1 a0 (decide (a0.state = 2))) else (arq_Arq_Input.j1 a0 false)) else (if 0 ≤ w64 (2 + x9) ∧ w64 (2 + x9) ≤ (a1.length : Int) ∧ (a1.length : Int) ≤ (a1.length : Int) then ((arq_Arq_numbered.f k a0 (ior .i64 (w64 ((w64 (a1.getD (0 : Int).toNat 0)) * 2 ^ (min (8 : Int).toNat IntKind.i64.bits))) (w64 (a1.getD (1 : Int).toNat 0))) x8 (cut a1 (w64 (2 + x9)) (a1.length : Int))).bind fun t41 => some t41) else none)))))) else some a0)
end
def arq_Arq_Input.f (k : Nat) (a0 : arq_Arq) (a1 : List Int) : Option arq_Arq := (if (a1.length : Int) < 2 then some a0 else (if 0 ≤ (0 : Int) ∧ (0 : Int) < (a1.length : Int) then (if 0 ≤ (1 : Int) ∧ (1 : Int) < (a1.length : Int) then (if 0 ≤ (2 : Int) ∧ (2 : Int) ≤ (a1.length : Int) ∧ (a1.length : Int) ≤ (a1.length : Int) then ((control_Read.f k (cut a1 (2 : Int) (a1.length : Int)) a0.m).bind fun t46 => (arq_Arq_Input.j0 k a0 a1 t46.1 t46.2.1 t46.2.2)) else none) else none) else none))
theorem arq_Arq_Input.calls {k : Nat} {a0 : arq_Arq} {a1 : List Int} {R : As} {w0 w : World} {b0 : Nat} {sa1 : Option Addr} {sc1 : Nat} {r : arq_Arq} (H : arq_Arq_Input.f k a0 a1 = some r) (HS : Sep.St [arq_Arq.at b0 a0, R] w0 w) (hr1 : rdC R 1 (.slice sa1 a1.length sc1) a1.length (a1.map (Value.int .u8))) : Calls Tryz.prog 246 #[pt b0, vs sa1 a1.length sc1] w (Ret fun u w => u = Value.tuple #[] ∧ Sep.St [arq_Arq.at b0 r, R] w0 w) := by
 unfold arq_Arq_Input.f at H
 refine calls_enter func246 rfl rfl ?_
 have H : _ = some r := H
 refine V.seq (V.seq (V.region (W.mv rfl (W.r (X.lenSl underlying48 rfl) rfl (W.r (X.cmp (decide ((a1.length : Int) < 2)) rfl rfl rfl rfl) rfl (W.nx ?_))))))
 by_cases c2 : (a1.length : Int) < 2
 ·replace H := ite_t c2 H
  refine V.condT (sb (dT c2)) (V.ret (At.thenRet ?_))
  cases H
  exact At.ret0 rfl ⟨_, rfl, rfl, HS⟩
 ·replace H := ite_f c2 H
  refine V.condF (sb (dF c2)) (V.skip (At.next (V.seq ?_)))
  obtain ⟨c3, H⟩ := ite_n H
  obtain ⟨eb4, eo5, hh⟩ := (rdC.at 1 hr1 HS rfl).some (by decide) c3.1 c3.2; subst hh
  obtain ⟨c6, H⟩ := ite_n H
  refine V.dr [] [] [(11, vs (some ⟨eb4, eo5, none⟩) a1.length sc1), (12, po eb4 (eo5 + (0 : Int).toNat * 1)), (13, Value.int .u8 (a1.getD (0 : Int).toNat 0)), (14, vi (w64 (a1.getD (0 : Int).toNat 0))), (15, vi (w64 ((w64 (a1.getD (0 : Int).toNat 0)) * 2 ^ (min (8 : Int).toNat IntKind.i64.bits)))), (16, vs (some ⟨eb4, eo5, none⟩) a1.length sc1), (17, po eb4 (eo5 + (1 : Int).toNat * 1)), (18, Value.int .u8 (a1.getD (1 : Int).toNat 0)), (19, vi (w64 (a1.getD (1 : Int).toNat 0))), (20, vi (ior .i64 (w64 ((w64 (a1.getD (0 : Int).toNat 0)) * 2 ^ (min (8 : Int).toNat IntKind.i64.bits))) (w64 (a1.getD (1 : Int).toNat 0)))), (4, vi (ior .i64 (w64 ((w64 (a1.getD (0 : Int).toNat 0)) * 2 ^ (min (8 : Int).toNat IntKind.i64.bits))) (w64 (a1.getD (1 : Int).toNat 0))))] mo HS ?_
  refine T.fn [(0, _), (1, _), (4, _)] ⟨rfl, rfl, rfl, tv⟩ ⟨.mv 1, .n1 11 rfl rfl (fun w HS => X.indexSl underlying48 inf5 rfl rfl c3.1 c3.2), .n1 12 rfl rfl (fun w HS => X.load underlying5 rfl rfl ((rdC.at 1 hr1 HS rfl).cellI c3.1 c3.2)), .n1 13 rfl rfl (fun w HS => X.conv underlying5 underlying3 rfl), .n1 14 rfl rfl (fun w HS => X.shl rfl rfl (by decide)), .mv 1, .n1 16 rfl rfl (fun w HS => X.indexSl underlying48 inf5 rfl rfl c6.1 c6.2), .n1 17 rfl rfl (fun w HS => X.load underlying5 rfl rfl ((rdC.at 1 hr1 HS rfl).cellI c6.1 c6.2)), .n1 18 rfl rfl (fun w HS => X.conv underlying5 underlying3 rfl), .n2 15 19 rfl rfl rfl (fun w HS => X.or rfl rfl), .as 20, tv⟩ (fun w HS => ?_)
  refine At.next (V.meet (σ := Nat × api_Ctl × Int × Int) (fun st w => match st with | (nb7, x8, x9, x10) => Sep.St [api_Ctl.at nb7 x8, arq_Arq.at b0 a0, R] w0 w ∧ ∃ kf11, kf11 ≤ k ∧ arq_Arq_Input.j0 kf11 a0 a1 x8 x9 x10 = some r) (fun st => match st with | (nb7, x8, x9, x10) => [(0, pt b0), (1, vs (some ⟨eb4, eo5, none⟩) a1.length sc1), (4, vi (ior .i64 (w64 ((w64 (a1.getD (0 : Int).toNat 0)) * 2 ^ (min (8 : Int).toNat IntKind.i64.bits))) (w64 (a1.getD (1 : Int).toNat 0)))), (5, pt nb7), (6, vi x9), (7, vi x10)]) ?_ ?_)
  ·obtain ⟨c43, H⟩ := ite_n H
   obtain ⟨b8_44, b9_44, b10_44, a11_44, c11_44, d11_44, a12_44, c12_44, hi45, HS⟩ := arq_Arq.open HS
   refine V.dr [6, 11, 12] [7, 8, 9, 10, 13, 14] [(22, vs (some ⟨eb4, eo5, none⟩) a1.length sc1), (23, vs (vaddr (some ⟨eb4, eo5, none⟩) sc1 (2 : Int).toNat 1) (cut a1 (2 : Int) (a1.length : Int)).length (sc1 - (2 : Int).toNat)), (24, pt b0), (25, pt b0), (26, po b0 (0 + 0)), (27, vi a0.m)] mo HS ?_
   refine T.two rfl rfl ⟨.mv 1, .n1 22 rfl rfl (fun w HS => X.slL underlying48 inf5 rfl rfl c43), .mv 0, .nc 24, .fa 25 fo158_0, .ld 26 0 underlying3, tv⟩ (T.step (es := [11, 12]) _ [(23, vs (vaddr (some ⟨eb4, eo5, none⟩) sc1 (2 : Int).toNat 1) (cut a1 (2 : Int) (a1.length : Int)).length (sc1 - (2 : Int).toNat)), (27, vi a0.m)] rfl ⟨.inr ⟨rfl, rfl⟩, ⟨.inr ⟨rfl, rfl⟩, tv⟩⟩ (Or.inl rfl) (by intro d hd; cases hd; exact ⟨by decide, rfl, rfl⟩) [13, 14] [0, 1, 2, 3, 4, 5] rfl rfl rfl rfl rfl (fun w HS => ?_)) (T.step (es := [6, 12]) _ [] rfl tv (Or.inl rfl) (by intro d hd; cases hd; exact ⟨by decide, rfl, rfl⟩) [7, 8, 9, 10, 13, 14] [] rfl rfl rfl rfl rfl (fun w HS => ?_))
   ·have HS : Sep.St [blk b0 (#[vi a0.m, vi a0.t1, vi a0.n2, vi a0.size, vi a0.state, vi a0.tag, vi a0.tries, vb a0.rejected, pt b8_44, pt b9_44, pt b10_44, vs a11_44 a0.out.length c11_44, vs a12_44 a0.inds.length c12_44, vi a0.sent, vi a0.acked, vi a0.lost]) 158, backlog_Log.at b8_44 a0.log, reorder_Order.at b9_44 a0.order, clock_Set.at b10_44 a0.timers, row 48 1 (.slice a11_44 a0.out.length c11_44) a0.out.length d11_44, tie (El.sl (El.int .u8)) d11_44 a0.out, row 3 1 (.slice a12_44 a0.inds.length c12_44) a0.inds.length (a0.inds.map (Value.int .i64)), R] w0 w := HS
    obtain ⟨t46, A47, H⟩ := bind_s H
    refine ⟨_, Y.cl func279 (control_Read.calls A47 HS.j0 (rdC.part 7 (rdC.subM hr1 c43) rfl)), ?_⟩
    rintro _ w ⟨rfl, HS⟩
    replace HS := HS.o0
    refine T.nm [(28, Value.tuple #[Value.agg #[vi t46.1.Kind, vi t46.1.Ns, vi t46.1.Nr, vb t46.1.Poll], vi t46.2.1, vi t46.2.2]), (21, Value.tuple #[Value.agg #[vi t46.1.Kind, vi t46.1.Ns, vi t46.1.Nr, vb t46.1.Poll], vi t46.2.1, vi t46.2.2]), (29, Value.agg #[vi t46.1.Kind, vi t46.1.Ns, vi t46.1.Nr, vb t46.1.Poll]), (30, vi t46.2.1), (31, vi t46.2.2)] HS ⟨.inl ⟨rfl, rfl⟩, ⟨.inr ⟨by decide, rfl⟩, ⟨.inr ⟨by decide, rfl⟩, ⟨.inr ⟨by decide, rfl⟩, ⟨.inr ⟨by decide, rfl⟩, tv⟩⟩⟩⟩⟩ ?_
    refine T.ev [] [13, 14] [] tv ⟨.mv 28, .n1 21 rfl rfl (fun w HS => X.extract rfl rfl), .n1 21 rfl rfl (fun w HS => X.extract rfl rfl), .n1 21 rfl rfl (fun w HS => X.extract rfl rfl), tv⟩ rfl (fun w HS => ?_)
    refine ⟨_, Y.alloc (z := Value.agg (#[vi (0), vi (0), vi (0), vb false])) HS ze161, ?_⟩
    rintro _ w ⟨nb48, rfl, HS⟩
    refine T.nw HS ?_
    refine T.ev [(5, _), (29, _)] [] [7, 8] ⟨rfl, rfl, tv⟩ ⟨.mv 28, .n1 21 rfl rfl (fun w HS => X.extract rfl rfl), .n1 21 rfl rfl (fun w HS => X.extract rfl rfl), .n1 21 rfl rfl (fun w HS => X.extract rfl rfl), tv⟩ rfl (fun w HS => ?_)
    refine ⟨_, Y.storeSt (c' := #[vi t46.1.Kind, vi t46.1.Ns, vi t46.1.Nr, vb t46.1.Poll]) 0 [vi t46.1.Kind, vi t46.1.Ns, vi t46.1.Nr, vb t46.1.Poll] HS rfl inf161 rfl rfl rfl rfl rfl rfl, ?_⟩
    rintro _ w HS
    refine T.nm [(6, vi t46.2.1), (7, vi t46.2.2)] HS ⟨.inr ⟨by decide, rfl⟩, ⟨.inr ⟨by decide, rfl⟩, tv⟩⟩ ?_
    refine T.fn [(0, _), (1, _), (4, _), (5, _), (6, _), (7, _)] ⟨rfl, rfl, rfl, rfl, rfl, rfl, tv⟩ ⟨.n1 21 rfl rfl (fun w HS => X.extract rfl rfl), .n1 21 rfl rfl (fun w HS => X.extract rfl rfl), .as 30, .as 31, tv⟩ (fun w HS => ?_)
    replace HS := api_Ctl.close tv HS
    replace HS := HS.pm [1, 2, 3, 4, 5, 6, 7, 0, 8]
    replace HS := arq_Arq.close tv HS
    replace HS := HS.pk [1, 0, 2] []
    exact At.meet (nb48, t46.1, t46.2.1, t46.2.2) ⟨rfl, rfl, rfl, rfl, rfl, rfl, tv⟩ ⟨HS, k, by omega, H⟩
   ·have HS : Sep.St [blk b0 (#[vi a0.m, vi a0.t1, vi a0.n2, vi a0.size, vi a0.state, vi a0.tag, vi a0.tries, vb a0.rejected, pt b8_44, pt b9_44, pt b10_44, vs a11_44 a0.out.length c11_44, vs a12_44 a0.inds.length c12_44, vi a0.sent, vi a0.acked, vi a0.lost]) 158, backlog_Log.at b8_44 a0.log, reorder_Order.at b9_44 a0.order, clock_Set.at b10_44 a0.timers, row 48 1 (.slice a11_44 a0.out.length c11_44) a0.out.length d11_44, tie (El.sl (El.int .u8)) d11_44 a0.out, row 3 1 (.slice a12_44 a0.inds.length c12_44) a0.inds.length (a0.inds.map (Value.int .i64)), R] w0 w := HS
    refine ⟨_, Y.alloc (z := Value.agg (#[vi (0), vi (0), vi (0), vb false])) HS ze161, ?_⟩
    rintro _ w ⟨nb49, rfl, HS⟩
    refine T.nw HS ?_
    refine T.ev [(23, _), (27, _)] [13, 14] [0, 1, 2, 3, 4, 5] ⟨rfl, rfl, tv⟩ ⟨.mv 1, .n1 22 rfl rfl (fun w HS => X.slL underlying48 inf5 rfl rfl c43), .mv 0, .nc 24, .fa 25 fo158_0, .ld 26 1 underlying3, tv⟩ rfl (fun w HS => ?_)
    obtain ⟨t50, A51, H⟩ := bind_s H
    refine ⟨_, Y.cl func279 (control_Read.calls A51 HS.j0 (rdC.part 8 (rdC.subM hr1 c43) rfl)), ?_⟩
    rintro _ w ⟨rfl, HS⟩
    replace HS := HS.o0
    refine T.nm [(28, Value.tuple #[Value.agg #[vi t50.1.Kind, vi t50.1.Ns, vi t50.1.Nr, vb t50.1.Poll], vi t50.2.1, vi t50.2.2]), (21, Value.tuple #[Value.agg #[vi t50.1.Kind, vi t50.1.Ns, vi t50.1.Nr, vb t50.1.Poll], vi t50.2.1, vi t50.2.2]), (29, Value.agg #[vi t50.1.Kind, vi t50.1.Ns, vi t50.1.Nr, vb t50.1.Poll]), (30, vi t50.2.1), (31, vi t50.2.2)] HS ⟨.inl ⟨rfl, rfl⟩, ⟨.inr ⟨by decide, rfl⟩, ⟨.inr ⟨by decide, rfl⟩, ⟨.inr ⟨by decide, rfl⟩, ⟨.inr ⟨by decide, rfl⟩, tv⟩⟩⟩⟩⟩ ?_
    refine T.ev [(5, _), (29, _)] [] [7, 8] ⟨rfl, rfl, tv⟩ ⟨.mv 28, .n1 21 rfl rfl (fun w HS => X.extract rfl rfl), .n1 21 rfl rfl (fun w HS => X.extract rfl rfl), .n1 21 rfl rfl (fun w HS => X.extract rfl rfl), tv⟩ rfl (fun w HS => ?_)
    refine ⟨_, Y.storeSt (c' := #[vi t50.1.Kind, vi t50.1.Ns, vi t50.1.Nr, vb t50.1.Poll]) 0 [vi t50.1.Kind, vi t50.1.Ns, vi t50.1.Nr, vb t50.1.Poll] HS rfl inf161 rfl rfl rfl rfl rfl rfl, ?_⟩
    rintro _ w HS
    refine T.nm [(6, vi t50.2.1), (7, vi t50.2.2)] HS ⟨.inr ⟨by decide, rfl⟩, ⟨.inr ⟨by decide, rfl⟩, tv⟩⟩ ?_
    refine T.fn [(0, _), (1, _), (4, _), (5, _), (6, _), (7, _)] ⟨rfl, rfl, rfl, rfl, rfl, rfl, tv⟩ ⟨.n1 21 rfl rfl (fun w HS => X.extract rfl rfl), .n1 21 rfl rfl (fun w HS => X.extract rfl rfl), .as 30, .as 31, tv⟩ (fun w HS => ?_)
    replace HS := api_Ctl.close tv HS
    replace HS := HS.pm [1, 2, 3, 4, 5, 6, 7, 0, 8]
    replace HS := arq_Arq.close tv HS
    replace HS := HS.pk [1, 0, 2] []
    exact At.meet (nb49, t50.1, t50.2.1, t50.2.2) ⟨rfl, rfl, rfl, rfl, rfl, rfl, tv⟩ ⟨HS, k, by omega, H⟩
  ·rintro ⟨nb7, x8, x9, x10⟩ w ⟨HS, kf11, hkkf11, H⟩
   unfold arq_Arq_Input.j0 at H
   refine V.seq (V.seq (V.region (W.mv rfl (W.r (X.cmp (!(decide (x10 = 0))) rfl rfl rfl rfl) rfl (W.nx ?_)))))
   by_cases c13 : x10 = 0
   ·replace H := ite_t c13 H
    refine V.condF (sb (n_t (dT c13))) (V.skip (At.next (V.seq (V.region ?_))))
    obtain ⟨hi15, HS⟩ := api_Ctl.open HS
    refine W.fa fo161_0 rfl (W.ld 0 HS underlying3 rfl rfl rfl rfl (W.nx (V.block (V.seq (V.region (W.r (X.cmp (decide (x8.Kind = 3)) rfl rfl rfl rfl) rfl (W.as rfl (W.nx ?_))))))))
    by_cases c16 : x8.Kind = 3
    ·replace H := ite_t c16 H
     refine V.condT (sb (dT c16)) (V.region (W.mv rfl (W.mv rfl (W.fa fo161_3 rfl (W.ld 0 HS underlying4 rfl rfl rfl rfl ?_)))))
     obtain ⟨t17, A18, H⟩ := bind_s H
     replace HS := HS.pm [1, 0, 2]
     refine W.e (Y.cl func280 (arq_Arq_asked.calls A18 HS.j1)) rfl ?_
     rintro _ w ⟨rfl, HS⟩
     replace HS := HS.o1
     refine W.nil (At.blockEnd ?_)
     replace HS := HS.pk [0, 2] [1]
     cases H
     exact At.end0 rfl ⟨_, rfl, rfl, HS⟩
    ·replace H := ite_f c16 H
     refine V.condF (sb (dF c16)) (V.seq (V.region (W.r (X.cmp (decide (x8.Kind = 4)) rfl rfl rfl rfl) rfl (W.as rfl (W.nx ?_)))))
     by_cases c19 : x8.Kind = 4
     ·replace H := ite_t c19 H
      refine V.condT (sb (dT c19)) (V.seq (V.region (W.mv rfl (W.mv rfl (W.nc rfl ?_)))))
      replace HS := HS.fr 1
      obtain ⟨b8_20, b9_20, b10_20, a11_20, c11_20, d11_20, a12_20, c12_20, hi21, HS⟩ := arq_Arq.open HS
      refine W.fa fo158_5 rfl (W.ld 0 HS underlying3 rfl rfl rfl rfl (W.r (X.cmp (decide ((ior .i64 (w64 ((w64 (a1.getD (0 : Int).toNat 0)) * 2 ^ (min (8 : Int).toNat IntKind.i64.bits))) (w64 (a1.getD (1 : Int).toNat 0))) = a0.tag)) rfl rfl rfl rfl) rfl (W.nx ?_)))
      by_cases c22 : (ior .i64 (w64 ((w64 (a1.getD (0 : Int).toNat 0)) * 2 ^ (min (8 : Int).toNat IntKind.i64.bits))) (w64 (a1.getD (1 : Int).toNat 0))) = a0.tag
      ·replace H := ite_t c22 H
       refine V.condT (sb (dT c22)) (V.region (W.mv rfl ?_))
       replace HS := arq_Arq.close tv HS
       obtain ⟨t23, A24, H⟩ := bind_s H
       refine W.e (Y.cl func281 (arq_Arq_accepted.calls A24 HS.j1)) rfl ?_
       rintro _ w ⟨rfl, HS⟩
       replace HS := HS.o1
       refine W.nil (At.blockEnd ?_)
       replace HS := HS.pk [0, 2] [1]
       cases H
       exact At.end0 rfl ⟨_, rfl, rfl, HS⟩
      ·replace H := ite_f c22 H
       refine V.condF (sb (dF c22)) (V.skip (At.blockEnd ?_))
       replace HS := arq_Arq.close tv HS
       replace HS := HS.pk [0, 2] [1]
       cases H
       exact At.end0 rfl ⟨_, rfl, rfl, HS⟩
     ·replace H := ite_f c19 H
      refine V.condF (sb (dF c19)) (V.seq (V.region (W.r (X.cmp (decide (x8.Kind = 5)) rfl rfl rfl rfl) rfl (W.as rfl (W.nx ?_)))))
      by_cases c25 : x8.Kind = 5
      ·replace H := ite_t c25 H
       refine V.condT (sb (dT c25)) (V.region (W.mv rfl (W.mv rfl (W.fa fo161_3 rfl (W.ld 0 HS underlying4 rfl rfl rfl rfl ?_)))))
       obtain ⟨t26, A27, H⟩ := bind_s H
       replace HS := HS.pm [1, 0, 2]
       refine W.e (Y.cl func282 (arq_Arq_closed.calls A27 HS.j1)) rfl ?_
       rintro _ w ⟨rfl, HS⟩
       replace HS := HS.o1
       refine W.nil (At.blockEnd ?_)
       replace HS := HS.pk [0, 2] [1]
       cases H
       exact At.end0 rfl ⟨_, rfl, rfl, HS⟩
      ·replace H := ite_f c25 H
       refine V.condF (sb (dF c25)) (V.seq (V.region (W.r (X.cmp (decide (x8.Kind = 6)) rfl rfl rfl rfl) rfl (W.as rfl (W.nx ?_)))))
       by_cases c28 : x8.Kind = 6
       ·replace H := ite_t c28 H
        refine V.condT (sb (dT c28)) (V.region (W.mv rfl (W.mv rfl ?_)))
        obtain ⟨t29, A30, H⟩ := bind_s H
        replace HS := HS.pm [1, 0, 2]
        refine W.e (Y.cl func283 (arq_Arq_refused.calls A30 HS.j1)) rfl ?_
        rintro _ w ⟨rfl, HS⟩
        replace HS := HS.o1
        refine W.nil (At.blockEnd ?_)
        replace HS := HS.pk [0, 2] [1]
        cases H
        exact At.end0 rfl ⟨_, rfl, rfl, HS⟩
       ·replace H := ite_f c28 H
        refine V.condF (sb (dF c28)) (V.seq (V.region (W.r (X.cmp (decide (x8.Kind = 7)) rfl rfl rfl rfl) rfl (W.as rfl (W.nx ?_)))))
        by_cases c31 : x8.Kind = 7
        ·replace H := ite_t c31 H
         refine V.condT (sb (dT c31)) (V.meet (σ := Bool) (fun st w => match st with | x32 => Sep.St [api_Ctl.at nb7 x8, arq_Arq.at b0 a0, R] w0 w ∧ arq_Arq_Input.j1 a0 x32 = some r) (fun st => match st with | x32 => [(0, pt b0), (87, vb x32)]) ?_ ?_)
         ·refine V.region (W.mv rfl (W.mv rfl (W.nc rfl ?_)))
          replace HS := HS.fr 1
          obtain ⟨b8_37, b9_37, b10_37, a11_37, c11_37, d11_37, a12_37, c12_37, hi38, HS⟩ := arq_Arq.open HS
          refine W.fa fo158_5 rfl (W.ld 0 HS underlying3 rfl rfl rfl rfl (W.r (X.cmp (decide ((ior .i64 (w64 ((w64 (a1.getD (0 : Int).toNat 0)) * 2 ^ (min (8 : Int).toNat IntKind.i64.bits))) (w64 (a1.getD (1 : Int).toNat 0))) = a0.tag)) rfl rfl rfl rfl) rfl (W.mv rfl ?_)))
          by_cases c39 : (ior .i64 (w64 ((w64 (a1.getD (0 : Int).toNat 0)) * 2 ^ (min (8 : Int).toNat IntKind.i64.bits))) (w64 (a1.getD (1 : Int).toNat 0))) = a0.tag
          ·replace H := ite_t c39 H
           refine W.want 81 rfl (sb (dT c39)) (W.mv rfl (W.want 81 rfl (sb (dT c39)) (W.nc rfl (W.want 81 rfl (sb (dT c39)) (W.fa fo158_4 rfl (W.want 81 rfl (sb (dT c39)) (W.ld 0 HS underlying3 rfl rfl rfl rfl (W.want 81 rfl (sb (dT c39)) (W.r (X.cmp (decide (a0.state = 2)) rfl rfl rfl rfl) rfl (W.r (X.pickT (sb (dT c39)) rfl) rfl (W.nil ?_)))))))))))
           replace HS := HS.pm [7, 0, 1, 2, 3, 4, 5, 6, 8]
           replace HS := api_Ctl.close tv HS
           replace HS := HS.pm [1, 2, 3, 4, 5, 6, 7, 0, 8]
           replace HS := arq_Arq.close tv HS
           replace HS := HS.pk [1, 0, 2] []
           exact At.meet (decide (a0.state = 2)) ⟨rfl, rfl, tv⟩ ⟨HS, H⟩
          ·replace H := ite_f c39 H
           refine W.pass 81 rfl (sb (dF c39)) rfl rfl (W.pass 81 rfl (sb (dF c39)) rfl rfl (W.pass 81 rfl (sb (dF c39)) rfl rfl (W.pass 81 rfl (sb (dF c39)) rfl rfl (W.pass 81 rfl (sb (dF c39)) rfl rfl (W.r (X.pickF (sb (dF c39)) rfl) rfl (W.nil ?_))))))
           replace HS := HS.pm [7, 0, 1, 2, 3, 4, 5, 6, 8]
           replace HS := api_Ctl.close tv HS
           replace HS := HS.pm [1, 2, 3, 4, 5, 6, 7, 0, 8]
           replace HS := arq_Arq.close tv HS
           replace HS := HS.pk [1, 0, 2] []
           exact At.meet false ⟨rfl, rfl, tv⟩ ⟨HS, H⟩
         ·rintro x32 w ⟨HS, H⟩
          unfold arq_Arq_Input.j1 at H
          by_cases c34 : x32 = true
          ·replace H := ite_t c34 H
           refine V.condT (sb c34) (V.region (W.mv rfl ?_))
           obtain ⟨t35, A36, H⟩ := bind_s H
           replace HS := HS.pm [1, 0, 2]
           refine W.e (Y.cl func236 (arq_Arq_end.calls A36 HS.j1)) rfl ?_
           rintro _ w ⟨rfl, HS⟩
           replace HS := HS.o1
           refine W.nil (At.blockEnd ?_)
           replace HS := HS.pk [0, 2] [1]
           cases H
           exact At.end0 rfl ⟨_, rfl, rfl, HS⟩
          ·replace H := ite_f c34 H
           refine V.condF (sb (b_f c34)) (V.skip (At.blockEnd ?_))
           replace HS := HS.pk [1, 2] [0]
           cases H
           exact At.end0 rfl ⟨_, rfl, rfl, HS⟩
        ·replace H := ite_f c31 H
         refine V.condF (sb (dF c31)) ?_
         obtain ⟨c40, H⟩ := ite_n H
         refine V.dr [7] [] [(36, pt b0), (37, vi (ior .i64 (w64 ((w64 (a1.getD (0 : Int).toNat 0)) * 2 ^ (min (8 : Int).toNat IntKind.i64.bits))) (w64 (a1.getD (1 : Int).toNat 0)))), (38, Value.agg #[vi x8.Kind, vi x8.Ns, vi x8.Nr, vb x8.Poll]), (39, vs (some ⟨eb4, eo5, none⟩) a1.length sc1), (40, vi x9), (41, vi (w64 (2 + x9))), (42, vs (vaddr (some ⟨eb4, eo5, none⟩) sc1 (w64 (2 + x9)).toNat 1) (cut a1 (w64 (2 + x9)) (a1.length : Int)).length (sc1 - (w64 (2 + x9)).toNat))] mo HS ?_
         refine T.ev [(36, _), (37, _), (38, _), (42, _)] [] [0, 1, 2, 3, 4, 5, 6] ⟨rfl, rfl, rfl, rfl, tv⟩ ⟨.mv 0, .mv 4, .n1 5 rfl rfl (fun w HS => X.loadSt 0 [vi x8.Kind, vi x8.Ns, vi x8.Nr, vb x8.Poll] HS rfl underlying161 rfl inf161 rfl rfl), .mv 1, .mv 6, .n1 40 rfl rfl (fun w HS => X.add rfl rfl), .n2 39 41 rfl rfl rfl (fun w HS => X.slL underlying48 inf5 rfl rfl c40), tv⟩ rfl (fun w HS => ?_)
         obtain ⟨t41, A42, H⟩ := bind_s H
         replace HS := HS.pm [1, 0, 2]
         refine ⟨_, Y.cl func284 (arq_Arq_numbered.calls A42 HS.j1 (rdC.part 1 (rdC.subM hr1 c40) rfl)), ?_⟩
         rintro _ w ⟨rfl, HS⟩
         replace HS := HS.o1
         refine T.nw HS ?_
         refine T.fn [] tv tv (fun w HS => ?_)
         refine At.blockEnd ?_
         replace HS := HS.pk [0, 2] [1]
         cases H
         exact At.end0 rfl ⟨_, rfl, rfl, HS⟩
   ·replace H := ite_f c13 H
    refine V.condT (sb (n_f (dF c13))) (V.ret (At.thenRet ?_))
    replace HS := HS.pk [1, 2] [0]
    cases H
    exact At.ret0 rfl ⟨_, rfl, rfl, HS⟩
mutual
def kcode_Read.j0 (a0 : List Int) (x5 : Bool) : Option (Int × Int × Int) := (if x5 = true then some (0, 0, 2) else some (w64 ((w64 (a0.getD (0 : Int).toNat 0)).tdiv (16)), (w64 (a0.getD (0 : Int).toNat 0)).tmod (16), 0))
end
def kcode_Read.f (a0 : List Int) : Option (Int × Int × Int) := (if (a0.length : Int) < 2 then some (0, 0, 3) else (if 0 ≤ (0 : Int) ∧ (0 : Int) < (a0.length : Int) then (if (a0.length : Int) > 2 then (kcode_Read.j0 a0 true) else (if 0 ≤ (1 : Int) ∧ (1 : Int) < (a0.length : Int) then (if (a0.getD (1 : Int).toNat 0) = (icom .u8 (a0.getD (0 : Int).toNat 0)) then (if (w64 ((w64 (a0.getD (0 : Int).toNat 0)).tdiv (16))) > 8 then (kcode_Read.j0 a0 true) else (kcode_Read.j0 a0 (decide (((w64 (a0.getD (0 : Int).toNat 0)).tmod (16)) > 1)))) else (kcode_Read.j0 a0 true)) else none)) else none))
theorem kcode_Read.calls {a0 : List Int} {R : As} {w0 w : World} {sa0 : Option Addr} {sc0 : Nat} {r : Int × Int × Int} (H : kcode_Read.f a0 = some r) (HS : Sep.St [R] w0 w) (hr0 : rdC R 1 (.slice sa0 a0.length sc0) a0.length (a0.map (Value.int .u8))) : Calls Tryz.prog 247 #[vs sa0 a0.length sc0] w (Ret fun u w => u = Value.tuple #[vi r.1, vi r.2.1, vi r.2.2] ∧ Sep.St [R] w0 w) := by
 unfold kcode_Read.f at H
 refine calls_enter func247 rfl rfl ?_
 have H : _ = some r := H
 refine V.seq (V.region (W.as rfl (W.as rfl (W.as rfl (W.nx (V.seq (V.seq (V.region (W.mv rfl (W.r (X.lenSl underlying48 rfl) rfl (W.r (X.cmp (decide ((a0.length : Int) < 2)) rfl rfl rfl rfl) rfl (W.nx ?_))))))))))))
 by_cases c1 : (a0.length : Int) < 2
 ·replace H := ite_t c1 H
  refine V.condT (sb (dT c1)) (V.seq (V.region (W.as rfl (W.as rfl (W.as rfl (W.nx (V.ret (At.thenRet ?_))))))))
  cases H
  exact At.ret3 rfl rfl rfl rfl ⟨_, rfl, rfl, HS⟩
 ·replace H := ite_f c1 H
  refine V.condF (sb (dF c1)) (V.skip (At.next (V.seq ?_)))
  obtain ⟨c2, H⟩ := ite_n H
  obtain ⟨eb3, eo4, hh⟩ := (rdC.at 0 hr0 HS rfl).some (by decide) c2.1 c2.2; subst hh
  refine V.dr [] [] [(10, vs (some ⟨eb3, eo4, none⟩) a0.length sc0), (11, po eb3 (eo4 + (0 : Int).toNat * 1)), (12, Value.int .u8 (a0.getD (0 : Int).toNat 0)), (13, vi (w64 (a0.getD (0 : Int).toNat 0))), (14, vi (w64 ((w64 (a0.getD (0 : Int).toNat 0)).tdiv (16)))), (15, vs (some ⟨eb3, eo4, none⟩) a0.length sc0), (16, po eb3 (eo4 + (0 : Int).toNat * 1)), (17, Value.int .u8 (a0.getD (0 : Int).toNat 0)), (18, vi (w64 (a0.getD (0 : Int).toNat 0))), (19, vi ((w64 (a0.getD (0 : Int).toNat 0)).tmod (16))), (5, vi (w64 ((w64 (a0.getD (0 : Int).toNat 0)).tdiv (16)))), (6, vi ((w64 (a0.getD (0 : Int).toNat 0)).tmod (16)))] mo HS ?_
  refine T.fn [(0, _), (5, _), (6, _)] ⟨rfl, rfl, rfl, tv⟩ ⟨.mv 0, .n1 10 rfl rfl (fun w HS => X.indexSl underlying48 inf5 rfl rfl c2.1 c2.2), .n1 11 rfl rfl (fun w HS => X.load underlying5 rfl rfl ((rdC.at 0 hr0 HS rfl).cellI c2.1 c2.2)), .n1 12 rfl rfl (fun w HS => X.conv underlying5 underlying3 rfl), .n1 13 rfl rfl (fun w HS => X.quo rfl rfl (by decide)), .mv 0, .n1 15 rfl rfl (fun w HS => X.indexSl underlying48 inf5 rfl rfl c2.1 c2.2), .n1 16 rfl rfl (fun w HS => X.load underlying5 rfl rfl ((rdC.at 0 hr0 HS rfl).cellI c2.1 c2.2)), .n1 17 rfl rfl (fun w HS => X.conv underlying5 underlying3 rfl), .n1 18 rfl rfl (fun w HS => X.rem rfl rfl (by decide)), .as 14, .as 19, tv⟩ (fun w HS => ?_)
  refine At.next (V.seq (V.meet (σ := Bool) (fun st w => match st with | x5 => Sep.St [R] w0 w ∧ kcode_Read.j0 a0 x5 = some r) (fun st => match st with | x5 => [(5, vi (w64 ((w64 (a0.getD (0 : Int).toNat 0)).tdiv (16)))), (6, vi ((w64 (a0.getD (0 : Int).toNat 0)).tmod (16))), (40, vb x5)]) ?_ ?_))
  ·by_cases c8 : (a0.length : Int) > 2
   ·replace H := ite_t c8 H
    refine V.dr [] [] [(20, vs (some ⟨eb3, eo4, none⟩) a0.length sc0), (21, vi (a0.length : Int)), (22, vb (decide ((a0.length : Int) > 2))), (23, vb (decide ((a0.length : Int) > 2))), (24, undef), (25, undef), (26, undef), (27, undef), (28, undef), (29, undef), (30, undef), (31, undef), (32, vb true), (33, vb true), (34, undef), (35, undef), (36, vb true), (37, vb true), (38, undef), (39, undef), (40, vb true)] mo HS ?_
    refine T.fn [(5, _), (6, _), (40, _)] ⟨rfl, rfl, rfl, tv⟩ ⟨.mv 0, .n1 20 rfl rfl (fun w HS => X.lenSl underlying48 rfl), .n1 21 rfl rfl (fun w HS => X.cmp (decide ((a0.length : Int) > 2)) rfl rfl rfl rfl), .mv 22, .gp 3 false true 23 rfl rfl (Option.some.inj (sb (dT c8))) rfl, .gp 3 false true 23 rfl rfl (Option.some.inj (sb (dT c8))) rfl, .gp 3 false true 23 rfl rfl (Option.some.inj (sb (dT c8))) rfl, .gp 3 false true 23 rfl rfl (Option.some.inj (sb (dT c8))) rfl, .gp 3 false true 23 rfl rfl (Option.some.inj (sb (dT c8))) rfl, .gp 3 false true 23 rfl rfl (Option.some.inj (sb (dT c8))) rfl, .gp 3 false true 23 rfl rfl (Option.some.inj (sb (dT c8))) rfl, .gp 3 false true 23 rfl rfl (Option.some.inj (sb (dT c8))) rfl, .n2 23 31 rfl rfl rfl (fun w HS => X.pickT (sb (dT c8)) rfl), .mv 32, .gp 13 false true 33 rfl rfl rfl rfl, .gp 13 false true 33 rfl rfl rfl rfl, .n2 33 35 rfl rfl rfl (fun w HS => X.pickT rfl rfl), .mv 36, .gp 17 false true 37 rfl rfl rfl rfl, .gp 17 false true 37 rfl rfl rfl rfl, .n2 37 39 rfl rfl rfl (fun w HS => X.pickT rfl rfl), tv⟩ (fun w HS => ?_)
    exact At.meet true ⟨rfl, rfl, rfl, tv⟩ ⟨HS, H⟩
   ·replace H := ite_f c8 H
    obtain ⟨c9, H⟩ := ite_n H
    by_cases c10 : (a0.getD (1 : Int).toNat 0) = (icom .u8 (a0.getD (0 : Int).toNat 0))
    ·replace H := ite_t c10 H
     by_cases c11 : (w64 ((w64 (a0.getD (0 : Int).toNat 0)).tdiv (16))) > 8
     ·replace H := ite_t c11 H
      refine V.dr [] [] [(20, vs (some ⟨eb3, eo4, none⟩) a0.length sc0), (21, vi (a0.length : Int)), (22, vb (decide ((a0.length : Int) > 2))), (23, vb (decide ((a0.length : Int) > 2))), (24, vs (some ⟨eb3, eo4, none⟩) a0.length sc0), (25, po eb3 (eo4 + (1 : Int).toNat * 1)), (26, Value.int .u8 (a0.getD (1 : Int).toNat 0)), (27, vs (some ⟨eb3, eo4, none⟩) a0.length sc0), (28, po eb3 (eo4 + (0 : Int).toNat * 1)), (29, Value.int .u8 (a0.getD (0 : Int).toNat 0)), (30, Value.int .u8 (icom .u8 (a0.getD (0 : Int).toNat 0))), (31, vb (!(decide ((a0.getD (1 : Int).toNat 0) = (icom .u8 (a0.getD (0 : Int).toNat 0)))))), (32, vb (!(decide ((a0.getD (1 : Int).toNat 0) = (icom .u8 (a0.getD (0 : Int).toNat 0)))))), (33, vb (!(decide ((a0.getD (1 : Int).toNat 0) = (icom .u8 (a0.getD (0 : Int).toNat 0)))))), (34, vi (w64 ((w64 (a0.getD (0 : Int).toNat 0)).tdiv (16)))), (35, vb (decide ((w64 ((w64 (a0.getD (0 : Int).toNat 0)).tdiv (16))) > 8))), (36, vb (decide ((w64 ((w64 (a0.getD (0 : Int).toNat 0)).tdiv (16))) > 8))), (37, vb (decide ((w64 ((w64 (a0.getD (0 : Int).toNat 0)).tdiv (16))) > 8))), (38, undef), (39, undef), (40, vb true)] mo HS ?_
      refine T.fn [(5, _), (6, _), (40, _)] ⟨rfl, rfl, rfl, tv⟩ ⟨.mv 0, .n1 20 rfl rfl (fun w HS => X.lenSl underlying48 rfl), .n1 21 rfl rfl (fun w HS => X.cmp (decide ((a0.length : Int) > 2)) rfl rfl rfl rfl), .mv 22, .gw [(0, _), (23, _)] 3 false 23 ⟨rfl, rfl, tv⟩ rfl (sb (dF c8)) (fun w HS => X.move rfl), .gw [(24, _), (23, _)] 3 false 23 ⟨rfl, rfl, tv⟩ rfl (sb (dF c8)) (fun w HS => X.indexSl underlying48 inf5 rfl rfl c9.1 c9.2), .gw [(25, _), (23, _)] 3 false 23 ⟨rfl, rfl, tv⟩ rfl (sb (dF c8)) (fun w HS => X.load underlying5 rfl rfl ((rdC.at 0 hr0 HS rfl).cellI c9.1 c9.2)), .gw [(0, _), (23, _)] 3 false 23 ⟨rfl, rfl, tv⟩ rfl (sb (dF c8)) (fun w HS => X.move rfl), .gw [(27, _), (23, _)] 3 false 23 ⟨rfl, rfl, tv⟩ rfl (sb (dF c8)) (fun w HS => X.indexSl underlying48 inf5 rfl rfl c2.1 c2.2), .gw [(28, _), (23, _)] 3 false 23 ⟨rfl, rfl, tv⟩ rfl (sb (dF c8)) (fun w HS => X.load underlying5 rfl rfl ((rdC.at 0 hr0 HS rfl).cellI c2.1 c2.2)), .gw [(29, _), (23, _)] 3 false 23 ⟨rfl, rfl, tv⟩ rfl (sb (dF c8)) (fun w HS => X.com rfl), .gw [(26, _), (30, _), (23, _)] 3 false 23 ⟨rfl, rfl, rfl, tv⟩ rfl (sb (dF c8)) (fun w HS => X.cmp (!(decide ((a0.getD (1 : Int).toNat 0) = (icom .u8 (a0.getD (0 : Int).toNat 0))))) rfl rfl rfl rfl), .n2 23 31 rfl rfl rfl (fun w HS => X.pickF (sb (dF c8)) rfl), .mv 32, .gw [(5, _), (33, _)] 13 false 33 ⟨rfl, rfl, tv⟩ rfl (sb (n_t (dT c10))) (fun w HS => X.move rfl), .gw [(34, _), (33, _)] 13 false 33 ⟨rfl, rfl, tv⟩ rfl (sb (n_t (dT c10))) (fun w HS => X.cmp (decide ((w64 ((w64 (a0.getD (0 : Int).toNat 0)).tdiv (16))) > 8)) rfl rfl rfl rfl), .n2 33 35 rfl rfl rfl (fun w HS => X.pickF (sb (n_t (dT c10))) rfl), .mv 36, .gp 17 false true 37 rfl rfl (Option.some.inj (sb (dT c11))) rfl, .gp 17 false true 37 rfl rfl (Option.some.inj (sb (dT c11))) rfl, .n2 37 39 rfl rfl rfl (fun w HS => X.pickT (sb (dT c11)) rfl), tv⟩ (fun w HS => ?_)
      exact At.meet true ⟨rfl, rfl, rfl, tv⟩ ⟨HS, H⟩
     ·replace H := ite_f c11 H
      refine V.dr [] [] [(20, vs (some ⟨eb3, eo4, none⟩) a0.length sc0), (21, vi (a0.length : Int)), (22, vb (decide ((a0.length : Int) > 2))), (23, vb (decide ((a0.length : Int) > 2))), (24, vs (some ⟨eb3, eo4, none⟩) a0.length sc0), (25, po eb3 (eo4 + (1 : Int).toNat * 1)), (26, Value.int .u8 (a0.getD (1 : Int).toNat 0)), (27, vs (some ⟨eb3, eo4, none⟩) a0.length sc0), (28, po eb3 (eo4 + (0 : Int).toNat * 1)), (29, Value.int .u8 (a0.getD (0 : Int).toNat 0)), (30, Value.int .u8 (icom .u8 (a0.getD (0 : Int).toNat 0))), (31, vb (!(decide ((a0.getD (1 : Int).toNat 0) = (icom .u8 (a0.getD (0 : Int).toNat 0)))))), (32, vb (!(decide ((a0.getD (1 : Int).toNat 0) = (icom .u8 (a0.getD (0 : Int).toNat 0)))))), (33, vb (!(decide ((a0.getD (1 : Int).toNat 0) = (icom .u8 (a0.getD (0 : Int).toNat 0)))))), (34, vi (w64 ((w64 (a0.getD (0 : Int).toNat 0)).tdiv (16)))), (35, vb (decide ((w64 ((w64 (a0.getD (0 : Int).toNat 0)).tdiv (16))) > 8))), (36, vb (decide ((w64 ((w64 (a0.getD (0 : Int).toNat 0)).tdiv (16))) > 8))), (37, vb (decide ((w64 ((w64 (a0.getD (0 : Int).toNat 0)).tdiv (16))) > 8))), (38, vi ((w64 (a0.getD (0 : Int).toNat 0)).tmod (16))), (39, vb (decide (((w64 (a0.getD (0 : Int).toNat 0)).tmod (16)) > 1))), (40, vb (decide (((w64 (a0.getD (0 : Int).toNat 0)).tmod (16)) > 1)))] mo HS ?_
      refine T.fn [(5, _), (6, _), (40, _)] ⟨rfl, rfl, rfl, tv⟩ ⟨.mv 0, .n1 20 rfl rfl (fun w HS => X.lenSl underlying48 rfl), .n1 21 rfl rfl (fun w HS => X.cmp (decide ((a0.length : Int) > 2)) rfl rfl rfl rfl), .mv 22, .gw [(0, _), (23, _)] 3 false 23 ⟨rfl, rfl, tv⟩ rfl (sb (dF c8)) (fun w HS => X.move rfl), .gw [(24, _), (23, _)] 3 false 23 ⟨rfl, rfl, tv⟩ rfl (sb (dF c8)) (fun w HS => X.indexSl underlying48 inf5 rfl rfl c9.1 c9.2), .gw [(25, _), (23, _)] 3 false 23 ⟨rfl, rfl, tv⟩ rfl (sb (dF c8)) (fun w HS => X.load underlying5 rfl rfl ((rdC.at 0 hr0 HS rfl).cellI c9.1 c9.2)), .gw [(0, _), (23, _)] 3 false 23 ⟨rfl, rfl, tv⟩ rfl (sb (dF c8)) (fun w HS => X.move rfl), .gw [(27, _), (23, _)] 3 false 23 ⟨rfl, rfl, tv⟩ rfl (sb (dF c8)) (fun w HS => X.indexSl underlying48 inf5 rfl rfl c2.1 c2.2), .gw [(28, _), (23, _)] 3 false 23 ⟨rfl, rfl, tv⟩ rfl (sb (dF c8)) (fun w HS => X.load underlying5 rfl rfl ((rdC.at 0 hr0 HS rfl).cellI c2.1 c2.2)), .gw [(29, _), (23, _)] 3 false 23 ⟨rfl, rfl, tv⟩ rfl (sb (dF c8)) (fun w HS => X.com rfl), .gw [(26, _), (30, _), (23, _)] 3 false 23 ⟨rfl, rfl, rfl, tv⟩ rfl (sb (dF c8)) (fun w HS => X.cmp (!(decide ((a0.getD (1 : Int).toNat 0) = (icom .u8 (a0.getD (0 : Int).toNat 0))))) rfl rfl rfl rfl), .n2 23 31 rfl rfl rfl (fun w HS => X.pickF (sb (dF c8)) rfl), .mv 32, .gw [(5, _), (33, _)] 13 false 33 ⟨rfl, rfl, tv⟩ rfl (sb (n_t (dT c10))) (fun w HS => X.move rfl), .gw [(34, _), (33, _)] 13 false 33 ⟨rfl, rfl, tv⟩ rfl (sb (n_t (dT c10))) (fun w HS => X.cmp (decide ((w64 ((w64 (a0.getD (0 : Int).toNat 0)).tdiv (16))) > 8)) rfl rfl rfl rfl), .n2 33 35 rfl rfl rfl (fun w HS => X.pickF (sb (n_t (dT c10))) rfl), .mv 36, .gw [(6, _), (37, _)] 17 false 37 ⟨rfl, rfl, tv⟩ rfl (sb (dF c11)) (fun w HS => X.move rfl), .gw [(38, _), (37, _)] 17 false 37 ⟨rfl, rfl, tv⟩ rfl (sb (dF c11)) (fun w HS => X.cmp (decide (((w64 (a0.getD (0 : Int).toNat 0)).tmod (16)) > 1)) rfl rfl rfl rfl), .n2 37 39 rfl rfl rfl (fun w HS => X.pickF (sb (dF c11)) rfl), tv⟩ (fun w HS => ?_)
      exact At.meet (decide (((w64 (a0.getD (0 : Int).toNat 0)).tmod (16)) > 1)) ⟨rfl, rfl, rfl, tv⟩ ⟨HS, H⟩
    ·replace H := ite_f c10 H
     refine V.dr [] [] [(20, vs (some ⟨eb3, eo4, none⟩) a0.length sc0), (21, vi (a0.length : Int)), (22, vb (decide ((a0.length : Int) > 2))), (23, vb (decide ((a0.length : Int) > 2))), (24, vs (some ⟨eb3, eo4, none⟩) a0.length sc0), (25, po eb3 (eo4 + (1 : Int).toNat * 1)), (26, Value.int .u8 (a0.getD (1 : Int).toNat 0)), (27, vs (some ⟨eb3, eo4, none⟩) a0.length sc0), (28, po eb3 (eo4 + (0 : Int).toNat * 1)), (29, Value.int .u8 (a0.getD (0 : Int).toNat 0)), (30, Value.int .u8 (icom .u8 (a0.getD (0 : Int).toNat 0))), (31, vb (!(decide ((a0.getD (1 : Int).toNat 0) = (icom .u8 (a0.getD (0 : Int).toNat 0)))))), (32, vb (!(decide ((a0.getD (1 : Int).toNat 0) = (icom .u8 (a0.getD (0 : Int).toNat 0)))))), (33, vb (!(decide ((a0.getD (1 : Int).toNat 0) = (icom .u8 (a0.getD (0 : Int).toNat 0)))))), (34, undef), (35, undef), (36, vb true), (37, vb true), (38, undef), (39, undef), (40, vb true)] mo HS ?_
     refine T.fn [(5, _), (6, _), (40, _)] ⟨rfl, rfl, rfl, tv⟩ ⟨.mv 0, .n1 20 rfl rfl (fun w HS => X.lenSl underlying48 rfl), .n1 21 rfl rfl (fun w HS => X.cmp (decide ((a0.length : Int) > 2)) rfl rfl rfl rfl), .mv 22, .gw [(0, _), (23, _)] 3 false 23 ⟨rfl, rfl, tv⟩ rfl (sb (dF c8)) (fun w HS => X.move rfl), .gw [(24, _), (23, _)] 3 false 23 ⟨rfl, rfl, tv⟩ rfl (sb (dF c8)) (fun w HS => X.indexSl underlying48 inf5 rfl rfl c9.1 c9.2), .gw [(25, _), (23, _)] 3 false 23 ⟨rfl, rfl, tv⟩ rfl (sb (dF c8)) (fun w HS => X.load underlying5 rfl rfl ((rdC.at 0 hr0 HS rfl).cellI c9.1 c9.2)), .gw [(0, _), (23, _)] 3 false 23 ⟨rfl, rfl, tv⟩ rfl (sb (dF c8)) (fun w HS => X.move rfl), .gw [(27, _), (23, _)] 3 false 23 ⟨rfl, rfl, tv⟩ rfl (sb (dF c8)) (fun w HS => X.indexSl underlying48 inf5 rfl rfl c2.1 c2.2), .gw [(28, _), (23, _)] 3 false 23 ⟨rfl, rfl, tv⟩ rfl (sb (dF c8)) (fun w HS => X.load underlying5 rfl rfl ((rdC.at 0 hr0 HS rfl).cellI c2.1 c2.2)), .gw [(29, _), (23, _)] 3 false 23 ⟨rfl, rfl, tv⟩ rfl (sb (dF c8)) (fun w HS => X.com rfl), .gw [(26, _), (30, _), (23, _)] 3 false 23 ⟨rfl, rfl, rfl, tv⟩ rfl (sb (dF c8)) (fun w HS => X.cmp (!(decide ((a0.getD (1 : Int).toNat 0) = (icom .u8 (a0.getD (0 : Int).toNat 0))))) rfl rfl rfl rfl), .n2 23 31 rfl rfl rfl (fun w HS => X.pickF (sb (dF c8)) rfl), .mv 32, .gp 13 false true 33 rfl rfl (Option.some.inj (sb (n_f (dF c10)))) rfl, .gp 13 false true 33 rfl rfl (Option.some.inj (sb (n_f (dF c10)))) rfl, .n2 33 35 rfl rfl rfl (fun w HS => X.pickT (sb (n_f (dF c10))) rfl), .mv 36, .gp 17 false true 37 rfl rfl rfl rfl, .gp 17 false true 37 rfl rfl rfl rfl, .n2 37 39 rfl rfl rfl (fun w HS => X.pickT rfl rfl), tv⟩ (fun w HS => ?_)
     exact At.meet true ⟨rfl, rfl, rfl, tv⟩ ⟨HS, H⟩
  ·rintro x5 w ⟨HS, H⟩
   unfold kcode_Read.j0 at H
   by_cases c7 : x5 = true
   ·replace H := ite_t c7 H
    refine V.condT (sb c7) (V.seq (V.region (W.as rfl (W.as rfl (W.as rfl (W.nx (V.ret (At.thenRet ?_))))))))
    cases H
    exact At.ret3 rfl rfl rfl rfl ⟨_, rfl, rfl, HS⟩
   ·replace H := ite_f c7 H
    refine V.condF (sb (b_f c7)) (V.skip (At.next (V.seq (V.region (W.mv rfl (W.mv rfl (W.as rfl (W.as rfl (W.as rfl (W.nx (V.ret ?_)))))))))))
    cases H
    exact At.ret3 rfl rfl rfl rfl ⟨_, rfl, rfl, HS⟩
def aps_Aps_Remote.f (a0 : aps_Aps) (a1 : Int) : Option aps_Aps := ((request_Of.f a1).bind fun t1 => some ({ a0 with remote := t1 } : aps_Aps))
theorem aps_Aps_Remote.calls {a0 : aps_Aps} {a1 : Int} {R : As} {w0 w : World} {b0 : Nat} {r : aps_Aps} (H : aps_Aps_Remote.f a0 a1 = some r) (HS : Sep.St [aps_Aps.at b0 a0, R] w0 w)  : Calls Tryz.prog 248 #[pt b0, vi a1] w (Ret fun u w => u = Value.tuple #[] ∧ Sep.St [aps_Aps.at b0 r, R] w0 w) := by
 unfold aps_Aps_Remote.f at H
 refine calls_enter func248 rfl rfl ?_
 have H : _ = some r := H
 refine V.region (W.mv rfl (W.mv rfl ?_))
 obtain ⟨t1, A2, H⟩ := bind_s H
 refine W.e (Y.cl func190 (request_Of.calls A2 HS.j0)) rfl ?_
 rintro _ w ⟨rfl, HS⟩
 replace HS := HS.o0
 refine W.nc rfl ?_
 obtain ⟨hi4, HS⟩ := aps_Aps.open HS
 refine W.fa fo168_4 rfl (W.st 0 4 HS inf3 rfl rfl rfl rfl rfl rfl fun w HS => ?_)
 refine W.nil ?_
 replace HS := aps_Aps.close tv HS
 cases H
 exact At.end0 rfl ⟨_, rfl, rfl, HS⟩
mutual
def station_Station_came.j0 (k : Nat) (a0 : station_Station) (a1 : Int) (a2 : List Int) (x7 : Bool) : Option station_Station := (if x7 = true then some a0 else (if 0 ≤ (1 : Int) ∧ (1 : Int) < (a2.length : Int) then (if 0 ≤ (2 : Int) ∧ (2 : Int) < (a2.length : Int) then (if 0 ≤ (3 : Int) ∧ (3 : Int) < (a2.length : Int) then (if 0 ≤ (4 : Int) ∧ (4 : Int) < (a2.length : Int) then ((twins_Table_Fresh.f k a0.twins (ior .u32 (ior .u32 (ior .u32 (IntKind.u32.wrap ((IntKind.u32.wrap (a2.getD (1 : Int).toNat 0)) * 2 ^ (min (24 : Int).toNat IntKind.u32.bits))) (IntKind.u32.wrap ((IntKind.u32.wrap (a2.getD (2 : Int).toNat 0)) * 2 ^ (min (16 : Int).toNat IntKind.u32.bits)))) (IntKind.u32.wrap ((IntKind.u32.wrap (a2.getD (3 : Int).toNat 0)) * 2 ^ (min (8 : Int).toNat IntKind.u32.bits)))) (IntKind.u32.wrap (a2.getD (4 : Int).toNat 0)))).bind fun t16 => (if t16.1 = true then (if 0 ≤ (5 : Int) ∧ (5 : Int) ≤ (a2.length : Int) ∧ (a2.length : Int) ≤ (a2.length : Int) then ((arq_Arq_Input.f k a0.arq (cut a2 (5 : Int) (a2.length : Int))).bind fun t20 => some ({ a0 with arq := t20, twins := t16.2 } : station_Station)) else none) else (if 0 ≤ a1 ∧ a1 < 2 then (if a1 = 0 then some (({ a0 with twins := t16.2, sides := (({ a0.sides.1 with counts := ({ a0.sides.1.counts with Twins := station_one.f a0.sides.1.counts.Twins } : api_Counts) } : station_side), a0.sides.2) } : station_Station)) else some (({ a0 with twins := t16.2, sides := (a0.sides.1, ({ a0.sides.2 with counts := ({ a0.sides.2.counts with Twins := station_one.f a0.sides.2.counts.Twins } : api_Counts) } : station_side)) } : station_Station))) else none))) else none) else none) else none) else none))
def station_Station_came.j1 (a0 : station_Station) (a2 : List Int) (x34 : Bool) : Option station_Station := (if x34 = true then (if 0 ≤ (1 : Int) ∧ (1 : Int) ≤ (a2.length : Int) ∧ (a2.length : Int) ≤ (a2.length : Int) then ((kcode_Read.f (cut a2 (1 : Int) (a2.length : Int))).bind fun t38 => (if t38.2.2 = 0 then ((aps_Aps_Remote.f a0.aps t38.1).bind fun t43 => some ({ a0 with aps := t43 } : station_Station)) else some a0)) else none) else some a0)
def station_Station_came.j2 (a0 : station_Station) (a2 : List Int) (x46 : Bool) : Option station_Station := (if x46 = true then (if 0 ≤ (1 : Int) ∧ (1 : Int) ≤ (a2.length : Int) ∧ (a2.length : Int) ≤ (a2.length : Int) then ((kcode_Read.f (cut a2 (1 : Int) (a2.length : Int))).bind fun t50 => (if t50.2.2 = 0 then ((aps_Aps_Remote.f a0.aps t50.1).bind fun t55 => some ({ a0 with aps := t55 } : station_Station)) else some a0)) else none) else some a0)
end
def station_Station_came.f (k : Nat) (a0 : station_Station) (a1 : Int) (a2 : List Int) : Option station_Station := (if 0 ≤ (0 : Int) ∧ (0 : Int) < (a2.length : Int) then (if (a2.getD (0 : Int).toNat 0) = 0 then (if (a2.length : Int) ≥ 5 then ((station_Station_twice.f a0).bind fun t27 => (if t27 = true then (station_Station_came.j0 k a0 a1 a2 false) else ((aps_Aps_Line.f a0.aps).bind fun t32 => (station_Station_came.j0 k a0 a1 a2 (!(decide (a1 = t32))))))) else (if (a2.getD (0 : Int).toNat 0) = 1 then (station_Station_came.j1 a0 a2 (decide (a1 = 1))) else (station_Station_came.j1 a0 a2 false))) else (if (a2.getD (0 : Int).toNat 0) = 1 then (station_Station_came.j2 a0 a2 (decide (a1 = 1))) else (station_Station_came.j2 a0 a2 false))) else none)
theorem station_Station_came.calls {k : Nat} {a0 : station_Station} {a1 : Int} {a2 : List Int} {R : As} {w0 w : World} {b0 : Nat} {sa2 : Option Addr} {sc2 : Nat} {r : station_Station} (H : station_Station_came.f k a0 a1 a2 = some r) (HS : Sep.St [station_Station.at b0 a0, R] w0 w) (hr2 : rdC R 1 (.slice sa2 a2.length sc2) a2.length (a2.map (Value.int .u8))) : Calls Tryz.prog 195 #[pt b0, vi a1, vs sa2 a2.length sc2] w (Ret fun u w => u = Value.tuple #[] ∧ Sep.St [station_Station.at b0 r, R] w0 w) := by
 unfold station_Station_came.f at H
 refine calls_enter func195 rfl rfl ?_
 have H : _ = some r := H
 refine V.block (V.seq (V.region (W.mv rfl ?_)))
 obtain ⟨c2, H⟩ := ite_n H
 obtain ⟨eb3, eo4, hh⟩ := (rdC.at 1 hr2 HS rfl).some (by decide) c2.1 c2.2; subst hh
 refine W.r (X.indexSl underlying48 inf5 rfl rfl c2.1 c2.2) rfl (W.r (X.load underlying5 rfl rfl ((rdC.at 1 hr2 HS rfl).cellI c2.1 c2.2)) rfl (W.r (X.cmp (decide ((a2.getD (0 : Int).toNat 0) = 0)) rfl rfl rfl rfl) rfl (W.mv rfl ?_)))
 by_cases c5 : (a2.getD (0 : Int).toNat 0) = 0
 ·replace H := ite_t c5 H
  refine W.want 15 rfl (sb (dT c5)) (W.mv rfl (W.want 15 rfl (sb (dT c5)) (W.r (X.lenSl underlying48 rfl) rfl (W.want 15 rfl (sb (dT c5)) (W.r (X.cmp (decide ((a2.length : Int) ≥ 5)) rfl rfl rfl rfl) rfl (W.r (X.pickT (sb (dT c5)) rfl) rfl (W.as rfl (W.nx ?_))))))))
  by_cases c6 : (a2.length : Int) ≥ 5
  ·replace H := ite_t c6 H
   refine V.condT (sb (dT c6)) (V.seq (V.meet (σ := Bool) (fun st w => match st with | x7 => Sep.St [station_Station.at b0 a0, R] w0 w ∧ ∃ kf8, kf8 ≤ k ∧ station_Station_came.j0 kf8 a0 a1 a2 x7 = some r) (fun st => match st with | x7 => [(0, pt b0), (1, vi a1), (2, vs (some ⟨eb3, eo4, none⟩) a2.length sc2), (31, vb x7)]) ?_ ?_))
   ·refine V.region (W.mv rfl ?_)
    obtain ⟨b16_25, b17_25, b18_25, b22_25, b23_25, b24_25, b32_25, b33_25, b34_25, hi26, HS⟩ := station_Station.open HS
    obtain ⟨t27, A28, H⟩ := bind_s H
    refine W.e (Y.cl func67 (station_Station_twice.calls A28 HS.j10)) rfl ?_
    rintro _ w ⟨rfl, HS⟩
    replace HS := HS.o10
    refine W.r (X.not rfl) rfl (W.mv rfl ?_)
    by_cases c29 : t27 = true
    ·replace H := ite_t c29 H
     refine W.pass 23 rfl (sb (n_t c29)) rfl rfl (W.pass 23 rfl (sb (n_t c29)) rfl rfl (W.pass 23 rfl (sb (n_t c29)) rfl rfl (W.pass 23 rfl (sb (n_t c29)) rfl rfl (W.pass 23 rfl (sb (n_t c29)) rfl rfl (W.pass 23 rfl (sb (n_t c29)) rfl rfl (W.pass 23 rfl (sb (n_t c29)) rfl rfl (W.r (X.pickF (sb (n_t c29)) rfl) rfl (W.nil ?_))))))))
     replace HS := station_Station.close tv HS
     exact At.meet false ⟨rfl, rfl, rfl, rfl, tv⟩ ⟨HS, k, by omega, H⟩
    ·replace H := ite_f c29 H
     refine W.want 23 rfl (sb (n_f (b_f c29))) (W.mv rfl (W.want 23 rfl (sb (n_f (b_f c29))) (W.mv rfl (W.want 23 rfl (sb (n_f (b_f c29))) (W.nc rfl (W.want 23 rfl (sb (n_f (b_f c29))) (W.fa fo103_2 rfl (W.want 23 rfl (sb (n_f (b_f c29))) (W.ld 0 HS underlying93 rfl rfl rfl rfl (W.want 23 rfl (sb (n_f (b_f c29))) ?_))))))))))
     replace HS := HS.fr 2
     obtain ⟨hi31, HS⟩ := aps_Aps.open HS
     obtain ⟨t32, A33, H⟩ := bind_s H
     refine W.e (Y.cl func66 (aps_Aps_Line.calls A33 HS.j1)) rfl ?_
     rintro _ w ⟨rfl, HS⟩
     replace HS := HS.o1
     refine W.want 23 rfl (sb (n_f (b_f c29))) (W.r (X.cmp (!(decide (a1 = t32))) rfl rfl rfl rfl) rfl (W.r (X.pickT (sb (n_f (b_f c29))) rfl) rfl (W.nil ?_)))
     replace HS := aps_Aps.close tv HS
     replace HS := HS.pm [1, 2, 0, 3, 4, 5, 6, 7, 8, 9, 10]
     replace HS := station_Station.close tv HS
     exact At.meet (!(decide (a1 = t32))) ⟨rfl, rfl, rfl, rfl, tv⟩ ⟨HS, k, by omega, H⟩
   ·rintro x7 w ⟨HS, kf8, hkkf8, H⟩
    unfold station_Station_came.j0 at H
    by_cases c9 : x7 = true
    ·replace H := ite_t c9 H
     refine V.condT (sb c9) (V.ret (At.thenRet (At.blockRet ?_)))
     cases H
     exact At.ret0 rfl ⟨_, rfl, rfl, HS⟩
    ·replace H := ite_f c9 H
     refine V.condF (sb (b_f c9)) (V.skip (At.next (V.seq ?_)))
     obtain ⟨c10, H⟩ := ite_n H
     obtain ⟨c11, H⟩ := ite_n H
     obtain ⟨c12, H⟩ := ite_n H
     obtain ⟨c13, H⟩ := ite_n H
     refine V.dr [] [] [(32, vs (some ⟨eb3, eo4, none⟩) a2.length sc2), (33, po eb3 (eo4 + (1 : Int).toNat * 1)), (34, Value.int .u8 (a2.getD (1 : Int).toNat 0)), (35, Value.int .u32 (IntKind.u32.wrap (a2.getD (1 : Int).toNat 0))), (36, Value.int .u32 (IntKind.u32.wrap ((IntKind.u32.wrap (a2.getD (1 : Int).toNat 0)) * 2 ^ (min (24 : Int).toNat IntKind.u32.bits)))), (37, vs (some ⟨eb3, eo4, none⟩) a2.length sc2), (38, po eb3 (eo4 + (2 : Int).toNat * 1)), (39, Value.int .u8 (a2.getD (2 : Int).toNat 0)), (40, Value.int .u32 (IntKind.u32.wrap (a2.getD (2 : Int).toNat 0))), (41, Value.int .u32 (IntKind.u32.wrap ((IntKind.u32.wrap (a2.getD (2 : Int).toNat 0)) * 2 ^ (min (16 : Int).toNat IntKind.u32.bits)))), (42, Value.int .u32 (ior .u32 (IntKind.u32.wrap ((IntKind.u32.wrap (a2.getD (1 : Int).toNat 0)) * 2 ^ (min (24 : Int).toNat IntKind.u32.bits))) (IntKind.u32.wrap ((IntKind.u32.wrap (a2.getD (2 : Int).toNat 0)) * 2 ^ (min (16 : Int).toNat IntKind.u32.bits))))), (43, vs (some ⟨eb3, eo4, none⟩) a2.length sc2), (44, po eb3 (eo4 + (3 : Int).toNat * 1)), (45, Value.int .u8 (a2.getD (3 : Int).toNat 0)), (46, Value.int .u32 (IntKind.u32.wrap (a2.getD (3 : Int).toNat 0))), (47, Value.int .u32 (IntKind.u32.wrap ((IntKind.u32.wrap (a2.getD (3 : Int).toNat 0)) * 2 ^ (min (8 : Int).toNat IntKind.u32.bits)))), (48, Value.int .u32 (ior .u32 (ior .u32 (IntKind.u32.wrap ((IntKind.u32.wrap (a2.getD (1 : Int).toNat 0)) * 2 ^ (min (24 : Int).toNat IntKind.u32.bits))) (IntKind.u32.wrap ((IntKind.u32.wrap (a2.getD (2 : Int).toNat 0)) * 2 ^ (min (16 : Int).toNat IntKind.u32.bits)))) (IntKind.u32.wrap ((IntKind.u32.wrap (a2.getD (3 : Int).toNat 0)) * 2 ^ (min (8 : Int).toNat IntKind.u32.bits))))), (49, vs (some ⟨eb3, eo4, none⟩) a2.length sc2), (50, po eb3 (eo4 + (4 : Int).toNat * 1)), (51, Value.int .u8 (a2.getD (4 : Int).toNat 0)), (52, Value.int .u32 (IntKind.u32.wrap (a2.getD (4 : Int).toNat 0))), (53, Value.int .u32 (ior .u32 (ior .u32 (ior .u32 (IntKind.u32.wrap ((IntKind.u32.wrap (a2.getD (1 : Int).toNat 0)) * 2 ^ (min (24 : Int).toNat IntKind.u32.bits))) (IntKind.u32.wrap ((IntKind.u32.wrap (a2.getD (2 : Int).toNat 0)) * 2 ^ (min (16 : Int).toNat IntKind.u32.bits)))) (IntKind.u32.wrap ((IntKind.u32.wrap (a2.getD (3 : Int).toNat 0)) * 2 ^ (min (8 : Int).toNat IntKind.u32.bits)))) (IntKind.u32.wrap (a2.getD (4 : Int).toNat 0)))), (6, Value.int .u32 (ior .u32 (ior .u32 (ior .u32 (IntKind.u32.wrap ((IntKind.u32.wrap (a2.getD (1 : Int).toNat 0)) * 2 ^ (min (24 : Int).toNat IntKind.u32.bits))) (IntKind.u32.wrap ((IntKind.u32.wrap (a2.getD (2 : Int).toNat 0)) * 2 ^ (min (16 : Int).toNat IntKind.u32.bits)))) (IntKind.u32.wrap ((IntKind.u32.wrap (a2.getD (3 : Int).toNat 0)) * 2 ^ (min (8 : Int).toNat IntKind.u32.bits)))) (IntKind.u32.wrap (a2.getD (4 : Int).toNat 0))))] mo HS ?_
     refine T.fn [(0, _), (1, _), (2, _), (6, _)] ⟨rfl, rfl, rfl, rfl, tv⟩ ⟨.mv 2, .n1 32 rfl rfl (fun w HS => X.indexSl underlying48 inf5 rfl rfl c10.1 c10.2), .n1 33 rfl rfl (fun w HS => X.load underlying5 rfl rfl ((rdC.at 1 hr2 HS rfl).cellI c10.1 c10.2)), .n1 34 rfl rfl (fun w HS => X.conv underlying5 underlying95 rfl), .n1 35 rfl rfl (fun w HS => X.shl rfl rfl (by decide)), .mv 2, .n1 37 rfl rfl (fun w HS => X.indexSl underlying48 inf5 rfl rfl c11.1 c11.2), .n1 38 rfl rfl (fun w HS => X.load underlying5 rfl rfl ((rdC.at 1 hr2 HS rfl).cellI c11.1 c11.2)), .n1 39 rfl rfl (fun w HS => X.conv underlying5 underlying95 rfl), .n1 40 rfl rfl (fun w HS => X.shl rfl rfl (by decide)), .n2 36 41 rfl rfl rfl (fun w HS => X.or rfl rfl), .mv 2, .n1 43 rfl rfl (fun w HS => X.indexSl underlying48 inf5 rfl rfl c12.1 c12.2), .n1 44 rfl rfl (fun w HS => X.load underlying5 rfl rfl ((rdC.at 1 hr2 HS rfl).cellI c12.1 c12.2)), .n1 45 rfl rfl (fun w HS => X.conv underlying5 underlying95 rfl), .n1 46 rfl rfl (fun w HS => X.shl rfl rfl (by decide)), .n2 42 47 rfl rfl rfl (fun w HS => X.or rfl rfl), .mv 2, .n1 49 rfl rfl (fun w HS => X.indexSl underlying48 inf5 rfl rfl c13.1 c13.2), .n1 50 rfl rfl (fun w HS => X.load underlying5 rfl rfl ((rdC.at 1 hr2 HS rfl).cellI c13.1 c13.2)), .n1 51 rfl rfl (fun w HS => X.conv underlying5 underlying95 rfl), .n2 48 52 rfl rfl rfl (fun w HS => X.or rfl rfl), .as 53, tv⟩ (fun w HS => ?_)
     refine At.next (V.seq (V.region (W.mv rfl (W.nc rfl ?_))))
     obtain ⟨b16_14, b17_14, b18_14, b22_14, b23_14, b24_14, b32_14, b33_14, b34_14, hi15, HS⟩ := station_Station.open HS
     refine W.fa fo103_3 rfl (W.ld 0 HS underlying94 rfl rfl rfl rfl (W.mv rfl ?_))
     obtain ⟨t16, A17, H⟩ := bind_s H
     replace HS := HS.pm [3, 0, 1, 2, 4, 5, 6, 7, 8, 9, 10]
     refine W.e (Y.cl func245 (twins_Table_Fresh.calls A17 HS.j1)) rfl ?_
     rintro _ w ⟨rfl, HS⟩
     replace HS := HS.o1
     refine W.nx ?_
     by_cases c18 : t16.1 = true
     ·replace H := ite_t c18 H
      refine V.condT (sb c18) ?_
      obtain ⟨c19, H⟩ := ite_n H
      refine V.dr [6] [] [(60, pt b0), (61, pt b0), (62, po b0 (0 + 16)), (63, pt b16_14), (64, vs (some ⟨eb3, eo4, none⟩) a2.length sc2), (65, vs (vaddr (some ⟨eb3, eo4, none⟩) sc2 (5 : Int).toNat 1) (cut a2 (5 : Int) (a2.length : Int)).length (sc2 - (5 : Int).toNat))] mo HS ?_
      refine T.ev [(63, _), (65, _)] [] [0, 1, 2, 3, 4, 5] ⟨rfl, rfl, tv⟩ ⟨.mv 0, .nc 60, .fa 61 fo103_1, .ld 62 1 underlying92, .mv 2, .n1 64 rfl rfl (fun w HS => X.slL underlying48 inf5 rfl rfl c19), tv⟩ rfl (fun w HS => ?_)
      obtain ⟨t20, A21, H⟩ := bind_s H
      replace HS := HS.pm [2, 0, 1, 3, 4, 5, 6, 7, 8, 9, 10]
      refine ⟨_, Y.cl func246 (arq_Arq_Input.calls A21 HS.j1 (rdC.part 9 (rdC.subM hr2 c19) rfl)), ?_⟩
      rintro _ w ⟨rfl, HS⟩
      replace HS := HS.o1
      refine T.nw HS ?_
      refine T.fn [] tv tv (fun w HS => ?_)
      refine At.blockEnd ?_
      replace HS := HS.pm [2, 0, 3, 1, 4, 5, 6, 7, 8, 9, 10]
      replace HS := station_Station.close tv HS
      cases H
      exact At.end0 rfl ⟨_, rfl, rfl, HS⟩
     ·replace H := ite_f c18 H
      refine V.condF (sb (b_f c18)) (V.region (W.mv rfl (W.mv rfl (W.nc rfl (W.fa fo103_7 rfl ?_)))))
      obtain ⟨c22, H⟩ := ite_n H
      by_cases c23 : a1 = 0
      ·replace H := ite_t c23 H
       refine W.r (X.indexArK 0 c23 underlying101 inf100 rfl rfl c22.1 c22.2) rfl (W.fa fo100_3 rfl (W.fa fo73_6 rfl (W.e (Y.cl func193 (station_one.cell 1 31 HS rfl rfl rfl)) rfl ?_)))
       rintro _ w ⟨rfl, HS⟩
       refine W.nil (At.blockEnd ?_)
       replace HS := HS.pm [1, 2, 3, 0, 4, 5, 6, 7, 8, 9, 10]
       replace HS := station_Station.close tv HS
       cases H
       exact At.end0 rfl ⟨_, rfl, rfl, HS⟩
      ·replace H := ite_f c23 H
       have hk24 : a1 = 1 := by omega
       refine W.r (X.indexArK 1 hk24 underlying101 inf100 rfl rfl c22.1 c22.2) rfl (W.fa fo100_3 rfl (W.fa fo73_6 rfl (W.e (Y.cl func193 (station_one.cell 1 41 HS rfl rfl rfl)) rfl ?_)))
       rintro _ w ⟨rfl, HS⟩
       refine W.nil (At.blockEnd ?_)
       replace HS := HS.pm [1, 2, 3, 0, 4, 5, 6, 7, 8, 9, 10]
       replace HS := station_Station.close tv HS
       cases H
       exact At.end0 rfl ⟨_, rfl, rfl, HS⟩
  ·replace H := ite_f c6 H
   refine V.condF (sb (dF c6)) (V.meet (σ := Bool) (fun st w => match st with | x34 => Sep.St [station_Station.at b0 a0, R] w0 w ∧ station_Station_came.j1 a0 a2 x34 = some r) (fun st => match st with | x34 => [(0, pt b0), (2, vs (some ⟨eb3, eo4, none⟩) a2.length sc2), (75, vb x34)]) ?_ ?_)
   ·refine V.region (W.mv rfl (W.r (X.indexSl underlying48 inf5 rfl rfl c2.1 c2.2) rfl (W.r (X.load underlying5 rfl rfl ((rdC.at 1 hr2 HS rfl).cellI c2.1 c2.2)) rfl (W.r (X.cmp (decide ((a2.getD (0 : Int).toNat 0) = 1)) rfl rfl rfl rfl) rfl (W.mv rfl ?_)))))
    by_cases c45 : (a2.getD (0 : Int).toNat 0) = 1
    ·replace H := ite_t c45 H
     refine W.want 80 rfl (sb (dT c45)) (W.mv rfl (W.want 80 rfl (sb (dT c45)) (W.r (X.cmp (decide (a1 = 1)) rfl rfl rfl rfl) rfl (W.r (X.pickT (sb (dT c45)) rfl) rfl (W.as rfl (W.nil ?_))))))
     exact At.meet (decide (a1 = 1)) ⟨rfl, rfl, rfl, tv⟩ ⟨HS, H⟩
    ·replace H := ite_f c45 H
     refine W.pass 80 rfl (sb (dF c45)) rfl rfl (W.pass 80 rfl (sb (dF c45)) rfl rfl (W.r (X.pickF (sb (dF c45)) rfl) rfl (W.as rfl (W.nil ?_))))
     exact At.meet false ⟨rfl, rfl, rfl, tv⟩ ⟨HS, H⟩
   ·rintro x34 w ⟨HS, H⟩
    unfold station_Station_came.j1 at H
    by_cases c36 : x34 = true
    ·replace H := ite_t c36 H
     refine V.condT (sb c36) (V.seq (V.region (W.mv rfl ?_)))
     obtain ⟨c37, H⟩ := ite_n H
     refine W.r (X.slL underlying48 inf5 rfl rfl c37) rfl ?_
     obtain ⟨t38, A39, H⟩ := bind_s H
     refine W.e (Y.cl func247 (kcode_Read.calls A39 HS.j0 (rdC.part 1 (rdC.subM hr2 c37) rfl))) rfl ?_
     rintro _ w ⟨rfl, HS⟩
     replace HS := HS.o0
     refine W.mv rfl (W.r (X.extract rfl rfl) rfl (W.r (X.extract rfl rfl) rfl (W.r (X.extract rfl rfl) rfl (W.as rfl (W.as rfl (W.as rfl (W.nx (V.seq (V.region (W.mv rfl (W.r (X.cmp (decide (t38.2.2 = 0)) rfl rfl rfl rfl) rfl (W.nx ?_))))))))))))
     by_cases c40 : t38.2.2 = 0
     ·replace H := ite_t c40 H
      refine V.condT (sb (dT c40)) (V.region (W.mv rfl (W.nc rfl ?_)))
      obtain ⟨b16_41, b17_41, b18_41, b22_41, b23_41, b24_41, b32_41, b33_41, b34_41, hi42, HS⟩ := station_Station.open HS
      refine W.fa fo103_2 rfl (W.ld 0 HS underlying93 rfl rfl rfl rfl (W.mv rfl ?_))
      obtain ⟨t43, A44, H⟩ := bind_s H
      replace HS := HS.pm [2, 0, 1, 3, 4, 5, 6, 7, 8, 9, 10]
      refine W.e (Y.cl func248 (aps_Aps_Remote.calls A44 HS.j1)) rfl ?_
      rintro _ w ⟨rfl, HS⟩
      replace HS := HS.o1
      refine W.nil (At.blockEnd ?_)
      replace HS := HS.pm [1, 2, 0, 3, 4, 5, 6, 7, 8, 9, 10]
      replace HS := station_Station.close tv HS
      cases H
      exact At.end0 rfl ⟨_, rfl, rfl, HS⟩
     ·replace H := ite_f c40 H
      refine V.condF (sb (dF c40)) (V.skip (At.blockEnd ?_))
      cases H
      exact At.end0 rfl ⟨_, rfl, rfl, HS⟩
    ·replace H := ite_f c36 H
     refine V.condF (sb (b_f c36)) (V.skip (At.blockEnd ?_))
     cases H
     exact At.end0 rfl ⟨_, rfl, rfl, HS⟩
 ·replace H := ite_f c5 H
  refine W.pass 15 rfl (sb (dF c5)) rfl rfl (W.pass 15 rfl (sb (dF c5)) rfl rfl (W.pass 15 rfl (sb (dF c5)) rfl rfl (W.r (X.pickF (sb (dF c5)) rfl) rfl (W.as rfl (W.nx (V.condF rfl (V.meet (σ := Bool) (fun st w => match st with | x46 => Sep.St [station_Station.at b0 a0, R] w0 w ∧ station_Station_came.j2 a0 a2 x46 = some r) (fun st => match st with | x46 => [(0, pt b0), (2, vs (some ⟨eb3, eo4, none⟩) a2.length sc2), (75, vb x46)]) ?_ ?_)))))))
  ·refine V.region (W.mv rfl (W.r (X.indexSl underlying48 inf5 rfl rfl c2.1 c2.2) rfl (W.r (X.load underlying5 rfl rfl ((rdC.at 1 hr2 HS rfl).cellI c2.1 c2.2)) rfl (W.r (X.cmp (decide ((a2.getD (0 : Int).toNat 0) = 1)) rfl rfl rfl rfl) rfl (W.mv rfl ?_)))))
   by_cases c57 : (a2.getD (0 : Int).toNat 0) = 1
   ·replace H := ite_t c57 H
    refine W.want 80 rfl (sb (dT c57)) (W.mv rfl (W.want 80 rfl (sb (dT c57)) (W.r (X.cmp (decide (a1 = 1)) rfl rfl rfl rfl) rfl (W.r (X.pickT (sb (dT c57)) rfl) rfl (W.as rfl (W.nil ?_))))))
    exact At.meet (decide (a1 = 1)) ⟨rfl, rfl, rfl, tv⟩ ⟨HS, H⟩
   ·replace H := ite_f c57 H
    refine W.pass 80 rfl (sb (dF c57)) rfl rfl (W.pass 80 rfl (sb (dF c57)) rfl rfl (W.r (X.pickF (sb (dF c57)) rfl) rfl (W.as rfl (W.nil ?_))))
    exact At.meet false ⟨rfl, rfl, rfl, tv⟩ ⟨HS, H⟩
  ·rintro x46 w ⟨HS, H⟩
   unfold station_Station_came.j2 at H
   by_cases c48 : x46 = true
   ·replace H := ite_t c48 H
    refine V.condT (sb c48) (V.seq (V.region (W.mv rfl ?_)))
    obtain ⟨c49, H⟩ := ite_n H
    refine W.r (X.slL underlying48 inf5 rfl rfl c49) rfl ?_
    obtain ⟨t50, A51, H⟩ := bind_s H
    refine W.e (Y.cl func247 (kcode_Read.calls A51 HS.j0 (rdC.part 1 (rdC.subM hr2 c49) rfl))) rfl ?_
    rintro _ w ⟨rfl, HS⟩
    replace HS := HS.o0
    refine W.mv rfl (W.r (X.extract rfl rfl) rfl (W.r (X.extract rfl rfl) rfl (W.r (X.extract rfl rfl) rfl (W.as rfl (W.as rfl (W.as rfl (W.nx (V.seq (V.region (W.mv rfl (W.r (X.cmp (decide (t50.2.2 = 0)) rfl rfl rfl rfl) rfl (W.nx ?_))))))))))))
    by_cases c52 : t50.2.2 = 0
    ·replace H := ite_t c52 H
     refine V.condT (sb (dT c52)) (V.region (W.mv rfl (W.nc rfl ?_)))
     obtain ⟨b16_53, b17_53, b18_53, b22_53, b23_53, b24_53, b32_53, b33_53, b34_53, hi54, HS⟩ := station_Station.open HS
     refine W.fa fo103_2 rfl (W.ld 0 HS underlying93 rfl rfl rfl rfl (W.mv rfl ?_))
     obtain ⟨t55, A56, H⟩ := bind_s H
     replace HS := HS.pm [2, 0, 1, 3, 4, 5, 6, 7, 8, 9, 10]
     refine W.e (Y.cl func248 (aps_Aps_Remote.calls A56 HS.j1)) rfl ?_
     rintro _ w ⟨rfl, HS⟩
     replace HS := HS.o1
     refine W.nil (At.blockEnd ?_)
     replace HS := HS.pm [1, 2, 0, 3, 4, 5, 6, 7, 8, 9, 10]
     replace HS := station_Station.close tv HS
     cases H
     exact At.end0 rfl ⟨_, rfl, rfl, HS⟩
    ·replace H := ite_f c52 H
     refine V.condF (sb (dF c52)) (V.skip (At.blockEnd ?_))
     cases H
     exact At.end0 rfl ⟨_, rfl, rfl, HS⟩
   ·replace H := ite_f c48 H
    refine V.condF (sb (b_f c48)) (V.skip (At.blockEnd ?_))
    cases H
    exact At.end0 rfl ⟨_, rfl, rfl, HS⟩
def station_Station_Push.f (k : Nat) (a0 : station_Station) (a1 : Int) (a2 : Int) : Option (Int × List Int × station_Station) := ((station_has.f a1).bind fun t2 => (if t2 = true then (if 0 ≤ a1 ∧ a1 < 2 then (if a1 = 0 then ((frame_Reader_Push.f k a0.sides.1.reader a2).bind fun t9 => (if t9.1 = 1 then ((monitor_Monitor_Note.f a0.sides.1.monitor true).bind fun t12 => ((station_Station_came.f k ({ a0 with sides := (({ reader := t9.2.2, monitor := t12.2, ring := a0.sides.1.ring, counts := ({ a0.sides.1.counts with Good := station_one.f a0.sides.1.counts.Good } : api_Counts) } : station_side), a0.sides.2) } : station_Station) a1 t9.2.1).bind fun t14 => some (t9.1, t9.2.1, t14))) else (if t9.1 = 2 then some (t9.1, t9.2.1, ({ a0 with sides := (({ a0.sides.1 with reader := t9.2.2, counts := ({ a0.sides.1.counts with Runts := station_one.f a0.sides.1.counts.Runts } : api_Counts) } : station_side), a0.sides.2) } : station_Station)) else (if t9.1 = 4 then ((monitor_Monitor_Note.f a0.sides.1.monitor false).bind fun t18 => some (t9.1, t9.2.1, ({ a0 with sides := (({ reader := t9.2.2, monitor := t18.2, ring := a0.sides.1.ring, counts := ({ a0.sides.1.counts with Bad := station_one.f a0.sides.1.counts.Bad } : api_Counts) } : station_side), a0.sides.2) } : station_Station))) else (if t9.1 = 3 then ((monitor_Monitor_Note.f a0.sides.1.monitor false).bind fun t21 => some (t9.1, t9.2.1, ({ a0 with sides := (({ reader := t9.2.2, monitor := t21.2, ring := a0.sides.1.ring, counts := ({ a0.sides.1.counts with Giants := station_one.f a0.sides.1.counts.Giants } : api_Counts) } : station_side), a0.sides.2) } : station_Station))) else (if t9.1 = 5 then ((monitor_Monitor_Note.f a0.sides.1.monitor false).bind fun t24 => some (t9.1, t9.2.1, ({ a0 with sides := (({ reader := t9.2.2, monitor := t24.2, ring := a0.sides.1.ring, counts := ({ a0.sides.1.counts with Aborts := station_one.f a0.sides.1.counts.Aborts } : api_Counts) } : station_side), a0.sides.2) } : station_Station))) else some (t9.1, t9.2.1, ({ a0 with sides := (({ a0.sides.1 with reader := t9.2.2 } : station_side), a0.sides.2) } : station_Station)))))))) else ((frame_Reader_Push.f k a0.sides.2.reader a2).bind fun t27 => (if t27.1 = 1 then ((monitor_Monitor_Note.f a0.sides.2.monitor true).bind fun t30 => ((station_Station_came.f k ({ a0 with sides := (a0.sides.1, ({ reader := t27.2.2, monitor := t30.2, ring := a0.sides.2.ring, counts := ({ a0.sides.2.counts with Good := station_one.f a0.sides.2.counts.Good } : api_Counts) } : station_side)) } : station_Station) a1 t27.2.1).bind fun t32 => some (t27.1, t27.2.1, t32))) else (if t27.1 = 2 then some (t27.1, t27.2.1, ({ a0 with sides := (a0.sides.1, ({ a0.sides.2 with reader := t27.2.2, counts := ({ a0.sides.2.counts with Runts := station_one.f a0.sides.2.counts.Runts } : api_Counts) } : station_side)) } : station_Station)) else (if t27.1 = 4 then ((monitor_Monitor_Note.f a0.sides.2.monitor false).bind fun t36 => some (t27.1, t27.2.1, ({ a0 with sides := (a0.sides.1, ({ reader := t27.2.2, monitor := t36.2, ring := a0.sides.2.ring, counts := ({ a0.sides.2.counts with Bad := station_one.f a0.sides.2.counts.Bad } : api_Counts) } : station_side)) } : station_Station))) else (if t27.1 = 3 then ((monitor_Monitor_Note.f a0.sides.2.monitor false).bind fun t39 => some (t27.1, t27.2.1, ({ a0 with sides := (a0.sides.1, ({ reader := t27.2.2, monitor := t39.2, ring := a0.sides.2.ring, counts := ({ a0.sides.2.counts with Giants := station_one.f a0.sides.2.counts.Giants } : api_Counts) } : station_side)) } : station_Station))) else (if t27.1 = 5 then ((monitor_Monitor_Note.f a0.sides.2.monitor false).bind fun t42 => some (t27.1, t27.2.1, ({ a0 with sides := (a0.sides.1, ({ reader := t27.2.2, monitor := t42.2, ring := a0.sides.2.ring, counts := ({ a0.sides.2.counts with Aborts := station_one.f a0.sides.2.counts.Aborts } : api_Counts) } : station_side)) } : station_Station))) else some (t27.1, t27.2.1, ({ a0 with sides := (a0.sides.1, ({ a0.sides.2 with reader := t27.2.2 } : station_side)) } : station_Station))))))))) else none) else some (0, ([] : List Int), a0)))
theorem station_Station_Push.calls {k : Nat} {a0 : station_Station} {a1 : Int} {a2 : Int} {R : As} {w0 w : World} {b0 : Nat} {r : Int × List Int × station_Station} (H : station_Station_Push.f k a0 a1 a2 = some r) (HS : Sep.St [station_Station.at b0 a0, R] w0 w)  : Calls Tryz.prog 126 #[pt b0, vi a1, Value.int .u8 a2] w (Ret fun u w => ∃ (aq1 : Option Addr) (cq1 : Nat), u = Value.tuple #[vi r.1, vs aq1 r.2.1.length cq1] ∧ Sep.St [row 5 1 (.slice aq1 r.2.1.length cq1) r.2.1.length (r.2.1.map (Value.int .u8)), station_Station.at b0 r.2.2, R] w0 w) := by
 unfold station_Station_Push.f at H
 refine calls_enter func126 rfl rfl ?_
 have H : _ = some r := H
 refine V.seq (V.region (W.as rfl (W.as rfl (W.nx (V.seq (V.seq (V.region (W.mv rfl ?_))))))))
 obtain ⟨t2, A3, H⟩ := bind_s H
 refine W.e (Y.cl func99 (station_has.calls A3 HS.j0)) rfl ?_
 rintro _ w ⟨rfl, HS⟩
 replace HS := HS.o0
 refine W.r (X.not rfl) rfl (W.nx ?_)
 by_cases c4 : t2 = true
 ·replace H := ite_t c4 H
  refine V.condF (sb (n_t c4)) (V.skip (At.next (V.seq (V.region (W.mv rfl (W.mv rfl (W.nc rfl ?_)))))))
  obtain ⟨b16_5, b17_5, b18_5, b22_5, b23_5, b24_5, b32_5, b33_5, b34_5, hi6, HS⟩ := station_Station.open HS
  refine W.fa fo103_7 rfl ?_
  obtain ⟨c7, H⟩ := ite_n H
  by_cases c8 : a1 = 0
  ·replace H := ite_t c8 H
   refine W.r (X.indexArK 0 c8 underlying101 inf100 rfl rfl c7.1 c7.2) rfl (W.as rfl (W.nx (V.seq (V.region (W.mv rfl (W.nc rfl (W.fa fo100_0 rfl (W.ld 0 HS underlying96 rfl rfl rfl rfl (W.mv rfl ?_)))))))))
   obtain ⟨t9, A10, H⟩ := bind_s H
   replace HS := HS.pm [4, 0, 1, 2, 3, 5, 6, 7, 8, 9, 10]
   refine W.e (Y.cl func192 (frame_Reader_Push.calls A10 HS.j1)) rfl ?_
   rintro _ w ⟨at9_1, ct9_1, rfl, HS⟩
   replace HS := HS.o2
   refine W.mv rfl (W.r (X.extract rfl rfl) rfl (W.r (X.extract rfl rfl) rfl (W.as rfl (W.as rfl (W.nx (V.seq (V.seq (V.region (W.mv rfl (W.nx (V.block (V.seq (V.region (W.r (X.cmp (decide (t9.1 = 1)) rfl rfl rfl rfl) rfl (W.as rfl (W.nx ?_))))))))))))))))
   by_cases c11 : t9.1 = 1
   ·replace H := ite_t c11 H
    refine V.condT (sb (dT c11)) (V.seq (V.region (W.mv rfl (W.nc rfl (W.fa fo100_3 rfl (W.fa fo73_0 rfl (W.e (Y.cl func193 (station_one.cell 2 25 HS rfl rfl rfl)) rfl ?_)))))))
    rintro _ w ⟨rfl, HS⟩
    refine W.nx (V.seq (V.region (W.mv rfl (W.nc rfl (W.fa fo100_1 rfl (W.ld 2 HS underlying97 rfl rfl rfl rfl ?_))))))
    obtain ⟨t12, A13, H⟩ := bind_s H
    replace HS := HS.pm [6, 0, 1, 2, 3, 4, 5, 7, 8, 9, 10, 11]
    refine W.e (Y.cl func194 (monitor_Monitor_Note.calls A13 HS.j1)) rfl ?_
    rintro _ w ⟨rfl, HS⟩
    replace HS := HS.o1
    refine W.nx (V.region (W.mv rfl (W.mv rfl (W.mv rfl ?_))))
    replace HS := HS.pm [3, 4, 5, 6, 2, 0, 7, 8, 9, 10, 1, 11]
    replace HS := station_Station.close tv HS
    obtain ⟨t14, A15, H⟩ := bind_s H
    refine W.e (Y.cl func195 (station_Station_came.calls A15 HS.j1 (rdC.part 0 row_rd rfl))) rfl ?_
    rintro _ w ⟨rfl, HS⟩
    replace HS := HS.o1
    refine W.nil (At.blockEnd (At.next (V.seq (V.region (W.mv rfl (W.mv rfl (W.as rfl (W.as rfl (W.nx (V.ret ?_))))))))))
    replace HS := HS.pk [1, 0, 2] []
    cases H
    exact At.ret2 rfl rfl rfl ⟨_, rfl, at9_1, ct9_1, rfl, HS⟩
   ·replace H := ite_f c11 H
    refine V.condF (sb (dF c11)) (V.seq (V.region (W.r (X.cmp (decide (t9.1 = 2)) rfl rfl rfl rfl) rfl (W.as rfl (W.nx ?_)))))
    by_cases c16 : t9.1 = 2
    ·replace H := ite_t c16 H
     refine V.condT (sb (dT c16)) (V.region (W.mv rfl (W.nc rfl (W.fa fo100_3 rfl (W.fa fo73_3 rfl (W.e (Y.cl func193 (station_one.cell 2 28 HS rfl rfl rfl)) rfl ?_))))))
     rintro _ w ⟨rfl, HS⟩
     refine W.nil (At.blockEnd (At.next (V.seq (V.region (W.mv rfl (W.mv rfl (W.as rfl (W.as rfl (W.nx (V.ret ?_))))))))))
     replace HS := HS.pm [2, 3, 4, 5, 1, 6, 7, 8, 9, 10, 0, 11]
     replace HS := station_Station.close tv HS
     replace HS := HS.pk [1, 0, 2] []
     cases H
     exact At.ret2 rfl rfl rfl ⟨_, rfl, at9_1, ct9_1, rfl, HS⟩
    ·replace H := ite_f c16 H
     refine V.condF (sb (dF c16)) (V.seq (V.region (W.r (X.cmp (decide (t9.1 = 4)) rfl rfl rfl rfl) rfl (W.as rfl (W.nx ?_)))))
     by_cases c17 : t9.1 = 4
     ·replace H := ite_t c17 H
      refine V.condT (sb (dT c17)) (V.seq (V.region (W.mv rfl (W.nc rfl (W.fa fo100_3 rfl (W.fa fo73_1 rfl (W.e (Y.cl func193 (station_one.cell 2 26 HS rfl rfl rfl)) rfl ?_)))))))
      rintro _ w ⟨rfl, HS⟩
      refine W.nx (V.region (W.mv rfl (W.nc rfl (W.fa fo100_1 rfl (W.ld 2 HS underlying97 rfl rfl rfl rfl ?_)))))
      obtain ⟨t18, A19, H⟩ := bind_s H
      replace HS := HS.pm [6, 0, 1, 2, 3, 4, 5, 7, 8, 9, 10, 11]
      refine W.e (Y.cl func194 (monitor_Monitor_Note.calls A19 HS.j1)) rfl ?_
      rintro _ w ⟨rfl, HS⟩
      replace HS := HS.o1
      refine W.nil (At.blockEnd (At.next (V.seq (V.region (W.mv rfl (W.mv rfl (W.as rfl (W.as rfl (W.nx (V.ret ?_))))))))))
      replace HS := HS.pm [3, 4, 5, 6, 2, 0, 7, 8, 9, 10, 1, 11]
      replace HS := station_Station.close tv HS
      replace HS := HS.pk [1, 0, 2] []
      cases H
      exact At.ret2 rfl rfl rfl ⟨_, rfl, at9_1, ct9_1, rfl, HS⟩
     ·replace H := ite_f c17 H
      refine V.condF (sb (dF c17)) (V.seq (V.region (W.r (X.cmp (decide (t9.1 = 3)) rfl rfl rfl rfl) rfl (W.as rfl (W.nx ?_)))))
      by_cases c20 : t9.1 = 3
      ·replace H := ite_t c20 H
       refine V.condT (sb (dT c20)) (V.seq (V.region (W.mv rfl (W.nc rfl (W.fa fo100_3 rfl (W.fa fo73_4 rfl (W.e (Y.cl func193 (station_one.cell 2 29 HS rfl rfl rfl)) rfl ?_)))))))
       rintro _ w ⟨rfl, HS⟩
       refine W.nx (V.region (W.mv rfl (W.nc rfl (W.fa fo100_1 rfl (W.ld 2 HS underlying97 rfl rfl rfl rfl ?_)))))
       obtain ⟨t21, A22, H⟩ := bind_s H
       replace HS := HS.pm [6, 0, 1, 2, 3, 4, 5, 7, 8, 9, 10, 11]
       refine W.e (Y.cl func194 (monitor_Monitor_Note.calls A22 HS.j1)) rfl ?_
       rintro _ w ⟨rfl, HS⟩
       replace HS := HS.o1
       refine W.nil (At.blockEnd (At.next (V.seq (V.region (W.mv rfl (W.mv rfl (W.as rfl (W.as rfl (W.nx (V.ret ?_))))))))))
       replace HS := HS.pm [3, 4, 5, 6, 2, 0, 7, 8, 9, 10, 1, 11]
       replace HS := station_Station.close tv HS
       replace HS := HS.pk [1, 0, 2] []
       cases H
       exact At.ret2 rfl rfl rfl ⟨_, rfl, at9_1, ct9_1, rfl, HS⟩
      ·replace H := ite_f c20 H
       refine V.condF (sb (dF c20)) (V.seq (V.region (W.r (X.cmp (decide (t9.1 = 5)) rfl rfl rfl rfl) rfl (W.as rfl (W.nx ?_)))))
       by_cases c23 : t9.1 = 5
       ·replace H := ite_t c23 H
        refine V.condT (sb (dT c23)) (V.seq (V.region (W.mv rfl (W.nc rfl (W.fa fo100_3 rfl (W.fa fo73_2 rfl (W.e (Y.cl func193 (station_one.cell 2 27 HS rfl rfl rfl)) rfl ?_)))))))
        rintro _ w ⟨rfl, HS⟩
        refine W.nx (V.region (W.mv rfl (W.nc rfl (W.fa fo100_1 rfl (W.ld 2 HS underlying97 rfl rfl rfl rfl ?_)))))
        obtain ⟨t24, A25, H⟩ := bind_s H
        replace HS := HS.pm [6, 0, 1, 2, 3, 4, 5, 7, 8, 9, 10, 11]
        refine W.e (Y.cl func194 (monitor_Monitor_Note.calls A25 HS.j1)) rfl ?_
        rintro _ w ⟨rfl, HS⟩
        replace HS := HS.o1
        refine W.nil (At.blockEnd (At.next (V.seq (V.region (W.mv rfl (W.mv rfl (W.as rfl (W.as rfl (W.nx (V.ret ?_))))))))))
        replace HS := HS.pm [3, 4, 5, 6, 2, 0, 7, 8, 9, 10, 1, 11]
        replace HS := station_Station.close tv HS
        replace HS := HS.pk [1, 0, 2] []
        cases H
        exact At.ret2 rfl rfl rfl ⟨_, rfl, at9_1, ct9_1, rfl, HS⟩
       ·replace H := ite_f c23 H
        refine V.condF (sb (dF c23)) (V.skip (At.blockEnd (At.next (V.seq (V.region (W.mv rfl (W.mv rfl (W.as rfl (W.as rfl (W.nx (V.ret ?_)))))))))))
        replace HS := HS.pm [2, 3, 4, 5, 1, 6, 7, 8, 9, 10, 0, 11]
        replace HS := station_Station.close tv HS
        replace HS := HS.pk [1, 0, 2] []
        cases H
        exact At.ret2 rfl rfl rfl ⟨_, rfl, at9_1, ct9_1, rfl, HS⟩
  ·replace H := ite_f c8 H
   have hk26 : a1 = 1 := by omega
   refine W.r (X.indexArK 1 hk26 underlying101 inf100 rfl rfl c7.1 c7.2) rfl (W.as rfl (W.nx (V.seq (V.region (W.mv rfl (W.nc rfl (W.fa fo100_0 rfl (W.ld 0 HS underlying96 rfl rfl rfl rfl (W.mv rfl ?_)))))))))
   obtain ⟨t27, A28, H⟩ := bind_s H
   replace HS := HS.pm [7, 0, 1, 2, 3, 4, 5, 6, 8, 9, 10]
   refine W.e (Y.cl func192 (frame_Reader_Push.calls A28 HS.j1)) rfl ?_
   rintro _ w ⟨at27_1, ct27_1, rfl, HS⟩
   replace HS := HS.o2
   refine W.mv rfl (W.r (X.extract rfl rfl) rfl (W.r (X.extract rfl rfl) rfl (W.as rfl (W.as rfl (W.nx (V.seq (V.seq (V.region (W.mv rfl (W.nx (V.block (V.seq (V.region (W.r (X.cmp (decide (t27.1 = 1)) rfl rfl rfl rfl) rfl (W.as rfl (W.nx ?_))))))))))))))))
   by_cases c29 : t27.1 = 1
   ·replace H := ite_t c29 H
    refine V.condT (sb (dT c29)) (V.seq (V.region (W.mv rfl (W.nc rfl (W.fa fo100_3 rfl (W.fa fo73_0 rfl (W.e (Y.cl func193 (station_one.cell 2 35 HS rfl rfl rfl)) rfl ?_)))))))
    rintro _ w ⟨rfl, HS⟩
    refine W.nx (V.seq (V.region (W.mv rfl (W.nc rfl (W.fa fo100_1 rfl (W.ld 2 HS underlying97 rfl rfl rfl rfl ?_))))))
    obtain ⟨t30, A31, H⟩ := bind_s H
    replace HS := HS.pm [9, 0, 1, 2, 3, 4, 5, 6, 7, 8, 10, 11]
    refine W.e (Y.cl func194 (monitor_Monitor_Note.calls A31 HS.j1)) rfl ?_
    rintro _ w ⟨rfl, HS⟩
    replace HS := HS.o1
    refine W.nx (V.region (W.mv rfl (W.mv rfl (W.mv rfl ?_))))
    replace HS := HS.pm [3, 4, 5, 6, 7, 8, 9, 2, 0, 10, 1, 11]
    replace HS := station_Station.close tv HS
    obtain ⟨t32, A33, H⟩ := bind_s H
    refine W.e (Y.cl func195 (station_Station_came.calls A33 HS.j1 (rdC.part 0 row_rd rfl))) rfl ?_
    rintro _ w ⟨rfl, HS⟩
    replace HS := HS.o1
    refine W.nil (At.blockEnd (At.next (V.seq (V.region (W.mv rfl (W.mv rfl (W.as rfl (W.as rfl (W.nx (V.ret ?_))))))))))
    replace HS := HS.pk [1, 0, 2] []
    cases H
    exact At.ret2 rfl rfl rfl ⟨_, rfl, at27_1, ct27_1, rfl, HS⟩
   ·replace H := ite_f c29 H
    refine V.condF (sb (dF c29)) (V.seq (V.region (W.r (X.cmp (decide (t27.1 = 2)) rfl rfl rfl rfl) rfl (W.as rfl (W.nx ?_)))))
    by_cases c34 : t27.1 = 2
    ·replace H := ite_t c34 H
     refine V.condT (sb (dT c34)) (V.region (W.mv rfl (W.nc rfl (W.fa fo100_3 rfl (W.fa fo73_3 rfl (W.e (Y.cl func193 (station_one.cell 2 38 HS rfl rfl rfl)) rfl ?_))))))
     rintro _ w ⟨rfl, HS⟩
     refine W.nil (At.blockEnd (At.next (V.seq (V.region (W.mv rfl (W.mv rfl (W.as rfl (W.as rfl (W.nx (V.ret ?_))))))))))
     replace HS := HS.pm [2, 3, 4, 5, 6, 7, 8, 1, 9, 10, 0, 11]
     replace HS := station_Station.close tv HS
     replace HS := HS.pk [1, 0, 2] []
     cases H
     exact At.ret2 rfl rfl rfl ⟨_, rfl, at27_1, ct27_1, rfl, HS⟩
    ·replace H := ite_f c34 H
     refine V.condF (sb (dF c34)) (V.seq (V.region (W.r (X.cmp (decide (t27.1 = 4)) rfl rfl rfl rfl) rfl (W.as rfl (W.nx ?_)))))
     by_cases c35 : t27.1 = 4
     ·replace H := ite_t c35 H
      refine V.condT (sb (dT c35)) (V.seq (V.region (W.mv rfl (W.nc rfl (W.fa fo100_3 rfl (W.fa fo73_1 rfl (W.e (Y.cl func193 (station_one.cell 2 36 HS rfl rfl rfl)) rfl ?_)))))))
      rintro _ w ⟨rfl, HS⟩
      refine W.nx (V.region (W.mv rfl (W.nc rfl (W.fa fo100_1 rfl (W.ld 2 HS underlying97 rfl rfl rfl rfl ?_)))))
      obtain ⟨t36, A37, H⟩ := bind_s H
      replace HS := HS.pm [9, 0, 1, 2, 3, 4, 5, 6, 7, 8, 10, 11]
      refine W.e (Y.cl func194 (monitor_Monitor_Note.calls A37 HS.j1)) rfl ?_
      rintro _ w ⟨rfl, HS⟩
      replace HS := HS.o1
      refine W.nil (At.blockEnd (At.next (V.seq (V.region (W.mv rfl (W.mv rfl (W.as rfl (W.as rfl (W.nx (V.ret ?_))))))))))
      replace HS := HS.pm [3, 4, 5, 6, 7, 8, 9, 2, 0, 10, 1, 11]
      replace HS := station_Station.close tv HS
      replace HS := HS.pk [1, 0, 2] []
      cases H
      exact At.ret2 rfl rfl rfl ⟨_, rfl, at27_1, ct27_1, rfl, HS⟩
     ·replace H := ite_f c35 H
      refine V.condF (sb (dF c35)) (V.seq (V.region (W.r (X.cmp (decide (t27.1 = 3)) rfl rfl rfl rfl) rfl (W.as rfl (W.nx ?_)))))
      by_cases c38 : t27.1 = 3
      ·replace H := ite_t c38 H
       refine V.condT (sb (dT c38)) (V.seq (V.region (W.mv rfl (W.nc rfl (W.fa fo100_3 rfl (W.fa fo73_4 rfl (W.e (Y.cl func193 (station_one.cell 2 39 HS rfl rfl rfl)) rfl ?_)))))))
       rintro _ w ⟨rfl, HS⟩
       refine W.nx (V.region (W.mv rfl (W.nc rfl (W.fa fo100_1 rfl (W.ld 2 HS underlying97 rfl rfl rfl rfl ?_)))))
       obtain ⟨t39, A40, H⟩ := bind_s H
       replace HS := HS.pm [9, 0, 1, 2, 3, 4, 5, 6, 7, 8, 10, 11]
       refine W.e (Y.cl func194 (monitor_Monitor_Note.calls A40 HS.j1)) rfl ?_
       rintro _ w ⟨rfl, HS⟩
       replace HS := HS.o1
       refine W.nil (At.blockEnd (At.next (V.seq (V.region (W.mv rfl (W.mv rfl (W.as rfl (W.as rfl (W.nx (V.ret ?_))))))))))
       replace HS := HS.pm [3, 4, 5, 6, 7, 8, 9, 2, 0, 10, 1, 11]
       replace HS := station_Station.close tv HS
       replace HS := HS.pk [1, 0, 2] []
       cases H
       exact At.ret2 rfl rfl rfl ⟨_, rfl, at27_1, ct27_1, rfl, HS⟩
      ·replace H := ite_f c38 H
       refine V.condF (sb (dF c38)) (V.seq (V.region (W.r (X.cmp (decide (t27.1 = 5)) rfl rfl rfl rfl) rfl (W.as rfl (W.nx ?_)))))
       by_cases c41 : t27.1 = 5
       ·replace H := ite_t c41 H
        refine V.condT (sb (dT c41)) (V.seq (V.region (W.mv rfl (W.nc rfl (W.fa fo100_3 rfl (W.fa fo73_2 rfl (W.e (Y.cl func193 (station_one.cell 2 37 HS rfl rfl rfl)) rfl ?_)))))))
        rintro _ w ⟨rfl, HS⟩
        refine W.nx (V.region (W.mv rfl (W.nc rfl (W.fa fo100_1 rfl (W.ld 2 HS underlying97 rfl rfl rfl rfl ?_)))))
        obtain ⟨t42, A43, H⟩ := bind_s H
        replace HS := HS.pm [9, 0, 1, 2, 3, 4, 5, 6, 7, 8, 10, 11]
        refine W.e (Y.cl func194 (monitor_Monitor_Note.calls A43 HS.j1)) rfl ?_
        rintro _ w ⟨rfl, HS⟩
        replace HS := HS.o1
        refine W.nil (At.blockEnd (At.next (V.seq (V.region (W.mv rfl (W.mv rfl (W.as rfl (W.as rfl (W.nx (V.ret ?_))))))))))
        replace HS := HS.pm [3, 4, 5, 6, 7, 8, 9, 2, 0, 10, 1, 11]
        replace HS := station_Station.close tv HS
        replace HS := HS.pk [1, 0, 2] []
        cases H
        exact At.ret2 rfl rfl rfl ⟨_, rfl, at27_1, ct27_1, rfl, HS⟩
       ·replace H := ite_f c41 H
        refine V.condF (sb (dF c41)) (V.skip (At.blockEnd (At.next (V.seq (V.region (W.mv rfl (W.mv rfl (W.as rfl (W.as rfl (W.nx (V.ret ?_)))))))))))
        replace HS := HS.pm [2, 3, 4, 5, 6, 7, 8, 1, 9, 10, 0, 11]
        replace HS := station_Station.close tv HS
        replace HS := HS.pk [1, 0, 2] []
        cases H
        exact At.ret2 rfl rfl rfl ⟨_, rfl, at27_1, ct27_1, rfl, HS⟩
 ·replace H := ite_f c4 H
  refine V.condT (sb (n_f (b_f c4))) (V.seq (V.region (W.as rfl (W.as rfl (W.nx (V.ret (At.thenRet ?_)))))))
  replace HS := row_nilF (Value.int .u8) 5 1 HS
  cases H
  exact At.ret2 rfl rfl rfl ⟨_, rfl, none, 0, rfl, HS⟩
mutual
def world_World_Step.l4 : Nat → (List Int × pipe_Pipe) → Int → world_World → Option world_World
 | 0, _, _, _ => none
 | k + 1, t75, x79, x80 => (if x79 < (t75.1.length : Int) then (if 0 ≤ x79 ∧ x79 < (t75.1.length : Int) then (if 0 ≤ w64 (1 - 0) ∧ w64 (1 - 0) < 2 then (if w64 (1 - 0) = 0 then ((station_Station_Push.f k x80.stations.1 0 (t75.1.getD x79.toNat 0)).bind fun t91 => (if t91.1 = 1 then (if (x80.ways.1.1.got.length : Int) + (([t91.2.1] : List (List Int))).length ≤ 1099511627776 then (world_World_Step.l4 k t75 (w64 (x79 + 1)) ({ x80 with stations := (t91.2.2, x80.stations.2), ways := ((({ x80.ways.1.1 with got := x80.ways.1.1.got ++ ([t91.2.1] : List (List Int)) } : world_way), x80.ways.1.2), x80.ways.2) } : world_World)) else none) else (world_World_Step.l4 k t75 (w64 (x79 + 1)) ({ x80 with stations := (t91.2.2, x80.stations.2) } : world_World)))) else ((station_Station_Push.f k x80.stations.2 0 (t75.1.getD x79.toNat 0)).bind fun t101 => (if t101.1 = 1 then (if (x80.ways.1.1.got.length : Int) + (([t101.2.1] : List (List Int))).length ≤ 1099511627776 then (world_World_Step.l4 k t75 (w64 (x79 + 1)) ({ x80 with stations := (x80.stations.1, t101.2.2), ways := ((({ x80.ways.1.1 with got := x80.ways.1.1.got ++ ([t101.2.1] : List (List Int)) } : world_way), x80.ways.1.2), x80.ways.2) } : world_World)) else none) else (world_World_Step.l4 k t75 (w64 (x79 + 1)) ({ x80 with stations := (x80.stations.1, t101.2.2) } : world_World))))) else none) else none) else ((pipe_Pipe_Take.f x80.ways.1.2.pipe x80.c.Rate).bind fun t112 => (world_World_Step.l5 k t112 0 ({ x80 with ways := ((x80.ways.1.1, ({ x80.ways.1.2 with pipe := t112.2 } : world_way)), x80.ways.2) } : world_World))))
def world_World_Step.l5 : Nat → (List Int × pipe_Pipe) → Int → world_World → Option world_World
 | 0, _, _, _ => none
 | k + 1, t112, x137, x138 => (if x137 < (t112.1.length : Int) then (if 0 ≤ x137 ∧ x137 < (t112.1.length : Int) then (if 0 ≤ w64 (1 - 1) ∧ w64 (1 - 1) < 2 then (if w64 (1 - 1) = 0 then ((station_Station_Push.f k x138.stations.1 0 (t112.1.getD x137.toNat 0)).bind fun t149 => (if t149.1 = 1 then (if (x138.ways.1.2.got.length : Int) + (([t149.2.1] : List (List Int))).length ≤ 1099511627776 then (world_World_Step.l5 k t112 (w64 (x137 + 1)) ({ x138 with stations := (t149.2.2, x138.stations.2), ways := ((x138.ways.1.1, ({ x138.ways.1.2 with got := x138.ways.1.2.got ++ ([t149.2.1] : List (List Int)) } : world_way)), x138.ways.2) } : world_World)) else none) else (world_World_Step.l5 k t112 (w64 (x137 + 1)) ({ x138 with stations := (t149.2.2, x138.stations.2) } : world_World)))) else ((station_Station_Push.f k x138.stations.2 0 (t112.1.getD x137.toNat 0)).bind fun t159 => (if t159.1 = 1 then (if (x138.ways.1.2.got.length : Int) + (([t159.2.1] : List (List Int))).length ≤ 1099511627776 then (world_World_Step.l5 k t112 (w64 (x137 + 1)) ({ x138 with stations := (x138.stations.1, t159.2.2), ways := ((x138.ways.1.1, ({ x138.ways.1.2 with got := x138.ways.1.2.got ++ ([t159.2.1] : List (List Int)) } : world_way)), x138.ways.2) } : world_World)) else none) else (world_World_Step.l5 k t112 (w64 (x137 + 1)) ({ x138 with stations := (x138.stations.1, t159.2.2) } : world_World))))) else none) else none) else ((pipe_Pipe_Take.f x138.ways.2.1.pipe x138.c.Rate).bind fun t170 => (world_World_Step.l6 k t170 0 ({ x138 with ways := (x138.ways.1, (({ x138.ways.2.1 with pipe := t170.2 } : world_way), x138.ways.2.2)) } : world_World))))
def world_World_Step.l6 : Nat → (List Int × pipe_Pipe) → Int → world_World → Option world_World
 | 0, _, _, _ => none
 | k + 1, t170, x195, x196 => (if x195 < (t170.1.length : Int) then (if 0 ≤ x195 ∧ x195 < (t170.1.length : Int) then (if 0 ≤ w64 (1 - 0) ∧ w64 (1 - 0) < 2 then (if w64 (1 - 0) = 0 then ((station_Station_Push.f k x196.stations.1 1 (t170.1.getD x195.toNat 0)).bind fun t207 => (if t207.1 = 1 then (if (x196.ways.2.1.got.length : Int) + (([t207.2.1] : List (List Int))).length ≤ 1099511627776 then (world_World_Step.l6 k t170 (w64 (x195 + 1)) ({ x196 with stations := (t207.2.2, x196.stations.2), ways := (x196.ways.1, (({ x196.ways.2.1 with got := x196.ways.2.1.got ++ ([t207.2.1] : List (List Int)) } : world_way), x196.ways.2.2)) } : world_World)) else none) else (world_World_Step.l6 k t170 (w64 (x195 + 1)) ({ x196 with stations := (t207.2.2, x196.stations.2) } : world_World)))) else ((station_Station_Push.f k x196.stations.2 1 (t170.1.getD x195.toNat 0)).bind fun t217 => (if t217.1 = 1 then (if (x196.ways.2.1.got.length : Int) + (([t217.2.1] : List (List Int))).length ≤ 1099511627776 then (world_World_Step.l6 k t170 (w64 (x195 + 1)) ({ x196 with stations := (x196.stations.1, t217.2.2), ways := (x196.ways.1, (({ x196.ways.2.1 with got := x196.ways.2.1.got ++ ([t217.2.1] : List (List Int)) } : world_way), x196.ways.2.2)) } : world_World)) else none) else (world_World_Step.l6 k t170 (w64 (x195 + 1)) ({ x196 with stations := (x196.stations.1, t217.2.2) } : world_World))))) else none) else none) else ((pipe_Pipe_Take.f x196.ways.2.2.pipe x196.c.Rate).bind fun t228 => (world_World_Step.l7 k t228 0 ({ x196 with ways := (x196.ways.1, (x196.ways.2.1, ({ x196.ways.2.2 with pipe := t228.2 } : world_way))) } : world_World))))
def world_World_Step.l7 : Nat → (List Int × pipe_Pipe) → Int → world_World → Option world_World
 | 0, _, _, _ => none
 | k + 1, t228, x253, x254 => (if x253 < (t228.1.length : Int) then (if 0 ≤ x253 ∧ x253 < (t228.1.length : Int) then (if 0 ≤ w64 (1 - 1) ∧ w64 (1 - 1) < 2 then (if w64 (1 - 1) = 0 then ((station_Station_Push.f k x254.stations.1 1 (t228.1.getD x253.toNat 0)).bind fun t265 => (if t265.1 = 1 then (if (x254.ways.2.2.got.length : Int) + (([t265.2.1] : List (List Int))).length ≤ 1099511627776 then (world_World_Step.l7 k t228 (w64 (x253 + 1)) ({ x254 with stations := (t265.2.2, x254.stations.2), ways := (x254.ways.1, (x254.ways.2.1, ({ x254.ways.2.2 with got := x254.ways.2.2.got ++ ([t265.2.1] : List (List Int)) } : world_way))) } : world_World)) else none) else (world_World_Step.l7 k t228 (w64 (x253 + 1)) ({ x254 with stations := (t265.2.2, x254.stations.2) } : world_World)))) else ((station_Station_Push.f k x254.stations.2 1 (t228.1.getD x253.toNat 0)).bind fun t275 => (if t275.1 = 1 then (if (x254.ways.2.2.got.length : Int) + (([t275.2.1] : List (List Int))).length ≤ 1099511627776 then (world_World_Step.l7 k t228 (w64 (x253 + 1)) ({ x254 with stations := (x254.stations.1, t275.2.2), ways := (x254.ways.1, (x254.ways.2.1, ({ x254.ways.2.2 with got := x254.ways.2.2.got ++ ([t275.2.1] : List (List Int)) } : world_way))) } : world_World)) else none) else (world_World_Step.l7 k t228 (w64 (x253 + 1)) ({ x254 with stations := (x254.stations.1, t275.2.2) } : world_World))))) else none) else none) else some (({ x254 with now := w64 (x254.now + 1) } : world_World)))
def world_World_Step.j3 (k : Nat) (a0 : world_World) (t28 : (List (List Int) × List (List Int)) × station_Station) (t40 : (List (List Int) × List (List Int)) × station_Station) (t55 : Int × pipe_Pipe) (t59 : List Int × station_Station) (t61 : Int × pipe_Pipe) (t65 : List Int × station_Station) (t67 : Int × pipe_Pipe) (x70 : Int) : Option world_World := ((station_Station_Take.f k t59.2 1 x70).bind fun t71 => ((pipe_Pipe_Put.f a0.ways.2.2.pipe t71.1).bind fun t73 => ((pipe_Pipe_Take.f t55.2 a0.c.Rate).bind fun t75 => (world_World_Step.l4 k t75 0 ({ a0 with stations := (t65.2, t71.2), ways := ((({ pipe := t75.2, sent := a0.ways.1.1.sent ++ t28.1.1, got := a0.ways.1.1.got } : world_way), ({ pipe := t61.2, sent := a0.ways.1.2.sent ++ t40.1.1, got := a0.ways.1.2.got } : world_way)), (({ pipe := t67.2, sent := a0.ways.2.1.sent ++ t28.1.2, got := a0.ways.2.1.got } : world_way), ({ pipe := t73.2, sent := a0.ways.2.2.sent ++ t40.1.2, got := a0.ways.2.2.got } : world_way))) } : world_World)))))
def world_World_Step.j2 (k : Nat) (a0 : world_World) (t28 : (List (List Int) × List (List Int)) × station_Station) (t40 : (List (List Int) × List (List Int)) × station_Station) (t53 : List Int × station_Station) (t55 : Int × pipe_Pipe) (t59 : List Int × station_Station) (t61 : Int × pipe_Pipe) (x64 : Int) : Option world_World := ((station_Station_Take.f k t53.2 1 x64).bind fun t65 => ((pipe_Pipe_Put.f a0.ways.2.1.pipe t65.1).bind fun t67 => ((pipe_Pipe_Cut.f a0.ways.2.2.pipe).bind fun t288 => (if t288 = true then (world_World_Step.j3 k a0 t28 t40 t55 t59 t61 t65 t67 a0.c.Rate) else ((pipe_Pipe_Room.f a0.ways.2.2.pipe).bind fun t291 => (world_World_Step.j3 k a0 t28 t40 t55 t59 t61 t65 t67 (imin a0.c.Rate t291)))))))
def world_World_Step.j1 (k : Nat) (a0 : world_World) (t28 : (List (List Int) × List (List Int)) × station_Station) (t40 : (List (List Int) × List (List Int)) × station_Station) (t53 : List Int × station_Station) (t55 : Int × pipe_Pipe) (x58 : Int) : Option world_World := ((station_Station_Take.f k t40.2 0 x58).bind fun t59 => ((pipe_Pipe_Put.f a0.ways.1.2.pipe t59.1).bind fun t61 => ((pipe_Pipe_Cut.f a0.ways.2.1.pipe).bind fun t295 => (if t295 = true then (world_World_Step.j2 k a0 t28 t40 t53 t55 t59 t61 a0.c.Rate) else ((pipe_Pipe_Room.f a0.ways.2.1.pipe).bind fun t298 => (world_World_Step.j2 k a0 t28 t40 t53 t55 t59 t61 (imin a0.c.Rate t298)))))))
def world_World_Step.j0 (k : Nat) (a0 : world_World) (t28 : (List (List Int) × List (List Int)) × station_Station) (t40 : (List (List Int) × List (List Int)) × station_Station) (x52 : Int) : Option world_World := ((station_Station_Take.f k t28.2 0 x52).bind fun t53 => ((pipe_Pipe_Put.f a0.ways.1.1.pipe t53.1).bind fun t55 => ((pipe_Pipe_Cut.f a0.ways.1.2.pipe).bind fun t302 => (if t302 = true then (world_World_Step.j1 k a0 t28 t40 t53 t55 a0.c.Rate) else ((pipe_Pipe_Room.f a0.ways.1.2.pipe).bind fun t305 => (world_World_Step.j1 k a0 t28 t40 t53 t55 (imin a0.c.Rate t305)))))))
end
def world_World_Step.f (k : Nat) (a0 : world_World) : Option world_World := ((station_Station_Step.f k a0.stations.1).bind fun t28 => (if (a0.ways.1.1.sent.length : Int) + t28.1.1.length ≤ 1099511627776 then (if (a0.ways.2.1.sent.length : Int) + t28.1.2.length ≤ 1099511627776 then ((station_Station_Step.f k a0.stations.2).bind fun t40 => (if (a0.ways.1.2.sent.length : Int) + t40.1.1.length ≤ 1099511627776 then (if (a0.ways.2.2.sent.length : Int) + t40.1.2.length ≤ 1099511627776 then ((pipe_Pipe_Cut.f a0.ways.1.1.pipe).bind fun t309 => (if t309 = true then (world_World_Step.j0 k a0 t28 t40 a0.c.Rate) else ((pipe_Pipe_Room.f a0.ways.1.1.pipe).bind fun t312 => (world_World_Step.j0 k a0 t28 t40 (imin a0.c.Rate t312))))) else none) else none)) else none) else none))
theorem world_World_Step.calls {k : Nat} {a0 : world_World} {R : As} {w0 w : World} {b0 : Nat} {r : world_World} (H : world_World_Step.f k a0 = some r) (HS : Sep.St [world_World.at b0 a0, R] w0 w)  : Calls Tryz.prog 15 #[pt b0] w (Ret fun u w => u = Value.tuple #[] ∧ Sep.St [world_World.at b0 r, R] w0 w) := by
 unfold world_World_Step.f at H
 refine calls_enter func15 rfl rfl ?_
 have H : _ = some r := H
 refine V.seq (V.region (W.e (Y.box HS rfl) rfl ?_))
 rintro _ w ⟨nb1, rfl, HS⟩
 refine W.nx (V.seq (V.seq (V.region (W.ld 0 HS underlying25 rfl rfl rfl rfl (W.nc rfl ?_)))))
 replace HS := HS.fr 1
 obtain ⟨b16_4, b17_4, b18_4, a19_4, c19_4, d19_4, a20_4, c20_4, d20_4, b21_4, a22_4, c22_4, d22_4, a23_4, c23_4, d23_4, b24_4, a25_4, c25_4, d25_4, a26_4, c26_4, d26_4, b27_4, a28_4, c28_4, d28_4, a29_4, c29_4, d29_4, hi5, HS⟩ := world_World.open HS
 refine W.fa fo83_1 rfl (W.r (X.loadSt 0 [pt b16_4, pt b17_4] HS rfl underlying76 rfl inf76 rfl rfl) rfl (W.mv rfl (W.nx (V.block (V.rounds 2 [(1, pt nb1), (9, Value.agg #[pt b16_4, pt b17_4]), (10, vi (0))] ⟨rfl, rfl, rfl, tv⟩ ?_)))))
 refine V.seq (V.region (W.r (X.cmp true (by decide) rfl rfl rfl) rfl (W.nx (V.seq (V.condT rfl (V.skip (At.next (V.seq (V.block (V.seq (V.region (W.mv rfl (W.r (X.ixK (pt b16_4) rfl rfl (fun _ => by kernel_rfl)) rfl (W.as rfl (W.as rfl (W.nx (V.seq (V.region (W.mv rfl ?_)))))))))))))))))))
 obtain ⟨t28, A29, H⟩ := bind_s H
 replace HS := HS.pm [1, 0, 2, 3, 4, 5, 6, 7, 8, 9, 10, 11, 12, 13, 14, 15, 16, 17, 18, 19, 20, 21, 22, 23, 24]
 refine W.e (Y.cl func55 (station_Station_Step.calls A29 HS.j1)) rfl ?_
 rintro _ w ⟨at28_0_0, ct28_0_0, dt28_0_0, at28_0_1, ct28_0_1, dt28_0_1, rfl, HS⟩
 replace HS := HS.o5
 refine W.mv rfl (W.nx (V.block (V.rounds 2 [(1, pt nb1), (2, vi (0)), (9, Value.agg #[pt b16_4, pt b17_4]), (10, vi (0)), (15, Value.agg #[vs at28_0_0 t28.1.1.length ct28_0_0, vs at28_0_1 t28.1.2.length ct28_0_1]), (16, vi (0))] ⟨rfl, rfl, rfl, rfl, rfl, rfl, tv⟩ ?_)))
 refine V.seq (V.region (W.r (X.cmp true (by decide) rfl rfl rfl) rfl (W.nx (V.seq (V.condT rfl (V.skip (At.next (V.seq (V.block (V.seq (V.region (W.mv rfl (W.r (X.ixK (vs at28_0_0 t28.1.1.length ct28_0_0) rfl rfl (fun _ => by kernel_rfl)) rfl (W.as rfl (W.as rfl (W.nx (V.dr [13, 19] [17, 18] [(20, pt b0), (21, vi (0)), (22, vi (0)), (23, pt b0), (24, vi (0)), (25, vi (0)), (26, pt b0), (27, po b0 (0 + 18)), (28, po b0 (0 + 18 + 0 * 6)), (29, po b0 (0 + 18 + 0 * 6 + 0 * 3)), (30, po b0 (0 + 18 + 0 * 6 + 0 * 3 + 1)), (31, vs a19_4 a0.ways.1.1.sent.length c19_4), (32, vs at28_0_0 t28.1.1.length ct28_0_0), (34, pt b0), (35, po b0 (0 + 18)), (36, po b0 (0 + 18 + 0 * 6))] mo HS ?_)))))))))))))))))
 refine T.ev [(31, _), (32, _)] [] [3, 4, 5, 6, 7, 8, 9, 10, 11, 12] ⟨rfl, rfl, tv⟩ ⟨.ld 1 27 underlying25, .mv 4, .mv 2, .ld 1 27 underlying25, .mv 4, .mv 2, .nc 23, .fa 26 fo83_2, .n2 24 27 rfl rfl rfl (fun w HS => X.indexArK 0 rfl underlying81 inf80 rfl rfl (by decide) (by decide)), .n2 25 28 rfl rfl rfl (fun w HS => X.indexArK 0 rfl underlying80 inf79 rfl rfl (by decide) (by decide)), .fa 29 fo79_1, .ld 30 5 underlying35, .mv 5, .nc 20, .fa 34 fo83_2, .n2 21 35 rfl rfl rfl (fun w HS => X.indexArK 0 rfl underlying81 inf80 rfl rfl (by decide) (by decide)), tv⟩ rfl (fun w HS => ?_)
 obtain ⟨c34, H⟩ := ite_n H
 refine ⟨_, Y.app (xs := a0.ways.1.1.sent) (ys := t28.1.1) 8 underlying35 ap48 rfl (by decide) HS rfl rfl rfl (rdC.at 0 row_rd HS rfl) (St.tie_one 1 HS rfl) (by omega) (by omega), ?_⟩
 rintro _ w ⟨ra35, rc36, rfl, HS⟩
 replace HS := HS.fr 9
 replace HS := St.tie_app 2 HS rfl
 refine T.nm [(33, vs ra35 (a0.ways.1.1.sent ++ t28.1.1).length rc36), (37, po b0 (0 + 18 + 0 * 6 + 0 * 3)), (38, po b0 (0 + 18 + 0 * 6 + 0 * 3 + 1))] HS ⟨.inl ⟨rfl, rfl⟩, ⟨.inr ⟨by decide, rfl⟩, ⟨.inr ⟨by decide, rfl⟩, tv⟩⟩⟩ ?_
 refine T.ev [(33, _), (38, _)] [] [0, 1, 2, 14, 15, 16, 17, 18] ⟨rfl, rfl, tv⟩ ⟨.ld 1 27 underlying25, .mv 4, .mv 2, .nc 20, .fa 34 fo83_2, .n2 21 35 rfl rfl rfl (fun w HS => X.indexArK 0 rfl underlying81 inf80 rfl rfl (by decide) (by decide)), .n2 22 36 rfl rfl rfl (fun w HS => X.indexArK 0 rfl underlying80 inf79 rfl rfl (by decide) (by decide)), .fa 37 fo79_1, tv⟩ rfl (fun w HS => ?_)
 refine ⟨_, Y.sto 6 19 HS inf35 rfl rfl rfl rfl rfl rfl, ?_⟩
 rintro _ w HS
 refine T.nn HS ?_
 refine T.fn [(1, _), (2, _), (9, _), (10, _), (15, _), (16, _)] ⟨rfl, rfl, rfl, rfl, rfl, rfl, tv⟩ tv (fun w HS => ?_)
 refine At.blockEnd (At.next (V.region (W.r (X.add rfl rfl) rfl (W.mv rfl (W.nil (At.onward [(1, pt nb1), (2, vi (0)), (9, Value.agg #[pt b16_4, pt b17_4]), (10, vi (0)), (15, Value.agg #[vs at28_0_0 t28.1.1.length ct28_0_0, vs at28_0_1 t28.1.2.length ct28_0_1]), (16, vi (1))] ⟨rfl, rfl, rfl, rfl, rfl, rfl, tv⟩ ?_))))))
 refine V.seq (V.region (W.r (X.cmp true (by decide) rfl rfl rfl) rfl (W.nx (V.seq (V.condT rfl (V.skip (At.next (V.seq (V.block (V.seq (V.region (W.mv rfl (W.r (X.ixK (vs at28_0_1 t28.1.2.length ct28_0_1) rfl rfl (fun _ => by kernel_rfl)) rfl (W.as rfl (W.as rfl (W.nx (V.dr [13, 19] [17, 18] [(20, pt b0), (21, vi (1)), (22, vi (0)), (23, pt b0), (24, vi (1)), (25, vi (0)), (26, pt b0), (27, po b0 (0 + 18)), (28, po b0 (0 + 18 + 1 * 6)), (29, po b0 (0 + 18 + 1 * 6 + 0 * 3)), (30, po b0 (0 + 18 + 1 * 6 + 0 * 3 + 1)), (31, vs a25_4 a0.ways.2.1.sent.length c25_4), (32, vs at28_0_1 t28.1.2.length ct28_0_1), (34, pt b0), (35, po b0 (0 + 18)), (36, po b0 (0 + 18 + 1 * 6))] mo HS ?_)))))))))))))))))
 refine T.ev [(31, _), (32, _)] [] [3, 4, 5, 6, 7, 8, 9, 10, 11, 12] ⟨rfl, rfl, tv⟩ ⟨.ld 1 27 underlying25, .mv 4, .mv 2, .ld 1 27 underlying25, .mv 4, .mv 2, .nc 23, .fa 26 fo83_2, .n2 24 27 rfl rfl rfl (fun w HS => X.indexArK 1 rfl underlying81 inf80 rfl rfl (by decide) (by decide)), .n2 25 28 rfl rfl rfl (fun w HS => X.indexArK 0 rfl underlying80 inf79 rfl rfl (by decide) (by decide)), .fa 29 fo79_1, .ld 30 6 underlying35, .mv 5, .nc 20, .fa 34 fo83_2, .n2 21 35 rfl rfl rfl (fun w HS => X.indexArK 1 rfl underlying81 inf80 rfl rfl (by decide) (by decide)), tv⟩ rfl (fun w HS => ?_)
 obtain ⟨c37, H⟩ := ite_n H
 refine ⟨_, Y.app (xs := a0.ways.2.1.sent) (ys := t28.1.2) 18 underlying35 ap48 rfl (by decide) HS rfl rfl rfl (rdC.at 3 row_rd HS rfl) (St.tie_one 4 HS rfl) (by omega) (by omega), ?_⟩
 rintro _ w ⟨ra38, rc39, rfl, HS⟩
 replace HS := HS.fr 19
 replace HS := St.tie_app 5 HS rfl
 refine T.nm [(33, vs ra38 (a0.ways.2.1.sent ++ t28.1.2).length rc39), (37, po b0 (0 + 18 + 1 * 6 + 0 * 3)), (38, po b0 (0 + 18 + 1 * 6 + 0 * 3 + 1))] HS ⟨.inl ⟨rfl, rfl⟩, ⟨.inr ⟨by decide, rfl⟩, ⟨.inr ⟨by decide, rfl⟩, tv⟩⟩⟩ ?_
 refine T.ev [(33, _), (38, _)] [] [0, 1, 2, 14, 15, 16, 17, 18] ⟨rfl, rfl, tv⟩ ⟨.ld 1 27 underlying25, .mv 4, .mv 2, .nc 20, .fa 34 fo83_2, .n2 21 35 rfl rfl rfl (fun w HS => X.indexArK 1 rfl underlying81 inf80 rfl rfl (by decide) (by decide)), .n2 22 36 rfl rfl rfl (fun w HS => X.indexArK 0 rfl underlying80 inf79 rfl rfl (by decide) (by decide)), .fa 37 fo79_1, tv⟩ rfl (fun w HS => ?_)
 refine ⟨_, Y.sto 7 25 HS inf35 rfl rfl rfl rfl rfl rfl, ?_⟩
 rintro _ w HS
 refine T.nn HS ?_
 refine T.fn [(1, _), (2, _), (9, _), (10, _), (15, _), (16, _)] ⟨rfl, rfl, rfl, rfl, rfl, rfl, tv⟩ tv (fun w HS => ?_)
 refine At.blockEnd (At.next (V.region (W.r (X.add rfl rfl) rfl (W.mv rfl (W.nil (At.onward [(1, pt nb1), (2, vi (0)), (9, Value.agg #[pt b16_4, pt b17_4]), (10, vi (0)), (15, Value.agg #[vs at28_0_0 t28.1.1.length ct28_0_0, vs at28_0_1 t28.1.2.length ct28_0_1]), (16, vi (2))] ⟨rfl, rfl, rfl, rfl, rfl, rfl, tv⟩ ?_))))))
 refine V.seq (V.region (W.r (X.cmp false (by decide) rfl rfl rfl) rfl (W.nx (V.seq (V.condF rfl (V.exit (At.thenExit (At.thenExit (At.blockExit (At.blockEnd (At.next (V.region (W.r (X.add rfl rfl) rfl (W.mv rfl (W.nil (At.onward [(1, pt nb1), (9, Value.agg #[pt b16_4, pt b17_4]), (10, vi (1))] ⟨rfl, rfl, rfl, tv⟩ ?_))))))))))))))))
 refine V.seq (V.region (W.r (X.cmp true (by decide) rfl rfl rfl) rfl (W.nx (V.seq (V.condT rfl (V.skip (At.next (V.seq (V.block (V.seq (V.region (W.mv rfl (W.r (X.ixK (pt b17_4) rfl rfl (fun _ => by kernel_rfl)) rfl (W.as rfl (W.as rfl (W.nx (V.seq (V.region (W.mv rfl ?_)))))))))))))))))))
 obtain ⟨t40, A41, H⟩ := bind_s H
 replace HS := HS.pm [8, 0, 1, 2, 3, 4, 5, 6, 7, 9, 10, 11, 12, 13, 14, 15, 16, 17, 18, 19, 20, 21, 22, 23, 24, 25, 26, 27, 28]
 refine W.e (Y.cl func55 (station_Station_Step.calls A41 HS.j1)) rfl ?_
 rintro _ w ⟨at40_0_0, ct40_0_0, dt40_0_0, at40_0_1, ct40_0_1, dt40_0_1, rfl, HS⟩
 replace HS := HS.o5
 refine W.mv rfl (W.nx (V.block (V.rounds 2 [(1, pt nb1), (2, vi (1)), (9, Value.agg #[pt b16_4, pt b17_4]), (10, vi (1)), (15, Value.agg #[vs at40_0_0 t40.1.1.length ct40_0_0, vs at40_0_1 t40.1.2.length ct40_0_1]), (16, vi (0))] ⟨rfl, rfl, rfl, rfl, rfl, rfl, tv⟩ ?_)))
 refine V.seq (V.region (W.r (X.cmp true (by decide) rfl rfl rfl) rfl (W.nx (V.seq (V.condT rfl (V.skip (At.next (V.seq (V.block (V.seq (V.region (W.mv rfl (W.r (X.ixK (vs at40_0_0 t40.1.1.length ct40_0_0) rfl rfl (fun _ => by kernel_rfl)) rfl (W.as rfl (W.as rfl (W.nx (V.dr [13, 19] [17, 18] [(20, pt b0), (21, vi (0)), (22, vi (1)), (23, pt b0), (24, vi (0)), (25, vi (1)), (26, pt b0), (27, po b0 (0 + 18)), (28, po b0 (0 + 18 + 0 * 6)), (29, po b0 (0 + 18 + 0 * 6 + 1 * 3)), (30, po b0 (0 + 18 + 0 * 6 + 1 * 3 + 1)), (31, vs a22_4 a0.ways.1.2.sent.length c22_4), (32, vs at40_0_0 t40.1.1.length ct40_0_0), (34, pt b0), (35, po b0 (0 + 18)), (36, po b0 (0 + 18 + 0 * 6))] mo HS ?_)))))))))))))))))
 refine T.ev [(31, _), (32, _)] [] [3, 4, 5, 6, 7, 8, 9, 10, 11, 12] ⟨rfl, rfl, tv⟩ ⟨.ld 1 31 underlying25, .mv 4, .mv 2, .ld 1 31 underlying25, .mv 4, .mv 2, .nc 23, .fa 26 fo83_2, .n2 24 27 rfl rfl rfl (fun w HS => X.indexArK 0 rfl underlying81 inf80 rfl rfl (by decide) (by decide)), .n2 25 28 rfl rfl rfl (fun w HS => X.indexArK 1 rfl underlying80 inf79 rfl rfl (by decide) (by decide)), .fa 29 fo79_1, .ld 30 12 underlying35, .mv 5, .nc 20, .fa 34 fo83_2, .n2 21 35 rfl rfl rfl (fun w HS => X.indexArK 0 rfl underlying81 inf80 rfl rfl (by decide) (by decide)), tv⟩ rfl (fun w HS => ?_)
 obtain ⟨c46, H⟩ := ite_n H
 refine ⟨_, Y.app (xs := a0.ways.1.2.sent) (ys := t40.1.1) 18 underlying35 ap48 rfl (by decide) HS rfl rfl rfl (rdC.at 0 row_rd HS rfl) (St.tie_one 1 HS rfl) (by omega) (by omega), ?_⟩
 rintro _ w ⟨ra47, rc48, rfl, HS⟩
 replace HS := HS.fr 19
 replace HS := St.tie_app 2 HS rfl
 refine T.nm [(33, vs ra47 (a0.ways.1.2.sent ++ t40.1.1).length rc48), (37, po b0 (0 + 18 + 0 * 6 + 1 * 3)), (38, po b0 (0 + 18 + 0 * 6 + 1 * 3 + 1))] HS ⟨.inl ⟨rfl, rfl⟩, ⟨.inr ⟨by decide, rfl⟩, ⟨.inr ⟨by decide, rfl⟩, tv⟩⟩⟩ ?_
 refine T.ev [(33, _), (38, _)] [] [0, 1, 2, 14, 15, 16, 17, 18] ⟨rfl, rfl, tv⟩ ⟨.ld 1 31 underlying25, .mv 4, .mv 2, .nc 20, .fa 34 fo83_2, .n2 21 35 rfl rfl rfl (fun w HS => X.indexArK 0 rfl underlying81 inf80 rfl rfl (by decide) (by decide)), .n2 22 36 rfl rfl rfl (fun w HS => X.indexArK 1 rfl underlying80 inf79 rfl rfl (by decide) (by decide)), .fa 37 fo79_1, tv⟩ rfl (fun w HS => ?_)
 refine ⟨_, Y.sto 13 22 HS inf35 rfl rfl rfl rfl rfl rfl, ?_⟩
 rintro _ w HS
 refine T.nn HS ?_
 refine T.fn [(1, _), (2, _), (9, _), (10, _), (15, _), (16, _)] ⟨rfl, rfl, rfl, rfl, rfl, rfl, tv⟩ tv (fun w HS => ?_)
 refine At.blockEnd (At.next (V.region (W.r (X.add rfl rfl) rfl (W.mv rfl (W.nil (At.onward [(1, pt nb1), (2, vi (1)), (9, Value.agg #[pt b16_4, pt b17_4]), (10, vi (1)), (15, Value.agg #[vs at40_0_0 t40.1.1.length ct40_0_0, vs at40_0_1 t40.1.2.length ct40_0_1]), (16, vi (1))] ⟨rfl, rfl, rfl, rfl, rfl, rfl, tv⟩ ?_))))))
 refine V.seq (V.region (W.r (X.cmp true (by decide) rfl rfl rfl) rfl (W.nx (V.seq (V.condT rfl (V.skip (At.next (V.seq (V.block (V.seq (V.region (W.mv rfl (W.r (X.ixK (vs at40_0_1 t40.1.2.length ct40_0_1) rfl rfl (fun _ => by kernel_rfl)) rfl (W.as rfl (W.as rfl (W.nx (V.dr [13, 19] [17, 18] [(20, pt b0), (21, vi (1)), (22, vi (1)), (23, pt b0), (24, vi (1)), (25, vi (1)), (26, pt b0), (27, po b0 (0 + 18)), (28, po b0 (0 + 18 + 1 * 6)), (29, po b0 (0 + 18 + 1 * 6 + 1 * 3)), (30, po b0 (0 + 18 + 1 * 6 + 1 * 3 + 1)), (31, vs a28_4 a0.ways.2.2.sent.length c28_4), (32, vs at40_0_1 t40.1.2.length ct40_0_1), (34, pt b0), (35, po b0 (0 + 18)), (36, po b0 (0 + 18 + 1 * 6))] mo HS ?_)))))))))))))))))
 refine T.ev [(31, _), (32, _)] [] [3, 4, 5, 6, 7, 8, 9, 10, 11, 12] ⟨rfl, rfl, tv⟩ ⟨.ld 1 31 underlying25, .mv 4, .mv 2, .ld 1 31 underlying25, .mv 4, .mv 2, .nc 23, .fa 26 fo83_2, .n2 24 27 rfl rfl rfl (fun w HS => X.indexArK 1 rfl underlying81 inf80 rfl rfl (by decide) (by decide)), .n2 25 28 rfl rfl rfl (fun w HS => X.indexArK 1 rfl underlying80 inf79 rfl rfl (by decide) (by decide)), .fa 29 fo79_1, .ld 30 13 underlying35, .mv 5, .nc 20, .fa 34 fo83_2, .n2 21 35 rfl rfl rfl (fun w HS => X.indexArK 1 rfl underlying81 inf80 rfl rfl (by decide) (by decide)), tv⟩ rfl (fun w HS => ?_)
 obtain ⟨c49, H⟩ := ite_n H
 refine ⟨_, Y.app (xs := a0.ways.2.2.sent) (ys := t40.1.2) 27 underlying35 ap48 rfl (by decide) HS rfl rfl rfl (rdC.at 3 row_rd HS rfl) (St.tie_one 4 HS rfl) (by omega) (by omega), ?_⟩
 rintro _ w ⟨ra50, rc51, rfl, HS⟩
 replace HS := HS.fr 28
 replace HS := St.tie_app 5 HS rfl
 refine T.nm [(33, vs ra50 (a0.ways.2.2.sent ++ t40.1.2).length rc51), (37, po b0 (0 + 18 + 1 * 6 + 1 * 3)), (38, po b0 (0 + 18 + 1 * 6 + 1 * 3 + 1))] HS ⟨.inl ⟨rfl, rfl⟩, ⟨.inr ⟨by decide, rfl⟩, ⟨.inr ⟨by decide, rfl⟩, tv⟩⟩⟩ ?_
 refine T.ev [(33, _), (38, _)] [] [0, 1, 2, 14, 15, 16, 17, 18] ⟨rfl, rfl, tv⟩ ⟨.ld 1 31 underlying25, .mv 4, .mv 2, .nc 20, .fa 34 fo83_2, .n2 21 35 rfl rfl rfl (fun w HS => X.indexArK 1 rfl underlying81 inf80 rfl rfl (by decide) (by decide)), .n2 22 36 rfl rfl rfl (fun w HS => X.indexArK 1 rfl underlying80 inf79 rfl rfl (by decide) (by decide)), .fa 37 fo79_1, tv⟩ rfl (fun w HS => ?_)
 refine ⟨_, Y.sto 14 28 HS inf35 rfl rfl rfl rfl rfl rfl, ?_⟩
 rintro _ w HS
 refine T.nn HS ?_
 refine T.fn [(1, _), (2, _), (9, _), (10, _), (15, _), (16, _)] ⟨rfl, rfl, rfl, rfl, rfl, rfl, tv⟩ tv (fun w HS => ?_)
 refine At.blockEnd (At.next (V.region (W.r (X.add rfl rfl) rfl (W.mv rfl (W.nil (At.onward [(1, pt nb1), (2, vi (1)), (9, Value.agg #[pt b16_4, pt b17_4]), (10, vi (1)), (15, Value.agg #[vs at40_0_0 t40.1.1.length ct40_0_0, vs at40_0_1 t40.1.2.length ct40_0_1]), (16, vi (2))] ⟨rfl, rfl, rfl, rfl, rfl, rfl, tv⟩ ?_))))))
 refine V.seq (V.region (W.r (X.cmp false (by decide) rfl rfl rfl) rfl (W.nx (V.seq (V.condF rfl (V.exit (At.thenExit (At.thenExit (At.blockExit (At.blockEnd (At.next (V.region (W.r (X.add rfl rfl) rfl (W.mv rfl (W.nil (At.onward [(1, pt nb1), (9, Value.agg #[pt b16_4, pt b17_4]), (10, vi (2))] ⟨rfl, rfl, rfl, tv⟩ ?_))))))))))))))))
 refine V.seq (V.region (W.r (X.cmp false (by decide) rfl rfl rfl) rfl (W.nx (V.seq (V.condF rfl (V.exit (At.thenExit (At.thenExit (At.blockExit (At.next (V.seq (V.region (W.ld 31 HS underlying25 rfl rfl rfl rfl (W.r (X.mkFunc rfl) rfl ?_))))))))))))))
 refine W.inl (Y.cl (vs := [pt b0, Value.func (.func 57) #[] #[pt nb1]]) func56 (calls_enter func56 rfl rfl ?_)) rfl rfl rfl
 refine V.seq (V.region (W.mv rfl (W.nx (V.block (V.rounds 2 [(0, pt b0), (1, Value.func (.func 57) #[] #[pt nb1]), (6, vi (0))] ⟨rfl, rfl, rfl, tv⟩ ?_)))))
 refine V.seq (V.region (W.r (X.cmp true (by decide) rfl rfl rfl) rfl (W.nx (V.seq (V.condT rfl (V.skip (At.next (V.seq (V.block (V.seq (V.region (W.mv rfl (W.as rfl (W.nx (V.seq (V.region (W.mv rfl (W.nx (V.block (V.rounds 2 [(0, pt b0), (1, Value.func (.func 57) #[] #[pt nb1]), (4, vi (0)), (6, vi (0)), (9, vi (0))] ⟨rfl, rfl, rfl, rfl, rfl, tv⟩ ?_))))))))))))))))))))
 refine V.seq (V.region (W.r (X.cmp true (by decide) rfl rfl rfl) rfl (W.nx (V.seq (V.condT rfl (V.skip (At.next (V.seq (V.block (V.seq (V.region (W.mv rfl (W.as rfl (W.nx (V.region (W.mv rfl (W.mv rfl (W.mv rfl (W.mv rfl (W.mv rfl (W.mv rfl (W.nc rfl (W.fa fo83_2 rfl (W.r (X.indexArK 0 rfl underlying81 inf80 rfl rfl (by decide) (by decide)) rfl (W.r (X.indexArK 0 rfl underlying80 inf79 rfl rfl (by decide) (by decide)) rfl ?_)))))))))))))))))))))))))
 refine W.inl (Y.callV (vs := [vi (0), vi (0), po b0 (0 + 18 + 0 * 6 + 0 * 3)]) (cs := [pt nb1]) rfl func57 (by kernel_rfl) rfl rfl (calls_enter func57 rfl rfl ?_)) rfl rfl rfl
 refine V.dr [13, 14, 15] [] [(7, po b0 (0 + 18 + 0 * 6 + 0 * 3)), (8, po b0 (0 + 18 + 0 * 6 + 0 * 3)), (9, po b0 (0 + 18 + 0 * 6 + 0 * 3 + 0)), (10, pt b18_4), (11, pt b0), (12, vi (0)), (13, pt b0), (14, po b0 (0 + 16)), (15, po b0 (0 + 16 + 0 * 1)), (16, pt b16_4), (17, vi (0)), (18, pt b0), (19, po b0 (0 + 18 + 0 * 6 + 0 * 3))] mo HS ?_
 refine T.ev [(18, _), (19, _)] [] [11, 12] ⟨rfl, rfl, tv⟩ ⟨.mv 2, .nc 7, .fa 8 fo79_0, .ld 9 14 underlying77, .ld 3 31 underlying25, .mv 1, .nc 11, .fa 13 fo83_1, .n2 12 14 rfl rfl rfl (fun w HS => X.indexArK 0 rfl underlying76 inf32 rfl rfl (by decide) (by decide)), .ld 15 14 underlying32, .mv 0, .ld 3 31 underlying25, .mv 2, tv⟩ rfl (fun w HS => ?_)
 refine ⟨(fun u w => ∃ z : Int, u = vi z ∧ Sep.St [tie (El.sl (El.int .u8)) (d28_4 ++ dt40_0_1) (a0.ways.2.2.sent ++ t40.1.2), tie (El.sl (El.int .u8)) (d22_4 ++ dt40_0_0) (a0.ways.1.2.sent ++ t40.1.1), row 48 1 (.slice at40_0_0 t40.1.1.length ct40_0_0) t40.1.1.length dt40_0_0, tie (El.sl (El.int .u8)) dt40_0_0 t40.1.1, row 48 1 (.slice at40_0_1 t40.1.2.length ct40_0_1) t40.1.2.length dt40_0_1, tie (El.sl (El.int .u8)) dt40_0_1 t40.1.2, station_Station.at b17_4 t40.2, tie (El.sl (El.int .u8)) (d25_4 ++ dt28_0_1) (a0.ways.2.1.sent ++ t28.1.2), tie (El.sl (El.int .u8)) (d19_4 ++ dt28_0_0) (a0.ways.1.1.sent ++ t28.1.1), row 48 1 (.slice at28_0_0 t28.1.1.length ct28_0_0) t28.1.1.length dt28_0_0, tie (El.sl (El.int .u8)) dt28_0_0 t28.1.1, row 48 1 (.slice at28_0_1 t28.1.2.length ct28_0_1) t28.1.2.length dt28_0_1, tie (El.sl (El.int .u8)) dt28_0_1 t28.1.2, station_Station.at b16_4 t28.2, blk b0 (#[vi a0.c.Mode, vi a0.c.Modulus, vi a0.c.Window, vi a0.c.T1, vi a0.c.N2, vi a0.c.Hold, vi a0.c.Wait, vi a0.c.Keep, vi a0.c.Queue, vi a0.c.Size, vi a0.c.Ring, vi a0.c.Rate, vi a0.c.Bad, vi a0.c.Good, vb a0.c.Revert, vb a0.c.Wide, pt b16_4, pt b17_4, pt b18_4, vs ra35 (a0.ways.1.1.sent ++ t28.1.1).length rc36, vs a20_4 a0.ways.1.1.got.length c20_4, pt b21_4, vs ra47 (a0.ways.1.2.sent ++ t40.1.1).length rc48, vs a23_4 a0.ways.1.2.got.length c23_4, pt b24_4, vs ra38 (a0.ways.2.1.sent ++ t28.1.2).length rc39, vs a26_4 a0.ways.2.1.got.length c26_4, pt b27_4, vs ra50 (a0.ways.2.2.sent ++ t40.1.2).length rc51, vs a29_4 a0.ways.2.2.got.length c29_4, vi a0.now]) 83, pipe_Pipe.at b18_4 a0.ways.1.1.pipe, row 48 1 (.slice ra35 (a0.ways.1.1.sent ++ t28.1.1).length rc36) (a0.ways.1.1.sent ++ t28.1.1).length (d19_4 ++ dt28_0_0), row 48 1 (.slice a20_4 a0.ways.1.1.got.length c20_4) a0.ways.1.1.got.length d20_4, tie (El.sl (El.int .u8)) d20_4 a0.ways.1.1.got, pipe_Pipe.at b21_4 a0.ways.1.2.pipe, row 48 1 (.slice ra47 (a0.ways.1.2.sent ++ t40.1.1).length rc48) (a0.ways.1.2.sent ++ t40.1.1).length (d22_4 ++ dt40_0_0), row 48 1 (.slice a23_4 a0.ways.1.2.got.length c23_4) a0.ways.1.2.got.length d23_4, tie (El.sl (El.int .u8)) d23_4 a0.ways.1.2.got, pipe_Pipe.at b24_4 a0.ways.2.1.pipe, row 48 1 (.slice ra38 (a0.ways.2.1.sent ++ t28.1.2).length rc39) (a0.ways.2.1.sent ++ t28.1.2).length (d25_4 ++ dt28_0_1), row 48 1 (.slice a26_4 a0.ways.2.1.got.length c26_4) a0.ways.2.1.got.length d26_4, tie (El.sl (El.int .u8)) d26_4 a0.ways.2.1.got, pipe_Pipe.at b27_4 a0.ways.2.2.pipe, row 48 1 (.slice ra50 (a0.ways.2.2.sent ++ t40.1.2).length rc51) (a0.ways.2.2.sent ++ t40.1.2).length (d28_4 ++ dt40_0_1), row 48 1 (.slice a29_4 a0.ways.2.2.got.length c29_4) a0.ways.2.2.got.length d29_4, tie (El.sl (El.int .u8)) d29_4 a0.ways.2.2.got, blk nb1 (#[pt b0]) 25, R] w0 w ∧ world_World_Step.j0 k a0 t28 t40 z = some r), Y.cl (vs := [pt b0, po b0 (0 + 18 + 0 * 6 + 0 * 3)]) func60 (calls_enter func60 rfl rfl ?_), ?_⟩
 ·refine V.seq (V.region (W.as rfl (W.nx (V.seq (V.seq (V.region (W.mv rfl (W.nc rfl (W.fa fo79_0 rfl (W.ld 14 HS underlying77 rfl rfl rfl rfl ?_))))))))))
  replace HS := HS.fr 15
  obtain ⟨a1_307, c1_307, hi308, HS⟩ := pipe_Pipe.open HS
  obtain ⟨t309, A310, H⟩ := bind_s H
  refine W.e (Y.cl func125 (pipe_Pipe_Cut.calls A310 HS.j2)) rfl ?_
  rintro _ w ⟨rfl, HS⟩
  replace HS := HS.o2
  refine W.nx ?_
  by_cases c311 : t309 = true
  ·replace H := ite_t c311 H
   refine V.condT (sb c311) (V.seq (V.region (W.mv rfl (W.nc rfl (W.fa fo83_0 rfl (W.fa fo23_11 rfl (W.ld 16 HS underlying3 rfl rfl rfl rfl (W.as rfl (W.nx (V.ret (At.thenRet ?_)))))))))))
   refine At.ret1 rfl rfl ⟨_, rfl, ?_⟩
   replace HS := pipe_Pipe.close tv HS
   replace HS := HS.pk [1, 2, 3, 4, 5, 6, 7, 8, 9, 10, 11, 12, 13, 14, 15, 0, 16, 17, 18, 19, 20, 21, 22, 23, 24, 25, 26, 27, 28, 29, 30, 31, 32] []
   exact ⟨a0.c.Rate, rfl, HS, H⟩
  ·replace H := ite_f c311 H
   refine V.condF (sb (b_f c311)) (V.skip (At.next (V.seq (V.dr [9] [10, 11] [(15, pt b0), (16, pt b0), (17, po b0 (0 + 0)), (18, po b0 (0 + 0 + 11)), (19, vi a0.c.Rate), (20, po b0 (0 + 18 + 0 * 6 + 0 * 3)), (21, po b0 (0 + 18 + 0 * 6 + 0 * 3)), (22, po b0 (0 + 18 + 0 * 6 + 0 * 3 + 0)), (23, pt b18_4)] mo HS ?_))))
   refine T.ev [(23, _)] [] [5, 6, 7, 8] ⟨rfl, tv⟩ ⟨.mv 0, .nc 15, .fa 16 fo83_0, .fa 17 fo23_11, .ld 18 16 underlying3, .mv 1, .nc 20, .fa 21 fo79_0, .ld 22 16 underlying77, tv⟩ rfl (fun w HS => ?_)
   obtain ⟨t312, A313, H⟩ := bind_s H
   refine ⟨_, Y.cl func110 (pipe_Pipe_Room.calls A313 HS.j2), ?_⟩
   rintro _ w ⟨rfl, HS⟩
   replace HS := HS.o2
   refine T.nm [(24, vi t312), (25, vi (imin a0.c.Rate t312)), (4, vi (imin a0.c.Rate t312))] HS ⟨.inl ⟨rfl, rfl⟩, ⟨.inr ⟨by decide, rfl⟩, ⟨.inr ⟨by decide, rfl⟩, tv⟩⟩⟩ ?_
   refine T.fn [(4, _)] ⟨rfl, tv⟩ ⟨.mv 0, .nc 15, .fa 16 fo83_0, .fa 17 fo23_11, .ld 18 16 underlying3, .n2 19 24 rfl rfl rfl (fun w HS => X.min2 rfl rfl), .as 25, tv⟩ (fun w HS => ?_)
   refine At.next (V.ret ?_)
   refine At.ret1 rfl rfl ⟨_, rfl, ?_⟩
   replace HS := pipe_Pipe.close tv HS
   replace HS := HS.pk [1, 2, 3, 4, 5, 6, 7, 8, 9, 10, 11, 12, 13, 14, 15, 0, 16, 17, 18, 19, 20, 21, 22, 23, 24, 25, 26, 27, 28, 29, 30, 31, 32] []
   exact ⟨imin a0.c.Rate t312, rfl, HS, H⟩
 ·rintro _ w ⟨x52, rfl, HS, H⟩
  unfold world_World_Step.j0 at H
  refine T.nw HS ?_
  refine T.ev [(16, _), (17, _), (20, _)] [] [4, 5, 6, 7, 8, 9, 10] ⟨rfl, rfl, rfl, tv⟩ ⟨.mv 2, .nc 7, .fa 8 fo79_0, .ld 9 14 underlying77, .ld 3 31 underlying25, .mv 1, .nc 11, .fa 13 fo83_1, .n2 12 14 rfl rfl rfl (fun w HS => X.indexArK 0 rfl underlying76 inf32 rfl rfl (by decide) (by decide)), .ld 15 14 underlying32, .mv 0, tv⟩ rfl (fun w HS => ?_)
  obtain ⟨t53, A54, H⟩ := bind_s H
  replace HS := HS.pm [13, 0, 1, 2, 3, 4, 5, 6, 7, 8, 9, 10, 11, 12, 14, 15, 16, 17, 18, 19, 20, 21, 22, 23, 24, 25, 26, 27, 28, 29, 30, 31, 32]
  refine ⟨_, Y.cl func59 (station_Station_Take.calls A54 HS.j1), ?_⟩
  rintro _ w ⟨at53_0, ct53_0, rfl, HS⟩
  replace HS := HS.o2
  refine T.nw HS ?_
  refine T.ev [(10, _), (21, _)] [] [0, 1, 2, 3] ⟨rfl, rfl, tv⟩ ⟨.mv 2, .nc 7, .fa 8 fo79_0, .ld 9 15 underlying77, tv⟩ rfl (fun w HS => ?_)
  obtain ⟨t55, A56, H⟩ := bind_s H
  replace HS := HS.pm [16, 0, 1, 2, 3, 4, 5, 6, 7, 8, 9, 10, 11, 12, 13, 14, 15, 17, 18, 19, 20, 21, 22, 23, 24, 25, 26, 27, 28, 29, 30, 31, 32, 33]
  refine ⟨_, Y.cl func58 (pipe_Pipe_Put.calls A56 HS.j1 (rdC.part 0 row_rd rfl)), ?_⟩
  rintro _ w ⟨rfl, HS⟩
  replace HS := HS.o1
  refine T.nw HS ?_
  refine T.fn [] tv tv (fun w HS => ?_)
  refine At.end0 rfl ⟨_, rfl, ?_⟩
  refine W.nil (At.blockEnd (At.next (V.region (W.r (X.add rfl rfl) rfl (W.mv rfl (W.nil (At.onward [(0, pt b0), (1, Value.func (.func 57) #[] #[pt nb1]), (4, vi (0)), (6, vi (0)), (9, vi (1))] ⟨rfl, rfl, rfl, rfl, rfl, tv⟩ ?_)))))))
  refine V.seq (V.region (W.r (X.cmp true (by decide) rfl rfl rfl) rfl (W.nx (V.seq (V.condT rfl (V.skip (At.next (V.seq (V.block (V.seq (V.region (W.mv rfl (W.as rfl (W.nx (V.region (W.mv rfl (W.mv rfl (W.mv rfl (W.mv rfl (W.mv rfl (W.mv rfl (W.nc rfl (W.fa fo83_2 rfl (W.r (X.indexArK 0 rfl underlying81 inf80 rfl rfl (by decide) (by decide)) rfl (W.r (X.indexArK 1 rfl underlying80 inf79 rfl rfl (by decide) (by decide)) rfl ?_)))))))))))))))))))))))))
  refine W.inl (Y.callV (vs := [vi (0), vi (1), po b0 (0 + 18 + 0 * 6 + 1 * 3)]) (cs := [pt nb1]) rfl func57 (by kernel_rfl) rfl rfl (calls_enter func57 rfl rfl ?_)) rfl rfl rfl
  refine V.dr [13, 14, 15] [] [(7, po b0 (0 + 18 + 0 * 6 + 1 * 3)), (8, po b0 (0 + 18 + 0 * 6 + 1 * 3)), (9, po b0 (0 + 18 + 0 * 6 + 1 * 3 + 0)), (10, pt b21_4), (11, pt b0), (12, vi (1)), (13, pt b0), (14, po b0 (0 + 16)), (15, po b0 (0 + 16 + 1 * 1)), (16, pt b17_4), (17, vi (0)), (18, pt b0), (19, po b0 (0 + 18 + 0 * 6 + 1 * 3))] mo HS ?_
  refine T.ev [(18, _), (19, _)] [] [11, 12] ⟨rfl, rfl, tv⟩ ⟨.mv 2, .nc 7, .fa 8 fo79_0, .ld 9 16 underlying77, .ld 3 32 underlying25, .mv 1, .nc 11, .fa 13 fo83_1, .n2 12 14 rfl rfl rfl (fun w HS => X.indexArK 1 rfl underlying76 inf32 rfl rfl (by decide) (by decide)), .ld 15 16 underlying32, .mv 0, .ld 3 32 underlying25, .mv 2, tv⟩ rfl (fun w HS => ?_)
  refine ⟨(fun u w => ∃ z : Int, u = vi z ∧ Sep.St [pipe_Pipe.at b18_4 t55.2, row 5 1 (.slice at53_0 t53.1.length ct53_0) t53.1.length (t53.1.map (Value.int .u8)), station_Station.at b16_4 t53.2, tie (El.sl (El.int .u8)) (d28_4 ++ dt40_0_1) (a0.ways.2.2.sent ++ t40.1.2), tie (El.sl (El.int .u8)) (d22_4 ++ dt40_0_0) (a0.ways.1.2.sent ++ t40.1.1), row 48 1 (.slice at40_0_0 t40.1.1.length ct40_0_0) t40.1.1.length dt40_0_0, tie (El.sl (El.int .u8)) dt40_0_0 t40.1.1, row 48 1 (.slice at40_0_1 t40.1.2.length ct40_0_1) t40.1.2.length dt40_0_1, tie (El.sl (El.int .u8)) dt40_0_1 t40.1.2, station_Station.at b17_4 t40.2, tie (El.sl (El.int .u8)) (d25_4 ++ dt28_0_1) (a0.ways.2.1.sent ++ t28.1.2), tie (El.sl (El.int .u8)) (d19_4 ++ dt28_0_0) (a0.ways.1.1.sent ++ t28.1.1), row 48 1 (.slice at28_0_0 t28.1.1.length ct28_0_0) t28.1.1.length dt28_0_0, tie (El.sl (El.int .u8)) dt28_0_0 t28.1.1, row 48 1 (.slice at28_0_1 t28.1.2.length ct28_0_1) t28.1.2.length dt28_0_1, tie (El.sl (El.int .u8)) dt28_0_1 t28.1.2, blk b0 (#[vi a0.c.Mode, vi a0.c.Modulus, vi a0.c.Window, vi a0.c.T1, vi a0.c.N2, vi a0.c.Hold, vi a0.c.Wait, vi a0.c.Keep, vi a0.c.Queue, vi a0.c.Size, vi a0.c.Ring, vi a0.c.Rate, vi a0.c.Bad, vi a0.c.Good, vb a0.c.Revert, vb a0.c.Wide, pt b16_4, pt b17_4, pt b18_4, vs ra35 (a0.ways.1.1.sent ++ t28.1.1).length rc36, vs a20_4 a0.ways.1.1.got.length c20_4, pt b21_4, vs ra47 (a0.ways.1.2.sent ++ t40.1.1).length rc48, vs a23_4 a0.ways.1.2.got.length c23_4, pt b24_4, vs ra38 (a0.ways.2.1.sent ++ t28.1.2).length rc39, vs a26_4 a0.ways.2.1.got.length c26_4, pt b27_4, vs ra50 (a0.ways.2.2.sent ++ t40.1.2).length rc51, vs a29_4 a0.ways.2.2.got.length c29_4, vi a0.now]) 83, row 48 1 (.slice ra35 (a0.ways.1.1.sent ++ t28.1.1).length rc36) (a0.ways.1.1.sent ++ t28.1.1).length (d19_4 ++ dt28_0_0), row 48 1 (.slice a20_4 a0.ways.1.1.got.length c20_4) a0.ways.1.1.got.length d20_4, tie (El.sl (El.int .u8)) d20_4 a0.ways.1.1.got, pipe_Pipe.at b21_4 a0.ways.1.2.pipe, row 48 1 (.slice ra47 (a0.ways.1.2.sent ++ t40.1.1).length rc48) (a0.ways.1.2.sent ++ t40.1.1).length (d22_4 ++ dt40_0_0), row 48 1 (.slice a23_4 a0.ways.1.2.got.length c23_4) a0.ways.1.2.got.length d23_4, tie (El.sl (El.int .u8)) d23_4 a0.ways.1.2.got, pipe_Pipe.at b24_4 a0.ways.2.1.pipe, row 48 1 (.slice ra38 (a0.ways.2.1.sent ++ t28.1.2).length rc39) (a0.ways.2.1.sent ++ t28.1.2).length (d25_4 ++ dt28_0_1), row 48 1 (.slice a26_4 a0.ways.2.1.got.length c26_4) a0.ways.2.1.got.length d26_4, tie (El.sl (El.int .u8)) d26_4 a0.ways.2.1.got, pipe_Pipe.at b27_4 a0.ways.2.2.pipe, row 48 1 (.slice ra50 (a0.ways.2.2.sent ++ t40.1.2).length rc51) (a0.ways.2.2.sent ++ t40.1.2).length (d28_4 ++ dt40_0_1), row 48 1 (.slice a29_4 a0.ways.2.2.got.length c29_4) a0.ways.2.2.got.length d29_4, tie (El.sl (El.int .u8)) d29_4 a0.ways.2.2.got, blk nb1 (#[pt b0]) 25, R] w0 w ∧ world_World_Step.j1 k a0 t28 t40 t53 t55 z = some r), Y.cl (vs := [pt b0, po b0 (0 + 18 + 0 * 6 + 1 * 3)]) func60 (calls_enter func60 rfl rfl ?_), ?_⟩
  ·refine V.seq (V.region (W.as rfl (W.nx (V.seq (V.seq (V.region (W.mv rfl (W.nc rfl (W.fa fo79_0 rfl (W.ld 16 HS underlying77 rfl rfl rfl rfl ?_))))))))))
   replace HS := HS.fr 20
   obtain ⟨a1_300, c1_300, hi301, HS⟩ := pipe_Pipe.open HS
   obtain ⟨t302, A303, H⟩ := bind_s H
   refine W.e (Y.cl func125 (pipe_Pipe_Cut.calls A303 HS.j2)) rfl ?_
   rintro _ w ⟨rfl, HS⟩
   replace HS := HS.o2
   refine W.nx ?_
   by_cases c304 : t302 = true
   ·replace H := ite_t c304 H
    refine V.condT (sb c304) (V.seq (V.region (W.mv rfl (W.nc rfl (W.fa fo83_0 rfl (W.fa fo23_11 rfl (W.ld 18 HS underlying3 rfl rfl rfl rfl (W.as rfl (W.nx (V.ret (At.thenRet ?_)))))))))))
    refine At.ret1 rfl rfl ⟨_, rfl, ?_⟩
    replace HS := pipe_Pipe.close tv HS
    replace HS := HS.pk [1, 2, 3, 4, 5, 6, 7, 8, 9, 10, 11, 12, 13, 14, 15, 16, 17, 18, 19, 20, 0, 21, 22, 23, 24, 25, 26, 27, 28, 29, 30, 31, 32, 33] []
    exact ⟨a0.c.Rate, rfl, HS, H⟩
   ·replace H := ite_f c304 H
    refine V.condF (sb (b_f c304)) (V.skip (At.next (V.seq (V.dr [9] [10, 11] [(15, pt b0), (16, pt b0), (17, po b0 (0 + 0)), (18, po b0 (0 + 0 + 11)), (19, vi a0.c.Rate), (20, po b0 (0 + 18 + 0 * 6 + 1 * 3)), (21, po b0 (0 + 18 + 0 * 6 + 1 * 3)), (22, po b0 (0 + 18 + 0 * 6 + 1 * 3 + 0)), (23, pt b21_4)] mo HS ?_))))
    refine T.ev [(23, _)] [] [5, 6, 7, 8] ⟨rfl, tv⟩ ⟨.mv 0, .nc 15, .fa 16 fo83_0, .fa 17 fo23_11, .ld 18 18 underlying3, .mv 1, .nc 20, .fa 21 fo79_0, .ld 22 18 underlying77, tv⟩ rfl (fun w HS => ?_)
    obtain ⟨t305, A306, H⟩ := bind_s H
    refine ⟨_, Y.cl func110 (pipe_Pipe_Room.calls A306 HS.j2), ?_⟩
    rintro _ w ⟨rfl, HS⟩
    replace HS := HS.o2
    refine T.nm [(24, vi t305), (25, vi (imin a0.c.Rate t305)), (4, vi (imin a0.c.Rate t305))] HS ⟨.inl ⟨rfl, rfl⟩, ⟨.inr ⟨by decide, rfl⟩, ⟨.inr ⟨by decide, rfl⟩, tv⟩⟩⟩ ?_
    refine T.fn [(4, _)] ⟨rfl, tv⟩ ⟨.mv 0, .nc 15, .fa 16 fo83_0, .fa 17 fo23_11, .ld 18 18 underlying3, .n2 19 24 rfl rfl rfl (fun w HS => X.min2 rfl rfl), .as 25, tv⟩ (fun w HS => ?_)
    refine At.next (V.ret ?_)
    refine At.ret1 rfl rfl ⟨_, rfl, ?_⟩
    replace HS := pipe_Pipe.close tv HS
    replace HS := HS.pk [1, 2, 3, 4, 5, 6, 7, 8, 9, 10, 11, 12, 13, 14, 15, 16, 17, 18, 19, 20, 0, 21, 22, 23, 24, 25, 26, 27, 28, 29, 30, 31, 32, 33] []
    exact ⟨imin a0.c.Rate t305, rfl, HS, H⟩
  ·rintro _ w ⟨x58, rfl, HS, H⟩
   unfold world_World_Step.j1 at H
   refine T.nw HS ?_
   refine T.ev [(16, _), (17, _), (20, _)] [] [4, 5, 6, 7, 8, 9, 10] ⟨rfl, rfl, rfl, tv⟩ ⟨.mv 2, .nc 7, .fa 8 fo79_0, .ld 9 16 underlying77, .ld 3 32 underlying25, .mv 1, .nc 11, .fa 13 fo83_1, .n2 12 14 rfl rfl rfl (fun w HS => X.indexArK 1 rfl underlying76 inf32 rfl rfl (by decide) (by decide)), .ld 15 16 underlying32, .mv 0, tv⟩ rfl (fun w HS => ?_)
   obtain ⟨t59, A60, H⟩ := bind_s H
   replace HS := HS.pm [9, 0, 1, 2, 3, 4, 5, 6, 7, 8, 10, 11, 12, 13, 14, 15, 16, 17, 18, 19, 20, 21, 22, 23, 24, 25, 26, 27, 28, 29, 30, 31, 32, 33]
   refine ⟨_, Y.cl func59 (station_Station_Take.calls A60 HS.j1), ?_⟩
   rintro _ w ⟨at59_0, ct59_0, rfl, HS⟩
   replace HS := HS.o2
   refine T.nw HS ?_
   refine T.ev [(10, _), (21, _)] [] [0, 1, 2, 3] ⟨rfl, rfl, tv⟩ ⟨.mv 2, .nc 7, .fa 8 fo79_0, .ld 9 17 underlying77, tv⟩ rfl (fun w HS => ?_)
   obtain ⟨t61, A62, H⟩ := bind_s H
   replace HS := HS.pm [21, 0, 1, 2, 3, 4, 5, 6, 7, 8, 9, 10, 11, 12, 13, 14, 15, 16, 17, 18, 19, 20, 22, 23, 24, 25, 26, 27, 28, 29, 30, 31, 32, 33, 34]
   refine ⟨_, Y.cl func58 (pipe_Pipe_Put.calls A62 HS.j1 (rdC.part 0 row_rd rfl)), ?_⟩
   rintro _ w ⟨rfl, HS⟩
   replace HS := HS.o1
   refine T.nw HS ?_
   refine T.fn [] tv tv (fun w HS => ?_)
   refine At.end0 rfl ⟨_, rfl, ?_⟩
   refine W.nil (At.blockEnd (At.next (V.region (W.r (X.add rfl rfl) rfl (W.mv rfl (W.nil (At.onward [(0, pt b0), (1, Value.func (.func 57) #[] #[pt nb1]), (4, vi (0)), (6, vi (0)), (9, vi (2))] ⟨rfl, rfl, rfl, rfl, rfl, tv⟩ ?_)))))))
   refine V.seq (V.region (W.r (X.cmp false (by decide) rfl rfl rfl) rfl (W.nx (V.seq (V.condF rfl (V.exit (At.thenExit (At.thenExit (At.blockExit (At.blockEnd (At.next (V.region (W.r (X.add rfl rfl) rfl (W.mv rfl (W.nil (At.onward [(0, pt b0), (1, Value.func (.func 57) #[] #[pt nb1]), (6, vi (1))] ⟨rfl, rfl, rfl, tv⟩ ?_))))))))))))))))
   refine V.seq (V.region (W.r (X.cmp true (by decide) rfl rfl rfl) rfl (W.nx (V.seq (V.condT rfl (V.skip (At.next (V.seq (V.block (V.seq (V.region (W.mv rfl (W.as rfl (W.nx (V.seq (V.region (W.mv rfl (W.nx (V.block (V.rounds 2 [(0, pt b0), (1, Value.func (.func 57) #[] #[pt nb1]), (4, vi (1)), (6, vi (1)), (9, vi (0))] ⟨rfl, rfl, rfl, rfl, rfl, tv⟩ ?_))))))))))))))))))))
   refine V.seq (V.region (W.r (X.cmp true (by decide) rfl rfl rfl) rfl (W.nx (V.seq (V.condT rfl (V.skip (At.next (V.seq (V.block (V.seq (V.region (W.mv rfl (W.as rfl (W.nx (V.region (W.mv rfl (W.mv rfl (W.mv rfl (W.mv rfl (W.mv rfl (W.mv rfl (W.nc rfl (W.fa fo83_2 rfl (W.r (X.indexArK 1 rfl underlying81 inf80 rfl rfl (by decide) (by decide)) rfl (W.r (X.indexArK 0 rfl underlying80 inf79 rfl rfl (by decide) (by decide)) rfl ?_)))))))))))))))))))))))))
   refine W.inl (Y.callV (vs := [vi (1), vi (0), po b0 (0 + 18 + 1 * 6 + 0 * 3)]) (cs := [pt nb1]) rfl func57 (by kernel_rfl) rfl rfl (calls_enter func57 rfl rfl ?_)) rfl rfl rfl
   refine V.dr [13, 14, 15] [] [(7, po b0 (0 + 18 + 1 * 6 + 0 * 3)), (8, po b0 (0 + 18 + 1 * 6 + 0 * 3)), (9, po b0 (0 + 18 + 1 * 6 + 0 * 3 + 0)), (10, pt b24_4), (11, pt b0), (12, vi (0)), (13, pt b0), (14, po b0 (0 + 16)), (15, po b0 (0 + 16 + 0 * 1)), (16, pt b16_4), (17, vi (1)), (18, pt b0), (19, po b0 (0 + 18 + 1 * 6 + 0 * 3))] mo HS ?_
   refine T.ev [(18, _), (19, _)] [] [11, 12] ⟨rfl, rfl, tv⟩ ⟨.mv 2, .nc 7, .fa 8 fo79_0, .ld 9 18 underlying77, .ld 3 33 underlying25, .mv 1, .nc 11, .fa 13 fo83_1, .n2 12 14 rfl rfl rfl (fun w HS => X.indexArK 0 rfl underlying76 inf32 rfl rfl (by decide) (by decide)), .ld 15 18 underlying32, .mv 0, .ld 3 33 underlying25, .mv 2, tv⟩ rfl (fun w HS => ?_)
   refine ⟨(fun u w => ∃ z : Int, u = vi z ∧ Sep.St [pipe_Pipe.at b21_4 t61.2, row 5 1 (.slice at59_0 t59.1.length ct59_0) t59.1.length (t59.1.map (Value.int .u8)), station_Station.at b17_4 t59.2, pipe_Pipe.at b18_4 t55.2, row 5 1 (.slice at53_0 t53.1.length ct53_0) t53.1.length (t53.1.map (Value.int .u8)), station_Station.at b16_4 t53.2, tie (El.sl (El.int .u8)) (d28_4 ++ dt40_0_1) (a0.ways.2.2.sent ++ t40.1.2), tie (El.sl (El.int .u8)) (d22_4 ++ dt40_0_0) (a0.ways.1.2.sent ++ t40.1.1), row 48 1 (.slice at40_0_0 t40.1.1.length ct40_0_0) t40.1.1.length dt40_0_0, tie (El.sl (El.int .u8)) dt40_0_0 t40.1.1, row 48 1 (.slice at40_0_1 t40.1.2.length ct40_0_1) t40.1.2.length dt40_0_1, tie (El.sl (El.int .u8)) dt40_0_1 t40.1.2, tie (El.sl (El.int .u8)) (d25_4 ++ dt28_0_1) (a0.ways.2.1.sent ++ t28.1.2), tie (El.sl (El.int .u8)) (d19_4 ++ dt28_0_0) (a0.ways.1.1.sent ++ t28.1.1), row 48 1 (.slice at28_0_0 t28.1.1.length ct28_0_0) t28.1.1.length dt28_0_0, tie (El.sl (El.int .u8)) dt28_0_0 t28.1.1, row 48 1 (.slice at28_0_1 t28.1.2.length ct28_0_1) t28.1.2.length dt28_0_1, tie (El.sl (El.int .u8)) dt28_0_1 t28.1.2, blk b0 (#[vi a0.c.Mode, vi a0.c.Modulus, vi a0.c.Window, vi a0.c.T1, vi a0.c.N2, vi a0.c.Hold, vi a0.c.Wait, vi a0.c.Keep, vi a0.c.Queue, vi a0.c.Size, vi a0.c.Ring, vi a0.c.Rate, vi a0.c.Bad, vi a0.c.Good, vb a0.c.Revert, vb a0.c.Wide, pt b16_4, pt b17_4, pt b18_4, vs ra35 (a0.ways.1.1.sent ++ t28.1.1).length rc36, vs a20_4 a0.ways.1.1.got.length c20_4, pt b21_4, vs ra47 (a0.ways.1.2.sent ++ t40.1.1).length rc48, vs a23_4 a0.ways.1.2.got.length c23_4, pt b24_4, vs ra38 (a0.ways.2.1.sent ++ t28.1.2).length rc39, vs a26_4 a0.ways.2.1.got.length c26_4, pt b27_4, vs ra50 (a0.ways.2.2.sent ++ t40.1.2).length rc51, vs a29_4 a0.ways.2.2.got.length c29_4, vi a0.now]) 83, row 48 1 (.slice ra35 (a0.ways.1.1.sent ++ t28.1.1).length rc36) (a0.ways.1.1.sent ++ t28.1.1).length (d19_4 ++ dt28_0_0), row 48 1 (.slice a20_4 a0.ways.1.1.got.length c20_4) a0.ways.1.1.got.length d20_4, tie (El.sl (El.int .u8)) d20_4 a0.ways.1.1.got, row 48 1 (.slice ra47 (a0.ways.1.2.sent ++ t40.1.1).length rc48) (a0.ways.1.2.sent ++ t40.1.1).length (d22_4 ++ dt40_0_0), row 48 1 (.slice a23_4 a0.ways.1.2.got.length c23_4) a0.ways.1.2.got.length d23_4, tie (El.sl (El.int .u8)) d23_4 a0.ways.1.2.got, pipe_Pipe.at b24_4 a0.ways.2.1.pipe, row 48 1 (.slice ra38 (a0.ways.2.1.sent ++ t28.1.2).length rc39) (a0.ways.2.1.sent ++ t28.1.2).length (d25_4 ++ dt28_0_1), row 48 1 (.slice a26_4 a0.ways.2.1.got.length c26_4) a0.ways.2.1.got.length d26_4, tie (El.sl (El.int .u8)) d26_4 a0.ways.2.1.got, pipe_Pipe.at b27_4 a0.ways.2.2.pipe, row 48 1 (.slice ra50 (a0.ways.2.2.sent ++ t40.1.2).length rc51) (a0.ways.2.2.sent ++ t40.1.2).length (d28_4 ++ dt40_0_1), row 48 1 (.slice a29_4 a0.ways.2.2.got.length c29_4) a0.ways.2.2.got.length d29_4, tie (El.sl (El.int .u8)) d29_4 a0.ways.2.2.got, blk nb1 (#[pt b0]) 25, R] w0 w ∧ world_World_Step.j2 k a0 t28 t40 t53 t55 t59 t61 z = some r), Y.cl (vs := [pt b0, po b0 (0 + 18 + 1 * 6 + 0 * 3)]) func60 (calls_enter func60 rfl rfl ?_), ?_⟩
   ·refine V.seq (V.region (W.as rfl (W.nx (V.seq (V.seq (V.region (W.mv rfl (W.nc rfl (W.fa fo79_0 rfl (W.ld 18 HS underlying77 rfl rfl rfl rfl ?_))))))))))
    replace HS := HS.fr 25
    obtain ⟨a1_293, c1_293, hi294, HS⟩ := pipe_Pipe.open HS
    obtain ⟨t295, A296, H⟩ := bind_s H
    refine W.e (Y.cl func125 (pipe_Pipe_Cut.calls A296 HS.j2)) rfl ?_
    rintro _ w ⟨rfl, HS⟩
    replace HS := HS.o2
    refine W.nx ?_
    by_cases c297 : t295 = true
    ·replace H := ite_t c297 H
     refine V.condT (sb c297) (V.seq (V.region (W.mv rfl (W.nc rfl (W.fa fo83_0 rfl (W.fa fo23_11 rfl (W.ld 20 HS underlying3 rfl rfl rfl rfl (W.as rfl (W.nx (V.ret (At.thenRet ?_)))))))))))
     refine At.ret1 rfl rfl ⟨_, rfl, ?_⟩
     replace HS := pipe_Pipe.close tv HS
     replace HS := HS.pk [1, 2, 3, 4, 5, 6, 7, 8, 9, 10, 11, 12, 13, 14, 15, 16, 17, 18, 19, 20, 21, 22, 23, 24, 25, 0, 26, 27, 28, 29, 30, 31, 32, 33, 34] []
     exact ⟨a0.c.Rate, rfl, HS, H⟩
    ·replace H := ite_f c297 H
     refine V.condF (sb (b_f c297)) (V.skip (At.next (V.seq (V.dr [9] [10, 11] [(15, pt b0), (16, pt b0), (17, po b0 (0 + 0)), (18, po b0 (0 + 0 + 11)), (19, vi a0.c.Rate), (20, po b0 (0 + 18 + 1 * 6 + 0 * 3)), (21, po b0 (0 + 18 + 1 * 6 + 0 * 3)), (22, po b0 (0 + 18 + 1 * 6 + 0 * 3 + 0)), (23, pt b24_4)] mo HS ?_))))
     refine T.ev [(23, _)] [] [5, 6, 7, 8] ⟨rfl, tv⟩ ⟨.mv 0, .nc 15, .fa 16 fo83_0, .fa 17 fo23_11, .ld 18 20 underlying3, .mv 1, .nc 20, .fa 21 fo79_0, .ld 22 20 underlying77, tv⟩ rfl (fun w HS => ?_)
     obtain ⟨t298, A299, H⟩ := bind_s H
     refine ⟨_, Y.cl func110 (pipe_Pipe_Room.calls A299 HS.j2), ?_⟩
     rintro _ w ⟨rfl, HS⟩
     replace HS := HS.o2
     refine T.nm [(24, vi t298), (25, vi (imin a0.c.Rate t298)), (4, vi (imin a0.c.Rate t298))] HS ⟨.inl ⟨rfl, rfl⟩, ⟨.inr ⟨by decide, rfl⟩, ⟨.inr ⟨by decide, rfl⟩, tv⟩⟩⟩ ?_
     refine T.fn [(4, _)] ⟨rfl, tv⟩ ⟨.mv 0, .nc 15, .fa 16 fo83_0, .fa 17 fo23_11, .ld 18 20 underlying3, .n2 19 24 rfl rfl rfl (fun w HS => X.min2 rfl rfl), .as 25, tv⟩ (fun w HS => ?_)
     refine At.next (V.ret ?_)
     refine At.ret1 rfl rfl ⟨_, rfl, ?_⟩
     replace HS := pipe_Pipe.close tv HS
     replace HS := HS.pk [1, 2, 3, 4, 5, 6, 7, 8, 9, 10, 11, 12, 13, 14, 15, 16, 17, 18, 19, 20, 21, 22, 23, 24, 25, 0, 26, 27, 28, 29, 30, 31, 32, 33, 34] []
     exact ⟨imin a0.c.Rate t298, rfl, HS, H⟩
   ·rintro _ w ⟨x64, rfl, HS, H⟩
    unfold world_World_Step.j2 at H
    refine T.nw HS ?_
    refine T.ev [(16, _), (17, _), (20, _)] [] [4, 5, 6, 7, 8, 9, 10] ⟨rfl, rfl, rfl, tv⟩ ⟨.mv 2, .nc 7, .fa 8 fo79_0, .ld 9 18 underlying77, .ld 3 33 underlying25, .mv 1, .nc 11, .fa 13 fo83_1, .n2 12 14 rfl rfl rfl (fun w HS => X.indexArK 0 rfl underlying76 inf32 rfl rfl (by decide) (by decide)), .ld 15 18 underlying32, .mv 0, tv⟩ rfl (fun w HS => ?_)
    obtain ⟨t65, A66, H⟩ := bind_s H
    replace HS := HS.pm [5, 0, 1, 2, 3, 4, 6, 7, 8, 9, 10, 11, 12, 13, 14, 15, 16, 17, 18, 19, 20, 21, 22, 23, 24, 25, 26, 27, 28, 29, 30, 31, 32, 33, 34]
    refine ⟨_, Y.cl func59 (station_Station_Take.calls A66 HS.j1), ?_⟩
    rintro _ w ⟨at65_0, ct65_0, rfl, HS⟩
    replace HS := HS.o2
    refine T.nw HS ?_
    refine T.ev [(10, _), (21, _)] [] [0, 1, 2, 3] ⟨rfl, rfl, tv⟩ ⟨.mv 2, .nc 7, .fa 8 fo79_0, .ld 9 19 underlying77, tv⟩ rfl (fun w HS => ?_)
    obtain ⟨t67, A68, H⟩ := bind_s H
    replace HS := HS.pm [26, 0, 1, 2, 3, 4, 5, 6, 7, 8, 9, 10, 11, 12, 13, 14, 15, 16, 17, 18, 19, 20, 21, 22, 23, 24, 25, 27, 28, 29, 30, 31, 32, 33, 34, 35]
    refine ⟨_, Y.cl func58 (pipe_Pipe_Put.calls A68 HS.j1 (rdC.part 0 row_rd rfl)), ?_⟩
    rintro _ w ⟨rfl, HS⟩
    replace HS := HS.o1
    refine T.nw HS ?_
    refine T.fn [] tv tv (fun w HS => ?_)
    refine At.end0 rfl ⟨_, rfl, ?_⟩
    refine W.nil (At.blockEnd (At.next (V.region (W.r (X.add rfl rfl) rfl (W.mv rfl (W.nil (At.onward [(0, pt b0), (1, Value.func (.func 57) #[] #[pt nb1]), (4, vi (1)), (6, vi (1)), (9, vi (1))] ⟨rfl, rfl, rfl, rfl, rfl, tv⟩ ?_)))))))
    refine V.seq (V.region (W.r (X.cmp true (by decide) rfl rfl rfl) rfl (W.nx (V.seq (V.condT rfl (V.skip (At.next (V.seq (V.block (V.seq (V.region (W.mv rfl (W.as rfl (W.nx (V.region (W.mv rfl (W.mv rfl (W.mv rfl (W.mv rfl (W.mv rfl (W.mv rfl (W.nc rfl (W.fa fo83_2 rfl (W.r (X.indexArK 1 rfl underlying81 inf80 rfl rfl (by decide) (by decide)) rfl (W.r (X.indexArK 1 rfl underlying80 inf79 rfl rfl (by decide) (by decide)) rfl ?_)))))))))))))))))))))))))
    refine W.inl (Y.callV (vs := [vi (1), vi (1), po b0 (0 + 18 + 1 * 6 + 1 * 3)]) (cs := [pt nb1]) rfl func57 (by kernel_rfl) rfl rfl (calls_enter func57 rfl rfl ?_)) rfl rfl rfl
    refine V.dr [13, 14, 15] [] [(7, po b0 (0 + 18 + 1 * 6 + 1 * 3)), (8, po b0 (0 + 18 + 1 * 6 + 1 * 3)), (9, po b0 (0 + 18 + 1 * 6 + 1 * 3 + 0)), (10, pt b27_4), (11, pt b0), (12, vi (1)), (13, pt b0), (14, po b0 (0 + 16)), (15, po b0 (0 + 16 + 1 * 1)), (16, pt b17_4), (17, vi (1)), (18, pt b0), (19, po b0 (0 + 18 + 1 * 6 + 1 * 3))] mo HS ?_
    refine T.ev [(18, _), (19, _)] [] [11, 12] ⟨rfl, rfl, tv⟩ ⟨.mv 2, .nc 7, .fa 8 fo79_0, .ld 9 20 underlying77, .ld 3 34 underlying25, .mv 1, .nc 11, .fa 13 fo83_1, .n2 12 14 rfl rfl rfl (fun w HS => X.indexArK 1 rfl underlying76 inf32 rfl rfl (by decide) (by decide)), .ld 15 20 underlying32, .mv 0, .ld 3 34 underlying25, .mv 2, tv⟩ rfl (fun w HS => ?_)
    refine ⟨(fun u w => ∃ z : Int, u = vi z ∧ Sep.St [pipe_Pipe.at b24_4 t67.2, row 5 1 (.slice at65_0 t65.1.length ct65_0) t65.1.length (t65.1.map (Value.int .u8)), station_Station.at b16_4 t65.2, pipe_Pipe.at b21_4 t61.2, row 5 1 (.slice at59_0 t59.1.length ct59_0) t59.1.length (t59.1.map (Value.int .u8)), station_Station.at b17_4 t59.2, pipe_Pipe.at b18_4 t55.2, row 5 1 (.slice at53_0 t53.1.length ct53_0) t53.1.length (t53.1.map (Value.int .u8)), tie (El.sl (El.int .u8)) (d28_4 ++ dt40_0_1) (a0.ways.2.2.sent ++ t40.1.2), tie (El.sl (El.int .u8)) (d22_4 ++ dt40_0_0) (a0.ways.1.2.sent ++ t40.1.1), row 48 1 (.slice at40_0_0 t40.1.1.length ct40_0_0) t40.1.1.length dt40_0_0, tie (El.sl (El.int .u8)) dt40_0_0 t40.1.1, row 48 1 (.slice at40_0_1 t40.1.2.length ct40_0_1) t40.1.2.length dt40_0_1, tie (El.sl (El.int .u8)) dt40_0_1 t40.1.2, tie (El.sl (El.int .u8)) (d25_4 ++ dt28_0_1) (a0.ways.2.1.sent ++ t28.1.2), tie (El.sl (El.int .u8)) (d19_4 ++ dt28_0_0) (a0.ways.1.1.sent ++ t28.1.1), row 48 1 (.slice at28_0_0 t28.1.1.length ct28_0_0) t28.1.1.length dt28_0_0, tie (El.sl (El.int .u8)) dt28_0_0 t28.1.1, row 48 1 (.slice at28_0_1 t28.1.2.length ct28_0_1) t28.1.2.length dt28_0_1, tie (El.sl (El.int .u8)) dt28_0_1 t28.1.2, blk b0 (#[vi a0.c.Mode, vi a0.c.Modulus, vi a0.c.Window, vi a0.c.T1, vi a0.c.N2, vi a0.c.Hold, vi a0.c.Wait, vi a0.c.Keep, vi a0.c.Queue, vi a0.c.Size, vi a0.c.Ring, vi a0.c.Rate, vi a0.c.Bad, vi a0.c.Good, vb a0.c.Revert, vb a0.c.Wide, pt b16_4, pt b17_4, pt b18_4, vs ra35 (a0.ways.1.1.sent ++ t28.1.1).length rc36, vs a20_4 a0.ways.1.1.got.length c20_4, pt b21_4, vs ra47 (a0.ways.1.2.sent ++ t40.1.1).length rc48, vs a23_4 a0.ways.1.2.got.length c23_4, pt b24_4, vs ra38 (a0.ways.2.1.sent ++ t28.1.2).length rc39, vs a26_4 a0.ways.2.1.got.length c26_4, pt b27_4, vs ra50 (a0.ways.2.2.sent ++ t40.1.2).length rc51, vs a29_4 a0.ways.2.2.got.length c29_4, vi a0.now]) 83, row 48 1 (.slice ra35 (a0.ways.1.1.sent ++ t28.1.1).length rc36) (a0.ways.1.1.sent ++ t28.1.1).length (d19_4 ++ dt28_0_0), row 48 1 (.slice a20_4 a0.ways.1.1.got.length c20_4) a0.ways.1.1.got.length d20_4, tie (El.sl (El.int .u8)) d20_4 a0.ways.1.1.got, row 48 1 (.slice ra47 (a0.ways.1.2.sent ++ t40.1.1).length rc48) (a0.ways.1.2.sent ++ t40.1.1).length (d22_4 ++ dt40_0_0), row 48 1 (.slice a23_4 a0.ways.1.2.got.length c23_4) a0.ways.1.2.got.length d23_4, tie (El.sl (El.int .u8)) d23_4 a0.ways.1.2.got, row 48 1 (.slice ra38 (a0.ways.2.1.sent ++ t28.1.2).length rc39) (a0.ways.2.1.sent ++ t28.1.2).length (d25_4 ++ dt28_0_1), row 48 1 (.slice a26_4 a0.ways.2.1.got.length c26_4) a0.ways.2.1.got.length d26_4, tie (El.sl (El.int .u8)) d26_4 a0.ways.2.1.got, pipe_Pipe.at b27_4 a0.ways.2.2.pipe, row 48 1 (.slice ra50 (a0.ways.2.2.sent ++ t40.1.2).length rc51) (a0.ways.2.2.sent ++ t40.1.2).length (d28_4 ++ dt40_0_1), row 48 1 (.slice a29_4 a0.ways.2.2.got.length c29_4) a0.ways.2.2.got.length d29_4, tie (El.sl (El.int .u8)) d29_4 a0.ways.2.2.got, blk nb1 (#[pt b0]) 25, R] w0 w ∧ world_World_Step.j3 k a0 t28 t40 t55 t59 t61 t65 t67 z = some r), Y.cl (vs := [pt b0, po b0 (0 + 18 + 1 * 6 + 1 * 3)]) func60 (calls_enter func60 rfl rfl ?_), ?_⟩
    ·refine V.seq (V.region (W.as rfl (W.nx (V.seq (V.seq (V.region (W.mv rfl (W.nc rfl (W.fa fo79_0 rfl (W.ld 20 HS underlying77 rfl rfl rfl rfl ?_))))))))))
     replace HS := HS.fr 30
     obtain ⟨a1_286, c1_286, hi287, HS⟩ := pipe_Pipe.open HS
     obtain ⟨t288, A289, H⟩ := bind_s H
     refine W.e (Y.cl func125 (pipe_Pipe_Cut.calls A289 HS.j2)) rfl ?_
     rintro _ w ⟨rfl, HS⟩
     replace HS := HS.o2
     refine W.nx ?_
     by_cases c290 : t288 = true
     ·replace H := ite_t c290 H
      refine V.condT (sb c290) (V.seq (V.region (W.mv rfl (W.nc rfl (W.fa fo83_0 rfl (W.fa fo23_11 rfl (W.ld 22 HS underlying3 rfl rfl rfl rfl (W.as rfl (W.nx (V.ret (At.thenRet ?_)))))))))))
      refine At.ret1 rfl rfl ⟨_, rfl, ?_⟩
      replace HS := pipe_Pipe.close tv HS
      replace HS := HS.pk [1, 2, 3, 4, 5, 6, 7, 8, 9, 10, 11, 12, 13, 14, 15, 16, 17, 18, 19, 20, 21, 22, 23, 24, 25, 26, 27, 28, 29, 30, 0, 31, 32, 33, 34, 35] []
      exact ⟨a0.c.Rate, rfl, HS, H⟩
     ·replace H := ite_f c290 H
      refine V.condF (sb (b_f c290)) (V.skip (At.next (V.seq (V.dr [9] [10, 11] [(15, pt b0), (16, pt b0), (17, po b0 (0 + 0)), (18, po b0 (0 + 0 + 11)), (19, vi a0.c.Rate), (20, po b0 (0 + 18 + 1 * 6 + 1 * 3)), (21, po b0 (0 + 18 + 1 * 6 + 1 * 3)), (22, po b0 (0 + 18 + 1 * 6 + 1 * 3 + 0)), (23, pt b27_4)] mo HS ?_))))
      refine T.ev [(23, _)] [] [5, 6, 7, 8] ⟨rfl, tv⟩ ⟨.mv 0, .nc 15, .fa 16 fo83_0, .fa 17 fo23_11, .ld 18 22 underlying3, .mv 1, .nc 20, .fa 21 fo79_0, .ld 22 22 underlying77, tv⟩ rfl (fun w HS => ?_)
      obtain ⟨t291, A292, H⟩ := bind_s H
      refine ⟨_, Y.cl func110 (pipe_Pipe_Room.calls A292 HS.j2), ?_⟩
      rintro _ w ⟨rfl, HS⟩
      replace HS := HS.o2
      refine T.nm [(24, vi t291), (25, vi (imin a0.c.Rate t291)), (4, vi (imin a0.c.Rate t291))] HS ⟨.inl ⟨rfl, rfl⟩, ⟨.inr ⟨by decide, rfl⟩, ⟨.inr ⟨by decide, rfl⟩, tv⟩⟩⟩ ?_
      refine T.fn [(4, _)] ⟨rfl, tv⟩ ⟨.mv 0, .nc 15, .fa 16 fo83_0, .fa 17 fo23_11, .ld 18 22 underlying3, .n2 19 24 rfl rfl rfl (fun w HS => X.min2 rfl rfl), .as 25, tv⟩ (fun w HS => ?_)
      refine At.next (V.ret ?_)
      refine At.ret1 rfl rfl ⟨_, rfl, ?_⟩
      replace HS := pipe_Pipe.close tv HS
      replace HS := HS.pk [1, 2, 3, 4, 5, 6, 7, 8, 9, 10, 11, 12, 13, 14, 15, 16, 17, 18, 19, 20, 21, 22, 23, 24, 25, 26, 27, 28, 29, 30, 0, 31, 32, 33, 34, 35] []
      exact ⟨imin a0.c.Rate t291, rfl, HS, H⟩
    ·rintro _ w ⟨x70, rfl, HS, H⟩
     unfold world_World_Step.j3 at H
     refine T.nw HS ?_
     refine T.ev [(16, _), (17, _), (20, _)] [] [4, 5, 6, 7, 8, 9, 10] ⟨rfl, rfl, rfl, tv⟩ ⟨.mv 2, .nc 7, .fa 8 fo79_0, .ld 9 20 underlying77, .ld 3 34 underlying25, .mv 1, .nc 11, .fa 13 fo83_1, .n2 12 14 rfl rfl rfl (fun w HS => X.indexArK 1 rfl underlying76 inf32 rfl rfl (by decide) (by decide)), .ld 15 20 underlying32, .mv 0, tv⟩ rfl (fun w HS => ?_)
     obtain ⟨t71, A72, H⟩ := bind_s H
     replace HS := HS.pm [5, 0, 1, 2, 3, 4, 6, 7, 8, 9, 10, 11, 12, 13, 14, 15, 16, 17, 18, 19, 20, 21, 22, 23, 24, 25, 26, 27, 28, 29, 30, 31, 32, 33, 34, 35]
     refine ⟨_, Y.cl func59 (station_Station_Take.calls A72 HS.j1), ?_⟩
     rintro _ w ⟨at71_0, ct71_0, rfl, HS⟩
     replace HS := HS.o2
     refine T.nw HS ?_
     refine T.ev [(10, _), (21, _)] [] [0, 1, 2, 3] ⟨rfl, rfl, tv⟩ ⟨.mv 2, .nc 7, .fa 8 fo79_0, .ld 9 21 underlying77, tv⟩ rfl (fun w HS => ?_)
     obtain ⟨t73, A74, H⟩ := bind_s H
     replace HS := HS.pm [31, 0, 1, 2, 3, 4, 5, 6, 7, 8, 9, 10, 11, 12, 13, 14, 15, 16, 17, 18, 19, 20, 21, 22, 23, 24, 25, 26, 27, 28, 29, 30, 32, 33, 34, 35, 36]
     refine ⟨_, Y.cl func58 (pipe_Pipe_Put.calls A74 HS.j1 (rdC.part 0 row_rd rfl)), ?_⟩
     rintro _ w ⟨rfl, HS⟩
     replace HS := HS.o1
     refine T.nw HS ?_
     refine T.fn [] tv tv (fun w HS => ?_)
     refine At.end0 rfl ⟨_, rfl, ?_⟩
     refine W.nil (At.blockEnd (At.next (V.region (W.r (X.add rfl rfl) rfl (W.mv rfl (W.nil (At.onward [(0, pt b0), (1, Value.func (.func 57) #[] #[pt nb1]), (4, vi (1)), (6, vi (1)), (9, vi (2))] ⟨rfl, rfl, rfl, rfl, rfl, tv⟩ ?_)))))))
     refine V.seq (V.region (W.r (X.cmp false (by decide) rfl rfl rfl) rfl (W.nx (V.seq (V.condF rfl (V.exit (At.thenExit (At.thenExit (At.blockExit (At.blockEnd (At.next (V.region (W.r (X.add rfl rfl) rfl (W.mv rfl (W.nil (At.onward [(0, pt b0), (1, Value.func (.func 57) #[] #[pt nb1]), (6, vi (2))] ⟨rfl, rfl, rfl, tv⟩ ?_))))))))))))))))
     refine V.seq (V.region (W.r (X.cmp false (by decide) rfl rfl rfl) rfl (W.nx (V.seq (V.condF rfl (V.exit (At.thenExit (At.thenExit (At.blockExit ?_)))))))))
     refine At.end0 rfl ⟨_, rfl, ?_⟩
     refine W.nx (V.seq (V.region (W.ld 35 HS underlying25 rfl rfl rfl rfl (W.r (X.mkFunc rfl) rfl ?_))))
     refine W.inl (Y.cl (vs := [pt b0, Value.func (.func 61) #[] #[pt nb1]]) func56 (calls_enter func56 rfl rfl ?_)) rfl rfl rfl
     refine V.seq (V.region (W.mv rfl (W.nx (V.block (V.rounds 2 [(0, pt b0), (1, Value.func (.func 61) #[] #[pt nb1]), (6, vi (0))] ⟨rfl, rfl, rfl, tv⟩ ?_)))))
     refine V.seq (V.region (W.r (X.cmp true (by decide) rfl rfl rfl) rfl (W.nx (V.seq (V.condT rfl (V.skip (At.next (V.seq (V.block (V.seq (V.region (W.mv rfl (W.as rfl (W.nx (V.seq (V.region (W.mv rfl (W.nx (V.block (V.rounds 2 [(0, pt b0), (1, Value.func (.func 61) #[] #[pt nb1]), (4, vi (0)), (6, vi (0)), (9, vi (0))] ⟨rfl, rfl, rfl, rfl, rfl, tv⟩ ?_))))))))))))))))))))
     refine V.seq (V.region (W.r (X.cmp true (by decide) rfl rfl rfl) rfl (W.nx (V.seq (V.condT rfl (V.skip (At.next (V.seq (V.block (V.seq (V.region (W.mv rfl (W.as rfl (W.nx (V.region (W.mv rfl (W.mv rfl (W.mv rfl (W.mv rfl (W.mv rfl (W.mv rfl (W.nc rfl (W.fa fo83_2 rfl (W.r (X.indexArK 0 rfl underlying81 inf80 rfl rfl (by decide) (by decide)) rfl (W.r (X.indexArK 0 rfl underlying80 inf79 rfl rfl (by decide) (by decide)) rfl ?_)))))))))))))))))))))))))
     refine W.inl (Y.callV (vs := [vi (0), vi (0), po b0 (0 + 18 + 0 * 6 + 0 * 3)]) (cs := [pt nb1]) rfl func61 (by kernel_rfl) rfl rfl (calls_enter func61 rfl rfl ?_)) rfl rfl rfl
     refine V.seq (V.dr [9] [10] [(9, po b0 (0 + 18 + 0 * 6 + 0 * 3)), (10, po b0 (0 + 18 + 0 * 6 + 0 * 3)), (11, po b0 (0 + 18 + 0 * 6 + 0 * 3 + 0)), (12, pt b18_4), (13, pt b0), (14, pt b0), (15, po b0 (0 + 0)), (16, po b0 (0 + 0 + 11)), (17, vi a0.c.Rate), (20, vi (0))] mo HS ?_)
     refine T.ev [(12, _), (17, _)] [] [0, 1, 2, 3, 4, 5, 6, 7, 8] ⟨rfl, rfl, tv⟩ ⟨.mv 2, .nc 9, .fa 10 fo79_0, .ld 11 22 underlying77, .ld 3 35 underlying25, .nc 13, .fa 14 fo83_0, .fa 15 fo23_11, .ld 16 22 underlying3, .n0 (fun w HS => X.move rfl), tv⟩ rfl (fun w HS => ?_)
     obtain ⟨t75, A76, H⟩ := bind_s H
     replace HS := HS.pm [8, 0, 1, 2, 3, 4, 5, 6, 7, 9, 10, 11, 12, 13, 14, 15, 16, 17, 18, 19, 20, 21, 22, 23, 24, 25, 26, 27, 28, 29, 30, 31, 32, 33, 34, 35, 36]
     refine ⟨_, Y.cl func62 (pipe_Pipe_Take.calls A76 HS.j1), ?_⟩
     rintro _ w ⟨at75_0, ct75_0, rfl, HS⟩
     replace HS := HS.o2
     refine T.nm [(18, vs at75_0 t75.1.length ct75_0), (19, vi (t75.1.length : Int))] HS ⟨.inl ⟨rfl, rfl⟩, ⟨.inr ⟨by decide, rfl⟩, tv⟩⟩ ?_
     refine T.fn [(0, _), (1, _), (2, _), (3, _), (18, _), (19, _), (20, _)] ⟨rfl, rfl, rfl, rfl, rfl, rfl, rfl, tv⟩ ⟨.n1 18 rfl rfl (fun w HS => X.lenSl underlying48 rfl), .n0 (fun w HS => X.move rfl), tv⟩ (fun w HS => ?_)
     refine At.next (V.block ?_)
     replace HS := HS.pm [23, 7, 4, 1, 24, 18, 25, 26, 8, 27, 12, 28, 29, 5, 30, 17, 31, 32, 2, 33, 11, 34, 35, 0, 3, 6, 9, 10, 13, 14, 15, 16, 19, 20, 21, 22, 36, 37]
     replace HS := world_World.close tv HS
     refine V.loop (σ := Int × world_World) (fun kq (st : Int × world_World) w => match st with | (x79, x80) => Sep.St [world_World.at b0 x80, row 5 1 (.slice at75_0 t75.1.length ct75_0) t75.1.length (t75.1.map (Value.int .u8)), row 5 1 (.slice at71_0 t71.1.length ct71_0) t71.1.length (t71.1.map (Value.int .u8)), row 5 1 (.slice at65_0 t65.1.length ct65_0) t65.1.length (t65.1.map (Value.int .u8)), row 5 1 (.slice at59_0 t59.1.length ct59_0) t59.1.length (t59.1.map (Value.int .u8)), row 5 1 (.slice at53_0 t53.1.length ct53_0) t53.1.length (t53.1.map (Value.int .u8)), row 48 1 (.slice at40_0_0 t40.1.1.length ct40_0_0) t40.1.1.length dt40_0_0, tie (El.sl (El.int .u8)) dt40_0_0 t40.1.1, row 48 1 (.slice at40_0_1 t40.1.2.length ct40_0_1) t40.1.2.length dt40_0_1, tie (El.sl (El.int .u8)) dt40_0_1 t40.1.2, row 48 1 (.slice at28_0_0 t28.1.1.length ct28_0_0) t28.1.1.length dt28_0_0, tie (El.sl (El.int .u8)) dt28_0_0 t28.1.1, row 48 1 (.slice at28_0_1 t28.1.2.length ct28_0_1) t28.1.2.length dt28_0_1, tie (El.sl (El.int .u8)) dt28_0_1 t28.1.2, blk nb1 (#[pt b0]) 25, R] w0 w ∧ world_World_Step.l4 kq t75 x79 x80 = some r ∧ kq ≤ k) (fun st => match st with | (x79, x80) => [(0, vi (0)), (1, vi (0)), (2, po b0 (0 + 18 + 0 * 6 + 0 * 3)), (3, pt nb1), (18, vs at75_0 t75.1.length ct75_0), (19, vi (t75.1.length : Int)), (20, vi x79)]) k (0, ({ a0 with stations := (t65.2, t71.2), ways := ((({ pipe := t75.2, sent := a0.ways.1.1.sent ++ t28.1.1, got := a0.ways.1.1.got } : world_way), ({ pipe := t61.2, sent := a0.ways.1.2.sent ++ t40.1.1, got := a0.ways.1.2.got } : world_way)), (({ pipe := t67.2, sent := a0.ways.2.1.sent ++ t28.1.2, got := a0.ways.2.1.got } : world_way), ({ pipe := t73.2, sent := a0.ways.2.2.sent ++ t40.1.2, got := a0.ways.2.2.got } : world_way))) } : world_World)) ⟨rfl, rfl, rfl, rfl, rfl, rfl, rfl, tv⟩ ⟨HS, H, Nat.le_refl _⟩ ?_
     rintro kq81 ⟨x79, x80⟩ w ⟨HS, H, hk82⟩
     cases kq81 with
     | zero => exact absurd H (by simp [world_World_Step.l4])
     | succ kq81 =>
      simp only [world_World_Step.l4] at H
      refine V.seq (V.region (W.r (X.cmp (decide (x79 < (t75.1.length : Int))) rfl rfl rfl rfl) rfl (W.nx (V.seq ?_))))
      by_cases c83 : x79 < (t75.1.length : Int)
      ·replace H := ite_t c83 H
       refine V.condT (sb (dT c83)) (V.skip (At.next (V.seq (V.block (V.seq (V.region ?_))))))
       obtain ⟨c84, H⟩ := ite_n H
       obtain ⟨eb85, eo86, hh⟩ := (rdC.at 1 row_rd HS rfl).some (by decide) c84.1 c84.2; subst hh
       refine W.r (X.indexSl underlying48 inf5 rfl rfl c84.1 c84.2) rfl (W.r (X.load underlying5 rfl rfl ((rdC.at 1 row_rd HS rfl).cellI c84.1 c84.2)) rfl (W.as rfl (W.nx (V.region (W.ld 14 HS underlying25 rfl rfl rfl rfl (W.mv rfl (W.mv rfl (W.mv rfl (W.mv rfl ?_)))))))))
       refine W.inl (Y.cl (vs := [pt b0, vi (0), vi (0), po b0 (0 + 18 + 0 * 6 + 0 * 3), Value.int .u8 (t75.1.getD x79.toNat 0)]) func63 (calls_enter func63 rfl rfl ?_)) rfl rfl rfl
       refine V.seq (V.region (W.mv rfl (W.mv rfl (W.r (X.sub rfl rfl) rfl (W.nc rfl ?_)))))
       obtain ⟨b16_87, b17_87, b18_87, a19_87, c19_87, d19_87, a20_87, c20_87, d20_87, b21_87, a22_87, c22_87, d22_87, a23_87, c23_87, d23_87, b24_87, a25_87, c25_87, d25_87, a26_87, c26_87, d26_87, b27_87, a28_87, c28_87, d28_87, a29_87, c29_87, d29_87, hi88, HS⟩ := world_World.open HS
       refine W.fa fo83_1 rfl ?_
       obtain ⟨c89, H⟩ := ite_n H
       by_cases c90 : w64 (1 - 0) = 0
       ·replace H := ite_t c90 H
        refine W.r (X.indexArK 0 c90 underlying76 inf32 rfl rfl c89.1 c89.2) rfl (W.ld 0 HS underlying32 rfl rfl rfl rfl (W.mv rfl (W.mv rfl ?_)))
        obtain ⟨t91, A92, H⟩ := bind_s H
        replace HS := HS.pm [1, 0, 2, 3, 4, 5, 6, 7, 8, 9, 10, 11, 12, 13, 14, 15, 16, 17, 18, 19, 20, 21, 22, 23, 24, 25, 26, 27, 28, 29, 30, 31, 32, 33, 34, 35, 36, 37]
        refine W.e (Y.cl func126 (station_Station_Push.calls A92 HS.j1)) rfl ?_
        rintro _ w ⟨at91_1, ct91_1, rfl, HS⟩
        replace HS := HS.o2
        refine W.mv rfl (W.r (X.extract rfl rfl) rfl (W.r (X.extract rfl rfl) rfl (W.as rfl (W.as rfl (W.nx (V.seq (V.region (W.mv rfl (W.r (X.cmp (decide (t91.1 = 1)) rfl rfl rfl rfl) rfl (W.nx ?_))))))))))
        by_cases c93 : t91.1 = 1
        ·replace H := ite_t c93 H
         refine V.condT (sb (dT c93)) (V.region (W.mv rfl (W.mv rfl (W.nc rfl (W.fa fo79_2 rfl (W.ld 2 HS underlying35 rfl rfl rfl rfl (W.mv rfl ?_)))))))
         replace HS := St.row_freeze HS
         refine W.e (Y.lc (e := 48) (sz := 1) [vs at91_1 t91.2.1.length ct91_1] HS rfl rfl (fun _ => by kernel_rfl)) rfl ?_
         rintro _ w ⟨lb94, rfl, HS⟩
         replace HS := St.put (A := tie (El.sl (El.int .u8)) ([]) (([] : List (List Int)))) (fun _ => tie.nil) HS
         replace HS := HS.more 2 rfl (fun _ t => t) fsl.pers
         replace HS := St.put (A := tie (El.int .u8) (t91.2.1.map (Value.int .u8)) t91.2.1) (fun _ => int_tie) HS
         replace HS := St.swap HS
         replace HS := St.sl_close (E := (El.int .u8)) HS
         replace HS := HS.fr 1
         replace HS := HS.fr 1
         replace HS := St.tie_cons HS
         obtain ⟨c97, H⟩ := ite_n H
         refine W.e (Y.app (xs := x80.ways.1.1.got) (ys := ([t91.2.1] : List (List Int))) 9 underlying35 ap48 rfl (by decide) HS rfl rfl rfl (rdC.at 1 row_rd HS rfl) (St.tie_one 0 HS rfl) (by omega) (by omega)) rfl ?_
         rintro _ w ⟨ra98, rc99, rfl, HS⟩
         replace HS := HS.fr 10
         replace HS := St.tie_app 1 HS rfl
         refine W.nc rfl (W.fa fo79_2 rfl (W.st 5 20 HS inf35 rfl rfl rfl rfl rfl rfl fun w HS => ?_))
         refine W.nil ?_
         refine At.end0 rfl ⟨_, rfl, ?_⟩
         refine W.nil (At.blockEnd (At.next (V.region (W.r (X.add rfl rfl) rfl (W.mv rfl (W.nil ?_))))))
         replace HS := HS.pm [5, 4, 6, 7, 8, 9, 10, 0, 11, 12, 13, 14, 15, 16, 17, 18, 19, 20, 21, 22, 23, 24, 25, 1, 2, 3, 26, 27, 28, 29, 30, 31, 32, 33, 34, 35, 36, 37, 38, 39, 40]
         replace HS := world_World.close tv HS
         replace HS := HS.pk [0, 4, 5, 6, 7, 8, 9, 10, 11, 12, 13, 14, 15, 16, 17, 18] [1, 2, 3]
         exact At.round kq81 (by omega) (w64 (x79 + 1), ({ x80 with stations := (t91.2.2, x80.stations.2), ways := ((({ x80.ways.1.1 with got := x80.ways.1.1.got ++ ([t91.2.1] : List (List Int)) } : world_way), x80.ways.1.2), x80.ways.2) } : world_World)) ⟨rfl, rfl, rfl, rfl, rfl, rfl, rfl, tv⟩ ⟨HS, H, by omega⟩
        ·replace H := ite_f c93 H
         refine V.condF (sb (dF c93)) (V.skip ?_)
         refine At.end0 rfl ⟨_, rfl, ?_⟩
         refine W.nil (At.blockEnd (At.next (V.region (W.r (X.add rfl rfl) rfl (W.mv rfl (W.nil ?_))))))
         replace HS := HS.pm [2, 1, 3, 4, 5, 6, 7, 8, 9, 10, 11, 12, 13, 14, 15, 16, 17, 18, 19, 20, 21, 22, 23, 0, 24, 25, 26, 27, 28, 29, 30, 31, 32, 33, 34, 35, 36, 37, 38]
         replace HS := world_World.close tv HS
         replace HS := HS.pk [0, 2, 3, 4, 5, 6, 7, 8, 9, 10, 11, 12, 13, 14, 15, 16] [1]
         exact At.round kq81 (by omega) (w64 (x79 + 1), ({ x80 with stations := (t91.2.2, x80.stations.2) } : world_World)) ⟨rfl, rfl, rfl, rfl, rfl, rfl, rfl, tv⟩ ⟨HS, H, by omega⟩
       ·replace H := ite_f c90 H
        have hk100 : w64 (1 - 0) = 1 := by omega
        refine W.r (X.indexArK 1 hk100 underlying76 inf32 rfl rfl c89.1 c89.2) rfl (W.ld 0 HS underlying32 rfl rfl rfl rfl (W.mv rfl (W.mv rfl ?_)))
        obtain ⟨t101, A102, H⟩ := bind_s H
        replace HS := HS.pm [2, 0, 1, 3, 4, 5, 6, 7, 8, 9, 10, 11, 12, 13, 14, 15, 16, 17, 18, 19, 20, 21, 22, 23, 24, 25, 26, 27, 28, 29, 30, 31, 32, 33, 34, 35, 36, 37]
        refine W.e (Y.cl func126 (station_Station_Push.calls A102 HS.j1)) rfl ?_
        rintro _ w ⟨at101_1, ct101_1, rfl, HS⟩
        replace HS := HS.o2
        refine W.mv rfl (W.r (X.extract rfl rfl) rfl (W.r (X.extract rfl rfl) rfl (W.as rfl (W.as rfl (W.nx (V.seq (V.region (W.mv rfl (W.r (X.cmp (decide (t101.1 = 1)) rfl rfl rfl rfl) rfl (W.nx ?_))))))))))
        by_cases c103 : t101.1 = 1
        ·replace H := ite_t c103 H
         refine V.condT (sb (dT c103)) (V.region (W.mv rfl (W.mv rfl (W.nc rfl (W.fa fo79_2 rfl (W.ld 2 HS underlying35 rfl rfl rfl rfl (W.mv rfl ?_)))))))
         replace HS := St.row_freeze HS
         refine W.e (Y.lc (e := 48) (sz := 1) [vs at101_1 t101.2.1.length ct101_1] HS rfl rfl (fun _ => by kernel_rfl)) rfl ?_
         rintro _ w ⟨lb104, rfl, HS⟩
         replace HS := St.put (A := tie (El.sl (El.int .u8)) ([]) (([] : List (List Int)))) (fun _ => tie.nil) HS
         replace HS := HS.more 2 rfl (fun _ t => t) fsl.pers
         replace HS := St.put (A := tie (El.int .u8) (t101.2.1.map (Value.int .u8)) t101.2.1) (fun _ => int_tie) HS
         replace HS := St.swap HS
         replace HS := St.sl_close (E := (El.int .u8)) HS
         replace HS := HS.fr 1
         replace HS := HS.fr 1
         replace HS := St.tie_cons HS
         obtain ⟨c107, H⟩ := ite_n H
         refine W.e (Y.app (xs := x80.ways.1.1.got) (ys := ([t101.2.1] : List (List Int))) 9 underlying35 ap48 rfl (by decide) HS rfl rfl rfl (rdC.at 1 row_rd HS rfl) (St.tie_one 0 HS rfl) (by omega) (by omega)) rfl ?_
         rintro _ w ⟨ra108, rc109, rfl, HS⟩
         replace HS := HS.fr 10
         replace HS := St.tie_app 1 HS rfl
         refine W.nc rfl (W.fa fo79_2 rfl (W.st 5 20 HS inf35 rfl rfl rfl rfl rfl rfl fun w HS => ?_))
         refine W.nil ?_
         refine At.end0 rfl ⟨_, rfl, ?_⟩
         refine W.nil (At.blockEnd (At.next (V.region (W.r (X.add rfl rfl) rfl (W.mv rfl (W.nil ?_))))))
         replace HS := HS.pm [5, 6, 4, 7, 8, 9, 10, 0, 11, 12, 13, 14, 15, 16, 17, 18, 19, 20, 21, 22, 23, 24, 25, 1, 2, 3, 26, 27, 28, 29, 30, 31, 32, 33, 34, 35, 36, 37, 38, 39, 40]
         replace HS := world_World.close tv HS
         replace HS := HS.pk [0, 4, 5, 6, 7, 8, 9, 10, 11, 12, 13, 14, 15, 16, 17, 18] [1, 2, 3]
         exact At.round kq81 (by omega) (w64 (x79 + 1), ({ x80 with stations := (x80.stations.1, t101.2.2), ways := ((({ x80.ways.1.1 with got := x80.ways.1.1.got ++ ([t101.2.1] : List (List Int)) } : world_way), x80.ways.1.2), x80.ways.2) } : world_World)) ⟨rfl, rfl, rfl, rfl, rfl, rfl, rfl, tv⟩ ⟨HS, H, by omega⟩
        ·replace H := ite_f c103 H
         refine V.condF (sb (dF c103)) (V.skip ?_)
         refine At.end0 rfl ⟨_, rfl, ?_⟩
         refine W.nil (At.blockEnd (At.next (V.region (W.r (X.add rfl rfl) rfl (W.mv rfl (W.nil ?_))))))
         replace HS := HS.pm [2, 3, 1, 4, 5, 6, 7, 8, 9, 10, 11, 12, 13, 14, 15, 16, 17, 18, 19, 20, 21, 22, 23, 0, 24, 25, 26, 27, 28, 29, 30, 31, 32, 33, 34, 35, 36, 37, 38]
         replace HS := world_World.close tv HS
         replace HS := HS.pk [0, 2, 3, 4, 5, 6, 7, 8, 9, 10, 11, 12, 13, 14, 15, 16] [1]
         exact At.round kq81 (by omega) (w64 (x79 + 1), ({ x80 with stations := (x80.stations.1, t101.2.2) } : world_World)) ⟨rfl, rfl, rfl, rfl, rfl, rfl, rfl, tv⟩ ⟨HS, H, by omega⟩
      ·replace H := ite_f c83 H
       refine V.condF (sb (dF c83)) (V.exit (At.thenExit (At.thenExit (At.blockExit ?_))))
       refine At.end0 rfl ⟨_, rfl, ?_⟩
       refine W.nil (At.blockEnd (At.next (V.region (W.r (X.add rfl rfl) rfl (W.mv rfl (W.nil (At.onward [(0, pt b0), (1, Value.func (.func 61) #[] #[pt nb1]), (4, vi (0)), (6, vi (0)), (9, vi (1))] ⟨rfl, rfl, rfl, rfl, rfl, tv⟩ ?_)))))))
       refine V.seq (V.region (W.r (X.cmp true (by decide) rfl rfl rfl) rfl (W.nx (V.seq (V.condT rfl (V.skip (At.next (V.seq (V.block (V.seq (V.region (W.mv rfl (W.as rfl (W.nx (V.region (W.mv rfl (W.mv rfl (W.mv rfl (W.mv rfl (W.mv rfl (W.mv rfl (W.nc rfl ?_))))))))))))))))))))))
       obtain ⟨b16_110, b17_110, b18_110, a19_110, c19_110, d19_110, a20_110, c20_110, d20_110, b21_110, a22_110, c22_110, d22_110, a23_110, c23_110, d23_110, b24_110, a25_110, c25_110, d25_110, a26_110, c26_110, d26_110, b27_110, a28_110, c28_110, d28_110, a29_110, c29_110, d29_110, hi111, HS⟩ := world_World.open HS
       refine W.fa fo83_2 rfl (W.r (X.indexArK 0 rfl underlying81 inf80 rfl rfl (by decide) (by decide)) rfl (W.r (X.indexArK 1 rfl underlying80 inf79 rfl rfl (by decide) (by decide)) rfl ?_))
       refine W.inl (Y.callV (vs := [vi (0), vi (1), po b0 (0 + 18 + 0 * 6 + 1 * 3)]) (cs := [pt nb1]) rfl func61 (by kernel_rfl) rfl rfl (calls_enter func61 rfl rfl ?_)) rfl rfl rfl
       refine V.seq (V.dr [9] [10] [(9, po b0 (0 + 18 + 0 * 6 + 1 * 3)), (10, po b0 (0 + 18 + 0 * 6 + 1 * 3)), (11, po b0 (0 + 18 + 0 * 6 + 1 * 3 + 0)), (12, pt b21_110), (13, pt b0), (14, pt b0), (15, po b0 (0 + 0)), (16, po b0 (0 + 0 + 11)), (17, vi x80.c.Rate), (20, vi (0))] mo HS ?_)
       refine T.ev [(12, _), (17, _)] [] [0, 1, 2, 3, 4, 5, 6, 7, 8] ⟨rfl, rfl, tv⟩ ⟨.mv 2, .nc 9, .fa 10 fo79_0, .ld 11 0 underlying77, .ld 3 36 underlying25, .nc 13, .fa 14 fo83_0, .fa 15 fo23_11, .ld 16 0 underlying3, .n0 (fun w HS => X.move rfl), tv⟩ rfl (fun w HS => ?_)
       obtain ⟨t112, A113, H⟩ := bind_s H
       replace HS := HS.pm [8, 0, 1, 2, 3, 4, 5, 6, 7, 9, 10, 11, 12, 13, 14, 15, 16, 17, 18, 19, 20, 21, 22, 23, 24, 25, 26, 27, 28, 29, 30, 31, 32, 33, 34, 35, 36, 37]
       refine ⟨_, Y.cl func62 (pipe_Pipe_Take.calls A113 HS.j1), ?_⟩
       rintro _ w ⟨at112_0, ct112_0, rfl, HS⟩
       replace HS := HS.o2
       refine T.nm [(18, vs at112_0 t112.1.length ct112_0), (19, vi (t112.1.length : Int))] HS ⟨.inl ⟨rfl, rfl⟩, ⟨.inr ⟨by decide, rfl⟩, tv⟩⟩ ?_
       refine T.fn [(0, _), (1, _), (2, _), (3, _), (18, _), (19, _), (20, _)] ⟨rfl, rfl, rfl, rfl, rfl, rfl, rfl, tv⟩ ⟨.n1 18 rfl rfl (fun w HS => X.lenSl underlying48 rfl), .n0 (fun w HS => X.move rfl), tv⟩ (fun w HS => ?_)
       refine At.next (V.block ?_)
       replace HS := HS.pm [2, 3, 4, 5, 6, 7, 8, 9, 1, 10, 11, 12, 13, 14, 15, 16, 17, 18, 19, 20, 21, 22, 23, 0, 24, 25, 26, 27, 28, 29, 30, 31, 32, 33, 34, 35, 36, 37, 38]
       replace HS := world_World.close tv HS
       refine V.loop (σ := Int × world_World) (fun kq (st : Int × world_World) w => match st with | (x137, x138) => Sep.St [world_World.at b0 x138, row 5 1 (.slice at112_0 t112.1.length ct112_0) t112.1.length (t112.1.map (Value.int .u8)), row 5 1 (.slice at75_0 t75.1.length ct75_0) t75.1.length (t75.1.map (Value.int .u8)), row 5 1 (.slice at71_0 t71.1.length ct71_0) t71.1.length (t71.1.map (Value.int .u8)), row 5 1 (.slice at65_0 t65.1.length ct65_0) t65.1.length (t65.1.map (Value.int .u8)), row 5 1 (.slice at59_0 t59.1.length ct59_0) t59.1.length (t59.1.map (Value.int .u8)), row 5 1 (.slice at53_0 t53.1.length ct53_0) t53.1.length (t53.1.map (Value.int .u8)), row 48 1 (.slice at40_0_0 t40.1.1.length ct40_0_0) t40.1.1.length dt40_0_0, tie (El.sl (El.int .u8)) dt40_0_0 t40.1.1, row 48 1 (.slice at40_0_1 t40.1.2.length ct40_0_1) t40.1.2.length dt40_0_1, tie (El.sl (El.int .u8)) dt40_0_1 t40.1.2, row 48 1 (.slice at28_0_0 t28.1.1.length ct28_0_0) t28.1.1.length dt28_0_0, tie (El.sl (El.int .u8)) dt28_0_0 t28.1.1, row 48 1 (.slice at28_0_1 t28.1.2.length ct28_0_1) t28.1.2.length dt28_0_1, tie (El.sl (El.int .u8)) dt28_0_1 t28.1.2, blk nb1 (#[pt b0]) 25, R] w0 w ∧ world_World_Step.l5 kq t112 x137 x138 = some r ∧ kq ≤ kq81) (fun st => match st with | (x137, x138) => [(0, vi (0)), (1, vi (1)), (2, po b0 (0 + 18 + 0 * 6 + 1 * 3)), (3, pt nb1), (18, vs at112_0 t112.1.length ct112_0), (19, vi (t112.1.length : Int)), (20, vi x137)]) kq81 (0, ({ x80 with ways := ((x80.ways.1.1, ({ x80.ways.1.2 with pipe := t112.2 } : world_way)), x80.ways.2) } : world_World)) ⟨rfl, rfl, rfl, rfl, rfl, rfl, rfl, tv⟩ ⟨HS, H, Nat.le_refl _⟩ ?_
       rintro kq139 ⟨x137, x138⟩ w ⟨HS, H, hk140⟩
       cases kq139 with
       | zero => exact absurd H (by simp [world_World_Step.l5])
       | succ kq139 =>
        simp only [world_World_Step.l5] at H
        refine V.seq (V.region (W.r (X.cmp (decide (x137 < (t112.1.length : Int))) rfl rfl rfl rfl) rfl (W.nx (V.seq ?_))))
        by_cases c141 : x137 < (t112.1.length : Int)
        ·replace H := ite_t c141 H
         refine V.condT (sb (dT c141)) (V.skip (At.next (V.seq (V.block (V.seq (V.region ?_))))))
         obtain ⟨c142, H⟩ := ite_n H
         obtain ⟨eb143, eo144, hh⟩ := (rdC.at 1 row_rd HS rfl).some (by decide) c142.1 c142.2; subst hh
         refine W.r (X.indexSl underlying48 inf5 rfl rfl c142.1 c142.2) rfl (W.r (X.load underlying5 rfl rfl ((rdC.at 1 row_rd HS rfl).cellI c142.1 c142.2)) rfl (W.as rfl (W.nx (V.region (W.ld 15 HS underlying25 rfl rfl rfl rfl (W.mv rfl (W.mv rfl (W.mv rfl (W.mv rfl ?_)))))))))
         refine W.inl (Y.cl (vs := [pt b0, vi (0), vi (1), po b0 (0 + 18 + 0 * 6 + 1 * 3), Value.int .u8 (t112.1.getD x137.toNat 0)]) func63 (calls_enter func63 rfl rfl ?_)) rfl rfl rfl
         refine V.seq (V.region (W.mv rfl (W.mv rfl (W.r (X.sub rfl rfl) rfl (W.nc rfl ?_)))))
         obtain ⟨b16_145, b17_145, b18_145, a19_145, c19_145, d19_145, a20_145, c20_145, d20_145, b21_145, a22_145, c22_145, d22_145, a23_145, c23_145, d23_145, b24_145, a25_145, c25_145, d25_145, a26_145, c26_145, d26_145, b27_145, a28_145, c28_145, d28_145, a29_145, c29_145, d29_145, hi146, HS⟩ := world_World.open HS
         refine W.fa fo83_1 rfl ?_
         obtain ⟨c147, H⟩ := ite_n H
         by_cases c148 : w64 (1 - 1) = 0
         ·replace H := ite_t c148 H
          refine W.r (X.indexArK 0 c148 underlying76 inf32 rfl rfl c147.1 c147.2) rfl (W.ld 0 HS underlying32 rfl rfl rfl rfl (W.mv rfl (W.mv rfl ?_)))
          obtain ⟨t149, A150, H⟩ := bind_s H
          replace HS := HS.pm [1, 0, 2, 3, 4, 5, 6, 7, 8, 9, 10, 11, 12, 13, 14, 15, 16, 17, 18, 19, 20, 21, 22, 23, 24, 25, 26, 27, 28, 29, 30, 31, 32, 33, 34, 35, 36, 37, 38]
          refine W.e (Y.cl func126 (station_Station_Push.calls A150 HS.j1)) rfl ?_
          rintro _ w ⟨at149_1, ct149_1, rfl, HS⟩
          replace HS := HS.o2
          refine W.mv rfl (W.r (X.extract rfl rfl) rfl (W.r (X.extract rfl rfl) rfl (W.as rfl (W.as rfl (W.nx (V.seq (V.region (W.mv rfl (W.r (X.cmp (decide (t149.1 = 1)) rfl rfl rfl rfl) rfl (W.nx ?_))))))))))
          by_cases c151 : t149.1 = 1
          ·replace H := ite_t c151 H
           refine V.condT (sb (dT c151)) (V.region (W.mv rfl (W.mv rfl (W.nc rfl (W.fa fo79_2 rfl (W.ld 2 HS underlying35 rfl rfl rfl rfl (W.mv rfl ?_)))))))
           replace HS := St.row_freeze HS
           refine W.e (Y.lc (e := 48) (sz := 1) [vs at149_1 t149.2.1.length ct149_1] HS rfl rfl (fun _ => by kernel_rfl)) rfl ?_
           rintro _ w ⟨lb152, rfl, HS⟩
           replace HS := St.put (A := tie (El.sl (El.int .u8)) ([]) (([] : List (List Int)))) (fun _ => tie.nil) HS
           replace HS := HS.more 2 rfl (fun _ t => t) fsl.pers
           replace HS := St.put (A := tie (El.int .u8) (t149.2.1.map (Value.int .u8)) t149.2.1) (fun _ => int_tie) HS
           replace HS := St.swap HS
           replace HS := St.sl_close (E := (El.int .u8)) HS
           replace HS := HS.fr 1
           replace HS := HS.fr 1
           replace HS := St.tie_cons HS
           obtain ⟨c155, H⟩ := ite_n H
           refine W.e (Y.app (xs := x138.ways.1.2.got) (ys := ([t149.2.1] : List (List Int))) 14 underlying35 ap48 rfl (by decide) HS rfl rfl rfl (rdC.at 1 row_rd HS rfl) (St.tie_one 0 HS rfl) (by omega) (by omega)) rfl ?_
           rintro _ w ⟨ra156, rc157, rfl, HS⟩
           replace HS := HS.fr 15
           replace HS := St.tie_app 1 HS rfl
           refine W.nc rfl (W.fa fo79_2 rfl (W.st 5 23 HS inf35 rfl rfl rfl rfl rfl rfl fun w HS => ?_))
           refine W.nil ?_
           refine At.end0 rfl ⟨_, rfl, ?_⟩
           refine W.nil (At.blockEnd (At.next (V.region (W.r (X.add rfl rfl) rfl (W.mv rfl (W.nil ?_))))))
           replace HS := HS.pm [5, 4, 6, 7, 8, 9, 10, 11, 12, 13, 14, 15, 0, 16, 17, 18, 19, 20, 21, 22, 23, 24, 25, 1, 2, 3, 26, 27, 28, 29, 30, 31, 32, 33, 34, 35, 36, 37, 38, 39, 40, 41]
           replace HS := world_World.close tv HS
           replace HS := HS.pk [0, 4, 5, 6, 7, 8, 9, 10, 11, 12, 13, 14, 15, 16, 17, 18, 19] [1, 2, 3]
           exact At.round kq139 (by omega) (w64 (x137 + 1), ({ x138 with stations := (t149.2.2, x138.stations.2), ways := ((x138.ways.1.1, ({ x138.ways.1.2 with got := x138.ways.1.2.got ++ ([t149.2.1] : List (List Int)) } : world_way)), x138.ways.2) } : world_World)) ⟨rfl, rfl, rfl, rfl, rfl, rfl, rfl, tv⟩ ⟨HS, H, by omega⟩
          ·replace H := ite_f c151 H
           refine V.condF (sb (dF c151)) (V.skip ?_)
           refine At.end0 rfl ⟨_, rfl, ?_⟩
           refine W.nil (At.blockEnd (At.next (V.region (W.r (X.add rfl rfl) rfl (W.mv rfl (W.nil ?_))))))
           replace HS := HS.pm [2, 1, 3, 4, 5, 6, 7, 8, 9, 10, 11, 12, 13, 14, 15, 16, 17, 18, 19, 20, 21, 22, 23, 0, 24, 25, 26, 27, 28, 29, 30, 31, 32, 33, 34, 35, 36, 37, 38, 39]
           replace HS := world_World.close tv HS
           replace HS := HS.pk [0, 2, 3, 4, 5, 6, 7, 8, 9, 10, 11, 12, 13, 14, 15, 16, 17] [1]
           exact At.round kq139 (by omega) (w64 (x137 + 1), ({ x138 with stations := (t149.2.2, x138.stations.2) } : world_World)) ⟨rfl, rfl, rfl, rfl, rfl, rfl, rfl, tv⟩ ⟨HS, H, by omega⟩
         ·replace H := ite_f c148 H
          have hk158 : w64 (1 - 1) = 1 := by omega
          refine W.r (X.indexArK 1 hk158 underlying76 inf32 rfl rfl c147.1 c147.2) rfl (W.ld 0 HS underlying32 rfl rfl rfl rfl (W.mv rfl (W.mv rfl ?_)))
          obtain ⟨t159, A160, H⟩ := bind_s H
          replace HS := HS.pm [2, 0, 1, 3, 4, 5, 6, 7, 8, 9, 10, 11, 12, 13, 14, 15, 16, 17, 18, 19, 20, 21, 22, 23, 24, 25, 26, 27, 28, 29, 30, 31, 32, 33, 34, 35, 36, 37, 38]
          refine W.e (Y.cl func126 (station_Station_Push.calls A160 HS.j1)) rfl ?_
          rintro _ w ⟨at159_1, ct159_1, rfl, HS⟩
          replace HS := HS.o2
          refine W.mv rfl (W.r (X.extract rfl rfl) rfl (W.r (X.extract rfl rfl) rfl (W.as rfl (W.as rfl (W.nx (V.seq (V.region (W.mv rfl (W.r (X.cmp (decide (t159.1 = 1)) rfl rfl rfl rfl) rfl (W.nx ?_))))))))))
          by_cases c161 : t159.1 = 1
          ·replace H := ite_t c161 H
           refine V.condT (sb (dT c161)) (V.region (W.mv rfl (W.mv rfl (W.nc rfl (W.fa fo79_2 rfl (W.ld 2 HS underlying35 rfl rfl rfl rfl (W.mv rfl ?_)))))))
           replace HS := St.row_freeze HS
           refine W.e (Y.lc (e := 48) (sz := 1) [vs at159_1 t159.2.1.length ct159_1] HS rfl rfl (fun _ => by kernel_rfl)) rfl ?_
           rintro _ w ⟨lb162, rfl, HS⟩
           replace HS := St.put (A := tie (El.sl (El.int .u8)) ([]) (([] : List (List Int)))) (fun _ => tie.nil) HS
           replace HS := HS.more 2 rfl (fun _ t => t) fsl.pers
           replace HS := St.put (A := tie (El.int .u8) (t159.2.1.map (Value.int .u8)) t159.2.1) (fun _ => int_tie) HS
           replace HS := St.swap HS
           replace HS := St.sl_close (E := (El.int .u8)) HS
           replace HS := HS.fr 1
           replace HS := HS.fr 1
           replace HS := St.tie_cons HS
           obtain ⟨c165, H⟩ := ite_n H
           refine W.e (Y.app (xs := x138.ways.1.2.got) (ys := ([t159.2.1] : List (List Int))) 14 underlying35 ap48 rfl (by decide) HS rfl rfl rfl (rdC.at 1 row_rd HS rfl) (St.tie_one 0 HS rfl) (by omega) (by omega)) rfl ?_
           rintro _ w ⟨ra166, rc167, rfl, HS⟩
           replace HS := HS.fr 15
           replace HS := St.tie_app 1 HS rfl
           refine W.nc rfl (W.fa fo79_2 rfl (W.st 5 23 HS inf35 rfl rfl rfl rfl rfl rfl fun w HS => ?_))
           refine W.nil ?_
           refine At.end0 rfl ⟨_, rfl, ?_⟩
           refine W.nil (At.blockEnd (At.next (V.region (W.r (X.add rfl rfl) rfl (W.mv rfl (W.nil ?_))))))
           replace HS := HS.pm [5, 6, 4, 7, 8, 9, 10, 11, 12, 13, 14, 15, 0, 16, 17, 18, 19, 20, 21, 22, 23, 24, 25, 1, 2, 3, 26, 27, 28, 29, 30, 31, 32, 33, 34, 35, 36, 37, 38, 39, 40, 41]
           replace HS := world_World.close tv HS
           replace HS := HS.pk [0, 4, 5, 6, 7, 8, 9, 10, 11, 12, 13, 14, 15, 16, 17, 18, 19] [1, 2, 3]
           exact At.round kq139 (by omega) (w64 (x137 + 1), ({ x138 with stations := (x138.stations.1, t159.2.2), ways := ((x138.ways.1.1, ({ x138.ways.1.2 with got := x138.ways.1.2.got ++ ([t159.2.1] : List (List Int)) } : world_way)), x138.ways.2) } : world_World)) ⟨rfl, rfl, rfl, rfl, rfl, rfl, rfl, tv⟩ ⟨HS, H, by omega⟩
          ·replace H := ite_f c161 H
           refine V.condF (sb (dF c161)) (V.skip ?_)
           refine At.end0 rfl ⟨_, rfl, ?_⟩
           refine W.nil (At.blockEnd (At.next (V.region (W.r (X.add rfl rfl) rfl (W.mv rfl (W.nil ?_))))))
           replace HS := HS.pm [2, 3, 1, 4, 5, 6, 7, 8, 9, 10, 11, 12, 13, 14, 15, 16, 17, 18, 19, 20, 21, 22, 23, 0, 24, 25, 26, 27, 28, 29, 30, 31, 32, 33, 34, 35, 36, 37, 38, 39]
           replace HS := world_World.close tv HS
           replace HS := HS.pk [0, 2, 3, 4, 5, 6, 7, 8, 9, 10, 11, 12, 13, 14, 15, 16, 17] [1]
           exact At.round kq139 (by omega) (w64 (x137 + 1), ({ x138 with stations := (x138.stations.1, t159.2.2) } : world_World)) ⟨rfl, rfl, rfl, rfl, rfl, rfl, rfl, tv⟩ ⟨HS, H, by omega⟩
        ·replace H := ite_f c141 H
         refine V.condF (sb (dF c141)) (V.exit (At.thenExit (At.thenExit (At.blockExit ?_))))
         refine At.end0 rfl ⟨_, rfl, ?_⟩
         refine W.nil (At.blockEnd (At.next (V.region (W.r (X.add rfl rfl) rfl (W.mv rfl (W.nil (At.onward [(0, pt b0), (1, Value.func (.func 61) #[] #[pt nb1]), (4, vi (0)), (6, vi (0)), (9, vi (2))] ⟨rfl, rfl, rfl, rfl, rfl, tv⟩ ?_)))))))
         refine V.seq (V.region (W.r (X.cmp false (by decide) rfl rfl rfl) rfl (W.nx (V.seq (V.condF rfl (V.exit (At.thenExit (At.thenExit (At.blockExit (At.blockEnd (At.next (V.region (W.r (X.add rfl rfl) rfl (W.mv rfl (W.nil (At.onward [(0, pt b0), (1, Value.func (.func 61) #[] #[pt nb1]), (6, vi (1))] ⟨rfl, rfl, rfl, tv⟩ ?_))))))))))))))))
         refine V.seq (V.region (W.r (X.cmp true (by decide) rfl rfl rfl) rfl (W.nx (V.seq (V.condT rfl (V.skip (At.next (V.seq (V.block (V.seq (V.region (W.mv rfl (W.as rfl (W.nx (V.seq (V.region (W.mv rfl (W.nx (V.block (V.rounds 2 [(0, pt b0), (1, Value.func (.func 61) #[] #[pt nb1]), (4, vi (1)), (6, vi (1)), (9, vi (0))] ⟨rfl, rfl, rfl, rfl, rfl, tv⟩ ?_))))))))))))))))))))
         refine V.seq (V.region (W.r (X.cmp true (by decide) rfl rfl rfl) rfl (W.nx (V.seq (V.condT rfl (V.skip (At.next (V.seq (V.block (V.seq (V.region (W.mv rfl (W.as rfl (W.nx (V.region (W.mv rfl (W.mv rfl (W.mv rfl (W.mv rfl (W.mv rfl (W.mv rfl (W.nc rfl ?_))))))))))))))))))))))
         obtain ⟨b16_168, b17_168, b18_168, a19_168, c19_168, d19_168, a20_168, c20_168, d20_168, b21_168, a22_168, c22_168, d22_168, a23_168, c23_168, d23_168, b24_168, a25_168, c25_168, d25_168, a26_168, c26_168, d26_168, b27_168, a28_168, c28_168, d28_168, a29_168, c29_168, d29_168, hi169, HS⟩ := world_World.open HS
         refine W.fa fo83_2 rfl (W.r (X.indexArK 1 rfl underlying81 inf80 rfl rfl (by decide) (by decide)) rfl (W.r (X.indexArK 0 rfl underlying80 inf79 rfl rfl (by decide) (by decide)) rfl ?_))
         refine W.inl (Y.callV (vs := [vi (1), vi (0), po b0 (0 + 18 + 1 * 6 + 0 * 3)]) (cs := [pt nb1]) rfl func61 (by kernel_rfl) rfl rfl (calls_enter func61 rfl rfl ?_)) rfl rfl rfl
         refine V.seq (V.dr [9] [10] [(9, po b0 (0 + 18 + 1 * 6 + 0 * 3)), (10, po b0 (0 + 18 + 1 * 6 + 0 * 3)), (11, po b0 (0 + 18 + 1 * 6 + 0 * 3 + 0)), (12, pt b24_168), (13, pt b0), (14, pt b0), (15, po b0 (0 + 0)), (16, po b0 (0 + 0 + 11)), (17, vi x138.c.Rate), (20, vi (0))] mo HS ?_)
         refine T.ev [(12, _), (17, _)] [] [0, 1, 2, 3, 4, 5, 6, 7, 8] ⟨rfl, rfl, tv⟩ ⟨.mv 2, .nc 9, .fa 10 fo79_0, .ld 11 0 underlying77, .ld 3 37 underlying25, .nc 13, .fa 14 fo83_0, .fa 15 fo23_11, .ld 16 0 underlying3, .n0 (fun w HS => X.move rfl), tv⟩ rfl (fun w HS => ?_)
         obtain ⟨t170, A171, H⟩ := bind_s H
         replace HS := HS.pm [13, 0, 1, 2, 3, 4, 5, 6, 7, 8, 9, 10, 11, 12, 14, 15, 16, 17, 18, 19, 20, 21, 22, 23, 24, 25, 26, 27, 28, 29, 30, 31, 32, 33, 34, 35, 36, 37, 38]
         refine ⟨_, Y.cl func62 (pipe_Pipe_Take.calls A171 HS.j1), ?_⟩
         rintro _ w ⟨at170_0, ct170_0, rfl, HS⟩
         replace HS := HS.o2
         refine T.nm [(18, vs at170_0 t170.1.length ct170_0), (19, vi (t170.1.length : Int))] HS ⟨.inl ⟨rfl, rfl⟩, ⟨.inr ⟨by decide, rfl⟩, tv⟩⟩ ?_
         refine T.fn [(0, _), (1, _), (2, _), (3, _), (18, _), (19, _), (20, _)] ⟨rfl, rfl, rfl, rfl, rfl, rfl, rfl, tv⟩ ⟨.n1 18 rfl rfl (fun w HS => X.lenSl underlying48 rfl), .n0 (fun w HS => X.move rfl), tv⟩ (fun w HS => ?_)
         refine At.next (V.block ?_)
         replace HS := HS.pm [2, 3, 4, 5, 6, 7, 8, 9, 10, 11, 12, 13, 14, 1, 15, 16, 17, 18, 19, 20, 21, 22, 23, 0, 24, 25, 26, 27, 28, 29, 30, 31, 32, 33, 34, 35, 36, 37, 38, 39]
         replace HS := world_World.close tv HS
         refine V.loop (σ := Int × world_World) (fun kq (st : Int × world_World) w => match st with | (x195, x196) => Sep.St [world_World.at b0 x196, row 5 1 (.slice at170_0 t170.1.length ct170_0) t170.1.length (t170.1.map (Value.int .u8)), row 5 1 (.slice at112_0 t112.1.length ct112_0) t112.1.length (t112.1.map (Value.int .u8)), row 5 1 (.slice at75_0 t75.1.length ct75_0) t75.1.length (t75.1.map (Value.int .u8)), row 5 1 (.slice at71_0 t71.1.length ct71_0) t71.1.length (t71.1.map (Value.int .u8)), row 5 1 (.slice at65_0 t65.1.length ct65_0) t65.1.length (t65.1.map (Value.int .u8)), row 5 1 (.slice at59_0 t59.1.length ct59_0) t59.1.length (t59.1.map (Value.int .u8)), row 5 1 (.slice at53_0 t53.1.length ct53_0) t53.1.length (t53.1.map (Value.int .u8)), row 48 1 (.slice at40_0_0 t40.1.1.length ct40_0_0) t40.1.1.length dt40_0_0, tie (El.sl (El.int .u8)) dt40_0_0 t40.1.1, row 48 1 (.slice at40_0_1 t40.1.2.length ct40_0_1) t40.1.2.length dt40_0_1, tie (El.sl (El.int .u8)) dt40_0_1 t40.1.2, row 48 1 (.slice at28_0_0 t28.1.1.length ct28_0_0) t28.1.1.length dt28_0_0, tie (El.sl (El.int .u8)) dt28_0_0 t28.1.1, row 48 1 (.slice at28_0_1 t28.1.2.length ct28_0_1) t28.1.2.length dt28_0_1, tie (El.sl (El.int .u8)) dt28_0_1 t28.1.2, blk nb1 (#[pt b0]) 25, R] w0 w ∧ world_World_Step.l6 kq t170 x195 x196 = some r ∧ kq ≤ kq139) (fun st => match st with | (x195, x196) => [(0, vi (1)), (1, vi (0)), (2, po b0 (0 + 18 + 1 * 6 + 0 * 3)), (3, pt nb1), (18, vs at170_0 t170.1.length ct170_0), (19, vi (t170.1.length : Int)), (20, vi x195)]) kq139 (0, ({ x138 with ways := (x138.ways.1, (({ x138.ways.2.1 with pipe := t170.2 } : world_way), x138.ways.2.2)) } : world_World)) ⟨rfl, rfl, rfl, rfl, rfl, rfl, rfl, tv⟩ ⟨HS, H, Nat.le_refl _⟩ ?_
         rintro kq197 ⟨x195, x196⟩ w ⟨HS, H, hk198⟩
         cases kq197 with
         | zero => exact absurd H (by simp [world_World_Step.l6])
         | succ kq197 =>
          simp only [world_World_Step.l6] at H
          refine V.seq (V.region (W.r (X.cmp (decide (x195 < (t170.1.length : Int))) rfl rfl rfl rfl) rfl (W.nx (V.seq ?_))))
          by_cases c199 : x195 < (t170.1.length : Int)
          ·replace H := ite_t c199 H
           refine V.condT (sb (dT c199)) (V.skip (At.next (V.seq (V.block (V.seq (V.region ?_))))))
           obtain ⟨c200, H⟩ := ite_n H
           obtain ⟨eb201, eo202, hh⟩ := (rdC.at 1 row_rd HS rfl).some (by decide) c200.1 c200.2; subst hh
           refine W.r (X.indexSl underlying48 inf5 rfl rfl c200.1 c200.2) rfl (W.r (X.load underlying5 rfl rfl ((rdC.at 1 row_rd HS rfl).cellI c200.1 c200.2)) rfl (W.as rfl (W.nx (V.region (W.ld 16 HS underlying25 rfl rfl rfl rfl (W.mv rfl (W.mv rfl (W.mv rfl (W.mv rfl ?_)))))))))
           refine W.inl (Y.cl (vs := [pt b0, vi (1), vi (0), po b0 (0 + 18 + 1 * 6 + 0 * 3), Value.int .u8 (t170.1.getD x195.toNat 0)]) func63 (calls_enter func63 rfl rfl ?_)) rfl rfl rfl
           refine V.seq (V.region (W.mv rfl (W.mv rfl (W.r (X.sub rfl rfl) rfl (W.nc rfl ?_)))))
           obtain ⟨b16_203, b17_203, b18_203, a19_203, c19_203, d19_203, a20_203, c20_203, d20_203, b21_203, a22_203, c22_203, d22_203, a23_203, c23_203, d23_203, b24_203, a25_203, c25_203, d25_203, a26_203, c26_203, d26_203, b27_203, a28_203, c28_203, d28_203, a29_203, c29_203, d29_203, hi204, HS⟩ := world_World.open HS
           refine W.fa fo83_1 rfl ?_
           obtain ⟨c205, H⟩ := ite_n H
           by_cases c206 : w64 (1 - 0) = 0
           ·replace H := ite_t c206 H
            refine W.r (X.indexArK 0 c206 underlying76 inf32 rfl rfl c205.1 c205.2) rfl (W.ld 0 HS underlying32 rfl rfl rfl rfl (W.mv rfl (W.mv rfl ?_)))
            obtain ⟨t207, A208, H⟩ := bind_s H
            replace HS := HS.pm [1, 0, 2, 3, 4, 5, 6, 7, 8, 9, 10, 11, 12, 13, 14, 15, 16, 17, 18, 19, 20, 21, 22, 23, 24, 25, 26, 27, 28, 29, 30, 31, 32, 33, 34, 35, 36, 37, 38, 39]
            refine W.e (Y.cl func126 (station_Station_Push.calls A208 HS.j1)) rfl ?_
            rintro _ w ⟨at207_1, ct207_1, rfl, HS⟩
            replace HS := HS.o2
            refine W.mv rfl (W.r (X.extract rfl rfl) rfl (W.r (X.extract rfl rfl) rfl (W.as rfl (W.as rfl (W.nx (V.seq (V.region (W.mv rfl (W.r (X.cmp (decide (t207.1 = 1)) rfl rfl rfl rfl) rfl (W.nx ?_))))))))))
            by_cases c209 : t207.1 = 1
            ·replace H := ite_t c209 H
             refine V.condT (sb (dT c209)) (V.region (W.mv rfl (W.mv rfl (W.nc rfl (W.fa fo79_2 rfl (W.ld 2 HS underlying35 rfl rfl rfl rfl (W.mv rfl ?_)))))))
             replace HS := St.row_freeze HS
             refine W.e (Y.lc (e := 48) (sz := 1) [vs at207_1 t207.2.1.length ct207_1] HS rfl rfl (fun _ => by kernel_rfl)) rfl ?_
             rintro _ w ⟨lb210, rfl, HS⟩
             replace HS := St.put (A := tie (El.sl (El.int .u8)) ([]) (([] : List (List Int)))) (fun _ => tie.nil) HS
             replace HS := HS.more 2 rfl (fun _ t => t) fsl.pers
             replace HS := St.put (A := tie (El.int .u8) (t207.2.1.map (Value.int .u8)) t207.2.1) (fun _ => int_tie) HS
             replace HS := St.swap HS
             replace HS := St.sl_close (E := (El.int .u8)) HS
             replace HS := HS.fr 1
             replace HS := HS.fr 1
             replace HS := St.tie_cons HS
             obtain ⟨c213, H⟩ := ite_n H
             refine W.e (Y.app (xs := x196.ways.2.1.got) (ys := ([t207.2.1] : List (List Int))) 19 underlying35 ap48 rfl (by decide) HS rfl rfl rfl (rdC.at 1 row_rd HS rfl) (St.tie_one 0 HS rfl) (by omega) (by omega)) rfl ?_
             rintro _ w ⟨ra214, rc215, rfl, HS⟩
             replace HS := HS.fr 20
             replace HS := St.tie_app 1 HS rfl
             refine W.nc rfl (W.fa fo79_2 rfl (W.st 5 26 HS inf35 rfl rfl rfl rfl rfl rfl fun w HS => ?_))
             refine W.nil ?_
             refine At.end0 rfl ⟨_, rfl, ?_⟩
             refine W.nil (At.blockEnd (At.next (V.region (W.r (X.add rfl rfl) rfl (W.mv rfl (W.nil ?_))))))
             replace HS := HS.pm [5, 4, 6, 7, 8, 9, 10, 11, 12, 13, 14, 15, 16, 17, 18, 19, 20, 0, 21, 22, 23, 24, 25, 1, 2, 3, 26, 27, 28, 29, 30, 31, 32, 33, 34, 35, 36, 37, 38, 39, 40, 41, 42]
             replace HS := world_World.close tv HS
             replace HS := HS.pk [0, 4, 5, 6, 7, 8, 9, 10, 11, 12, 13, 14, 15, 16, 17, 18, 19, 20] [1, 2, 3]
             exact At.round kq197 (by omega) (w64 (x195 + 1), ({ x196 with stations := (t207.2.2, x196.stations.2), ways := (x196.ways.1, (({ x196.ways.2.1 with got := x196.ways.2.1.got ++ ([t207.2.1] : List (List Int)) } : world_way), x196.ways.2.2)) } : world_World)) ⟨rfl, rfl, rfl, rfl, rfl, rfl, rfl, tv⟩ ⟨HS, H, by omega⟩
            ·replace H := ite_f c209 H
             refine V.condF (sb (dF c209)) (V.skip ?_)
             refine At.end0 rfl ⟨_, rfl, ?_⟩
             refine W.nil (At.blockEnd (At.next (V.region (W.r (X.add rfl rfl) rfl (W.mv rfl (W.nil ?_))))))
             replace HS := HS.pm [2, 1, 3, 4, 5, 6, 7, 8, 9, 10, 11, 12, 13, 14, 15, 16, 17, 18, 19, 20, 21, 22, 23, 0, 24, 25, 26, 27, 28, 29, 30, 31, 32, 33, 34, 35, 36, 37, 38, 39, 40]
             replace HS := world_World.close tv HS
             replace HS := HS.pk [0, 2, 3, 4, 5, 6, 7, 8, 9, 10, 11, 12, 13, 14, 15, 16, 17, 18] [1]
             exact At.round kq197 (by omega) (w64 (x195 + 1), ({ x196 with stations := (t207.2.2, x196.stations.2) } : world_World)) ⟨rfl, rfl, rfl, rfl, rfl, rfl, rfl, tv⟩ ⟨HS, H, by omega⟩
           ·replace H := ite_f c206 H
            have hk216 : w64 (1 - 0) = 1 := by omega
            refine W.r (X.indexArK 1 hk216 underlying76 inf32 rfl rfl c205.1 c205.2) rfl (W.ld 0 HS underlying32 rfl rfl rfl rfl (W.mv rfl (W.mv rfl ?_)))
            obtain ⟨t217, A218, H⟩ := bind_s H
            replace HS := HS.pm [2, 0, 1, 3, 4, 5, 6, 7, 8, 9, 10, 11, 12, 13, 14, 15, 16, 17, 18, 19, 20, 21, 22, 23, 24, 25, 26, 27, 28, 29, 30, 31, 32, 33, 34, 35, 36, 37, 38, 39]
            refine W.e (Y.cl func126 (station_Station_Push.calls A218 HS.j1)) rfl ?_
            rintro _ w ⟨at217_1, ct217_1, rfl, HS⟩
            replace HS := HS.o2
            refine W.mv rfl (W.r (X.extract rfl rfl) rfl (W.r (X.extract rfl rfl) rfl (W.as rfl (W.as rfl (W.nx (V.seq (V.region (W.mv rfl (W.r (X.cmp (decide (t217.1 = 1)) rfl rfl rfl rfl) rfl (W.nx ?_))))))))))
            by_cases c219 : t217.1 = 1
            ·replace H := ite_t c219 H
             refine V.condT (sb (dT c219)) (V.region (W.mv rfl (W.mv rfl (W.nc rfl (W.fa fo79_2 rfl (W.ld 2 HS underlying35 rfl rfl rfl rfl (W.mv rfl ?_)))))))
             replace HS := St.row_freeze HS
             refine W.e (Y.lc (e := 48) (sz := 1) [vs at217_1 t217.2.1.length ct217_1] HS rfl rfl (fun _ => by kernel_rfl)) rfl ?_
             rintro _ w ⟨lb220, rfl, HS⟩
             replace HS := St.put (A := tie (El.sl (El.int .u8)) ([]) (([] : List (List Int)))) (fun _ => tie.nil) HS
             replace HS := HS.more 2 rfl (fun _ t => t) fsl.pers
             replace HS := St.put (A := tie (El.int .u8) (t217.2.1.map (Value.int .u8)) t217.2.1) (fun _ => int_tie) HS
             replace HS := St.swap HS
             replace HS := St.sl_close (E := (El.int .u8)) HS
             replace HS := HS.fr 1
             replace HS := HS.fr 1
             replace HS := St.tie_cons HS
             obtain ⟨c223, H⟩ := ite_n H
             refine W.e (Y.app (xs := x196.ways.2.1.got) (ys := ([t217.2.1] : List (List Int))) 19 underlying35 ap48 rfl (by decide) HS rfl rfl rfl (rdC.at 1 row_rd HS rfl) (St.tie_one 0 HS rfl) (by omega) (by omega)) rfl ?_
             rintro _ w ⟨ra224, rc225, rfl, HS⟩
             replace HS := HS.fr 20
             replace HS := St.tie_app 1 HS rfl
             refine W.nc rfl (W.fa fo79_2 rfl (W.st 5 26 HS inf35 rfl rfl rfl rfl rfl rfl fun w HS => ?_))
             refine W.nil ?_
             refine At.end0 rfl ⟨_, rfl, ?_⟩
             refine W.nil (At.blockEnd (At.next (V.region (W.r (X.add rfl rfl) rfl (W.mv rfl (W.nil ?_))))))
             replace HS := HS.pm [5, 6, 4, 7, 8, 9, 10, 11, 12, 13, 14, 15, 16, 17, 18, 19, 20, 0, 21, 22, 23, 24, 25, 1, 2, 3, 26, 27, 28, 29, 30, 31, 32, 33, 34, 35, 36, 37, 38, 39, 40, 41, 42]
             replace HS := world_World.close tv HS
             replace HS := HS.pk [0, 4, 5, 6, 7, 8, 9, 10, 11, 12, 13, 14, 15, 16, 17, 18, 19, 20] [1, 2, 3]
             exact At.round kq197 (by omega) (w64 (x195 + 1), ({ x196 with stations := (x196.stations.1, t217.2.2), ways := (x196.ways.1, (({ x196.ways.2.1 with got := x196.ways.2.1.got ++ ([t217.2.1] : List (List Int)) } : world_way), x196.ways.2.2)) } : world_World)) ⟨rfl, rfl, rfl, rfl, rfl, rfl, rfl, tv⟩ ⟨HS, H, by omega⟩
            ·replace H := ite_f c219 H
             refine V.condF (sb (dF c219)) (V.skip ?_)
             refine At.end0 rfl ⟨_, rfl, ?_⟩
             refine W.nil (At.blockEnd (At.next (V.region (W.r (X.add rfl rfl) rfl (W.mv rfl (W.nil ?_))))))
             replace HS := HS.pm [2, 3, 1, 4, 5, 6, 7, 8, 9, 10, 11, 12, 13, 14, 15, 16, 17, 18, 19, 20, 21, 22, 23, 0, 24, 25, 26, 27, 28, 29, 30, 31, 32, 33, 34, 35, 36, 37, 38, 39, 40]
             replace HS := world_World.close tv HS
             replace HS := HS.pk [0, 2, 3, 4, 5, 6, 7, 8, 9, 10, 11, 12, 13, 14, 15, 16, 17, 18] [1]
             exact At.round kq197 (by omega) (w64 (x195 + 1), ({ x196 with stations := (x196.stations.1, t217.2.2) } : world_World)) ⟨rfl, rfl, rfl, rfl, rfl, rfl, rfl, tv⟩ ⟨HS, H, by omega⟩
          ·replace H := ite_f c199 H
           refine V.condF (sb (dF c199)) (V.exit (At.thenExit (At.thenExit (At.blockExit ?_))))
           refine At.end0 rfl ⟨_, rfl, ?_⟩
           refine W.nil (At.blockEnd (At.next (V.region (W.r (X.add rfl rfl) rfl (W.mv rfl (W.nil (At.onward [(0, pt b0), (1, Value.func (.func 61) #[] #[pt nb1]), (4, vi (1)), (6, vi (1)), (9, vi (1))] ⟨rfl, rfl, rfl, rfl, rfl, tv⟩ ?_)))))))
           refine V.seq (V.region (W.r (X.cmp true (by decide) rfl rfl rfl) rfl (W.nx (V.seq (V.condT rfl (V.skip (At.next (V.seq (V.block (V.seq (V.region (W.mv rfl (W.as rfl (W.nx (V.region (W.mv rfl (W.mv rfl (W.mv rfl (W.mv rfl (W.mv rfl (W.mv rfl (W.nc rfl ?_))))))))))))))))))))))
           obtain ⟨b16_226, b17_226, b18_226, a19_226, c19_226, d19_226, a20_226, c20_226, d20_226, b21_226, a22_226, c22_226, d22_226, a23_226, c23_226, d23_226, b24_226, a25_226, c25_226, d25_226, a26_226, c26_226, d26_226, b27_226, a28_226, c28_226, d28_226, a29_226, c29_226, d29_226, hi227, HS⟩ := world_World.open HS
           refine W.fa fo83_2 rfl (W.r (X.indexArK 1 rfl underlying81 inf80 rfl rfl (by decide) (by decide)) rfl (W.r (X.indexArK 1 rfl underlying80 inf79 rfl rfl (by decide) (by decide)) rfl ?_))
           refine W.inl (Y.callV (vs := [vi (1), vi (1), po b0 (0 + 18 + 1 * 6 + 1 * 3)]) (cs := [pt nb1]) rfl func61 (by kernel_rfl) rfl rfl (calls_enter func61 rfl rfl ?_)) rfl rfl rfl
           refine V.seq (V.dr [9] [10] [(9, po b0 (0 + 18 + 1 * 6 + 1 * 3)), (10, po b0 (0 + 18 + 1 * 6 + 1 * 3)), (11, po b0 (0 + 18 + 1 * 6 + 1 * 3 + 0)), (12, pt b27_226), (13, pt b0), (14, pt b0), (15, po b0 (0 + 0)), (16, po b0 (0 + 0 + 11)), (17, vi x196.c.Rate), (20, vi (0))] mo HS ?_)
           refine T.ev [(12, _), (17, _)] [] [0, 1, 2, 3, 4, 5, 6, 7, 8] ⟨rfl, rfl, tv⟩ ⟨.mv 2, .nc 9, .fa 10 fo79_0, .ld 11 0 underlying77, .ld 3 38 underlying25, .nc 13, .fa 14 fo83_0, .fa 15 fo23_11, .ld 16 0 underlying3, .n0 (fun w HS => X.move rfl), tv⟩ rfl (fun w HS => ?_)
           obtain ⟨t228, A229, H⟩ := bind_s H
           replace HS := HS.pm [18, 0, 1, 2, 3, 4, 5, 6, 7, 8, 9, 10, 11, 12, 13, 14, 15, 16, 17, 19, 20, 21, 22, 23, 24, 25, 26, 27, 28, 29, 30, 31, 32, 33, 34, 35, 36, 37, 38, 39]
           refine ⟨_, Y.cl func62 (pipe_Pipe_Take.calls A229 HS.j1), ?_⟩
           rintro _ w ⟨at228_0, ct228_0, rfl, HS⟩
           replace HS := HS.o2
           refine T.nm [(18, vs at228_0 t228.1.length ct228_0), (19, vi (t228.1.length : Int))] HS ⟨.inl ⟨rfl, rfl⟩, ⟨.inr ⟨by decide, rfl⟩, tv⟩⟩ ?_
           refine T.fn [(0, _), (1, _), (2, _), (3, _), (18, _), (19, _), (20, _)] ⟨rfl, rfl, rfl, rfl, rfl, rfl, rfl, tv⟩ ⟨.n1 18 rfl rfl (fun w HS => X.lenSl underlying48 rfl), .n0 (fun w HS => X.move rfl), tv⟩ (fun w HS => ?_)
           refine At.next (V.block ?_)
           replace HS := HS.pm [2, 3, 4, 5, 6, 7, 8, 9, 10, 11, 12, 13, 14, 15, 16, 17, 18, 19, 1, 20, 21, 22, 23, 0, 24, 25, 26, 27, 28, 29, 30, 31, 32, 33, 34, 35, 36, 37, 38, 39, 40]
           replace HS := world_World.close tv HS
           refine V.loop (σ := Int × world_World) (fun kq (st : Int × world_World) w => match st with | (x253, x254) => Sep.St [world_World.at b0 x254, row 5 1 (.slice at228_0 t228.1.length ct228_0) t228.1.length (t228.1.map (Value.int .u8)), row 5 1 (.slice at170_0 t170.1.length ct170_0) t170.1.length (t170.1.map (Value.int .u8)), row 5 1 (.slice at112_0 t112.1.length ct112_0) t112.1.length (t112.1.map (Value.int .u8)), row 5 1 (.slice at75_0 t75.1.length ct75_0) t75.1.length (t75.1.map (Value.int .u8)), row 5 1 (.slice at71_0 t71.1.length ct71_0) t71.1.length (t71.1.map (Value.int .u8)), row 5 1 (.slice at65_0 t65.1.length ct65_0) t65.1.length (t65.1.map (Value.int .u8)), row 5 1 (.slice at59_0 t59.1.length ct59_0) t59.1.length (t59.1.map (Value.int .u8)), row 5 1 (.slice at53_0 t53.1.length ct53_0) t53.1.length (t53.1.map (Value.int .u8)), row 48 1 (.slice at40_0_0 t40.1.1.length ct40_0_0) t40.1.1.length dt40_0_0, tie (El.sl (El.int .u8)) dt40_0_0 t40.1.1, row 48 1 (.slice at40_0_1 t40.1.2.length ct40_0_1) t40.1.2.length dt40_0_1, tie (El.sl (El.int .u8)) dt40_0_1 t40.1.2, row 48 1 (.slice at28_0_0 t28.1.1.length ct28_0_0) t28.1.1.length dt28_0_0, tie (El.sl (El.int .u8)) dt28_0_0 t28.1.1, row 48 1 (.slice at28_0_1 t28.1.2.length ct28_0_1) t28.1.2.length dt28_0_1, tie (El.sl (El.int .u8)) dt28_0_1 t28.1.2, blk nb1 (#[pt b0]) 25, R] w0 w ∧ world_World_Step.l7 kq t228 x253 x254 = some r ∧ kq ≤ kq197) (fun st => match st with | (x253, x254) => [(0, vi (1)), (1, vi (1)), (2, po b0 (0 + 18 + 1 * 6 + 1 * 3)), (3, pt nb1), (18, vs at228_0 t228.1.length ct228_0), (19, vi (t228.1.length : Int)), (20, vi x253)]) kq197 (0, ({ x196 with ways := (x196.ways.1, (x196.ways.2.1, ({ x196.ways.2.2 with pipe := t228.2 } : world_way))) } : world_World)) ⟨rfl, rfl, rfl, rfl, rfl, rfl, rfl, tv⟩ ⟨HS, H, Nat.le_refl _⟩ ?_
           rintro kq255 ⟨x253, x254⟩ w ⟨HS, H, hk256⟩
           cases kq255 with
           | zero => exact absurd H (by simp [world_World_Step.l7])
           | succ kq255 =>
            simp only [world_World_Step.l7] at H
            refine V.seq (V.region (W.r (X.cmp (decide (x253 < (t228.1.length : Int))) rfl rfl rfl rfl) rfl (W.nx (V.seq ?_))))
            by_cases c257 : x253 < (t228.1.length : Int)
            ·replace H := ite_t c257 H
             refine V.condT (sb (dT c257)) (V.skip (At.next (V.seq (V.block (V.seq (V.region ?_))))))
             obtain ⟨c258, H⟩ := ite_n H
             obtain ⟨eb259, eo260, hh⟩ := (rdC.at 1 row_rd HS rfl).some (by decide) c258.1 c258.2; subst hh
             refine W.r (X.indexSl underlying48 inf5 rfl rfl c258.1 c258.2) rfl (W.r (X.load underlying5 rfl rfl ((rdC.at 1 row_rd HS rfl).cellI c258.1 c258.2)) rfl (W.as rfl (W.nx (V.region (W.ld 17 HS underlying25 rfl rfl rfl rfl (W.mv rfl (W.mv rfl (W.mv rfl (W.mv rfl ?_)))))))))
             refine W.inl (Y.cl (vs := [pt b0, vi (1), vi (1), po b0 (0 + 18 + 1 * 6 + 1 * 3), Value.int .u8 (t228.1.getD x253.toNat 0)]) func63 (calls_enter func63 rfl rfl ?_)) rfl rfl rfl
             refine V.seq (V.region (W.mv rfl (W.mv rfl (W.r (X.sub rfl rfl) rfl (W.nc rfl ?_)))))
             obtain ⟨b16_261, b17_261, b18_261, a19_261, c19_261, d19_261, a20_261, c20_261, d20_261, b21_261, a22_261, c22_261, d22_261, a23_261, c23_261, d23_261, b24_261, a25_261, c25_261, d25_261, a26_261, c26_261, d26_261, b27_261, a28_261, c28_261, d28_261, a29_261, c29_261, d29_261, hi262, HS⟩ := world_World.open HS
             refine W.fa fo83_1 rfl ?_
             obtain ⟨c263, H⟩ := ite_n H
             by_cases c264 : w64 (1 - 1) = 0
             ·replace H := ite_t c264 H
              refine W.r (X.indexArK 0 c264 underlying76 inf32 rfl rfl c263.1 c263.2) rfl (W.ld 0 HS underlying32 rfl rfl rfl rfl (W.mv rfl (W.mv rfl ?_)))
              obtain ⟨t265, A266, H⟩ := bind_s H
              replace HS := HS.pm [1, 0, 2, 3, 4, 5, 6, 7, 8, 9, 10, 11, 12, 13, 14, 15, 16, 17, 18, 19, 20, 21, 22, 23, 24, 25, 26, 27, 28, 29, 30, 31, 32, 33, 34, 35, 36, 37, 38, 39, 40]
              refine W.e (Y.cl func126 (station_Station_Push.calls A266 HS.j1)) rfl ?_
              rintro _ w ⟨at265_1, ct265_1, rfl, HS⟩
              replace HS := HS.o2
              refine W.mv rfl (W.r (X.extract rfl rfl) rfl (W.r (X.extract rfl rfl) rfl (W.as rfl (W.as rfl (W.nx (V.seq (V.region (W.mv rfl (W.r (X.cmp (decide (t265.1 = 1)) rfl rfl rfl rfl) rfl (W.nx ?_))))))))))
              by_cases c267 : t265.1 = 1
              ·replace H := ite_t c267 H
               refine V.condT (sb (dT c267)) (V.region (W.mv rfl (W.mv rfl (W.nc rfl (W.fa fo79_2 rfl (W.ld 2 HS underlying35 rfl rfl rfl rfl (W.mv rfl ?_)))))))
               replace HS := St.row_freeze HS
               refine W.e (Y.lc (e := 48) (sz := 1) [vs at265_1 t265.2.1.length ct265_1] HS rfl rfl (fun _ => by kernel_rfl)) rfl ?_
               rintro _ w ⟨lb268, rfl, HS⟩
               replace HS := St.put (A := tie (El.sl (El.int .u8)) ([]) (([] : List (List Int)))) (fun _ => tie.nil) HS
               replace HS := HS.more 2 rfl (fun _ t => t) fsl.pers
               replace HS := St.put (A := tie (El.int .u8) (t265.2.1.map (Value.int .u8)) t265.2.1) (fun _ => int_tie) HS
               replace HS := St.swap HS
               replace HS := St.sl_close (E := (El.int .u8)) HS
               replace HS := HS.fr 1
               replace HS := HS.fr 1
               replace HS := St.tie_cons HS
               obtain ⟨c271, H⟩ := ite_n H
               refine W.e (Y.app (xs := x254.ways.2.2.got) (ys := ([t265.2.1] : List (List Int))) 24 underlying35 ap48 rfl (by decide) HS rfl rfl rfl (rdC.at 1 row_rd HS rfl) (St.tie_one 0 HS rfl) (by omega) (by omega)) rfl ?_
               rintro _ w ⟨ra272, rc273, rfl, HS⟩
               replace HS := HS.fr 25
               replace HS := St.tie_app 1 HS rfl
               refine W.nc rfl (W.fa fo79_2 rfl (W.st 5 29 HS inf35 rfl rfl rfl rfl rfl rfl fun w HS => ?_))
               refine W.nil ?_
               refine At.end0 rfl ⟨_, rfl, ?_⟩
               refine W.nil (At.blockEnd (At.next (V.region (W.r (X.add rfl rfl) rfl (W.mv rfl (W.nil ?_))))))
               replace HS := HS.pm [5, 4, 6, 7, 8, 9, 10, 11, 12, 13, 14, 15, 16, 17, 18, 19, 20, 21, 22, 23, 24, 25, 0, 1, 2, 3, 26, 27, 28, 29, 30, 31, 32, 33, 34, 35, 36, 37, 38, 39, 40, 41, 42, 43]
               replace HS := world_World.close tv HS
               replace HS := HS.pk [0, 4, 5, 6, 7, 8, 9, 10, 11, 12, 13, 14, 15, 16, 17, 18, 19, 20, 21] [1, 2, 3]
               exact At.round kq255 (by omega) (w64 (x253 + 1), ({ x254 with stations := (t265.2.2, x254.stations.2), ways := (x254.ways.1, (x254.ways.2.1, ({ x254.ways.2.2 with got := x254.ways.2.2.got ++ ([t265.2.1] : List (List Int)) } : world_way))) } : world_World)) ⟨rfl, rfl, rfl, rfl, rfl, rfl, rfl, tv⟩ ⟨HS, H, by omega⟩
              ·replace H := ite_f c267 H
               refine V.condF (sb (dF c267)) (V.skip ?_)
               refine At.end0 rfl ⟨_, rfl, ?_⟩
               refine W.nil (At.blockEnd (At.next (V.region (W.r (X.add rfl rfl) rfl (W.mv rfl (W.nil ?_))))))
               replace HS := HS.pm [2, 1, 3, 4, 5, 6, 7, 8, 9, 10, 11, 12, 13, 14, 15, 16, 17, 18, 19, 20, 21, 22, 23, 0, 24, 25, 26, 27, 28, 29, 30, 31, 32, 33, 34, 35, 36, 37, 38, 39, 40, 41]
               replace HS := world_World.close tv HS
               replace HS := HS.pk [0, 2, 3, 4, 5, 6, 7, 8, 9, 10, 11, 12, 13, 14, 15, 16, 17, 18, 19] [1]
               exact At.round kq255 (by omega) (w64 (x253 + 1), ({ x254 with stations := (t265.2.2, x254.stations.2) } : world_World)) ⟨rfl, rfl, rfl, rfl, rfl, rfl, rfl, tv⟩ ⟨HS, H, by omega⟩
             ·replace H := ite_f c264 H
              have hk274 : w64 (1 - 1) = 1 := by omega
              refine W.r (X.indexArK 1 hk274 underlying76 inf32 rfl rfl c263.1 c263.2) rfl (W.ld 0 HS underlying32 rfl rfl rfl rfl (W.mv rfl (W.mv rfl ?_)))
              obtain ⟨t275, A276, H⟩ := bind_s H
              replace HS := HS.pm [2, 0, 1, 3, 4, 5, 6, 7, 8, 9, 10, 11, 12, 13, 14, 15, 16, 17, 18, 19, 20, 21, 22, 23, 24, 25, 26, 27, 28, 29, 30, 31, 32, 33, 34, 35, 36, 37, 38, 39, 40]
              refine W.e (Y.cl func126 (station_Station_Push.calls A276 HS.j1)) rfl ?_
              rintro _ w ⟨at275_1, ct275_1, rfl, HS⟩
              replace HS := HS.o2
              refine W.mv rfl (W.r (X.extract rfl rfl) rfl (W.r (X.extract rfl rfl) rfl (W.as rfl (W.as rfl (W.nx (V.seq (V.region (W.mv rfl (W.r (X.cmp (decide (t275.1 = 1)) rfl rfl rfl rfl) rfl (W.nx ?_))))))))))
              by_cases c277 : t275.1 = 1
              ·replace H := ite_t c277 H
               refine V.condT (sb (dT c277)) (V.region (W.mv rfl (W.mv rfl (W.nc rfl (W.fa fo79_2 rfl (W.ld 2 HS underlying35 rfl rfl rfl rfl (W.mv rfl ?_)))))))
               replace HS := St.row_freeze HS
               refine W.e (Y.lc (e := 48) (sz := 1) [vs at275_1 t275.2.1.length ct275_1] HS rfl rfl (fun _ => by kernel_rfl)) rfl ?_
               rintro _ w ⟨lb278, rfl, HS⟩
               replace HS := St.put (A := tie (El.sl (El.int .u8)) ([]) (([] : List (List Int)))) (fun _ => tie.nil) HS
               replace HS := HS.more 2 rfl (fun _ t => t) fsl.pers
               replace HS := St.put (A := tie (El.int .u8) (t275.2.1.map (Value.int .u8)) t275.2.1) (fun _ => int_tie) HS
               replace HS := St.swap HS
               replace HS := St.sl_close (E := (El.int .u8)) HS
               replace HS := HS.fr 1
               replace HS := HS.fr 1
               replace HS := St.tie_cons HS
               obtain ⟨c281, H⟩ := ite_n H
               refine W.e (Y.app (xs := x254.ways.2.2.got) (ys := ([t275.2.1] : List (List Int))) 24 underlying35 ap48 rfl (by decide) HS rfl rfl rfl (rdC.at 1 row_rd HS rfl) (St.tie_one 0 HS rfl) (by omega) (by omega)) rfl ?_
               rintro _ w ⟨ra282, rc283, rfl, HS⟩
               replace HS := HS.fr 25
               replace HS := St.tie_app 1 HS rfl
               refine W.nc rfl (W.fa fo79_2 rfl (W.st 5 29 HS inf35 rfl rfl rfl rfl rfl rfl fun w HS => ?_))
               refine W.nil ?_
               refine At.end0 rfl ⟨_, rfl, ?_⟩
               refine W.nil (At.blockEnd (At.next (V.region (W.r (X.add rfl rfl) rfl (W.mv rfl (W.nil ?_))))))
               replace HS := HS.pm [5, 6, 4, 7, 8, 9, 10, 11, 12, 13, 14, 15, 16, 17, 18, 19, 20, 21, 22, 23, 24, 25, 0, 1, 2, 3, 26, 27, 28, 29, 30, 31, 32, 33, 34, 35, 36, 37, 38, 39, 40, 41, 42, 43]
               replace HS := world_World.close tv HS
               replace HS := HS.pk [0, 4, 5, 6, 7, 8, 9, 10, 11, 12, 13, 14, 15, 16, 17, 18, 19, 20, 21] [1, 2, 3]
               exact At.round kq255 (by omega) (w64 (x253 + 1), ({ x254 with stations := (x254.stations.1, t275.2.2), ways := (x254.ways.1, (x254.ways.2.1, ({ x254.ways.2.2 with got := x254.ways.2.2.got ++ ([t275.2.1] : List (List Int)) } : world_way))) } : world_World)) ⟨rfl, rfl, rfl, rfl, rfl, rfl, rfl, tv⟩ ⟨HS, H, by omega⟩
              ·replace H := ite_f c277 H
               refine V.condF (sb (dF c277)) (V.skip ?_)
               refine At.end0 rfl ⟨_, rfl, ?_⟩
               refine W.nil (At.blockEnd (At.next (V.region (W.r (X.add rfl rfl) rfl (W.mv rfl (W.nil ?_))))))
               replace HS := HS.pm [2, 3, 1, 4, 5, 6, 7, 8, 9, 10, 11, 12, 13, 14, 15, 16, 17, 18, 19, 20, 21, 22, 23, 0, 24, 25, 26, 27, 28, 29, 30, 31, 32, 33, 34, 35, 36, 37, 38, 39, 40, 41]
               replace HS := world_World.close tv HS
               replace HS := HS.pk [0, 2, 3, 4, 5, 6, 7, 8, 9, 10, 11, 12, 13, 14, 15, 16, 17, 18, 19] [1]
               exact At.round kq255 (by omega) (w64 (x253 + 1), ({ x254 with stations := (x254.stations.1, t275.2.2) } : world_World)) ⟨rfl, rfl, rfl, rfl, rfl, rfl, rfl, tv⟩ ⟨HS, H, by omega⟩
            ·replace H := ite_f c257 H
             refine V.condF (sb (dF c257)) (V.exit (At.thenExit (At.thenExit (At.blockExit ?_))))
             refine At.end0 rfl ⟨_, rfl, ?_⟩
             refine W.nil (At.blockEnd (At.next (V.region (W.r (X.add rfl rfl) rfl (W.mv rfl (W.nil (At.onward [(0, pt b0), (1, Value.func (.func 61) #[] #[pt nb1]), (4, vi (1)), (6, vi (1)), (9, vi (2))] ⟨rfl, rfl, rfl, rfl, rfl, tv⟩ ?_)))))))
             refine V.seq (V.region (W.r (X.cmp false (by decide) rfl rfl rfl) rfl (W.nx (V.seq (V.condF rfl (V.exit (At.thenExit (At.thenExit (At.blockExit (At.blockEnd (At.next (V.region (W.r (X.add rfl rfl) rfl (W.mv rfl (W.nil (At.onward [(0, pt b0), (1, Value.func (.func 61) #[] #[pt nb1]), (6, vi (2))] ⟨rfl, rfl, rfl, tv⟩ ?_))))))))))))))))
             refine V.seq (V.region (W.r (X.cmp false (by decide) rfl rfl rfl) rfl (W.nx (V.seq (V.condF rfl (V.exit (At.thenExit (At.thenExit (At.blockExit ?_)))))))))
             refine At.end0 rfl ⟨_, rfl, ?_⟩
             refine W.nx (V.region (W.ld 17 HS underlying25 rfl rfl rfl rfl (W.nc rfl ?_)))
             obtain ⟨b16_284, b17_284, b18_284, a19_284, c19_284, d19_284, a20_284, c20_284, d20_284, b21_284, a22_284, c22_284, d22_284, a23_284, c23_284, d23_284, b24_284, a25_284, c25_284, d25_284, a26_284, c26_284, d26_284, b27_284, a28_284, c28_284, d28_284, a29_284, c29_284, d29_284, hi285, HS⟩ := world_World.open HS
             refine W.fa fo83_3 rfl (W.ld 0 HS underlying3 rfl rfl rfl rfl (W.r (X.add rfl rfl) rfl (W.nc rfl (W.fa fo83_3 rfl (W.st 0 30 HS inf3 rfl rfl rfl rfl rfl rfl fun w HS => ?_)))))
             refine W.nil ?_
             replace HS := world_World.close tv HS
             replace HS := HS.pk [0, 18] [1, 2, 3, 4, 5, 6, 7, 8, 9, 10, 11, 12, 13, 14, 15, 16, 17]
             cases H
             exact At.end0 rfl ⟨_, rfl, rfl, HS⟩
mutual
def world_own.l0 : Nat → (List (List Int)) → Int → (List (List Int)) → Option (List (List Int))
 | 0, _, _, _ => none
 | k + 1, a0, x4, x7 => (if x4 < (a0.length : Int) then (if 0 ≤ x4 ∧ x4 < (a0.length : Int) then ((slices_Clone_Sbytebyte.f (a0.getD x4.toNat [])).bind fun t21 => (if (x7.length : Int) + (([t21] : List (List Int))).length ≤ 1099511627776 then (world_own.l0 k a0 (w64 (x4 + 1)) (x7 ++ ([t21] : List (List Int)))) else none)) else none) else some x7)
end
def world_own.f (k : Nat) (a0 : List (List Int)) : Option (List (List Int)) := (world_own.l0 k a0 0 ([] : List (List Int)))
theorem world_own.calls {k : Nat} {a0 : List (List Int)} {R : As} {w0 w : World} {sa0 : Option Addr} {sc0 : Nat} {sd0 : List Value} {r : List (List Int)} (H : world_own.f k a0 = some r) (HS : Sep.St [R] w0 w) (hr0 : rdC R 1 (.slice sa0 a0.length sc0) a0.length sd0) (ht0 : ∀ h, R h → tie (El.sl (El.int .u8)) sd0 a0 h) : Calls Tryz.prog 64 #[vs sa0 a0.length sc0] w (Ret fun u w => ∃ (aq0 : Option Addr) (cq0 : Nat) (dq0 : List Value), u = vs aq0 r.length cq0 ∧ Sep.St [row 48 1 (.slice aq0 r.length cq0) r.length dq0, tie (El.sl (El.int .u8)) dq0 r, R] w0 w) := by
 unfold world_own.f at H
 refine calls_enter func64 rfl rfl ?_
 have H : _ = some r := H
 replace HS := St.more 0 HS rfl ht0 tie.pers
 refine V.seq (V.region (W.as rfl (W.nx (V.seq (V.region (W.as rfl (W.nx (V.seq (V.seq (V.region (W.mv rfl (W.r (X.lenSl underlying35 rfl) rfl (W.mv rfl (W.nx (V.block ?_)))))))))))))))
 replace HS := row_nilE (El.sl (El.int .u8)) 48 1 HS
 refine V.loop (σ := Int × Option Addr × Nat × List Value × List (List Int)) (fun kq (st : Int × Option Addr × Nat × List Value × List (List Int)) w => match st with | (x4, ra5, rc6, rd8, x7) => Sep.St [row 48 1 (.slice ra5 x7.length rc6) x7.length rd8, tie (El.sl (El.int .u8)) rd8 x7, tie (El.sl (El.int .u8)) sd0 a0, R] w0 w ∧ world_own.l0 kq a0 x4 x7 = some r ∧ kq ≤ k) (fun st => match st with | (x4, ra5, rc6, rd8, x7) => [(3, vs ra5 x7.length rc6), (6, vs sa0 a0.length sc0), (7, vi (a0.length : Int)), (8, vi x4)]) k (0, none, 0, [], ([] : List (List Int))) ⟨rfl, rfl, rfl, rfl, tv⟩ ⟨HS, H, Nat.le_refl _⟩ ?_
 rintro kq9 ⟨x4, ra5, rc6, rd8, x7⟩ w ⟨HS, H, hk10⟩
 cases kq9 with
 | zero => exact absurd H (by simp [world_own.l0])
 | succ kq9 =>
  simp only [world_own.l0] at H
  refine V.seq (V.region (W.r (X.cmp (decide (x4 < (a0.length : Int))) rfl rfl rfl rfl) rfl (W.nx (V.seq ?_))))
  by_cases c11 : x4 < (a0.length : Int)
  ·replace H := ite_t c11 H
   refine V.condT (sb (dT c11)) (V.skip (At.next (V.seq (V.block (V.seq (V.region ?_))))))
   obtain ⟨c12, H⟩ := ite_n H
   obtain ⟨eb13, eo14, hh⟩ := (rdC.at 3 hr0 HS rfl).some (by decide) c12.1 c12.2; subst hh
   refine W.r (X.indexSl underlying35 inf48 rfl rfl c12.1 c12.2) rfl ?_
   obtain ⟨ec15, hc16, HS⟩ := St.tie_at 2 HS rfl ([]) c12.1 c12.2
   obtain ⟨ea17, em18, he20, HN⟩ := St.sl_openF (Value.int .u8) (fun t => tie_int t) HS; clear HS; subst he20; have HS := HN
   refine W.r (X.load underlying48 rfl rfl ((rdC.at 4 hr0 HS rfl).cellEl0 (hc16 0 _ rfl))) rfl (W.as rfl (W.nx (V.region (W.mv rfl (W.mv rfl ?_)))))
   obtain ⟨t21, A22, H⟩ := bind_s H
   refine W.e (Y.cl func127 (slices_Clone_Sbytebyte.calls A22 HS.j0 (rdC.part 0 fsl.rd rfl))) rfl ?_
   rintro _ w ⟨at21_0, ct21_0, rfl, HS⟩
   replace HS := HS.o1
   replace HS := St.row_freeze HS
   refine W.e (Y.lc (e := 48) (sz := 1) [vs at21_0 t21.length ct21_0] HS rfl rfl (fun _ => by kernel_rfl)) rfl ?_
   rintro _ w ⟨lb23, rfl, HS⟩
   replace HS := St.put (A := tie (El.sl (El.int .u8)) ([]) (([] : List (List Int)))) (fun _ => tie.nil) HS
   replace HS := HS.more 2 rfl (fun _ t => t) fsl.pers
   replace HS := St.put (A := tie (El.int .u8) (t21.map (Value.int .u8)) t21) (fun _ => int_tie) HS
   replace HS := St.swap HS
   replace HS := St.sl_close (E := (El.int .u8)) HS
   replace HS := HS.fr 1
   replace HS := HS.fr 1
   replace HS := St.tie_cons HS
   obtain ⟨c26, H⟩ := ite_n H
   refine W.e (Y.app (xs := x7) (ys := ([t21] : List (List Int))) 4 underlying35 ap48 rfl (by decide) HS rfl rfl rfl (rdC.at 1 row_rd HS rfl) (St.tie_one 0 HS rfl) (by omega) (by omega)) rfl ?_
   rintro _ w ⟨ra27, rc28, rfl, HS⟩
   replace HS := HS.fr 5
   replace HS := St.tie_app 1 HS rfl
   refine W.as rfl (W.nil (At.blockEnd (At.next (V.region (W.r (X.add rfl rfl) rfl (W.mv rfl (W.nil ?_)))))))
   replace HS := HS.pk [5, 0, 6, 7] [1, 2, 3, 4]
   exact At.round kq9 (by omega) (w64 (x4 + 1), ra27, rc28, (rd8 ++ ([vs at21_0 t21.length ct21_0])), x7 ++ ([t21] : List (List Int))) ⟨rfl, rfl, rfl, rfl, tv⟩ ⟨HS, H, by omega⟩
  ·replace H := ite_f c11 H
   refine V.condF (sb (dF c11)) (V.exit (At.thenExit (At.thenExit (At.blockExit (At.next (V.seq (V.region (W.mv rfl (W.as rfl (W.nx (V.ret ?_)))))))))))
   replace HS := HS.pk [0, 1, 3] [2]
   cases H
   exact At.ret1 rfl rfl ⟨_, rfl, ra5, rc6, rd8, rfl, HS⟩
end Go.Proofs.YtaejcbpijdacmaaGreat

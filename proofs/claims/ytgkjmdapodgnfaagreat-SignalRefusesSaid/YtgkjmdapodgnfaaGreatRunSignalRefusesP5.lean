/- SignalRefuses: the functions that its law reaches, as plain functions, and that the machine's calls come to what these say. Conditions: those that stand at each. -/
import Derived.Test.YtgkjmdapodgnfaaGreatRunSignalRefusesP4
set_option linter.all false
set_option maxRecDepth 100000
set_option maxHeartbeats 4000000
set_option synthInstance.maxSize 100000
set_option synthInstance.maxHeartbeats 1000000
namespace Go.Proofs.YtgkjmdapodgnfaaGreat
open Go.RowKit Go.Proofs.YtgkjmdapodgnfaaGreat.Sep Go.Proofs.YtgkjmdapodgnfaaGreat.Walk Go.Proofs.Tryz
attribute [local irreducible] V W At T Code.rounds RdO RdOk
mutual
def arq_Arq_numbered.j3 (k : Nat)  (x27 : arq_Arq) : Option arq_Arq := ((arq_Arq_pump.f k x27).bind fun t29 => some t29)
def arq_Arq_numbered.j2 (k : Nat) (a2 : api_Ctl) (a3 : List Int) (x25 : arq_Arq) : Option arq_Arq := (if a2.Kind = 0 then ((arq_Arq_come.f k x25 a2 a3).bind fun t34 => (arq_Arq_numbered.j3 k t34)) else (arq_Arq_numbered.j3 k x25))
def arq_Arq_numbered.j4 (k : Nat) (a2 : api_Ctl) (a3 : List Int) (x36 : arq_Arq) (x37 : Bool) : Option arq_Arq := (if x37 = true then ((arq_Arq_resend.f k x36).bind fun t40 => (arq_Arq_numbered.j2 k a2 a3 t40)) else (arq_Arq_numbered.j2 k a2 a3 x36))
def arq_Arq_numbered.j1 (k : Nat) (a0 : arq_Arq) (a2 : api_Ctl) (a3 : List Int) (x18 : Bool) : Option arq_Arq := (if x18 = true then ((arq_Arq_tell.f k a0 ({ Kind := 7, Ns := 0, Nr := 0, Poll := false } : api_Ctl)).bind fun t21 => ((arq_Arq_end.f t21).bind fun t23 => some t23)) else ((arq_Arq_acknowledged.f k a0 a2.Nr).bind fun t44 => (if t44.1 = true then (arq_Arq_numbered.j4 k a2 a3 t44.2 (decide (a2.Kind = 2))) else (arq_Arq_numbered.j4 k a2 a3 t44.2 false))))
def arq_Arq_numbered.j0 (k : Nat) (a0 : arq_Arq) (a2 : api_Ctl) (a3 : List Int) (x15 : Bool) : Option arq_Arq := (if x15 = true then some a0 else (if a2.Kind = 0 then (arq_Arq_numbered.j1 k a0 a2 a3 (decide ((a3.length : Int) > a0.size))) else (arq_Arq_numbered.j1 k a0 a2 a3 false)))
end
def arq_Arq_numbered.f (k : Nat) (a0 : arq_Arq) (a1 : Int) (a2 : api_Ctl) (a3 : List Int) : Option arq_Arq := (if a0.state = 0 then ((arq_Arq_put.f k a0 a1 ({ Kind := 6, Ns := 0, Nr := 0, Poll := false } : api_Ctl) ([] : List Int)).bind fun t7 => some t7) else (if a0.state = 2 then (arq_Arq_numbered.j0 k a0 a2 a3 (!(decide (a1 = a0.tag)))) else (arq_Arq_numbered.j0 k a0 a2 a3 true)))
theorem arq_Arq_numbered.calls {k : Nat} {a0 : arq_Arq} {a1 : Int} {a2 : api_Ctl} {a3 : List Int} {R : As} {w0 w : World} {b0 : Nat} {sa3 : Option Addr} {sc3 : Nat} {r : arq_Arq} (H : arq_Arq_numbered.f k a0 a1 a2 a3 = some r) (HS : Sep.St [arq_Arq.at b0 a0, R] w0 w) (hr3 : rdC R 1 (.slice sa3 a3.length sc3) a3.length (a3.map (Value.int .u8))) : Calls Tryz.prog 302 #[pt b0, vi a1, Value.agg #[vi a2.Kind, vi a2.Ns, vi a2.Nr, vb a2.Poll], vs sa3 a3.length sc3] w (Ret fun u w => u = Value.tuple #[] ∧ Sep.St [arq_Arq.at b0 r, R] w0 w) := by
 refine calls_enter func302 rfl rfl ?_
 refine go ?_
 refine W.e (Y.box HS rfl) rfl ?_
 rintro _ w ⟨nb1, rfl, HS⟩
 refine go ?_
 have HS := HS.fr 1
 obtain ⟨_, _, _, _, _, _, _, _, _, HS⟩ := arq_Arq.open HS
 refine go ?_
 refine V.cd H rfl (fun _ H => ?_) (fun _ H => ?_)
 ·refine go ?_
  refine W.r (X.bd (Value.agg #[vi (6), vi (0), vi (0), vb false]) rfl (fun _ => by kernel_rfl)) rfl ?_
  have HS := ((St.row_freeze (row_nilF (Value.int .u8) 5 1 (arq_Arq.close tv HS))).more 0 rfl (fun _ t => t) fsl.pers).b [2]
  refine W.kl H func236 (fun _ h => arq_Arq_put.calls h HS.j2) ?_
  rintro _ _ w H ⟨rfl, HS⟩
  have HS := HS.o1
  refine go ?_
  have HS := HS.ke [0, 2]
  exact rt
 ·refine V.meet (σ := Bool) (fun x15 w => Sep.St [api_Ctl.at nb1 a2, arq_Arq.at b0 a0, R] w0 w ∧ ∃ kf16, kf16 ≤ k ∧ arq_Arq_numbered.j0 kf16 a0 a2 a3 x15 = some r) (fun x15 => [(0, pt b0), (3, vs sa3 a3.length sc3), (6, pt nb1), (18, vb x15)]) ?_ ?_
  ·refine go ?_
   refine W.cm 24 H rfl (fun _ H => ?_) (fun _ H => ?_)
   ·refine go ?_
    have HS := (arq_Arq.close tv ((api_Ctl.close tv (HS.b [7])).b [1, 1, 1, 1, 1, 1, 1])).b [1]
    exact At.mt _ ⟨HS, k, by omega, H⟩
   ·refine go ?_
    have HS := (arq_Arq.close tv ((api_Ctl.close tv (HS.b [7])).b [1, 1, 1, 1, 1, 1, 1])).b [1]
    exact At.mt _ ⟨HS, k, by omega, H⟩
  ·rintro x15 w ⟨HS, kf16, _, H⟩
   refine V.cv H rfl (fun _ H => ?_) (fun _ H => ?_)
   ·refine go ?_
    have HS := HS.ke [1, 1]
    exact rt
   ·refine V.meet (σ := Bool) (fun x18 w => Sep.St [api_Ctl.at nb1 a2, arq_Arq.at b0 a0, R] w0 w ∧ ∃ kf19, kf19 ≤ kf16 ∧ arq_Arq_numbered.j1 kf19 a0 a2 a3 x18 = some r) (fun x18 => [(0, pt b0), (3, vs sa3 a3.length sc3), (6, pt nb1), (32, vb x18)]) ?_ ?_
    ·refine go ?_
     obtain ⟨_, HS⟩ := api_Ctl.open HS
     refine go ?_
     refine W.cd 36 H rfl (fun _ H => ?_) (fun _ H => ?_)
     ·refine go ?_
      have HS := HS.fr 1
      obtain ⟨_, _, _, _, _, _, _, _, _, HS⟩ := arq_Arq.open HS
      refine go ?_
      have HS := (arq_Arq.close tv ((api_Ctl.close tv (HS.b [7])).b [1, 1, 1, 1, 1, 1, 1])).b [1]
      exact At.mt _ ⟨HS, kf16, by omega, H⟩
     ·refine go ?_
      have HS := api_Ctl.close tv HS
      exact At.mt _ ⟨HS, kf16, by omega, H⟩
    ·rintro x18 w ⟨HS, kf19, _, H⟩
     refine V.cv H rfl (fun _ H => ?_) (fun _ H => ?_)
     ·refine go ?_
      refine W.r (X.bd (Value.agg #[vi (7), vi (0), vi (0), vb false]) rfl (fun _ => by kernel_rfl)) rfl ?_
      have HS := HS.b [1]
      refine W.kl H func194 (fun _ h => arq_Arq_tell.calls h HS.j1) ?_
      rintro _ _ w H ⟨rfl, HS⟩
      have HS := HS.o1
      refine go ?_
      refine W.kl H func265 (fun _ h => arq_Arq_end.calls h HS.j1) ?_
      rintro _ _ w H ⟨rfl, HS⟩
      have HS := HS.o1
      refine go ?_
      have HS := HS.ke [0, 1]
      exact rt
     ·refine gs ?_
      refine V.meet (σ := arq_Arq) (fun x25 w => Sep.St [api_Ctl.at nb1 a2, arq_Arq.at b0 x25, R] w0 w ∧ ∃ kf26, kf26 ≤ kf19 ∧ arq_Arq_numbered.j2 kf26 a2 a3 x25 = some r) (fun x25 => [(0, pt b0), (3, vs sa3 a3.length sc3), (6, pt nb1)]) ?_ ?_
      ·refine V.meet (σ := arq_Arq × Bool) (fun (x36, x37) w => Sep.St [api_Ctl.at nb1 a2, arq_Arq.at b0 x36, R] w0 w ∧ ∃ kf38, kf38 ≤ kf19 ∧ arq_Arq_numbered.j4 kf38 a2 a3 x36 x37 = some r) (fun (x36, x37) => [(0, pt b0), (3, vs sa3 a3.length sc3), (6, pt nb1), (58, vb x37)]) ?_ ?_
       ·refine go ?_
        obtain ⟨_, HS⟩ := api_Ctl.open HS
        refine go ?_
        have HS := HS.b [1]
        refine W.kl H func315 (fun _ h => arq_Arq_acknowledged.calls h HS.j1) ?_
        rintro _ _ w H ⟨rfl, HS⟩
        have HS := HS.o1
        refine go ?_
        refine W.cv 54 H rfl (fun _ H => ?_) (fun _ H => ?_)
        ·refine go ?_
         have HS := api_Ctl.close tv (HS.b [1])
         exact At.mt (_, _) ⟨HS, kf19, by omega, H⟩
        ·refine go ?_
         have HS := api_Ctl.close tv (HS.b [1])
         exact At.mt (_, _) ⟨HS, kf19, by omega, H⟩
       ·rintro ⟨x36, x37⟩ w ⟨HS, kf38, _, H⟩
        refine V.cv H rfl (fun _ H => ?_) (fun _ H => ?_)
        ·refine go ?_
         have HS := HS.b [1]
         refine W.kl H func222 (fun _ h => arq_Arq_resend.calls h HS.j1) ?_
         rintro _ _ w H ⟨rfl, HS⟩
         have HS := HS.o1
         refine go ?_
         have HS := HS.b [1]
         exact At.mt _ ⟨HS, kf38, by omega, H⟩
        ·refine go ?_
         exact At.mt _ ⟨HS, kf38, by omega, H⟩
      ·rintro x25 w ⟨HS, kf26, _, H⟩
       refine V.meet (σ := arq_Arq) (fun x27 w => Sep.St [api_Ctl.at nb1 a2, arq_Arq.at b0 x27, R] w0 w ∧ ∃ kf28, kf28 ≤ kf26 ∧ arq_Arq_numbered.j3 kf28 x27 = some r) (fun x27 => [(0, pt b0)]) ?_ ?_
       ·refine go ?_
        obtain ⟨_, HS⟩ := api_Ctl.open HS
        refine go ?_
        refine V.cd H rfl (fun _ H => ?_) (fun _ H => ?_)
        ·refine go ?_
         have HS := HS.b [1]
         refine W.kl H func316 (fun _ h => arq_Arq_come.calls h HS.j1 (rdC.part 1 hr3 rfl)) ?_
         rintro _ _ w H ⟨rfl, HS⟩
         have HS := HS.o1
         refine go ?_
         have HS := api_Ctl.close tv (HS.b [1])
         exact At.mt _ ⟨HS, kf26, by omega, H⟩
        ·refine go ?_
         have HS := api_Ctl.close tv HS
         exact At.mt _ ⟨HS, kf26, by omega, H⟩
       ·rintro x27 w ⟨HS, kf28, _, H⟩
        refine go ?_
        have HS := HS.b [1]
        refine W.kl H func198 (fun _ h => arq_Arq_pump.calls h HS.j1) ?_
        rintro _ _ w H ⟨rfl, HS⟩
        have HS := HS.o1
        refine go ?_
        have HS := HS.ke [0, 1]
        exact rt
mutual
def arq_Arq_Input.j1 (a0 : arq_Arq) (x32 : Bool) : Option arq_Arq := (if x32 = true then ((arq_Arq_end.f a0).bind fun t35 => some t35) else some a0)
def arq_Arq_Input.j0 (k : Nat) (a0 : arq_Arq) (a1 : List Int) (x8 : api_Ctl) (x9 : Int) (x10 : Int) : Option arq_Arq := (if x10 = 0 then (if x8.Kind = 3 then ((arq_Arq_asked.f k a0 (ior .i64 (w64 ((w64 (a1.getD (0 : Int).toNat 0)) * 2 ^ (min (8 : Int).toNat IntKind.i64.bits))) (w64 (a1.getD (1 : Int).toNat 0))) x8.Poll).bind fun t17 => some t17) else (if x8.Kind = 4 then (if (ior .i64 (w64 ((w64 (a1.getD (0 : Int).toNat 0)) * 2 ^ (min (8 : Int).toNat IntKind.i64.bits))) (w64 (a1.getD (1 : Int).toNat 0))) = a0.tag then ((arq_Arq_accepted.f k a0).bind fun t23 => some t23) else some a0) else (if x8.Kind = 5 then ((arq_Arq_closed.f k a0 (ior .i64 (w64 ((w64 (a1.getD (0 : Int).toNat 0)) * 2 ^ (min (8 : Int).toNat IntKind.i64.bits))) (w64 (a1.getD (1 : Int).toNat 0))) x8.Poll).bind fun t26 => some t26) else (if x8.Kind = 6 then ((arq_Arq_refused.f a0 (ior .i64 (w64 ((w64 (a1.getD (0 : Int).toNat 0)) * 2 ^ (min (8 : Int).toNat IntKind.i64.bits))) (w64 (a1.getD (1 : Int).toNat 0)))).bind fun t29 => some t29) else (if x8.Kind = 7 then (if (ior .i64 (w64 ((w64 (a1.getD (0 : Int).toNat 0)) * 2 ^ (min (8 : Int).toNat IntKind.i64.bits))) (w64 (a1.getD (1 : Int).toNat 0))) = a0.tag then (arq_Arq_Input.j1 a0 (decide (a0.state = 2))) else (arq_Arq_Input.j1 a0 false)) else (if 0 ≤ w64 (2 + x9) ∧ w64 (2 + x9) ≤ (a1.length : Int) ∧ (a1.length : Int) ≤ (a1.length : Int) then ((arq_Arq_numbered.f k a0 (ior .i64 (w64 ((w64 (a1.getD (0 : Int).toNat 0)) * 2 ^ (min (8 : Int).toNat IntKind.i64.bits))) (w64 (a1.getD (1 : Int).toNat 0))) x8 (cut a1 (w64 (2 + x9)) (a1.length : Int))).bind fun t41 => some t41) else none)))))) else some a0)
end
def arq_Arq_Input.f (k : Nat) (a0 : arq_Arq) (a1 : List Int) : Option arq_Arq := (if (a1.length : Int) < 2 then some a0 else (if 0 ≤ (0 : Int) ∧ (0 : Int) < (a1.length : Int) then (if 0 ≤ (1 : Int) ∧ (1 : Int) < (a1.length : Int) then (if 0 ≤ (2 : Int) ∧ (2 : Int) ≤ (a1.length : Int) ∧ (a1.length : Int) ≤ (a1.length : Int) then ((control_Read.f k (cut a1 (2 : Int) (a1.length : Int)) a0.m).bind fun t46 => (arq_Arq_Input.j0 k a0 a1 t46.1 t46.2.1 t46.2.2)) else none) else none) else none))
theorem arq_Arq_Input.calls {k : Nat} {a0 : arq_Arq} {a1 : List Int} {R : As} {w0 w : World} {b0 : Nat} {sa1 : Option Addr} {sc1 : Nat} {r : arq_Arq} (H : arq_Arq_Input.f k a0 a1 = some r) (HS : Sep.St [arq_Arq.at b0 a0, R] w0 w) (hr1 : rdC R 1 (.slice sa1 a1.length sc1) a1.length (a1.map (Value.int .u8))) : Calls Tryz.prog 274 #[pt b0, vs sa1 a1.length sc1] w (Ret fun u w => u = Value.tuple #[] ∧ Sep.St [arq_Arq.at b0 r, R] w0 w) := by
 refine calls_enter func274 rfl rfl ?_
 refine go ?_
 refine V.cd H rfl (fun _ H => ?_) (fun _ H => ?_)
 ·refine go ?_
  exact rt
 ·refine go ?_
  obtain ⟨c3, H⟩ := ite_n H
  obtain ⟨eb4, eo5, hh⟩ := (rdC.at 1 hr1 HS rfl).some (by decide) c3.1 c3.2; subst hh
  obtain ⟨c6, H⟩ := ite_n H
  apply V.da [] [] [(11, _), (12, _), (13, _), (14, _), (15, _), (16, _), (17, _), (18, _), (19, _), (20, _), (4, _)] mo HS
  rfl
  refine T.ff [0, 1, 4] (fun w HS => ?_) ⟨rd, rd, .n1 12 rfl rfl (fun w HS => X.load underlying5 rfl rfl ((rdC.at 1 hr1 HS rfl).cellI c3.1 c3.2)), rd, .n1 14 rfl rfl (fun w HS => X.shl rfl rfl (by decide)), rd, rd, .n1 17 rfl rfl (fun w HS => X.load underlying5 rfl rfl ((rdC.at 1 hr1 HS rfl).cellI c6.1 c6.2)), rd, .n2 15 19 rfl rfl rfl (fun w HS => X.or rfl rfl), rds⟩
  refine gs ?_
  refine V.meet (σ := Nat × api_Ctl × Int × Int) (fun (nb7, x8, x9, x10) w => Sep.St [api_Ctl.at nb7 x8, arq_Arq.at b0 a0, R] w0 w ∧ ∃ kf11, kf11 ≤ k ∧ arq_Arq_Input.j0 kf11 a0 a1 x8 x9 x10 = some r) (fun (nb7, x8, x9, x10) => [(0, pt b0), (1, vs (some ⟨eb4, eo5, none⟩) a1.length sc1), (4, vi (ior .i64 (w64 ((w64 (a1.getD (0 : Int).toNat 0)) * 2 ^ (min (8 : Int).toNat IntKind.i64.bits))) (w64 (a1.getD (1 : Int).toNat 0)))), (5, pt nb7), (6, vi x9), (7, vi x10)]) ?_ ?_
  ·obtain ⟨c43, H⟩ := ite_n H
   obtain ⟨_, _, _, _, _, _, _, _, _, HS⟩ := arq_Arq.open HS
   apply V.da [6, 11, 12] [7, 8, 9, 10, 13, 14] [(22, _), (23, _), (24, _), (25, _), (26, _), (27, _)] mo HS
   rfl
   refine T.two rfl rfl ⟨.mv 1, .n1 22 rfl rfl (fun w HS => X.slL underlying27 inf5 rfl rfl c43), .mv 0, .nc 24, .fa 25 fo156_0, .ld 26 0 underlying3, tv⟩ (T.step (es := [11, 12]) _ [(23, vs (vaddr (some ⟨eb4, eo5, none⟩) sc1 (2 : Int).toNat 1) (cut a1 (2 : Int) (a1.length : Int)).length (sc1 - (2 : Int).toNat)), (27, vi a0.m)] rfl ⟨.inr ⟨rfl, rfl⟩, ⟨.inr ⟨rfl, rfl⟩, tv⟩⟩ (Or.inl rfl) (by intro d hd; cases hd; exact ⟨by decide, rfl, rfl⟩) [13, 14] [0, 1, 2, 3, 4, 5] rfl rfl rfl rfl rfl (fun w HS => ?_)) (T.step (es := [6, 12]) _ [] rfl tv (Or.inl rfl) (by intro d hd; cases hd; exact ⟨by decide, rfl, rfl⟩) [7, 8, 9, 10, 13, 14] [] rfl rfl rfl rfl rfl (fun w HS => ?_))
   ·have HS : Sep.St _ w0 w := HS
    refine Y.kl H func297 (fun _ h => control_Read.calls h HS.j0 (rdC.part 7 (rdC.subM hr1 c43) rfl)) ?_
    rintro t46 _ w H ⟨rfl, HS⟩
    have HS := HS.o0
    apply T.na [(28, _), (21, _), (29, _), (30, _), (31, _)] HS
    exact nmk
    refine T.e [] [13, 14] [] fun w HS => ?_
    refine ⟨_, Y.alloc (z := Value.agg (#[vi (0), vi (0), vi (0), vb false])) HS ze263, ?_⟩
    rintro _ w ⟨_, rfl, HS⟩
    refine T.nw HS ?_
    refine T.e [5, 29] [] [7, 8] fun w HS => ?_
    refine ⟨_, Y.storeSt (c' := #[vi t46.1.Kind, vi t46.1.Ns, vi t46.1.Nr, vb t46.1.Poll]) 0 [vi t46.1.Kind, vi t46.1.Ns, vi t46.1.Nr, vb t46.1.Poll] HS rfl inf263 rfl rfl rfl rfl rfl rfl, ?_⟩
    rintro _ w HS
    apply T.na [(6, _), (7, _)] HS
    exact nmk
    refine T.ff [0, 1, 4, 5, 6, 7] fun w HS => ?_
    have HS := (arq_Arq.close tv ((api_Ctl.close tv HS).b [1, 1, 1, 1, 1, 1, 1])).b [1]
    exact At.mt (_, _, _, _) ⟨HS, k, by omega, H⟩
   ·have HS : Sep.St _ w0 w := HS
    refine ⟨_, Y.alloc (z := Value.agg (#[vi (0), vi (0), vi (0), vb false])) HS ze263, ?_⟩
    rintro _ w ⟨_, rfl, HS⟩
    refine T.nw HS ?_
    refine T.e [23, 27] [13, 14] [0, 1, 2, 3, 4, 5] (fun w HS => ?_) ⟨rd, .n1 22 rfl rfl (fun w HS => X.slL underlying27 inf5 rfl rfl c43), rds⟩
    refine Y.kl H func297 (fun _ h => control_Read.calls h HS.j0 (rdC.part 8 (rdC.subM hr1 c43) rfl)) ?_
    rintro t50 _ w H ⟨rfl, HS⟩
    have HS := HS.o0
    apply T.na [(28, _), (21, _), (29, _), (30, _), (31, _)] HS
    exact nmk
    refine T.e [5, 29] [] [7, 8] fun w HS => ?_
    refine ⟨_, Y.storeSt (c' := #[vi t50.1.Kind, vi t50.1.Ns, vi t50.1.Nr, vb t50.1.Poll]) 0 [vi t50.1.Kind, vi t50.1.Ns, vi t50.1.Nr, vb t50.1.Poll] HS rfl inf263 rfl rfl rfl rfl rfl rfl, ?_⟩
    rintro _ w HS
    apply T.na [(6, _), (7, _)] HS
    exact nmk
    refine T.ff [0, 1, 4, 5, 6, 7] fun w HS => ?_
    have HS := (arq_Arq.close tv ((api_Ctl.close tv HS).b [1, 1, 1, 1, 1, 1, 1])).b [1]
    exact At.mt (_, _, _, _) ⟨HS, k, by omega, H⟩
  ·rintro ⟨nb7, x8, x9, x10⟩ w ⟨HS, kf11, _, H⟩
   refine go ?_
   refine V.cm H rfl (fun _ H => ?_) (fun _ H => ?_)
   ·refine go ?_
    obtain ⟨_, HS⟩ := api_Ctl.open HS
    refine go ?_
    refine V.cd H rfl (fun _ H => ?_) (fun _ H => ?_)
    ·refine go ?_
     have HS := HS.b [1]
     refine W.kl H func298 (fun _ h => arq_Arq_asked.calls h HS.j1) ?_
     rintro _ _ w H ⟨rfl, HS⟩
     have HS := HS.o1
     refine go ?_
     have HS := HS.ke [0, 1]
     exact rt
    ·refine go ?_
     refine V.cd H rfl (fun _ H => ?_) (fun _ H => ?_)
     ·refine go ?_
      have HS := HS.fr 1
      obtain ⟨_, _, _, _, _, _, _, _, _, HS⟩ := arq_Arq.open HS
      refine go ?_
      refine V.cd H rfl (fun _ H => ?_) (fun _ H => ?_)
      ·refine go ?_
       have HS := arq_Arq.close tv HS
       refine W.kl H func299 (fun _ h => arq_Arq_accepted.calls h HS.j1) ?_
       rintro _ _ w H ⟨rfl, HS⟩
       have HS := HS.o1
       refine go ?_
       have HS := HS.ke [0, 1]
       exact rt
      ·refine go ?_
       have HS := (arq_Arq.close tv HS).ke [0, 1]
       exact rt
     ·refine go ?_
      refine V.cd H rfl (fun _ H => ?_) (fun _ H => ?_)
      ·refine go ?_
       have HS := HS.b [1]
       refine W.kl H func300 (fun _ h => arq_Arq_closed.calls h HS.j1) ?_
       rintro _ _ w H ⟨rfl, HS⟩
       have HS := HS.o1
       refine go ?_
       have HS := HS.ke [0, 1]
       exact rt
      ·refine go ?_
       refine V.cd H rfl (fun _ H => ?_) (fun _ H => ?_)
       ·refine go ?_
        have HS := HS.b [1]
        refine W.kl H func301 (fun _ h => arq_Arq_refused.calls h HS.j1) ?_
        rintro _ _ w H ⟨rfl, HS⟩
        have HS := HS.o1
        refine go ?_
        have HS := HS.ke [0, 1]
        exact rt
       ·refine go ?_
        refine V.cd H rfl (fun _ H => ?_) (fun _ H => ?_)
        ·refine V.meet (σ := Bool) (fun x32 w => Sep.St [api_Ctl.at nb7 x8, arq_Arq.at b0 a0, R] w0 w ∧ arq_Arq_Input.j1 a0 x32 = some r) (fun x32 => [(0, pt b0), (87, vb x32)]) ?_ ?_
         ·refine go ?_
          have HS := HS.fr 1
          obtain ⟨_, _, _, _, _, _, _, _, _, HS⟩ := arq_Arq.open HS
          refine go ?_
          refine W.cd 81 H rfl (fun _ H => ?_) (fun _ H => ?_)
          ·refine go ?_
           have HS := (arq_Arq.close tv ((api_Ctl.close tv (HS.b [7])).b [1, 1, 1, 1, 1, 1, 1])).b [1]
           exact At.mt _ ⟨HS, H⟩
          ·refine go ?_
           have HS := (arq_Arq.close tv ((api_Ctl.close tv (HS.b [7])).b [1, 1, 1, 1, 1, 1, 1])).b [1]
           exact At.mt _ ⟨HS, H⟩
         ·rintro x32 w ⟨HS, H⟩
          refine V.cv H rfl (fun _ H => ?_) (fun _ H => ?_)
          ·refine go ?_
           have HS := HS.b [1]
           refine W.kl H func265 (fun _ h => arq_Arq_end.calls h HS.j1) ?_
           rintro _ _ w H ⟨rfl, HS⟩
           have HS := HS.o1
           refine go ?_
           have HS := HS.ke [0, 1]
           exact rt
          ·refine go ?_
           have HS := HS.ke [1, 1]
           exact rt
        ·obtain ⟨c40, H⟩ := ite_n H
         apply V.da [7] [] [(36, _), (37, _), (38, _), (39, _), (40, _), (41, _), (42, _)] mo HS
         rfl
         refine T.e [36, 37, 38, 42] [] [0, 1, 2, 3, 4, 5, 6] (fun w HS => ?_) ⟨rd, rd, rd, rd, rd, rd, .n2 39 41 rfl rfl rfl (fun w HS => X.slL underlying27 inf5 rfl rfl c40), rds⟩
         have HS := HS.b [1]
         refine Y.kl H func302 (fun _ h => arq_Arq_numbered.calls h HS.j1 (rdC.part 1 (rdC.subM hr1 c40) rfl)) ?_
         rintro _ _ w H ⟨rfl, HS⟩
         have HS := HS.o1
         refine T.nw HS ?_
         refine T.ff [] fun w HS => ?_
         refine go ?_
         have HS := HS.ke [0, 1]
         exact rt
   ·refine go ?_
    have HS := HS.ke [1, 1]
    exact rt
mutual
def kcode_Read.j0 (a0 : List Int) (x5 : Bool) : Option (Int × Int × Int) := (if x5 = true then some (0, 0, 2) else some (w64 ((w64 (a0.getD (0 : Int).toNat 0)).tdiv (16)), (w64 (a0.getD (0 : Int).toNat 0)).tmod (16), 0))
end
def kcode_Read.f (a0 : List Int) : Option (Int × Int × Int) := (if (a0.length : Int) < 2 then some (0, 0, 3) else (if 0 ≤ (0 : Int) ∧ (0 : Int) < (a0.length : Int) then (if (a0.length : Int) > 2 then (kcode_Read.j0 a0 true) else (if 0 ≤ (1 : Int) ∧ (1 : Int) < (a0.length : Int) then (if (a0.getD (1 : Int).toNat 0) = (icom .u8 (a0.getD (0 : Int).toNat 0)) then (if (w64 ((w64 (a0.getD (0 : Int).toNat 0)).tdiv (16))) > 8 then (kcode_Read.j0 a0 true) else (kcode_Read.j0 a0 (decide (((w64 (a0.getD (0 : Int).toNat 0)).tmod (16)) > 1)))) else (kcode_Read.j0 a0 true)) else none)) else none))
theorem kcode_Read.calls {a0 : List Int} {R : As} {w0 w : World} {sa0 : Option Addr} {sc0 : Nat} {r : Int × Int × Int} (H : kcode_Read.f a0 = some r) (HS : Sep.St [R] w0 w) (hr0 : rdC R 1 (.slice sa0 a0.length sc0) a0.length (a0.map (Value.int .u8))) : Calls Tryz.prog 275 #[vs sa0 a0.length sc0] w (Ret fun u w => u = Value.tuple #[vi r.1, vi r.2.1, vi r.2.2] ∧ Sep.St [R] w0 w) := by
 refine calls_enter func275 rfl rfl ?_
 refine go ?_
 refine V.cd H rfl (fun _ H => ?_) (fun _ H => ?_)
 ·refine go ?_
  exact rt
 ·refine go ?_
  obtain ⟨c2, H⟩ := ite_n H
  obtain ⟨_, _, hh⟩ := (rdC.at 0 hr0 HS rfl).some (by decide) c2.1 c2.2; subst hh
  apply V.da [] [] [(10, _), (11, _), (12, _), (13, _), (14, _), (15, _), (16, _), (17, _), (18, _), (19, _), (5, _), (6, _)] mo HS
  rfl
  refine T.ff [0, 5, 6] (fun w HS => ?_) ⟨rd, rd, .n1 11 rfl rfl (fun w HS => X.load underlying5 rfl rfl ((rdC.at 0 hr0 HS rfl).cellI c2.1 c2.2)), rd, .n1 13 rfl rfl (fun w HS => X.quo rfl rfl (by decide)), rd, rd, .n1 16 rfl rfl (fun w HS => X.load underlying5 rfl rfl ((rdC.at 0 hr0 HS rfl).cellI c2.1 c2.2)), rd, .n1 18 rfl rfl (fun w HS => X.rem rfl rfl (by decide)), rds⟩
  refine gs ?_
  refine V.seq ?_
  refine V.meet (σ := Bool) (fun x5 w => Sep.St [R] w0 w ∧ kcode_Read.j0 a0 x5 = some r) (fun x5 => [(5, vi (w64 ((w64 (a0.getD (0 : Int).toNat 0)).tdiv (16)))), (6, vi ((w64 (a0.getD (0 : Int).toNat 0)).tmod (16))), (40, vb x5)]) ?_ ?_
  ·refine ite_c H (fun c8 H => ?_) (fun c8 H => ?_)
   ·apply V.da [] [] [(20, _), (21, _), (22, _), (23, _), (24, _), (25, _), (26, _), (27, _), (28, _), (29, _), (30, _), (31, _), (32, _), (33, _), (34, _), (35, _), (36, _), (37, _), (38, _), (39, _), (40, _)] mo HS
    rfl
    refine T.ff [5, 6, 40] fun w HS => ?_
    exact At.mt _ ⟨HS, H⟩
   ·obtain ⟨c9, H⟩ := ite_n H
    refine ite_c H (fun c10 H => ?_) (fun c10 H => ?_)
    ·refine ite_c H (fun c11 H => ?_) (fun c11 H => ?_)
     ·apply V.da [] [] [(20, _), (21, _), (22, _), (23, _), (24, _), (25, _), (26, _), (27, _), (28, _), (29, _), (30, _), (31, _), (32, _), (33, _), (34, _), (35, _), (36, _), (37, _), (38, _), (39, _), (40, _)] mo HS
      rfl
      refine T.ff [5, 6, 40] (fun w HS => ?_) ⟨rd, rd, rd, rd, rd, rd, .gw [(25, _), (23, _)] 3 false 23 ⟨rfl, rfl, tv⟩ rfl (sb (dF c8)) (fun w HS => X.load underlying5 rfl rfl ((rdC.at 0 hr0 HS rfl).cellI c9.1 c9.2)), rd, rd, .gw [(28, _), (23, _)] 3 false 23 ⟨rfl, rfl, tv⟩ rfl (sb (dF c8)) (fun w HS => X.load underlying5 rfl rfl ((rdC.at 0 hr0 HS rfl).cellI c2.1 c2.2)), .gw [(29, _), (23, _)] 3 false 23 ⟨rfl, rfl, tv⟩ rfl (sb (dF c8)) (fun w HS => X.com rfl), rds⟩
      exact At.mt _ ⟨HS, H⟩
     ·apply V.da [] [] [(20, _), (21, _), (22, _), (23, _), (24, _), (25, _), (26, _), (27, _), (28, _), (29, _), (30, _), (31, _), (32, _), (33, _), (34, _), (35, _), (36, _), (37, _), (38, _), (39, _), (40, _)] mo HS
      rfl
      refine T.ff [5, 6, 40] (fun w HS => ?_) ⟨rd, rd, rd, rd, rd, rd, .gw [(25, _), (23, _)] 3 false 23 ⟨rfl, rfl, tv⟩ rfl (sb (dF c8)) (fun w HS => X.load underlying5 rfl rfl ((rdC.at 0 hr0 HS rfl).cellI c9.1 c9.2)), rd, rd, .gw [(28, _), (23, _)] 3 false 23 ⟨rfl, rfl, tv⟩ rfl (sb (dF c8)) (fun w HS => X.load underlying5 rfl rfl ((rdC.at 0 hr0 HS rfl).cellI c2.1 c2.2)), .gw [(29, _), (23, _)] 3 false 23 ⟨rfl, rfl, tv⟩ rfl (sb (dF c8)) (fun w HS => X.com rfl), rds⟩
      exact At.mt _ ⟨HS, H⟩
    ·apply V.da [] [] [(20, _), (21, _), (22, _), (23, _), (24, _), (25, _), (26, _), (27, _), (28, _), (29, _), (30, _), (31, _), (32, _), (33, _), (34, _), (35, _), (36, _), (37, _), (38, _), (39, _), (40, _)] mo HS
     rfl
     refine T.ff [5, 6, 40] (fun w HS => ?_) ⟨rd, rd, rd, rd, rd, rd, .gw [(25, _), (23, _)] 3 false 23 ⟨rfl, rfl, tv⟩ rfl (sb (dF c8)) (fun w HS => X.load underlying5 rfl rfl ((rdC.at 0 hr0 HS rfl).cellI c9.1 c9.2)), rd, rd, .gw [(28, _), (23, _)] 3 false 23 ⟨rfl, rfl, tv⟩ rfl (sb (dF c8)) (fun w HS => X.load underlying5 rfl rfl ((rdC.at 0 hr0 HS rfl).cellI c2.1 c2.2)), .gw [(29, _), (23, _)] 3 false 23 ⟨rfl, rfl, tv⟩ rfl (sb (dF c8)) (fun w HS => X.com rfl), rds⟩
     exact At.mt _ ⟨HS, H⟩
  ·rintro x5 w ⟨HS, H⟩
   refine V.cv H rfl (fun _ H => ?_) (fun _ H => ?_)
   ·refine go ?_
    exact rt
   ·refine go ?_
    exact rt
def aps_Aps_Remote.f (a0 : aps_Aps) (a1 : Int) : Option aps_Aps := ((request_Of.f a1).bind fun t1 => some ({ a0 with remote := t1 } : aps_Aps))
theorem aps_Aps_Remote.calls {a0 : aps_Aps} {a1 : Int} {R : As} {w0 w : World} {b0 : Nat} {r : aps_Aps} (H : aps_Aps_Remote.f a0 a1 = some r) (HS : Sep.St [aps_Aps.at b0 a0, R] w0 w)  : Calls Tryz.prog 276 #[pt b0, vi a1] w (Ret fun u w => u = Value.tuple #[] ∧ Sep.St [aps_Aps.at b0 r, R] w0 w) := by
 refine calls_enter func276 rfl rfl ?_
 refine go ?_
 refine W.kl H func228 (fun _ h => request_Of.calls h HS.j0) ?_
 rintro _ _ w H ⟨rfl, HS⟩
 have HS := HS.o0
 refine go ?_
 obtain ⟨_, HS⟩ := aps_Aps.open HS
 refine go ?_
 refine W.sr 4 HS rfl rfl rfl fun w HS => ?_
 refine go ?_
 have HS := aps_Aps.close tv HS
 exact rt
mutual
def station_Station_came.j0 (k : Nat) (a0 : station_Station) (a1 : Int) (a2 : List Int) (x7 : Bool) : Option station_Station := (if x7 = true then some a0 else (if 0 ≤ (1 : Int) ∧ (1 : Int) < (a2.length : Int) then (if 0 ≤ (2 : Int) ∧ (2 : Int) < (a2.length : Int) then (if 0 ≤ (3 : Int) ∧ (3 : Int) < (a2.length : Int) then (if 0 ≤ (4 : Int) ∧ (4 : Int) < (a2.length : Int) then ((twins_Table_Fresh.f k a0.twins (ior .u32 (ior .u32 (ior .u32 (IntKind.u32.wrap ((IntKind.u32.wrap (a2.getD (1 : Int).toNat 0)) * 2 ^ (min (24 : Int).toNat IntKind.u32.bits))) (IntKind.u32.wrap ((IntKind.u32.wrap (a2.getD (2 : Int).toNat 0)) * 2 ^ (min (16 : Int).toNat IntKind.u32.bits)))) (IntKind.u32.wrap ((IntKind.u32.wrap (a2.getD (3 : Int).toNat 0)) * 2 ^ (min (8 : Int).toNat IntKind.u32.bits)))) (IntKind.u32.wrap (a2.getD (4 : Int).toNat 0)))).bind fun t16 => (if t16.1 = true then (if 0 ≤ (5 : Int) ∧ (5 : Int) ≤ (a2.length : Int) ∧ (a2.length : Int) ≤ (a2.length : Int) then ((arq_Arq_Input.f k a0.arq (cut a2 (5 : Int) (a2.length : Int))).bind fun t20 => some ({ a0 with arq := t20, twins := t16.2 } : station_Station)) else none) else (if 0 ≤ a1 ∧ a1 < 2 then (if a1 = 0 then some (({ a0 with twins := t16.2, sides := (({ a0.sides.1 with counts := ({ a0.sides.1.counts with Twins := station_one.f a0.sides.1.counts.Twins } : api_Counts) } : station_side), a0.sides.2) } : station_Station)) else some (({ a0 with twins := t16.2, sides := (a0.sides.1, ({ a0.sides.2 with counts := ({ a0.sides.2.counts with Twins := station_one.f a0.sides.2.counts.Twins } : api_Counts) } : station_side)) } : station_Station))) else none))) else none) else none) else none) else none))
def station_Station_came.j1 (a0 : station_Station) (a2 : List Int) (x34 : Bool) : Option station_Station := (if x34 = true then (if 0 ≤ (1 : Int) ∧ (1 : Int) ≤ (a2.length : Int) ∧ (a2.length : Int) ≤ (a2.length : Int) then ((kcode_Read.f (cut a2 (1 : Int) (a2.length : Int))).bind fun t38 => (if t38.2.2 = 0 then ((aps_Aps_Remote.f a0.aps t38.1).bind fun t43 => some ({ a0 with aps := t43 } : station_Station)) else some a0)) else none) else some a0)
def station_Station_came.j2 (a0 : station_Station) (a2 : List Int) (x46 : Bool) : Option station_Station := (if x46 = true then (if 0 ≤ (1 : Int) ∧ (1 : Int) ≤ (a2.length : Int) ∧ (a2.length : Int) ≤ (a2.length : Int) then ((kcode_Read.f (cut a2 (1 : Int) (a2.length : Int))).bind fun t50 => (if t50.2.2 = 0 then ((aps_Aps_Remote.f a0.aps t50.1).bind fun t55 => some ({ a0 with aps := t55 } : station_Station)) else some a0)) else none) else some a0)
end
def station_Station_came.f (k : Nat) (a0 : station_Station) (a1 : Int) (a2 : List Int) : Option station_Station := (if 0 ≤ (0 : Int) ∧ (0 : Int) < (a2.length : Int) then (if (a2.getD (0 : Int).toNat 0) = 0 then (if (a2.length : Int) ≥ 5 then ((station_Station_twice.f a0).bind fun t27 => (if t27 = true then (station_Station_came.j0 k a0 a1 a2 false) else ((aps_Aps_Line.f a0.aps).bind fun t32 => (station_Station_came.j0 k a0 a1 a2 (!(decide (a1 = t32))))))) else (if (a2.getD (0 : Int).toNat 0) = 1 then (station_Station_came.j1 a0 a2 (decide (a1 = 1))) else (station_Station_came.j1 a0 a2 false))) else (if (a2.getD (0 : Int).toNat 0) = 1 then (station_Station_came.j2 a0 a2 (decide (a1 = 1))) else (station_Station_came.j2 a0 a2 false))) else none)
theorem station_Station_came.calls {k : Nat} {a0 : station_Station} {a1 : Int} {a2 : List Int} {R : As} {w0 w : World} {b0 : Nat} {sa2 : Option Addr} {sc2 : Nat} {r : station_Station} (H : station_Station_came.f k a0 a1 a2 = some r) (HS : Sep.St [station_Station.at b0 a0, R] w0 w) (hr2 : rdC R 1 (.slice sa2 a2.length sc2) a2.length (a2.map (Value.int .u8))) : Calls Tryz.prog 233 #[pt b0, vi a1, vs sa2 a2.length sc2] w (Ret fun u w => u = Value.tuple #[] ∧ Sep.St [station_Station.at b0 r, R] w0 w) := by
 refine calls_enter func233 rfl rfl ?_
 refine go ?_
 obtain ⟨c2, H⟩ := ite_n H
 obtain ⟨eb3, eo4, hh⟩ := (rdC.at 1 hr2 HS rfl).some (by decide) c2.1 c2.2; subst hh
 refine go ?_
 refine W.r (X.load underlying5 rfl rfl ((rdC.at 1 hr2 HS rfl).cellI c2.1 c2.2)) rfl ?_
 refine go ?_
 refine W.cd 15 H rfl (fun _ H => ?_) (fun _ H => ?_)
 ·refine go ?_
  refine V.cd H rfl (fun _ H => ?_) (fun _ H => ?_)
  ·refine V.seq ?_
   refine V.meet (σ := Bool) (fun x7 w => Sep.St [station_Station.at b0 a0, R] w0 w ∧ ∃ kf8, kf8 ≤ k ∧ station_Station_came.j0 kf8 a0 a1 a2 x7 = some r) (fun x7 => [(0, pt b0), (1, vi a1), (2, vs (some ⟨eb3, eo4, none⟩) a2.length sc2), (31, vb x7)]) ?_ ?_
   ·refine go ?_
    obtain ⟨_, _, _, _, _, _, _, _, _, _, HS⟩ := station_Station.open HS
    refine W.kl H func48 (fun _ h => station_Station_twice.calls h HS.j10) ?_
    rintro _ _ w H ⟨rfl, HS⟩
    have HS := HS.o10
    refine go ?_
    refine W.cx 23 H rfl (fun _ H => ?_) (fun _ H => ?_)
    ·refine go ?_
     have HS := station_Station.close tv HS
     exact At.mt _ ⟨HS, k, by omega, H⟩
    ·refine go ?_
     have HS := HS.fr 2
     obtain ⟨_, HS⟩ := aps_Aps.open HS
     refine W.kl H func47 (fun _ h => aps_Aps_Line.calls h HS.j1) ?_
     rintro _ _ w H ⟨rfl, HS⟩
     have HS := HS.o1
     refine go ?_
     have HS := station_Station.close tv ((aps_Aps.close tv HS).b [1, 1])
     exact At.mt _ ⟨HS, k, by omega, H⟩
   ·rintro x7 w ⟨HS, kf8, _, H⟩
    refine V.cv H rfl (fun _ H => ?_) (fun _ H => ?_)
    ·refine go ?_
     exact rt
    ·refine go ?_
     obtain ⟨c10, H⟩ := ite_n H
     obtain ⟨c11, H⟩ := ite_n H
     obtain ⟨c12, H⟩ := ite_n H
     obtain ⟨c13, H⟩ := ite_n H
     apply V.da [] [] [(32, _), (33, _), (34, _), (35, _), (36, _), (37, _), (38, _), (39, _), (40, _), (41, _), (42, _), (43, _), (44, _), (45, _), (46, _), (47, _), (48, _), (49, _), (50, _), (51, _), (52, _), (53, _), (6, _)] mo HS
     rfl
     refine T.ff [0, 1, 2, 6] (fun w HS => ?_) ⟨rd, rd, .n1 33 rfl rfl (fun w HS => X.load underlying5 rfl rfl ((rdC.at 1 hr2 HS rfl).cellI c10.1 c10.2)), rd, .n1 35 rfl rfl (fun w HS => X.shl rfl rfl (by decide)), rd, rd, .n1 38 rfl rfl (fun w HS => X.load underlying5 rfl rfl ((rdC.at 1 hr2 HS rfl).cellI c11.1 c11.2)), rd, .n1 40 rfl rfl (fun w HS => X.shl rfl rfl (by decide)), .n2 36 41 rfl rfl rfl (fun w HS => X.or rfl rfl), rd, rd, .n1 44 rfl rfl (fun w HS => X.load underlying5 rfl rfl ((rdC.at 1 hr2 HS rfl).cellI c12.1 c12.2)), rd, .n1 46 rfl rfl (fun w HS => X.shl rfl rfl (by decide)), .n2 42 47 rfl rfl rfl (fun w HS => X.or rfl rfl), rd, rd, .n1 50 rfl rfl (fun w HS => X.load underlying5 rfl rfl ((rdC.at 1 hr2 HS rfl).cellI c13.1 c13.2)), rd, .n2 48 52 rfl rfl rfl (fun w HS => X.or rfl rfl), rds⟩
     refine go ?_
     obtain ⟨_, _, _, _, _, _, _, _, _, _, HS⟩ := station_Station.open HS
     refine go ?_
     have HS := HS.b [3]
     refine W.kl H func273 (fun _ h => twins_Table_Fresh.calls h HS.j1) ?_
     rintro _ _ w H ⟨rfl, HS⟩
     have HS := HS.o1
     refine go ?_
     refine V.cv H rfl (fun _ H => ?_) (fun _ H => ?_)
     ·obtain ⟨c19, H⟩ := ite_n H
      apply V.da [6] [] [(60, _), (61, _), (62, _), (63, _), (64, _), (65, _)] mo HS
      rfl
      refine T.e [63, 65] [] [0, 1, 2, 3, 4, 5] (fun w HS => ?_) ⟨rd, rd, rd, rd, rd, .n1 64 rfl rfl (fun w HS => X.slL underlying27 inf5 rfl rfl c19), rds⟩
      have HS := HS.b [2]
      refine Y.kl H func274 (fun _ h => arq_Arq_Input.calls h HS.j1 (rdC.part 9 (rdC.subM hr2 c19) rfl)) ?_
      rintro _ _ w H ⟨rfl, HS⟩
      have HS := HS.o1
      refine T.nw HS ?_
      refine T.ff [] fun w HS => ?_
      refine go ?_
      have HS := station_Station.close tv (HS.b [2, 0, 1])
      exact rt
     ·refine go ?_
      obtain ⟨c22, H⟩ := ite_n H
      refine ite_c H (fun c23 H => ?_) (fun _ H => ?_)
      ·refine W.r (X.indexArK 0 c23 underlying126 inf125 rfl rfl c22.1 c22.2) rfl ?_
       refine go ?_
       refine W.e (Y.cl func231 (station_one.cell 1 31 HS rfl rfl rfl)) rfl ?_
       rintro _ w ⟨rfl, HS⟩
       refine go ?_
       have HS := station_Station.close tv (HS.b [1, 1, 1])
       exact rt
      ·have hk24 : a1 = 1 := by omega
       refine W.r (X.indexArK 1 hk24 underlying126 inf125 rfl rfl c22.1 c22.2) rfl ?_
       refine go ?_
       refine W.e (Y.cl func231 (station_one.cell 1 41 HS rfl rfl rfl)) rfl ?_
       rintro _ w ⟨rfl, HS⟩
       refine go ?_
       have HS := station_Station.close tv (HS.b [1, 1, 1])
       exact rt
  ·refine V.meet (σ := Bool) (fun x34 w => Sep.St [station_Station.at b0 a0, R] w0 w ∧ station_Station_came.j1 a0 a2 x34 = some r) (fun x34 => [(0, pt b0), (2, vs (some ⟨eb3, eo4, none⟩) a2.length sc2), (75, vb x34)]) ?_ ?_
   ·refine go ?_
    refine W.r (X.load underlying5 rfl rfl ((rdC.at 1 hr2 HS rfl).cellI c2.1 c2.2)) rfl ?_
    refine go ?_
    refine W.cd 80 H rfl (fun _ H => ?_) (fun _ H => ?_)
    ·refine go ?_
     exact At.mt _ ⟨HS, H⟩
    ·refine go ?_
     exact At.mt _ ⟨HS, H⟩
   ·rintro x34 w ⟨HS, H⟩
    refine V.cv H rfl (fun _ H => ?_) (fun _ H => ?_)
    ·refine go ?_
     obtain ⟨c37, H⟩ := ite_n H
     refine W.r (X.slL underlying27 inf5 rfl rfl c37) rfl ?_
     refine W.kl H func275 (fun _ h => kcode_Read.calls h HS.j0 (rdC.part 1 (rdC.subM hr2 c37) rfl)) ?_
     rintro _ _ w H ⟨rfl, HS⟩
     have HS := HS.o0
     refine go ?_
     refine V.cd H rfl (fun _ H => ?_) (fun _ H => ?_)
     ·refine go ?_
      obtain ⟨_, _, _, _, _, _, _, _, _, _, HS⟩ := station_Station.open HS
      refine go ?_
      have HS := HS.b [2]
      refine W.kl H func276 (fun _ h => aps_Aps_Remote.calls h HS.j1) ?_
      rintro _ _ w H ⟨rfl, HS⟩
      have HS := HS.o1
      refine go ?_
      have HS := station_Station.close tv (HS.b [1, 1])
      exact rt
     ·refine go ?_
      exact rt
    ·refine go ?_
     exact rt
 ·refine gs ?_
  refine V.meet (σ := Bool) (fun x46 w => Sep.St [station_Station.at b0 a0, R] w0 w ∧ station_Station_came.j2 a0 a2 x46 = some r) (fun x46 => [(0, pt b0), (2, vs (some ⟨eb3, eo4, none⟩) a2.length sc2), (75, vb x46)]) ?_ ?_
  ·refine go ?_
   refine W.r (X.load underlying5 rfl rfl ((rdC.at 1 hr2 HS rfl).cellI c2.1 c2.2)) rfl ?_
   refine go ?_
   refine W.cd 80 H rfl (fun _ H => ?_) (fun _ H => ?_)
   ·refine go ?_
    exact At.mt _ ⟨HS, H⟩
   ·refine go ?_
    exact At.mt _ ⟨HS, H⟩
  ·rintro x46 w ⟨HS, H⟩
   refine V.cv H rfl (fun _ H => ?_) (fun _ H => ?_)
   ·refine go ?_
    obtain ⟨c49, H⟩ := ite_n H
    refine W.r (X.slL underlying27 inf5 rfl rfl c49) rfl ?_
    refine W.kl H func275 (fun _ h => kcode_Read.calls h HS.j0 (rdC.part 1 (rdC.subM hr2 c49) rfl)) ?_
    rintro _ _ w H ⟨rfl, HS⟩
    have HS := HS.o0
    refine go ?_
    refine V.cd H rfl (fun _ H => ?_) (fun _ H => ?_)
    ·refine go ?_
     obtain ⟨_, _, _, _, _, _, _, _, _, _, HS⟩ := station_Station.open HS
     refine go ?_
     have HS := HS.b [2]
     refine W.kl H func276 (fun _ h => aps_Aps_Remote.calls h HS.j1) ?_
     rintro _ _ w H ⟨rfl, HS⟩
     have HS := HS.o1
     refine go ?_
     have HS := station_Station.close tv (HS.b [1, 1])
     exact rt
    ·refine go ?_
     exact rt
   ·refine go ?_
    exact rt
def station_Station_Push.f (k : Nat) (a0 : station_Station) (a1 : Int) (a2 : Int) : Option (Int × List Int × station_Station) := ((station_has.f a1).bind fun t2 => (if t2 = true then (if 0 ≤ a1 ∧ a1 < 2 then (if a1 = 0 then ((frame_Reader_Push.f k a0.sides.1.reader a2).bind fun t9 => (if t9.1 = 1 then ((monitor_Monitor_Note.f a0.sides.1.monitor true).bind fun t12 => ((station_Station_came.f k ({ a0 with sides := (({ reader := t9.2.2, monitor := t12.2, ring := a0.sides.1.ring, counts := ({ a0.sides.1.counts with Good := station_one.f a0.sides.1.counts.Good } : api_Counts) } : station_side), a0.sides.2) } : station_Station) a1 t9.2.1).bind fun t14 => some (t9.1, t9.2.1, t14))) else (if t9.1 = 2 then some (t9.1, t9.2.1, ({ a0 with sides := (({ a0.sides.1 with reader := t9.2.2, counts := ({ a0.sides.1.counts with Runts := station_one.f a0.sides.1.counts.Runts } : api_Counts) } : station_side), a0.sides.2) } : station_Station)) else (if t9.1 = 4 then ((monitor_Monitor_Note.f a0.sides.1.monitor false).bind fun t18 => some (t9.1, t9.2.1, ({ a0 with sides := (({ reader := t9.2.2, monitor := t18.2, ring := a0.sides.1.ring, counts := ({ a0.sides.1.counts with Bad := station_one.f a0.sides.1.counts.Bad } : api_Counts) } : station_side), a0.sides.2) } : station_Station))) else (if t9.1 = 3 then ((monitor_Monitor_Note.f a0.sides.1.monitor false).bind fun t21 => some (t9.1, t9.2.1, ({ a0 with sides := (({ reader := t9.2.2, monitor := t21.2, ring := a0.sides.1.ring, counts := ({ a0.sides.1.counts with Giants := station_one.f a0.sides.1.counts.Giants } : api_Counts) } : station_side), a0.sides.2) } : station_Station))) else (if t9.1 = 5 then ((monitor_Monitor_Note.f a0.sides.1.monitor false).bind fun t24 => some (t9.1, t9.2.1, ({ a0 with sides := (({ reader := t9.2.2, monitor := t24.2, ring := a0.sides.1.ring, counts := ({ a0.sides.1.counts with Aborts := station_one.f a0.sides.1.counts.Aborts } : api_Counts) } : station_side), a0.sides.2) } : station_Station))) else some (t9.1, t9.2.1, ({ a0 with sides := (({ a0.sides.1 with reader := t9.2.2 } : station_side), a0.sides.2) } : station_Station)))))))) else ((frame_Reader_Push.f k a0.sides.2.reader a2).bind fun t27 => (if t27.1 = 1 then ((monitor_Monitor_Note.f a0.sides.2.monitor true).bind fun t30 => ((station_Station_came.f k ({ a0 with sides := (a0.sides.1, ({ reader := t27.2.2, monitor := t30.2, ring := a0.sides.2.ring, counts := ({ a0.sides.2.counts with Good := station_one.f a0.sides.2.counts.Good } : api_Counts) } : station_side)) } : station_Station) a1 t27.2.1).bind fun t32 => some (t27.1, t27.2.1, t32))) else (if t27.1 = 2 then some (t27.1, t27.2.1, ({ a0 with sides := (a0.sides.1, ({ a0.sides.2 with reader := t27.2.2, counts := ({ a0.sides.2.counts with Runts := station_one.f a0.sides.2.counts.Runts } : api_Counts) } : station_side)) } : station_Station)) else (if t27.1 = 4 then ((monitor_Monitor_Note.f a0.sides.2.monitor false).bind fun t36 => some (t27.1, t27.2.1, ({ a0 with sides := (a0.sides.1, ({ reader := t27.2.2, monitor := t36.2, ring := a0.sides.2.ring, counts := ({ a0.sides.2.counts with Bad := station_one.f a0.sides.2.counts.Bad } : api_Counts) } : station_side)) } : station_Station))) else (if t27.1 = 3 then ((monitor_Monitor_Note.f a0.sides.2.monitor false).bind fun t39 => some (t27.1, t27.2.1, ({ a0 with sides := (a0.sides.1, ({ reader := t27.2.2, monitor := t39.2, ring := a0.sides.2.ring, counts := ({ a0.sides.2.counts with Giants := station_one.f a0.sides.2.counts.Giants } : api_Counts) } : station_side)) } : station_Station))) else (if t27.1 = 5 then ((monitor_Monitor_Note.f a0.sides.2.monitor false).bind fun t42 => some (t27.1, t27.2.1, ({ a0 with sides := (a0.sides.1, ({ reader := t27.2.2, monitor := t42.2, ring := a0.sides.2.ring, counts := ({ a0.sides.2.counts with Aborts := station_one.f a0.sides.2.counts.Aborts } : api_Counts) } : station_side)) } : station_Station))) else some (t27.1, t27.2.1, ({ a0 with sides := (a0.sides.1, ({ a0.sides.2 with reader := t27.2.2 } : station_side)) } : station_Station))))))))) else none) else some (0, ([] : List Int), a0)))
theorem station_Station_Push.calls {k : Nat} {a0 : station_Station} {a1 : Int} {a2 : Int} {R : As} {w0 w : World} {b0 : Nat} {r : Int × List Int × station_Station} (H : station_Station_Push.f k a0 a1 a2 = some r) (HS : Sep.St [station_Station.at b0 a0, R] w0 w)  : Calls Tryz.prog 188 #[pt b0, vi a1, Value.int .u8 a2] w (Ret fun u w => ∃ (aq1 : Option Addr) (cq1 : Nat), u = Value.tuple #[vi r.1, vs aq1 r.2.1.length cq1] ∧ Sep.St [row 5 1 (.slice aq1 r.2.1.length cq1) r.2.1.length (r.2.1.map (Value.int .u8)), station_Station.at b0 r.2.2, R] w0 w) := by
 refine calls_enter func188 rfl rfl ?_
 refine go ?_
 refine W.kl H func185 (fun _ h => station_has.calls h HS.j0) ?_
 rintro _ _ w H ⟨rfl, HS⟩
 have HS := HS.o0
 refine go ?_
 refine V.cx H rfl (fun _ H => ?_) (fun _ H => ?_)
 ·refine go ?_
  obtain ⟨_, _, _, _, _, _, _, _, _, _, HS⟩ := station_Station.open HS
  refine go ?_
  obtain ⟨c7, H⟩ := ite_n H
  refine ite_c H (fun c8 H => ?_) (fun _ H => ?_)
  ·refine W.r (X.indexArK 0 c8 underlying126 inf125 rfl rfl c7.1 c7.2) rfl ?_
   refine go ?_
   have HS := HS.b [4]
   refine W.kl H func230 (fun _ h => frame_Reader_Push.calls h HS.j1) ?_
   rintro _ _ w H ⟨_, _, rfl, HS⟩
   have HS := HS.o2
   refine go ?_
   refine V.cd H rfl (fun _ H => ?_) (fun _ H => ?_)
   ·refine go ?_
    refine W.e (Y.cl func231 (station_one.cell 2 25 HS rfl rfl rfl)) rfl ?_
    rintro _ w ⟨rfl, HS⟩
    refine go ?_
    have HS := HS.b [6]
    refine W.kl H func232 (fun _ h => monitor_Monitor_Note.calls h HS.j1) ?_
    rintro _ _ w H ⟨rfl, HS⟩
    have HS := HS.o1
    refine go ?_
    have HS := station_Station.close tv (HS.b [3, 3, 3, 3, 2, 0, 1, 1, 1, 1])
    refine W.kl H func233 (fun _ h => station_Station_came.calls h HS.j1 (rdC.part 0 row_rd rfl)) ?_
    rintro _ _ w H ⟨rfl, HS⟩
    have HS := HS.o1
    refine go ?_
    have HS := HS.b [1]
    exact rt
   ·refine go ?_
    refine V.cd H rfl (fun _ H => ?_) (fun _ H => ?_)
    ·refine go ?_
     refine W.e (Y.cl func231 (station_one.cell 2 28 HS rfl rfl rfl)) rfl ?_
     rintro _ w ⟨rfl, HS⟩
     refine go ?_
     have HS := (station_Station.close tv (HS.b [2, 2, 2, 2, 1, 1, 1, 1, 1, 1])).b [1]
     exact rt
    ·refine go ?_
     refine V.cd H rfl (fun _ H => ?_) (fun _ H => ?_)
     ·refine go ?_
      refine W.e (Y.cl func231 (station_one.cell 2 26 HS rfl rfl rfl)) rfl ?_
      rintro _ w ⟨rfl, HS⟩
      refine go ?_
      have HS := HS.b [6]
      refine W.kl H func232 (fun _ h => monitor_Monitor_Note.calls h HS.j1) ?_
      rintro _ _ w H ⟨rfl, HS⟩
      have HS := HS.o1
      refine go ?_
      have HS := (station_Station.close tv (HS.b [3, 3, 3, 3, 2, 0, 1, 1, 1, 1])).b [1]
      exact rt
     ·refine go ?_
      refine V.cd H rfl (fun _ H => ?_) (fun _ H => ?_)
      ·refine go ?_
       refine W.e (Y.cl func231 (station_one.cell 2 29 HS rfl rfl rfl)) rfl ?_
       rintro _ w ⟨rfl, HS⟩
       refine go ?_
       have HS := HS.b [6]
       refine W.kl H func232 (fun _ h => monitor_Monitor_Note.calls h HS.j1) ?_
       rintro _ _ w H ⟨rfl, HS⟩
       have HS := HS.o1
       refine go ?_
       have HS := (station_Station.close tv (HS.b [3, 3, 3, 3, 2, 0, 1, 1, 1, 1])).b [1]
       exact rt
      ·refine go ?_
       refine V.cd H rfl (fun _ H => ?_) (fun _ H => ?_)
       ·refine go ?_
        refine W.e (Y.cl func231 (station_one.cell 2 27 HS rfl rfl rfl)) rfl ?_
        rintro _ w ⟨rfl, HS⟩
        refine go ?_
        have HS := HS.b [6]
        refine W.kl H func232 (fun _ h => monitor_Monitor_Note.calls h HS.j1) ?_
        rintro _ _ w H ⟨rfl, HS⟩
        have HS := HS.o1
        refine go ?_
        have HS := (station_Station.close tv (HS.b [3, 3, 3, 3, 2, 0, 1, 1, 1, 1])).b [1]
        exact rt
       ·refine go ?_
        have HS := (station_Station.close tv (HS.b [2, 2, 2, 2, 1, 1, 1, 1, 1, 1])).b [1]
        exact rt
  ·have hk26 : a1 = 1 := by omega
   refine W.r (X.indexArK 1 hk26 underlying126 inf125 rfl rfl c7.1 c7.2) rfl ?_
   refine go ?_
   have HS := HS.b [7]
   refine W.kl H func230 (fun _ h => frame_Reader_Push.calls h HS.j1) ?_
   rintro _ _ w H ⟨_, _, rfl, HS⟩
   have HS := HS.o2
   refine go ?_
   refine V.cd H rfl (fun _ H => ?_) (fun _ H => ?_)
   ·refine go ?_
    refine W.e (Y.cl func231 (station_one.cell 2 35 HS rfl rfl rfl)) rfl ?_
    rintro _ w ⟨rfl, HS⟩
    refine go ?_
    have HS := HS.b [9]
    refine W.kl H func232 (fun _ h => monitor_Monitor_Note.calls h HS.j1) ?_
    rintro _ _ w H ⟨rfl, HS⟩
    have HS := HS.o1
    refine go ?_
    have HS := station_Station.close tv (HS.b [3, 3, 3, 3, 3, 3, 3, 2, 0, 1])
    refine W.kl H func233 (fun _ h => station_Station_came.calls h HS.j1 (rdC.part 0 row_rd rfl)) ?_
    rintro _ _ w H ⟨rfl, HS⟩
    have HS := HS.o1
    refine go ?_
    have HS := HS.b [1]
    exact rt
   ·refine go ?_
    refine V.cd H rfl (fun _ H => ?_) (fun _ H => ?_)
    ·refine go ?_
     refine W.e (Y.cl func231 (station_one.cell 2 38 HS rfl rfl rfl)) rfl ?_
     rintro _ w ⟨rfl, HS⟩
     refine go ?_
     have HS := (station_Station.close tv (HS.b [2, 2, 2, 2, 2, 2, 2, 1, 1, 1])).b [1]
     exact rt
    ·refine go ?_
     refine V.cd H rfl (fun _ H => ?_) (fun _ H => ?_)
     ·refine go ?_
      refine W.e (Y.cl func231 (station_one.cell 2 36 HS rfl rfl rfl)) rfl ?_
      rintro _ w ⟨rfl, HS⟩
      refine go ?_
      have HS := HS.b [9]
      refine W.kl H func232 (fun _ h => monitor_Monitor_Note.calls h HS.j1) ?_
      rintro _ _ w H ⟨rfl, HS⟩
      have HS := HS.o1
      refine go ?_
      have HS := (station_Station.close tv (HS.b [3, 3, 3, 3, 3, 3, 3, 2, 0, 1])).b [1]
      exact rt
     ·refine go ?_
      refine V.cd H rfl (fun _ H => ?_) (fun _ H => ?_)
      ·refine go ?_
       refine W.e (Y.cl func231 (station_one.cell 2 39 HS rfl rfl rfl)) rfl ?_
       rintro _ w ⟨rfl, HS⟩
       refine go ?_
       have HS := HS.b [9]
       refine W.kl H func232 (fun _ h => monitor_Monitor_Note.calls h HS.j1) ?_
       rintro _ _ w H ⟨rfl, HS⟩
       have HS := HS.o1
       refine go ?_
       have HS := (station_Station.close tv (HS.b [3, 3, 3, 3, 3, 3, 3, 2, 0, 1])).b [1]
       exact rt
      ·refine go ?_
       refine V.cd H rfl (fun _ H => ?_) (fun _ H => ?_)
       ·refine go ?_
        refine W.e (Y.cl func231 (station_one.cell 2 37 HS rfl rfl rfl)) rfl ?_
        rintro _ w ⟨rfl, HS⟩
        refine go ?_
        have HS := HS.b [9]
        refine W.kl H func232 (fun _ h => monitor_Monitor_Note.calls h HS.j1) ?_
        rintro _ _ w H ⟨rfl, HS⟩
        have HS := HS.o1
        refine go ?_
        have HS := (station_Station.close tv (HS.b [3, 3, 3, 3, 3, 3, 3, 2, 0, 1])).b [1]
        exact rt
       ·refine go ?_
        have HS := (station_Station.close tv (HS.b [2, 2, 2, 2, 2, 2, 2, 1, 1, 1])).b [1]
        exact rt
 ·refine go ?_
  have HS := row_nilF (Value.int .u8) 5 1 HS
  exact rt
end Go.Proofs.YtgkjmdapodgnfaaGreat

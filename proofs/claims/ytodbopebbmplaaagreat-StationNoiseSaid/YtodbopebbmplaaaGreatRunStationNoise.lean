/- StationNoise: the functions that its law reaches, as plain functions, and that the machine's calls come to what these say. Conditions: those that stand at each. -/
import Derived.Test.YtodbopebbmplaaaGreatRunStationNoiseP3
set_option linter.all false
set_option maxRecDepth 100000
set_option maxHeartbeats 4000000
set_option synthInstance.maxSize 100000
set_option synthInstance.maxHeartbeats 1000000
namespace Go.Proofs.YtodbopebbmplaaaGreat
open Go.RowKit Go.Proofs.YtodbopebbmplaaaGreat.Sep Go.Proofs.YtodbopebbmplaaaGreat.Walk Go.Proofs.Tryz
mutual
def arq_Arq_Input.j1 (a0 : arq_Arq) (x32 : Bool) : Option arq_Arq := (if x32 = true then ((arq_Arq_end.f a0).bind fun t35 => some t35) else some a0)
def arq_Arq_Input.j0 (k : Nat) (a0 : arq_Arq) (a1 : List Int) (x8 : api_Ctl) (x9 : Int) (x10 : Int) : Option arq_Arq := (if x10 = 0 then (if x8.Kind = 3 then ((arq_Arq_asked.f k a0 (ior .i64 (w64 ((w64 (a1.getD (0 : Int).toNat 0)) * 2 ^ (min (8 : Int).toNat IntKind.i64.bits))) (w64 (a1.getD (1 : Int).toNat 0))) x8.Poll).bind fun t17 => some t17) else (if x8.Kind = 4 then (if (ior .i64 (w64 ((w64 (a1.getD (0 : Int).toNat 0)) * 2 ^ (min (8 : Int).toNat IntKind.i64.bits))) (w64 (a1.getD (1 : Int).toNat 0))) = a0.tag then ((arq_Arq_accepted.f k a0).bind fun t23 => some t23) else some a0) else (if x8.Kind = 5 then ((arq_Arq_closed.f k a0 (ior .i64 (w64 ((w64 (a1.getD (0 : Int).toNat 0)) * 2 ^ (min (8 : Int).toNat IntKind.i64.bits))) (w64 (a1.getD (1 : Int).toNat 0))) x8.Poll).bind fun t26 => some t26) else (if x8.Kind = 6 then ((arq_Arq_refused.f a0 (ior .i64 (w64 ((w64 (a1.getD (0 : Int).toNat 0)) * 2 ^ (min (8 : Int).toNat IntKind.i64.bits))) (w64 (a1.getD (1 : Int).toNat 0)))).bind fun t29 => some t29) else (if x8.Kind = 7 then (if (ior .i64 (w64 ((w64 (a1.getD (0 : Int).toNat 0)) * 2 ^ (min (8 : Int).toNat IntKind.i64.bits))) (w64 (a1.getD (1 : Int).toNat 0))) = a0.tag then (arq_Arq_Input.j1 a0 (decide (a0.state = 2))) else (arq_Arq_Input.j1 a0 false)) else (if 0 ≤ w64 (2 + x9) ∧ w64 (2 + x9) ≤ (a1.length : Int) ∧ (a1.length : Int) ≤ (a1.length : Int) then ((arq_Arq_numbered.f k a0 (ior .i64 (w64 ((w64 (a1.getD (0 : Int).toNat 0)) * 2 ^ (min (8 : Int).toNat IntKind.i64.bits))) (w64 (a1.getD (1 : Int).toNat 0))) x8 (cut a1 (w64 (2 + x9)) (a1.length : Int))).bind fun t41 => some t41) else none)))))) else some a0)
end
def arq_Arq_Input.f (k : Nat) (a0 : arq_Arq) (a1 : List Int) : Option arq_Arq := (if (a1.length : Int) < 2 then some a0 else (if 0 ≤ (0 : Int) ∧ (0 : Int) < (a1.length : Int) then (if 0 ≤ (1 : Int) ∧ (1 : Int) < (a1.length : Int) then (if 0 ≤ (2 : Int) ∧ (2 : Int) ≤ (a1.length : Int) ∧ (a1.length : Int) ≤ (a1.length : Int) then ((control_Read.f k (cut a1 (2 : Int) (a1.length : Int)) a0.m).bind fun t46 => (arq_Arq_Input.j0 k a0 a1 t46.1 t46.2.1 t46.2.2)) else none) else none) else none))
theorem arq_Arq_Input.calls {k : Nat} {a0 : arq_Arq} {a1 : List Int} {R : As} {w0 w : World} {b0 : Nat} {sa1 : Option Addr} {sc1 : Nat} {r : arq_Arq} (H : arq_Arq_Input.f k a0 a1 = some r) (HS : Sep.St [arq_Arq.at b0 a0, R] w0 w) (hr1 : rdC R 1 (.slice sa1 a1.length sc1) a1.length (a1.map (Value.int .u8))) : Calls Tryz.prog 139 #[pt b0, vs sa1 a1.length sc1] w (Ret fun u w => u = Value.tuple #[] ∧ Sep.St [arq_Arq.at b0 r, R] w0 w) := by
 unfold arq_Arq_Input.f at H
 refine calls_enter func139 rfl rfl ?_
 have H : _ = some r := H
 refine V.seq (V.seq (V.region (W.mv rfl (W.r (X.lenSl underlying32 rfl) rfl (W.r (X.cmp (decide ((a1.length : Int) < 2)) rfl rfl rfl rfl) rfl (W.nx ?_))))))
 by_cases c2 : (a1.length : Int) < 2
 ·replace H := ite_t c2 H
  refine V.condT (sb (dT c2)) (V.ret (At.thenRet ?_))
  cases H
  exact At.ret0 rfl ⟨_, rfl, rfl, HS⟩
 ·replace H := ite_f c2 H
  refine V.condF (sb (dF c2)) (V.skip (At.next (V.seq ?_)))
  obtain ⟨c3, H⟩ := ite_n H
  obtain ⟨eb4, eo5, hh⟩ := (rdC.at 1 hr1 HS rfl).some (by decide) c3.1 c3.2; subst hh
  obtain ⟨c6, H⟩ := ite_n H
  refine V.dr [] [] [(11, vs (some ⟨eb4, eo5, none⟩) a1.length sc1), (12, po eb4 (eo5 + (0 : Int).toNat * 1)), (13, Value.int .u8 (a1.getD (0 : Int).toNat 0)), (14, vi (w64 (a1.getD (0 : Int).toNat 0))), (15, vi (w64 ((w64 (a1.getD (0 : Int).toNat 0)) * 2 ^ (min (8 : Int).toNat IntKind.i64.bits)))), (16, vs (some ⟨eb4, eo5, none⟩) a1.length sc1), (17, po eb4 (eo5 + (1 : Int).toNat * 1)), (18, Value.int .u8 (a1.getD (1 : Int).toNat 0)), (19, vi (w64 (a1.getD (1 : Int).toNat 0))), (20, vi (ior .i64 (w64 ((w64 (a1.getD (0 : Int).toNat 0)) * 2 ^ (min (8 : Int).toNat IntKind.i64.bits))) (w64 (a1.getD (1 : Int).toNat 0)))), (4, vi (ior .i64 (w64 ((w64 (a1.getD (0 : Int).toNat 0)) * 2 ^ (min (8 : Int).toNat IntKind.i64.bits))) (w64 (a1.getD (1 : Int).toNat 0))))] mo HS ?_
  refine T.fn [(0, _), (1, _), (4, _)] ⟨rfl, rfl, rfl, tv⟩ ⟨.mv 1, .n1 11 rfl rfl (fun w HS => X.indexSl underlying32 inf5 rfl rfl c3.1 c3.2), .n1 12 rfl rfl (fun w HS => X.load underlying5 rfl rfl ((rdC.at 1 hr1 HS rfl).cellI c3.1 c3.2)), .n1 13 rfl rfl (fun w HS => X.conv underlying5 underlying3 rfl), .n1 14 rfl rfl (fun w HS => X.shl rfl rfl (by decide)), .mv 1, .n1 16 rfl rfl (fun w HS => X.indexSl underlying32 inf5 rfl rfl c6.1 c6.2), .n1 17 rfl rfl (fun w HS => X.load underlying5 rfl rfl ((rdC.at 1 hr1 HS rfl).cellI c6.1 c6.2)), .n1 18 rfl rfl (fun w HS => X.conv underlying5 underlying3 rfl), .n2 15 19 rfl rfl rfl (fun w HS => X.or rfl rfl), .as 20, tv⟩ (fun w HS => ?_)
  refine At.next (V.meet (σ := Nat × api_Ctl × Int × Int) (fun st w => match st with | (nb7, x8, x9, x10) => Sep.St [api_Ctl.at nb7 x8, arq_Arq.at b0 a0, R] w0 w ∧ ∃ kf11, kf11 ≤ k ∧ arq_Arq_Input.j0 kf11 a0 a1 x8 x9 x10 = some r) (fun st => match st with | (nb7, x8, x9, x10) => [(0, pt b0), (1, vs (some ⟨eb4, eo5, none⟩) a1.length sc1), (4, vi (ior .i64 (w64 ((w64 (a1.getD (0 : Int).toNat 0)) * 2 ^ (min (8 : Int).toNat IntKind.i64.bits))) (w64 (a1.getD (1 : Int).toNat 0)))), (5, pt nb7), (6, vi x9), (7, vi x10)]) ?_ ?_)
  ·obtain ⟨c43, H⟩ := ite_n H
   obtain ⟨b8_44, b9_44, b10_44, a11_44, c11_44, d11_44, a12_44, c12_44, hi45, HS⟩ := arq_Arq.open HS
   refine V.dr [6, 11, 12] [7, 8, 9, 10, 13, 14] [(22, vs (some ⟨eb4, eo5, none⟩) a1.length sc1), (23, vs (vaddr (some ⟨eb4, eo5, none⟩) sc1 (2 : Int).toNat 1) (cut a1 (2 : Int) (a1.length : Int)).length (sc1 - (2 : Int).toNat)), (24, pt b0), (25, pt b0), (26, po b0 (0 + 0)), (27, vi a0.m)] mo HS ?_
   refine T.two rfl rfl ⟨.mv 1, .n1 22 rfl rfl (fun w HS => X.slL underlying32 inf5 rfl rfl c43), .mv 0, .nc 24, .fa 25 fo136_0, .ld 26 0 underlying3, tv⟩ (T.step (es := [11, 12]) _ [(23, vs (vaddr (some ⟨eb4, eo5, none⟩) sc1 (2 : Int).toNat 1) (cut a1 (2 : Int) (a1.length : Int)).length (sc1 - (2 : Int).toNat)), (27, vi a0.m)] rfl ⟨.inr ⟨rfl, rfl⟩, ⟨.inr ⟨rfl, rfl⟩, tv⟩⟩ (Or.inl rfl) (by intro d hd; cases hd; exact ⟨by decide, rfl, rfl⟩) [13, 14] [0, 1, 2, 3, 4, 5] rfl rfl rfl rfl rfl (fun w HS => ?_)) (T.step (es := [6, 12]) _ [] rfl tv (Or.inl rfl) (by intro d hd; cases hd; exact ⟨by decide, rfl, rfl⟩) [7, 8, 9, 10, 13, 14] [] rfl rfl rfl rfl rfl (fun w HS => ?_))
   ·have HS : Sep.St [blk b0 (#[vi a0.m, vi a0.t1, vi a0.n2, vi a0.size, vi a0.state, vi a0.tag, vi a0.tries, vb a0.rejected, pt b8_44, pt b9_44, pt b10_44, vs a11_44 a0.out.length c11_44, vs a12_44 a0.inds.length c12_44, vi a0.sent, vi a0.acked, vi a0.lost]) 136, backlog_Log.at b8_44 a0.log, reorder_Order.at b9_44 a0.order, clock_Set.at b10_44 a0.timers, row 32 1 (.slice a11_44 a0.out.length c11_44) a0.out.length d11_44, tie (El.sl (El.int .u8)) d11_44 a0.out, row 3 1 (.slice a12_44 a0.inds.length c12_44) a0.inds.length (a0.inds.map (Value.int .i64)), R] w0 w := HS
    obtain ⟨t46, A47, H⟩ := bind_s H
    refine ⟨_, Y.cl func194 (control_Read.calls A47 HS.j0 (rdC.part 7 (rdC.subM hr1 c43) rfl)), ?_⟩
    rintro _ w ⟨rfl, HS⟩
    replace HS := HS.o0
    refine T.nm [(28, Value.tuple #[Value.agg #[vi t46.1.Kind, vi t46.1.Ns, vi t46.1.Nr, vb t46.1.Poll], vi t46.2.1, vi t46.2.2]), (21, Value.tuple #[Value.agg #[vi t46.1.Kind, vi t46.1.Ns, vi t46.1.Nr, vb t46.1.Poll], vi t46.2.1, vi t46.2.2]), (29, Value.agg #[vi t46.1.Kind, vi t46.1.Ns, vi t46.1.Nr, vb t46.1.Poll]), (30, vi t46.2.1), (31, vi t46.2.2)] HS ⟨.inl ⟨rfl, rfl⟩, ⟨.inr ⟨by decide, rfl⟩, ⟨.inr ⟨by decide, rfl⟩, ⟨.inr ⟨by decide, rfl⟩, ⟨.inr ⟨by decide, rfl⟩, tv⟩⟩⟩⟩⟩ ?_
    refine T.ev [] [13, 14] [] tv ⟨.mv 28, .n1 21 rfl rfl (fun w HS => X.extract rfl rfl), .n1 21 rfl rfl (fun w HS => X.extract rfl rfl), .n1 21 rfl rfl (fun w HS => X.extract rfl rfl), tv⟩ rfl (fun w HS => ?_)
    refine ⟨_, Y.alloc (z := Value.agg (#[vi (0), vi (0), vi (0), vb false])) HS ze188, ?_⟩
    rintro _ w ⟨nb48, rfl, HS⟩
    refine T.nw HS ?_
    refine T.ev [(5, _), (29, _)] [] [7, 8] ⟨rfl, rfl, tv⟩ ⟨.mv 28, .n1 21 rfl rfl (fun w HS => X.extract rfl rfl), .n1 21 rfl rfl (fun w HS => X.extract rfl rfl), .n1 21 rfl rfl (fun w HS => X.extract rfl rfl), tv⟩ rfl (fun w HS => ?_)
    refine ⟨_, Y.storeSt (c' := #[vi t46.1.Kind, vi t46.1.Ns, vi t46.1.Nr, vb t46.1.Poll]) 0 [vi t46.1.Kind, vi t46.1.Ns, vi t46.1.Nr, vb t46.1.Poll] HS rfl inf188 rfl rfl rfl rfl rfl rfl, ?_⟩
    rintro _ w HS
    refine T.nm [(6, vi t46.2.1), (7, vi t46.2.2)] HS ⟨.inr ⟨by decide, rfl⟩, ⟨.inr ⟨by decide, rfl⟩, tv⟩⟩ ?_
    refine T.fn [(0, _), (1, _), (4, _), (5, _), (6, _), (7, _)] ⟨rfl, rfl, rfl, rfl, rfl, rfl, tv⟩ ⟨.n1 21 rfl rfl (fun w HS => X.extract rfl rfl), .n1 21 rfl rfl (fun w HS => X.extract rfl rfl), .as 30, .as 31, tv⟩ (fun w HS => ?_)
    replace HS := api_Ctl.close tv HS
    replace HS := HS.pm [1, 2, 3, 4, 5, 6, 7, 0, 8]
    replace HS := arq_Arq.close tv HS
    replace HS := HS.pk [1, 0, 2] []
    exact At.meet (nb48, t46.1, t46.2.1, t46.2.2) ⟨rfl, rfl, rfl, rfl, rfl, rfl, tv⟩ ⟨HS, k, by omega, H⟩
   ·have HS : Sep.St [blk b0 (#[vi a0.m, vi a0.t1, vi a0.n2, vi a0.size, vi a0.state, vi a0.tag, vi a0.tries, vb a0.rejected, pt b8_44, pt b9_44, pt b10_44, vs a11_44 a0.out.length c11_44, vs a12_44 a0.inds.length c12_44, vi a0.sent, vi a0.acked, vi a0.lost]) 136, backlog_Log.at b8_44 a0.log, reorder_Order.at b9_44 a0.order, clock_Set.at b10_44 a0.timers, row 32 1 (.slice a11_44 a0.out.length c11_44) a0.out.length d11_44, tie (El.sl (El.int .u8)) d11_44 a0.out, row 3 1 (.slice a12_44 a0.inds.length c12_44) a0.inds.length (a0.inds.map (Value.int .i64)), R] w0 w := HS
    refine ⟨_, Y.alloc (z := Value.agg (#[vi (0), vi (0), vi (0), vb false])) HS ze188, ?_⟩
    rintro _ w ⟨nb49, rfl, HS⟩
    refine T.nw HS ?_
    refine T.ev [(23, _), (27, _)] [13, 14] [0, 1, 2, 3, 4, 5] ⟨rfl, rfl, tv⟩ ⟨.mv 1, .n1 22 rfl rfl (fun w HS => X.slL underlying32 inf5 rfl rfl c43), .mv 0, .nc 24, .fa 25 fo136_0, .ld 26 1 underlying3, tv⟩ rfl (fun w HS => ?_)
    obtain ⟨t50, A51, H⟩ := bind_s H
    refine ⟨_, Y.cl func194 (control_Read.calls A51 HS.j0 (rdC.part 8 (rdC.subM hr1 c43) rfl)), ?_⟩
    rintro _ w ⟨rfl, HS⟩
    replace HS := HS.o0
    refine T.nm [(28, Value.tuple #[Value.agg #[vi t50.1.Kind, vi t50.1.Ns, vi t50.1.Nr, vb t50.1.Poll], vi t50.2.1, vi t50.2.2]), (21, Value.tuple #[Value.agg #[vi t50.1.Kind, vi t50.1.Ns, vi t50.1.Nr, vb t50.1.Poll], vi t50.2.1, vi t50.2.2]), (29, Value.agg #[vi t50.1.Kind, vi t50.1.Ns, vi t50.1.Nr, vb t50.1.Poll]), (30, vi t50.2.1), (31, vi t50.2.2)] HS ⟨.inl ⟨rfl, rfl⟩, ⟨.inr ⟨by decide, rfl⟩, ⟨.inr ⟨by decide, rfl⟩, ⟨.inr ⟨by decide, rfl⟩, ⟨.inr ⟨by decide, rfl⟩, tv⟩⟩⟩⟩⟩ ?_
    refine T.ev [(5, _), (29, _)] [] [7, 8] ⟨rfl, rfl, tv⟩ ⟨.mv 28, .n1 21 rfl rfl (fun w HS => X.extract rfl rfl), .n1 21 rfl rfl (fun w HS => X.extract rfl rfl), .n1 21 rfl rfl (fun w HS => X.extract rfl rfl), tv⟩ rfl (fun w HS => ?_)
    refine ⟨_, Y.storeSt (c' := #[vi t50.1.Kind, vi t50.1.Ns, vi t50.1.Nr, vb t50.1.Poll]) 0 [vi t50.1.Kind, vi t50.1.Ns, vi t50.1.Nr, vb t50.1.Poll] HS rfl inf188 rfl rfl rfl rfl rfl rfl, ?_⟩
    rintro _ w HS
    refine T.nm [(6, vi t50.2.1), (7, vi t50.2.2)] HS ⟨.inr ⟨by decide, rfl⟩, ⟨.inr ⟨by decide, rfl⟩, tv⟩⟩ ?_
    refine T.fn [(0, _), (1, _), (4, _), (5, _), (6, _), (7, _)] ⟨rfl, rfl, rfl, rfl, rfl, rfl, tv⟩ ⟨.n1 21 rfl rfl (fun w HS => X.extract rfl rfl), .n1 21 rfl rfl (fun w HS => X.extract rfl rfl), .as 30, .as 31, tv⟩ (fun w HS => ?_)
    replace HS := api_Ctl.close tv HS
    replace HS := HS.pm [1, 2, 3, 4, 5, 6, 7, 0, 8]
    replace HS := arq_Arq.close tv HS
    replace HS := HS.pk [1, 0, 2] []
    exact At.meet (nb49, t50.1, t50.2.1, t50.2.2) ⟨rfl, rfl, rfl, rfl, rfl, rfl, tv⟩ ⟨HS, k, by omega, H⟩
  ·rintro ⟨nb7, x8, x9, x10⟩ w ⟨HS, kf11, hkkf11, H⟩
   unfold arq_Arq_Input.j0 at H
   refine V.seq (V.seq (V.region (W.mv rfl (W.r (X.cmp (!(decide (x10 = 0))) rfl rfl rfl rfl) rfl (W.nx ?_)))))
   by_cases c13 : x10 = 0
   ·replace H := ite_t c13 H
    refine V.condF (sb (n_t (dT c13))) (V.skip (At.next (V.seq (V.region ?_))))
    obtain ⟨hi15, HS⟩ := api_Ctl.open HS
    refine W.fa fo188_0 rfl (W.ld 0 HS underlying3 rfl rfl rfl rfl (W.nx (V.block (V.seq (V.region (W.r (X.cmp (decide (x8.Kind = 3)) rfl rfl rfl rfl) rfl (W.as rfl (W.nx ?_))))))))
    by_cases c16 : x8.Kind = 3
    ·replace H := ite_t c16 H
     refine V.condT (sb (dT c16)) (V.region (W.mv rfl (W.mv rfl (W.fa fo188_3 rfl (W.ld 0 HS underlying4 rfl rfl rfl rfl ?_)))))
     obtain ⟨t17, A18, H⟩ := bind_s H
     replace HS := HS.pm [1, 0, 2]
     refine W.e (Y.cl func195 (arq_Arq_asked.calls A18 HS.j1)) rfl ?_
     rintro _ w ⟨rfl, HS⟩
     replace HS := HS.o1
     refine W.nil (At.blockEnd ?_)
     replace HS := HS.pk [0, 2] [1]
     cases H
     exact At.end0 rfl ⟨_, rfl, rfl, HS⟩
    ·replace H := ite_f c16 H
     refine V.condF (sb (dF c16)) (V.seq (V.region (W.r (X.cmp (decide (x8.Kind = 4)) rfl rfl rfl rfl) rfl (W.as rfl (W.nx ?_)))))
     by_cases c19 : x8.Kind = 4
     ·replace H := ite_t c19 H
      refine V.condT (sb (dT c19)) (V.seq (V.region (W.mv rfl (W.mv rfl (W.nc rfl ?_)))))
      replace HS := HS.fr 1
      obtain ⟨b8_20, b9_20, b10_20, a11_20, c11_20, d11_20, a12_20, c12_20, hi21, HS⟩ := arq_Arq.open HS
      refine W.fa fo136_5 rfl (W.ld 0 HS underlying3 rfl rfl rfl rfl (W.r (X.cmp (decide ((ior .i64 (w64 ((w64 (a1.getD (0 : Int).toNat 0)) * 2 ^ (min (8 : Int).toNat IntKind.i64.bits))) (w64 (a1.getD (1 : Int).toNat 0))) = a0.tag)) rfl rfl rfl rfl) rfl (W.nx ?_)))
      by_cases c22 : (ior .i64 (w64 ((w64 (a1.getD (0 : Int).toNat 0)) * 2 ^ (min (8 : Int).toNat IntKind.i64.bits))) (w64 (a1.getD (1 : Int).toNat 0))) = a0.tag
      ·replace H := ite_t c22 H
       refine V.condT (sb (dT c22)) (V.region (W.mv rfl ?_))
       replace HS := arq_Arq.close tv HS
       obtain ⟨t23, A24, H⟩ := bind_s H
       refine W.e (Y.cl func196 (arq_Arq_accepted.calls A24 HS.j1)) rfl ?_
       rintro _ w ⟨rfl, HS⟩
       replace HS := HS.o1
       refine W.nil (At.blockEnd ?_)
       replace HS := HS.pk [0, 2] [1]
       cases H
       exact At.end0 rfl ⟨_, rfl, rfl, HS⟩
      ·replace H := ite_f c22 H
       refine V.condF (sb (dF c22)) (V.skip (At.blockEnd ?_))
       replace HS := arq_Arq.close tv HS
       replace HS := HS.pk [0, 2] [1]
       cases H
       exact At.end0 rfl ⟨_, rfl, rfl, HS⟩
     ·replace H := ite_f c19 H
      refine V.condF (sb (dF c19)) (V.seq (V.region (W.r (X.cmp (decide (x8.Kind = 5)) rfl rfl rfl rfl) rfl (W.as rfl (W.nx ?_)))))
      by_cases c25 : x8.Kind = 5
      ·replace H := ite_t c25 H
       refine V.condT (sb (dT c25)) (V.region (W.mv rfl (W.mv rfl (W.fa fo188_3 rfl (W.ld 0 HS underlying4 rfl rfl rfl rfl ?_)))))
       obtain ⟨t26, A27, H⟩ := bind_s H
       replace HS := HS.pm [1, 0, 2]
       refine W.e (Y.cl func197 (arq_Arq_closed.calls A27 HS.j1)) rfl ?_
       rintro _ w ⟨rfl, HS⟩
       replace HS := HS.o1
       refine W.nil (At.blockEnd ?_)
       replace HS := HS.pk [0, 2] [1]
       cases H
       exact At.end0 rfl ⟨_, rfl, rfl, HS⟩
      ·replace H := ite_f c25 H
       refine V.condF (sb (dF c25)) (V.seq (V.region (W.r (X.cmp (decide (x8.Kind = 6)) rfl rfl rfl rfl) rfl (W.as rfl (W.nx ?_)))))
       by_cases c28 : x8.Kind = 6
       ·replace H := ite_t c28 H
        refine V.condT (sb (dT c28)) (V.region (W.mv rfl (W.mv rfl ?_)))
        obtain ⟨t29, A30, H⟩ := bind_s H
        replace HS := HS.pm [1, 0, 2]
        refine W.e (Y.cl func198 (arq_Arq_refused.calls A30 HS.j1)) rfl ?_
        rintro _ w ⟨rfl, HS⟩
        replace HS := HS.o1
        refine W.nil (At.blockEnd ?_)
        replace HS := HS.pk [0, 2] [1]
        cases H
        exact At.end0 rfl ⟨_, rfl, rfl, HS⟩
       ·replace H := ite_f c28 H
        refine V.condF (sb (dF c28)) (V.seq (V.region (W.r (X.cmp (decide (x8.Kind = 7)) rfl rfl rfl rfl) rfl (W.as rfl (W.nx ?_)))))
        by_cases c31 : x8.Kind = 7
        ·replace H := ite_t c31 H
         refine V.condT (sb (dT c31)) (V.meet (σ := Bool) (fun st w => match st with | x32 => Sep.St [api_Ctl.at nb7 x8, arq_Arq.at b0 a0, R] w0 w ∧ arq_Arq_Input.j1 a0 x32 = some r) (fun st => match st with | x32 => [(0, pt b0), (87, vb x32)]) ?_ ?_)
         ·refine V.region (W.mv rfl (W.mv rfl (W.nc rfl ?_)))
          replace HS := HS.fr 1
          obtain ⟨b8_37, b9_37, b10_37, a11_37, c11_37, d11_37, a12_37, c12_37, hi38, HS⟩ := arq_Arq.open HS
          refine W.fa fo136_5 rfl (W.ld 0 HS underlying3 rfl rfl rfl rfl (W.r (X.cmp (decide ((ior .i64 (w64 ((w64 (a1.getD (0 : Int).toNat 0)) * 2 ^ (min (8 : Int).toNat IntKind.i64.bits))) (w64 (a1.getD (1 : Int).toNat 0))) = a0.tag)) rfl rfl rfl rfl) rfl (W.mv rfl ?_)))
          by_cases c39 : (ior .i64 (w64 ((w64 (a1.getD (0 : Int).toNat 0)) * 2 ^ (min (8 : Int).toNat IntKind.i64.bits))) (w64 (a1.getD (1 : Int).toNat 0))) = a0.tag
          ·replace H := ite_t c39 H
           refine W.want 81 rfl (sb (dT c39)) (W.mv rfl (W.want 81 rfl (sb (dT c39)) (W.nc rfl (W.want 81 rfl (sb (dT c39)) (W.fa fo136_4 rfl (W.want 81 rfl (sb (dT c39)) (W.ld 0 HS underlying3 rfl rfl rfl rfl (W.want 81 rfl (sb (dT c39)) (W.r (X.cmp (decide (a0.state = 2)) rfl rfl rfl rfl) rfl (W.r (X.pickT (sb (dT c39)) rfl) rfl (W.nil ?_)))))))))))
           replace HS := HS.pm [7, 0, 1, 2, 3, 4, 5, 6, 8]
           replace HS := api_Ctl.close tv HS
           replace HS := HS.pm [1, 2, 3, 4, 5, 6, 7, 0, 8]
           replace HS := arq_Arq.close tv HS
           replace HS := HS.pk [1, 0, 2] []
           exact At.meet (decide (a0.state = 2)) ⟨rfl, rfl, tv⟩ ⟨HS, H⟩
          ·replace H := ite_f c39 H
           refine W.pass 81 rfl (sb (dF c39)) rfl rfl (W.pass 81 rfl (sb (dF c39)) rfl rfl (W.pass 81 rfl (sb (dF c39)) rfl rfl (W.pass 81 rfl (sb (dF c39)) rfl rfl (W.pass 81 rfl (sb (dF c39)) rfl rfl (W.r (X.pickF (sb (dF c39)) rfl) rfl (W.nil ?_))))))
           replace HS := HS.pm [7, 0, 1, 2, 3, 4, 5, 6, 8]
           replace HS := api_Ctl.close tv HS
           replace HS := HS.pm [1, 2, 3, 4, 5, 6, 7, 0, 8]
           replace HS := arq_Arq.close tv HS
           replace HS := HS.pk [1, 0, 2] []
           exact At.meet false ⟨rfl, rfl, tv⟩ ⟨HS, H⟩
         ·rintro x32 w ⟨HS, H⟩
          unfold arq_Arq_Input.j1 at H
          by_cases c34 : x32 = true
          ·replace H := ite_t c34 H
           refine V.condT (sb c34) (V.region (W.mv rfl ?_))
           obtain ⟨t35, A36, H⟩ := bind_s H
           replace HS := HS.pm [1, 0, 2]
           refine W.e (Y.cl func186 (arq_Arq_end.calls A36 HS.j1)) rfl ?_
           rintro _ w ⟨rfl, HS⟩
           replace HS := HS.o1
           refine W.nil (At.blockEnd ?_)
           replace HS := HS.pk [0, 2] [1]
           cases H
           exact At.end0 rfl ⟨_, rfl, rfl, HS⟩
          ·replace H := ite_f c34 H
           refine V.condF (sb (b_f c34)) (V.skip (At.blockEnd ?_))
           replace HS := HS.pk [1, 2] [0]
           cases H
           exact At.end0 rfl ⟨_, rfl, rfl, HS⟩
        ·replace H := ite_f c31 H
         refine V.condF (sb (dF c31)) ?_
         obtain ⟨c40, H⟩ := ite_n H
         refine V.dr [7] [] [(36, pt b0), (37, vi (ior .i64 (w64 ((w64 (a1.getD (0 : Int).toNat 0)) * 2 ^ (min (8 : Int).toNat IntKind.i64.bits))) (w64 (a1.getD (1 : Int).toNat 0)))), (38, Value.agg #[vi x8.Kind, vi x8.Ns, vi x8.Nr, vb x8.Poll]), (39, vs (some ⟨eb4, eo5, none⟩) a1.length sc1), (40, vi x9), (41, vi (w64 (2 + x9))), (42, vs (vaddr (some ⟨eb4, eo5, none⟩) sc1 (w64 (2 + x9)).toNat 1) (cut a1 (w64 (2 + x9)) (a1.length : Int)).length (sc1 - (w64 (2 + x9)).toNat))] mo HS ?_
         refine T.ev [(36, _), (37, _), (38, _), (42, _)] [] [0, 1, 2, 3, 4, 5, 6] ⟨rfl, rfl, rfl, rfl, tv⟩ ⟨.mv 0, .mv 4, .n1 5 rfl rfl (fun w HS => X.loadSt 0 [vi x8.Kind, vi x8.Ns, vi x8.Nr, vb x8.Poll] HS rfl underlying188 rfl inf188 rfl rfl), .mv 1, .mv 6, .n1 40 rfl rfl (fun w HS => X.add rfl rfl), .n2 39 41 rfl rfl rfl (fun w HS => X.slL underlying32 inf5 rfl rfl c40), tv⟩ rfl (fun w HS => ?_)
         obtain ⟨t41, A42, H⟩ := bind_s H
         replace HS := HS.pm [1, 0, 2]
         refine ⟨_, Y.cl func199 (arq_Arq_numbered.calls A42 HS.j1 (rdC.part 1 (rdC.subM hr1 c40) rfl)), ?_⟩
         rintro _ w ⟨rfl, HS⟩
         replace HS := HS.o1
         refine T.nw HS ?_
         refine T.fn [] tv tv (fun w HS => ?_)
         refine At.blockEnd ?_
         replace HS := HS.pk [0, 2] [1]
         cases H
         exact At.end0 rfl ⟨_, rfl, rfl, HS⟩
   ·replace H := ite_f c13 H
    refine V.condT (sb (n_f (dF c13))) (V.ret (At.thenRet ?_))
    replace HS := HS.pk [1, 2] [0]
    cases H
    exact At.ret0 rfl ⟨_, rfl, rfl, HS⟩
mutual
def kcode_Read.j0 (a0 : List Int) (x5 : Bool) : Option (Int × Int × Int) := (if x5 = true then some (0, 0, 2) else some (w64 ((w64 (a0.getD (0 : Int).toNat 0)).tdiv (16)), (w64 (a0.getD (0 : Int).toNat 0)).tmod (16), 0))
end
def kcode_Read.f (a0 : List Int) : Option (Int × Int × Int) := (if (a0.length : Int) < 2 then some (0, 0, 3) else (if 0 ≤ (0 : Int) ∧ (0 : Int) < (a0.length : Int) then (if (a0.length : Int) > 2 then (kcode_Read.j0 a0 true) else (if 0 ≤ (1 : Int) ∧ (1 : Int) < (a0.length : Int) then (if (a0.getD (1 : Int).toNat 0) = (icom .u8 (a0.getD (0 : Int).toNat 0)) then (if (w64 ((w64 (a0.getD (0 : Int).toNat 0)).tdiv (16))) > 8 then (kcode_Read.j0 a0 true) else (kcode_Read.j0 a0 (decide (((w64 (a0.getD (0 : Int).toNat 0)).tmod (16)) > 1)))) else (kcode_Read.j0 a0 true)) else none)) else none))
theorem kcode_Read.calls {a0 : List Int} {R : As} {w0 w : World} {sa0 : Option Addr} {sc0 : Nat} {r : Int × Int × Int} (H : kcode_Read.f a0 = some r) (HS : Sep.St [R] w0 w) (hr0 : rdC R 1 (.slice sa0 a0.length sc0) a0.length (a0.map (Value.int .u8))) : Calls Tryz.prog 140 #[vs sa0 a0.length sc0] w (Ret fun u w => u = Value.tuple #[vi r.1, vi r.2.1, vi r.2.2] ∧ Sep.St [R] w0 w) := by
 unfold kcode_Read.f at H
 refine calls_enter func140 rfl rfl ?_
 have H : _ = some r := H
 refine V.seq (V.region (W.as rfl (W.as rfl (W.as rfl (W.nx (V.seq (V.seq (V.region (W.mv rfl (W.r (X.lenSl underlying32 rfl) rfl (W.r (X.cmp (decide ((a0.length : Int) < 2)) rfl rfl rfl rfl) rfl (W.nx ?_))))))))))))
 by_cases c1 : (a0.length : Int) < 2
 ·replace H := ite_t c1 H
  refine V.condT (sb (dT c1)) (V.seq (V.region (W.as rfl (W.as rfl (W.as rfl (W.nx (V.ret (At.thenRet ?_))))))))
  cases H
  exact At.ret3 rfl rfl rfl rfl ⟨_, rfl, rfl, HS⟩
 ·replace H := ite_f c1 H
  refine V.condF (sb (dF c1)) (V.skip (At.next (V.seq ?_)))
  obtain ⟨c2, H⟩ := ite_n H
  obtain ⟨eb3, eo4, hh⟩ := (rdC.at 0 hr0 HS rfl).some (by decide) c2.1 c2.2; subst hh
  refine V.dr [] [] [(10, vs (some ⟨eb3, eo4, none⟩) a0.length sc0), (11, po eb3 (eo4 + (0 : Int).toNat * 1)), (12, Value.int .u8 (a0.getD (0 : Int).toNat 0)), (13, vi (w64 (a0.getD (0 : Int).toNat 0))), (14, vi (w64 ((w64 (a0.getD (0 : Int).toNat 0)).tdiv (16)))), (15, vs (some ⟨eb3, eo4, none⟩) a0.length sc0), (16, po eb3 (eo4 + (0 : Int).toNat * 1)), (17, Value.int .u8 (a0.getD (0 : Int).toNat 0)), (18, vi (w64 (a0.getD (0 : Int).toNat 0))), (19, vi ((w64 (a0.getD (0 : Int).toNat 0)).tmod (16))), (5, vi (w64 ((w64 (a0.getD (0 : Int).toNat 0)).tdiv (16)))), (6, vi ((w64 (a0.getD (0 : Int).toNat 0)).tmod (16)))] mo HS ?_
  refine T.fn [(0, _), (5, _), (6, _)] ⟨rfl, rfl, rfl, tv⟩ ⟨.mv 0, .n1 10 rfl rfl (fun w HS => X.indexSl underlying32 inf5 rfl rfl c2.1 c2.2), .n1 11 rfl rfl (fun w HS => X.load underlying5 rfl rfl ((rdC.at 0 hr0 HS rfl).cellI c2.1 c2.2)), .n1 12 rfl rfl (fun w HS => X.conv underlying5 underlying3 rfl), .n1 13 rfl rfl (fun w HS => X.quo rfl rfl (by decide)), .mv 0, .n1 15 rfl rfl (fun w HS => X.indexSl underlying32 inf5 rfl rfl c2.1 c2.2), .n1 16 rfl rfl (fun w HS => X.load underlying5 rfl rfl ((rdC.at 0 hr0 HS rfl).cellI c2.1 c2.2)), .n1 17 rfl rfl (fun w HS => X.conv underlying5 underlying3 rfl), .n1 18 rfl rfl (fun w HS => X.rem rfl rfl (by decide)), .as 14, .as 19, tv⟩ (fun w HS => ?_)
  refine At.next (V.seq (V.meet (σ := Bool) (fun st w => match st with | x5 => Sep.St [R] w0 w ∧ kcode_Read.j0 a0 x5 = some r) (fun st => match st with | x5 => [(5, vi (w64 ((w64 (a0.getD (0 : Int).toNat 0)).tdiv (16)))), (6, vi ((w64 (a0.getD (0 : Int).toNat 0)).tmod (16))), (40, vb x5)]) ?_ ?_))
  ·by_cases c8 : (a0.length : Int) > 2
   ·replace H := ite_t c8 H
    refine V.dr [] [] [(20, vs (some ⟨eb3, eo4, none⟩) a0.length sc0), (21, vi (a0.length : Int)), (22, vb (decide ((a0.length : Int) > 2))), (23, vb (decide ((a0.length : Int) > 2))), (24, undef), (25, undef), (26, undef), (27, undef), (28, undef), (29, undef), (30, undef), (31, undef), (32, vb true), (33, vb true), (34, undef), (35, undef), (36, vb true), (37, vb true), (38, undef), (39, undef), (40, vb true)] mo HS ?_
    refine T.fn [(5, _), (6, _), (40, _)] ⟨rfl, rfl, rfl, tv⟩ ⟨.mv 0, .n1 20 rfl rfl (fun w HS => X.lenSl underlying32 rfl), .n1 21 rfl rfl (fun w HS => X.cmp (decide ((a0.length : Int) > 2)) rfl rfl rfl rfl), .mv 22, .gp 3 false true 23 rfl rfl (Option.some.inj (sb (dT c8))) rfl, .gp 3 false true 23 rfl rfl (Option.some.inj (sb (dT c8))) rfl, .gp 3 false true 23 rfl rfl (Option.some.inj (sb (dT c8))) rfl, .gp 3 false true 23 rfl rfl (Option.some.inj (sb (dT c8))) rfl, .gp 3 false true 23 rfl rfl (Option.some.inj (sb (dT c8))) rfl, .gp 3 false true 23 rfl rfl (Option.some.inj (sb (dT c8))) rfl, .gp 3 false true 23 rfl rfl (Option.some.inj (sb (dT c8))) rfl, .gp 3 false true 23 rfl rfl (Option.some.inj (sb (dT c8))) rfl, .n2 23 31 rfl rfl rfl (fun w HS => X.pickT (sb (dT c8)) rfl), .mv 32, .gp 13 false true 33 rfl rfl rfl rfl, .gp 13 false true 33 rfl rfl rfl rfl, .n2 33 35 rfl rfl rfl (fun w HS => X.pickT rfl rfl), .mv 36, .gp 17 false true 37 rfl rfl rfl rfl, .gp 17 false true 37 rfl rfl rfl rfl, .n2 37 39 rfl rfl rfl (fun w HS => X.pickT rfl rfl), tv⟩ (fun w HS => ?_)
    exact At.meet true ⟨rfl, rfl, rfl, tv⟩ ⟨HS, H⟩
   ·replace H := ite_f c8 H
    obtain ⟨c9, H⟩ := ite_n H
    by_cases c10 : (a0.getD (1 : Int).toNat 0) = (icom .u8 (a0.getD (0 : Int).toNat 0))
    ·replace H := ite_t c10 H
     by_cases c11 : (w64 ((w64 (a0.getD (0 : Int).toNat 0)).tdiv (16))) > 8
     ·replace H := ite_t c11 H
      refine V.dr [] [] [(20, vs (some ⟨eb3, eo4, none⟩) a0.length sc0), (21, vi (a0.length : Int)), (22, vb (decide ((a0.length : Int) > 2))), (23, vb (decide ((a0.length : Int) > 2))), (24, vs (some ⟨eb3, eo4, none⟩) a0.length sc0), (25, po eb3 (eo4 + (1 : Int).toNat * 1)), (26, Value.int .u8 (a0.getD (1 : Int).toNat 0)), (27, vs (some ⟨eb3, eo4, none⟩) a0.length sc0), (28, po eb3 (eo4 + (0 : Int).toNat * 1)), (29, Value.int .u8 (a0.getD (0 : Int).toNat 0)), (30, Value.int .u8 (icom .u8 (a0.getD (0 : Int).toNat 0))), (31, vb (!(decide ((a0.getD (1 : Int).toNat 0) = (icom .u8 (a0.getD (0 : Int).toNat 0)))))), (32, vb (!(decide ((a0.getD (1 : Int).toNat 0) = (icom .u8 (a0.getD (0 : Int).toNat 0)))))), (33, vb (!(decide ((a0.getD (1 : Int).toNat 0) = (icom .u8 (a0.getD (0 : Int).toNat 0)))))), (34, vi (w64 ((w64 (a0.getD (0 : Int).toNat 0)).tdiv (16)))), (35, vb (decide ((w64 ((w64 (a0.getD (0 : Int).toNat 0)).tdiv (16))) > 8))), (36, vb (decide ((w64 ((w64 (a0.getD (0 : Int).toNat 0)).tdiv (16))) > 8))), (37, vb (decide ((w64 ((w64 (a0.getD (0 : Int).toNat 0)).tdiv (16))) > 8))), (38, undef), (39, undef), (40, vb true)] mo HS ?_
      refine T.fn [(5, _), (6, _), (40, _)] ⟨rfl, rfl, rfl, tv⟩ ⟨.mv 0, .n1 20 rfl rfl (fun w HS => X.lenSl underlying32 rfl), .n1 21 rfl rfl (fun w HS => X.cmp (decide ((a0.length : Int) > 2)) rfl rfl rfl rfl), .mv 22, .gw [(0, _), (23, _)] 3 false 23 ⟨rfl, rfl, tv⟩ rfl (sb (dF c8)) (fun w HS => X.move rfl), .gw [(24, _), (23, _)] 3 false 23 ⟨rfl, rfl, tv⟩ rfl (sb (dF c8)) (fun w HS => X.indexSl underlying32 inf5 rfl rfl c9.1 c9.2), .gw [(25, _), (23, _)] 3 false 23 ⟨rfl, rfl, tv⟩ rfl (sb (dF c8)) (fun w HS => X.load underlying5 rfl rfl ((rdC.at 0 hr0 HS rfl).cellI c9.1 c9.2)), .gw [(0, _), (23, _)] 3 false 23 ⟨rfl, rfl, tv⟩ rfl (sb (dF c8)) (fun w HS => X.move rfl), .gw [(27, _), (23, _)] 3 false 23 ⟨rfl, rfl, tv⟩ rfl (sb (dF c8)) (fun w HS => X.indexSl underlying32 inf5 rfl rfl c2.1 c2.2), .gw [(28, _), (23, _)] 3 false 23 ⟨rfl, rfl, tv⟩ rfl (sb (dF c8)) (fun w HS => X.load underlying5 rfl rfl ((rdC.at 0 hr0 HS rfl).cellI c2.1 c2.2)), .gw [(29, _), (23, _)] 3 false 23 ⟨rfl, rfl, tv⟩ rfl (sb (dF c8)) (fun w HS => X.com rfl), .gw [(26, _), (30, _), (23, _)] 3 false 23 ⟨rfl, rfl, rfl, tv⟩ rfl (sb (dF c8)) (fun w HS => X.cmp (!(decide ((a0.getD (1 : Int).toNat 0) = (icom .u8 (a0.getD (0 : Int).toNat 0))))) rfl rfl rfl rfl), .n2 23 31 rfl rfl rfl (fun w HS => X.pickF (sb (dF c8)) rfl), .mv 32, .gw [(5, _), (33, _)] 13 false 33 ⟨rfl, rfl, tv⟩ rfl (sb (n_t (dT c10))) (fun w HS => X.move rfl), .gw [(34, _), (33, _)] 13 false 33 ⟨rfl, rfl, tv⟩ rfl (sb (n_t (dT c10))) (fun w HS => X.cmp (decide ((w64 ((w64 (a0.getD (0 : Int).toNat 0)).tdiv (16))) > 8)) rfl rfl rfl rfl), .n2 33 35 rfl rfl rfl (fun w HS => X.pickF (sb (n_t (dT c10))) rfl), .mv 36, .gp 17 false true 37 rfl rfl (Option.some.inj (sb (dT c11))) rfl, .gp 17 false true 37 rfl rfl (Option.some.inj (sb (dT c11))) rfl, .n2 37 39 rfl rfl rfl (fun w HS => X.pickT (sb (dT c11)) rfl), tv⟩ (fun w HS => ?_)
      exact At.meet true ⟨rfl, rfl, rfl, tv⟩ ⟨HS, H⟩
     ·replace H := ite_f c11 H
      refine V.dr [] [] [(20, vs (some ⟨eb3, eo4, none⟩) a0.length sc0), (21, vi (a0.length : Int)), (22, vb (decide ((a0.length : Int) > 2))), (23, vb (decide ((a0.length : Int) > 2))), (24, vs (some ⟨eb3, eo4, none⟩) a0.length sc0), (25, po eb3 (eo4 + (1 : Int).toNat * 1)), (26, Value.int .u8 (a0.getD (1 : Int).toNat 0)), (27, vs (some ⟨eb3, eo4, none⟩) a0.length sc0), (28, po eb3 (eo4 + (0 : Int).toNat * 1)), (29, Value.int .u8 (a0.getD (0 : Int).toNat 0)), (30, Value.int .u8 (icom .u8 (a0.getD (0 : Int).toNat 0))), (31, vb (!(decide ((a0.getD (1 : Int).toNat 0) = (icom .u8 (a0.getD (0 : Int).toNat 0)))))), (32, vb (!(decide ((a0.getD (1 : Int).toNat 0) = (icom .u8 (a0.getD (0 : Int).toNat 0)))))), (33, vb (!(decide ((a0.getD (1 : Int).toNat 0) = (icom .u8 (a0.getD (0 : Int).toNat 0)))))), (34, vi (w64 ((w64 (a0.getD (0 : Int).toNat 0)).tdiv (16)))), (35, vb (decide ((w64 ((w64 (a0.getD (0 : Int).toNat 0)).tdiv (16))) > 8))), (36, vb (decide ((w64 ((w64 (a0.getD (0 : Int).toNat 0)).tdiv (16))) > 8))), (37, vb (decide ((w64 ((w64 (a0.getD (0 : Int).toNat 0)).tdiv (16))) > 8))), (38, vi ((w64 (a0.getD (0 : Int).toNat 0)).tmod (16))), (39, vb (decide (((w64 (a0.getD (0 : Int).toNat 0)).tmod (16)) > 1))), (40, vb (decide (((w64 (a0.getD (0 : Int).toNat 0)).tmod (16)) > 1)))] mo HS ?_
      refine T.fn [(5, _), (6, _), (40, _)] ⟨rfl, rfl, rfl, tv⟩ ⟨.mv 0, .n1 20 rfl rfl (fun w HS => X.lenSl underlying32 rfl), .n1 21 rfl rfl (fun w HS => X.cmp (decide ((a0.length : Int) > 2)) rfl rfl rfl rfl), .mv 22, .gw [(0, _), (23, _)] 3 false 23 ⟨rfl, rfl, tv⟩ rfl (sb (dF c8)) (fun w HS => X.move rfl), .gw [(24, _), (23, _)] 3 false 23 ⟨rfl, rfl, tv⟩ rfl (sb (dF c8)) (fun w HS => X.indexSl underlying32 inf5 rfl rfl c9.1 c9.2), .gw [(25, _), (23, _)] 3 false 23 ⟨rfl, rfl, tv⟩ rfl (sb (dF c8)) (fun w HS => X.load underlying5 rfl rfl ((rdC.at 0 hr0 HS rfl).cellI c9.1 c9.2)), .gw [(0, _), (23, _)] 3 false 23 ⟨rfl, rfl, tv⟩ rfl (sb (dF c8)) (fun w HS => X.move rfl), .gw [(27, _), (23, _)] 3 false 23 ⟨rfl, rfl, tv⟩ rfl (sb (dF c8)) (fun w HS => X.indexSl underlying32 inf5 rfl rfl c2.1 c2.2), .gw [(28, _), (23, _)] 3 false 23 ⟨rfl, rfl, tv⟩ rfl (sb (dF c8)) (fun w HS => X.load underlying5 rfl rfl ((rdC.at 0 hr0 HS rfl).cellI c2.1 c2.2)), .gw [(29, _), (23, _)] 3 false 23 ⟨rfl, rfl, tv⟩ rfl (sb (dF c8)) (fun w HS => X.com rfl), .gw [(26, _), (30, _), (23, _)] 3 false 23 ⟨rfl, rfl, rfl, tv⟩ rfl (sb (dF c8)) (fun w HS => X.cmp (!(decide ((a0.getD (1 : Int).toNat 0) = (icom .u8 (a0.getD (0 : Int).toNat 0))))) rfl rfl rfl rfl), .n2 23 31 rfl rfl rfl (fun w HS => X.pickF (sb (dF c8)) rfl), .mv 32, .gw [(5, _), (33, _)] 13 false 33 ⟨rfl, rfl, tv⟩ rfl (sb (n_t (dT c10))) (fun w HS => X.move rfl), .gw [(34, _), (33, _)] 13 false 33 ⟨rfl, rfl, tv⟩ rfl (sb (n_t (dT c10))) (fun w HS => X.cmp (decide ((w64 ((w64 (a0.getD (0 : Int).toNat 0)).tdiv (16))) > 8)) rfl rfl rfl rfl), .n2 33 35 rfl rfl rfl (fun w HS => X.pickF (sb (n_t (dT c10))) rfl), .mv 36, .gw [(6, _), (37, _)] 17 false 37 ⟨rfl, rfl, tv⟩ rfl (sb (dF c11)) (fun w HS => X.move rfl), .gw [(38, _), (37, _)] 17 false 37 ⟨rfl, rfl, tv⟩ rfl (sb (dF c11)) (fun w HS => X.cmp (decide (((w64 (a0.getD (0 : Int).toNat 0)).tmod (16)) > 1)) rfl rfl rfl rfl), .n2 37 39 rfl rfl rfl (fun w HS => X.pickF (sb (dF c11)) rfl), tv⟩ (fun w HS => ?_)
      exact At.meet (decide (((w64 (a0.getD (0 : Int).toNat 0)).tmod (16)) > 1)) ⟨rfl, rfl, rfl, tv⟩ ⟨HS, H⟩
    ·replace H := ite_f c10 H
     refine V.dr [] [] [(20, vs (some ⟨eb3, eo4, none⟩) a0.length sc0), (21, vi (a0.length : Int)), (22, vb (decide ((a0.length : Int) > 2))), (23, vb (decide ((a0.length : Int) > 2))), (24, vs (some ⟨eb3, eo4, none⟩) a0.length sc0), (25, po eb3 (eo4 + (1 : Int).toNat * 1)), (26, Value.int .u8 (a0.getD (1 : Int).toNat 0)), (27, vs (some ⟨eb3, eo4, none⟩) a0.length sc0), (28, po eb3 (eo4 + (0 : Int).toNat * 1)), (29, Value.int .u8 (a0.getD (0 : Int).toNat 0)), (30, Value.int .u8 (icom .u8 (a0.getD (0 : Int).toNat 0))), (31, vb (!(decide ((a0.getD (1 : Int).toNat 0) = (icom .u8 (a0.getD (0 : Int).toNat 0)))))), (32, vb (!(decide ((a0.getD (1 : Int).toNat 0) = (icom .u8 (a0.getD (0 : Int).toNat 0)))))), (33, vb (!(decide ((a0.getD (1 : Int).toNat 0) = (icom .u8 (a0.getD (0 : Int).toNat 0)))))), (34, undef), (35, undef), (36, vb true), (37, vb true), (38, undef), (39, undef), (40, vb true)] mo HS ?_
     refine T.fn [(5, _), (6, _), (40, _)] ⟨rfl, rfl, rfl, tv⟩ ⟨.mv 0, .n1 20 rfl rfl (fun w HS => X.lenSl underlying32 rfl), .n1 21 rfl rfl (fun w HS => X.cmp (decide ((a0.length : Int) > 2)) rfl rfl rfl rfl), .mv 22, .gw [(0, _), (23, _)] 3 false 23 ⟨rfl, rfl, tv⟩ rfl (sb (dF c8)) (fun w HS => X.move rfl), .gw [(24, _), (23, _)] 3 false 23 ⟨rfl, rfl, tv⟩ rfl (sb (dF c8)) (fun w HS => X.indexSl underlying32 inf5 rfl rfl c9.1 c9.2), .gw [(25, _), (23, _)] 3 false 23 ⟨rfl, rfl, tv⟩ rfl (sb (dF c8)) (fun w HS => X.load underlying5 rfl rfl ((rdC.at 0 hr0 HS rfl).cellI c9.1 c9.2)), .gw [(0, _), (23, _)] 3 false 23 ⟨rfl, rfl, tv⟩ rfl (sb (dF c8)) (fun w HS => X.move rfl), .gw [(27, _), (23, _)] 3 false 23 ⟨rfl, rfl, tv⟩ rfl (sb (dF c8)) (fun w HS => X.indexSl underlying32 inf5 rfl rfl c2.1 c2.2), .gw [(28, _), (23, _)] 3 false 23 ⟨rfl, rfl, tv⟩ rfl (sb (dF c8)) (fun w HS => X.load underlying5 rfl rfl ((rdC.at 0 hr0 HS rfl).cellI c2.1 c2.2)), .gw [(29, _), (23, _)] 3 false 23 ⟨rfl, rfl, tv⟩ rfl (sb (dF c8)) (fun w HS => X.com rfl), .gw [(26, _), (30, _), (23, _)] 3 false 23 ⟨rfl, rfl, rfl, tv⟩ rfl (sb (dF c8)) (fun w HS => X.cmp (!(decide ((a0.getD (1 : Int).toNat 0) = (icom .u8 (a0.getD (0 : Int).toNat 0))))) rfl rfl rfl rfl), .n2 23 31 rfl rfl rfl (fun w HS => X.pickF (sb (dF c8)) rfl), .mv 32, .gp 13 false true 33 rfl rfl (Option.some.inj (sb (n_f (dF c10)))) rfl, .gp 13 false true 33 rfl rfl (Option.some.inj (sb (n_f (dF c10)))) rfl, .n2 33 35 rfl rfl rfl (fun w HS => X.pickT (sb (n_f (dF c10))) rfl), .mv 36, .gp 17 false true 37 rfl rfl rfl rfl, .gp 17 false true 37 rfl rfl rfl rfl, .n2 37 39 rfl rfl rfl (fun w HS => X.pickT rfl rfl), tv⟩ (fun w HS => ?_)
     exact At.meet true ⟨rfl, rfl, rfl, tv⟩ ⟨HS, H⟩
  ·rintro x5 w ⟨HS, H⟩
   unfold kcode_Read.j0 at H
   by_cases c7 : x5 = true
   ·replace H := ite_t c7 H
    refine V.condT (sb c7) (V.seq (V.region (W.as rfl (W.as rfl (W.as rfl (W.nx (V.ret (At.thenRet ?_))))))))
    cases H
    exact At.ret3 rfl rfl rfl rfl ⟨_, rfl, rfl, HS⟩
   ·replace H := ite_f c7 H
    refine V.condF (sb (b_f c7)) (V.skip (At.next (V.seq (V.region (W.mv rfl (W.mv rfl (W.as rfl (W.as rfl (W.as rfl (W.nx (V.ret ?_)))))))))))
    cases H
    exact At.ret3 rfl rfl rfl rfl ⟨_, rfl, rfl, HS⟩
def aps_Aps_Remote.f (a0 : aps_Aps) (a1 : Int) : Option aps_Aps := ((request_Of.f a1).bind fun t1 => some ({ a0 with remote := t1 } : aps_Aps))
theorem aps_Aps_Remote.calls {a0 : aps_Aps} {a1 : Int} {R : As} {w0 w : World} {b0 : Nat} {r : aps_Aps} (H : aps_Aps_Remote.f a0 a1 = some r) (HS : Sep.St [aps_Aps.at b0 a0, R] w0 w)  : Calls Tryz.prog 141 #[pt b0, vi a1] w (Ret fun u w => u = Value.tuple #[] ∧ Sep.St [aps_Aps.at b0 r, R] w0 w) := by
 unfold aps_Aps_Remote.f at H
 refine calls_enter func141 rfl rfl ?_
 have H : _ = some r := H
 refine V.region (W.mv rfl (W.mv rfl ?_))
 obtain ⟨t1, A2, H⟩ := bind_s H
 refine W.e (Y.cl func131 (request_Of.calls A2 HS.j0)) rfl ?_
 rintro _ w ⟨rfl, HS⟩
 replace HS := HS.o0
 refine W.nc rfl ?_
 obtain ⟨hi4, HS⟩ := aps_Aps.open HS
 refine W.fa fo138_4 rfl (W.st 0 4 HS inf3 rfl rfl rfl rfl rfl rfl fun w HS => ?_)
 refine W.nil ?_
 replace HS := aps_Aps.close tv HS
 cases H
 exact At.end0 rfl ⟨_, rfl, rfl, HS⟩
mutual
def station_Station_came.j0 (k : Nat) (a0 : station_Station) (a1 : Int) (a2 : List Int) (x7 : Bool) : Option station_Station := (if x7 = true then some a0 else (if 0 ≤ (1 : Int) ∧ (1 : Int) < (a2.length : Int) then (if 0 ≤ (2 : Int) ∧ (2 : Int) < (a2.length : Int) then (if 0 ≤ (3 : Int) ∧ (3 : Int) < (a2.length : Int) then (if 0 ≤ (4 : Int) ∧ (4 : Int) < (a2.length : Int) then ((twins_Table_Fresh.f k a0.twins (ior .u32 (ior .u32 (ior .u32 (IntKind.u32.wrap ((IntKind.u32.wrap (a2.getD (1 : Int).toNat 0)) * 2 ^ (min (24 : Int).toNat IntKind.u32.bits))) (IntKind.u32.wrap ((IntKind.u32.wrap (a2.getD (2 : Int).toNat 0)) * 2 ^ (min (16 : Int).toNat IntKind.u32.bits)))) (IntKind.u32.wrap ((IntKind.u32.wrap (a2.getD (3 : Int).toNat 0)) * 2 ^ (min (8 : Int).toNat IntKind.u32.bits)))) (IntKind.u32.wrap (a2.getD (4 : Int).toNat 0)))).bind fun t16 => (if t16.1 = true then (if 0 ≤ (5 : Int) ∧ (5 : Int) ≤ (a2.length : Int) ∧ (a2.length : Int) ≤ (a2.length : Int) then ((arq_Arq_Input.f k a0.arq (cut a2 (5 : Int) (a2.length : Int))).bind fun t20 => some ({ a0 with arq := t20, twins := t16.2 } : station_Station)) else none) else (if 0 ≤ a1 ∧ a1 < 2 then (if a1 = 0 then some (({ a0 with twins := t16.2, sides := (({ a0.sides.1 with counts := ({ a0.sides.1.counts with Twins := station_one.f a0.sides.1.counts.Twins } : api_Counts) } : station_side), a0.sides.2) } : station_Station)) else some (({ a0 with twins := t16.2, sides := (a0.sides.1, ({ a0.sides.2 with counts := ({ a0.sides.2.counts with Twins := station_one.f a0.sides.2.counts.Twins } : api_Counts) } : station_side)) } : station_Station))) else none))) else none) else none) else none) else none))
def station_Station_came.j1 (a0 : station_Station) (a2 : List Int) (x34 : Bool) : Option station_Station := (if x34 = true then (if 0 ≤ (1 : Int) ∧ (1 : Int) ≤ (a2.length : Int) ∧ (a2.length : Int) ≤ (a2.length : Int) then ((kcode_Read.f (cut a2 (1 : Int) (a2.length : Int))).bind fun t38 => (if t38.2.2 = 0 then ((aps_Aps_Remote.f a0.aps t38.1).bind fun t43 => some ({ a0 with aps := t43 } : station_Station)) else some a0)) else none) else some a0)
def station_Station_came.j2 (a0 : station_Station) (a2 : List Int) (x46 : Bool) : Option station_Station := (if x46 = true then (if 0 ≤ (1 : Int) ∧ (1 : Int) ≤ (a2.length : Int) ∧ (a2.length : Int) ≤ (a2.length : Int) then ((kcode_Read.f (cut a2 (1 : Int) (a2.length : Int))).bind fun t50 => (if t50.2.2 = 0 then ((aps_Aps_Remote.f a0.aps t50.1).bind fun t55 => some ({ a0 with aps := t55 } : station_Station)) else some a0)) else none) else some a0)
end
def station_Station_came.f (k : Nat) (a0 : station_Station) (a1 : Int) (a2 : List Int) : Option station_Station := (if 0 ≤ (0 : Int) ∧ (0 : Int) < (a2.length : Int) then (if (a2.getD (0 : Int).toNat 0) = 0 then (if (a2.length : Int) ≥ 5 then ((station_Station_twice.f a0).bind fun t27 => (if t27 = true then (station_Station_came.j0 k a0 a1 a2 false) else ((aps_Aps_Line.f a0.aps).bind fun t32 => (station_Station_came.j0 k a0 a1 a2 (!(decide (a1 = t32))))))) else (if (a2.getD (0 : Int).toNat 0) = 1 then (station_Station_came.j1 a0 a2 (decide (a1 = 1))) else (station_Station_came.j1 a0 a2 false))) else (if (a2.getD (0 : Int).toNat 0) = 1 then (station_Station_came.j2 a0 a2 (decide (a1 = 1))) else (station_Station_came.j2 a0 a2 false))) else none)
theorem station_Station_came.calls {k : Nat} {a0 : station_Station} {a1 : Int} {a2 : List Int} {R : As} {w0 w : World} {b0 : Nat} {sa2 : Option Addr} {sc2 : Nat} {r : station_Station} (H : station_Station_came.f k a0 a1 a2 = some r) (HS : Sep.St [station_Station.at b0 a0, R] w0 w) (hr2 : rdC R 1 (.slice sa2 a2.length sc2) a2.length (a2.map (Value.int .u8))) : Calls Tryz.prog 65 #[pt b0, vi a1, vs sa2 a2.length sc2] w (Ret fun u w => u = Value.tuple #[] ∧ Sep.St [station_Station.at b0 r, R] w0 w) := by
 unfold station_Station_came.f at H
 refine calls_enter func65 rfl rfl ?_
 have H : _ = some r := H
 refine V.block (V.seq (V.region (W.mv rfl ?_)))
 obtain ⟨c2, H⟩ := ite_n H
 obtain ⟨eb3, eo4, hh⟩ := (rdC.at 1 hr2 HS rfl).some (by decide) c2.1 c2.2; subst hh
 refine W.r (X.indexSl underlying32 inf5 rfl rfl c2.1 c2.2) rfl (W.r (X.load underlying5 rfl rfl ((rdC.at 1 hr2 HS rfl).cellI c2.1 c2.2)) rfl (W.r (X.cmp (decide ((a2.getD (0 : Int).toNat 0) = 0)) rfl rfl rfl rfl) rfl (W.mv rfl ?_)))
 by_cases c5 : (a2.getD (0 : Int).toNat 0) = 0
 ·replace H := ite_t c5 H
  refine W.want 15 rfl (sb (dT c5)) (W.mv rfl (W.want 15 rfl (sb (dT c5)) (W.r (X.lenSl underlying32 rfl) rfl (W.want 15 rfl (sb (dT c5)) (W.r (X.cmp (decide ((a2.length : Int) ≥ 5)) rfl rfl rfl rfl) rfl (W.r (X.pickT (sb (dT c5)) rfl) rfl (W.as rfl (W.nx ?_))))))))
  by_cases c6 : (a2.length : Int) ≥ 5
  ·replace H := ite_t c6 H
   refine V.condT (sb (dT c6)) (V.seq (V.meet (σ := Bool) (fun st w => match st with | x7 => Sep.St [station_Station.at b0 a0, R] w0 w ∧ ∃ kf8, kf8 ≤ k ∧ station_Station_came.j0 kf8 a0 a1 a2 x7 = some r) (fun st => match st with | x7 => [(0, pt b0), (1, vi a1), (2, vs (some ⟨eb3, eo4, none⟩) a2.length sc2), (31, vb x7)]) ?_ ?_))
   ·refine V.region (W.mv rfl ?_)
    obtain ⟨b16_25, b17_25, b18_25, b22_25, b23_25, b24_25, b32_25, b33_25, b34_25, hi26, HS⟩ := station_Station.open HS
    obtain ⟨t27, A28, H⟩ := bind_s H
    refine W.e (Y.cl func49 (station_Station_twice.calls A28 HS.j10)) rfl ?_
    rintro _ w ⟨rfl, HS⟩
    replace HS := HS.o10
    refine W.r (X.not rfl) rfl (W.mv rfl ?_)
    by_cases c29 : t27 = true
    ·replace H := ite_t c29 H
     refine W.pass 23 rfl (sb (n_t c29)) rfl rfl (W.pass 23 rfl (sb (n_t c29)) rfl rfl (W.pass 23 rfl (sb (n_t c29)) rfl rfl (W.pass 23 rfl (sb (n_t c29)) rfl rfl (W.pass 23 rfl (sb (n_t c29)) rfl rfl (W.pass 23 rfl (sb (n_t c29)) rfl rfl (W.pass 23 rfl (sb (n_t c29)) rfl rfl (W.r (X.pickF (sb (n_t c29)) rfl) rfl (W.nil ?_))))))))
     replace HS := station_Station.close tv HS
     exact At.meet false ⟨rfl, rfl, rfl, rfl, tv⟩ ⟨HS, k, by omega, H⟩
    ·replace H := ite_f c29 H
     refine W.want 23 rfl (sb (n_f (b_f c29))) (W.mv rfl (W.want 23 rfl (sb (n_f (b_f c29))) (W.mv rfl (W.want 23 rfl (sb (n_f (b_f c29))) (W.nc rfl (W.want 23 rfl (sb (n_f (b_f c29))) (W.fa fo87_2 rfl (W.want 23 rfl (sb (n_f (b_f c29))) (W.ld 0 HS underlying75 rfl rfl rfl rfl (W.want 23 rfl (sb (n_f (b_f c29))) ?_))))))))))
     replace HS := HS.fr 2
     obtain ⟨hi31, HS⟩ := aps_Aps.open HS
     obtain ⟨t32, A33, H⟩ := bind_s H
     refine W.e (Y.cl func48 (aps_Aps_Line.calls A33 HS.j1)) rfl ?_
     rintro _ w ⟨rfl, HS⟩
     replace HS := HS.o1
     refine W.want 23 rfl (sb (n_f (b_f c29))) (W.r (X.cmp (!(decide (a1 = t32))) rfl rfl rfl rfl) rfl (W.r (X.pickT (sb (n_f (b_f c29))) rfl) rfl (W.nil ?_)))
     replace HS := aps_Aps.close tv HS
     replace HS := HS.pm [1, 2, 0, 3, 4, 5, 6, 7, 8, 9, 10]
     replace HS := station_Station.close tv HS
     exact At.meet (!(decide (a1 = t32))) ⟨rfl, rfl, rfl, rfl, tv⟩ ⟨HS, k, by omega, H⟩
   ·rintro x7 w ⟨HS, kf8, hkkf8, H⟩
    unfold station_Station_came.j0 at H
    by_cases c9 : x7 = true
    ·replace H := ite_t c9 H
     refine V.condT (sb c9) (V.ret (At.thenRet (At.blockRet ?_)))
     cases H
     exact At.ret0 rfl ⟨_, rfl, rfl, HS⟩
    ·replace H := ite_f c9 H
     refine V.condF (sb (b_f c9)) (V.skip (At.next (V.seq ?_)))
     obtain ⟨c10, H⟩ := ite_n H
     obtain ⟨c11, H⟩ := ite_n H
     obtain ⟨c12, H⟩ := ite_n H
     obtain ⟨c13, H⟩ := ite_n H
     refine V.dr [] [] [(32, vs (some ⟨eb3, eo4, none⟩) a2.length sc2), (33, po eb3 (eo4 + (1 : Int).toNat * 1)), (34, Value.int .u8 (a2.getD (1 : Int).toNat 0)), (35, Value.int .u32 (IntKind.u32.wrap (a2.getD (1 : Int).toNat 0))), (36, Value.int .u32 (IntKind.u32.wrap ((IntKind.u32.wrap (a2.getD (1 : Int).toNat 0)) * 2 ^ (min (24 : Int).toNat IntKind.u32.bits)))), (37, vs (some ⟨eb3, eo4, none⟩) a2.length sc2), (38, po eb3 (eo4 + (2 : Int).toNat * 1)), (39, Value.int .u8 (a2.getD (2 : Int).toNat 0)), (40, Value.int .u32 (IntKind.u32.wrap (a2.getD (2 : Int).toNat 0))), (41, Value.int .u32 (IntKind.u32.wrap ((IntKind.u32.wrap (a2.getD (2 : Int).toNat 0)) * 2 ^ (min (16 : Int).toNat IntKind.u32.bits)))), (42, Value.int .u32 (ior .u32 (IntKind.u32.wrap ((IntKind.u32.wrap (a2.getD (1 : Int).toNat 0)) * 2 ^ (min (24 : Int).toNat IntKind.u32.bits))) (IntKind.u32.wrap ((IntKind.u32.wrap (a2.getD (2 : Int).toNat 0)) * 2 ^ (min (16 : Int).toNat IntKind.u32.bits))))), (43, vs (some ⟨eb3, eo4, none⟩) a2.length sc2), (44, po eb3 (eo4 + (3 : Int).toNat * 1)), (45, Value.int .u8 (a2.getD (3 : Int).toNat 0)), (46, Value.int .u32 (IntKind.u32.wrap (a2.getD (3 : Int).toNat 0))), (47, Value.int .u32 (IntKind.u32.wrap ((IntKind.u32.wrap (a2.getD (3 : Int).toNat 0)) * 2 ^ (min (8 : Int).toNat IntKind.u32.bits)))), (48, Value.int .u32 (ior .u32 (ior .u32 (IntKind.u32.wrap ((IntKind.u32.wrap (a2.getD (1 : Int).toNat 0)) * 2 ^ (min (24 : Int).toNat IntKind.u32.bits))) (IntKind.u32.wrap ((IntKind.u32.wrap (a2.getD (2 : Int).toNat 0)) * 2 ^ (min (16 : Int).toNat IntKind.u32.bits)))) (IntKind.u32.wrap ((IntKind.u32.wrap (a2.getD (3 : Int).toNat 0)) * 2 ^ (min (8 : Int).toNat IntKind.u32.bits))))), (49, vs (some ⟨eb3, eo4, none⟩) a2.length sc2), (50, po eb3 (eo4 + (4 : Int).toNat * 1)), (51, Value.int .u8 (a2.getD (4 : Int).toNat 0)), (52, Value.int .u32 (IntKind.u32.wrap (a2.getD (4 : Int).toNat 0))), (53, Value.int .u32 (ior .u32 (ior .u32 (ior .u32 (IntKind.u32.wrap ((IntKind.u32.wrap (a2.getD (1 : Int).toNat 0)) * 2 ^ (min (24 : Int).toNat IntKind.u32.bits))) (IntKind.u32.wrap ((IntKind.u32.wrap (a2.getD (2 : Int).toNat 0)) * 2 ^ (min (16 : Int).toNat IntKind.u32.bits)))) (IntKind.u32.wrap ((IntKind.u32.wrap (a2.getD (3 : Int).toNat 0)) * 2 ^ (min (8 : Int).toNat IntKind.u32.bits)))) (IntKind.u32.wrap (a2.getD (4 : Int).toNat 0)))), (6, Value.int .u32 (ior .u32 (ior .u32 (ior .u32 (IntKind.u32.wrap ((IntKind.u32.wrap (a2.getD (1 : Int).toNat 0)) * 2 ^ (min (24 : Int).toNat IntKind.u32.bits))) (IntKind.u32.wrap ((IntKind.u32.wrap (a2.getD (2 : Int).toNat 0)) * 2 ^ (min (16 : Int).toNat IntKind.u32.bits)))) (IntKind.u32.wrap ((IntKind.u32.wrap (a2.getD (3 : Int).toNat 0)) * 2 ^ (min (8 : Int).toNat IntKind.u32.bits)))) (IntKind.u32.wrap (a2.getD (4 : Int).toNat 0))))] mo HS ?_
     refine T.fn [(0, _), (1, _), (2, _), (6, _)] ⟨rfl, rfl, rfl, rfl, tv⟩ ⟨.mv 2, .n1 32 rfl rfl (fun w HS => X.indexSl underlying32 inf5 rfl rfl c10.1 c10.2), .n1 33 rfl rfl (fun w HS => X.load underlying5 rfl rfl ((rdC.at 1 hr2 HS rfl).cellI c10.1 c10.2)), .n1 34 rfl rfl (fun w HS => X.conv underlying5 underlying79 rfl), .n1 35 rfl rfl (fun w HS => X.shl rfl rfl (by decide)), .mv 2, .n1 37 rfl rfl (fun w HS => X.indexSl underlying32 inf5 rfl rfl c11.1 c11.2), .n1 38 rfl rfl (fun w HS => X.load underlying5 rfl rfl ((rdC.at 1 hr2 HS rfl).cellI c11.1 c11.2)), .n1 39 rfl rfl (fun w HS => X.conv underlying5 underlying79 rfl), .n1 40 rfl rfl (fun w HS => X.shl rfl rfl (by decide)), .n2 36 41 rfl rfl rfl (fun w HS => X.or rfl rfl), .mv 2, .n1 43 rfl rfl (fun w HS => X.indexSl underlying32 inf5 rfl rfl c12.1 c12.2), .n1 44 rfl rfl (fun w HS => X.load underlying5 rfl rfl ((rdC.at 1 hr2 HS rfl).cellI c12.1 c12.2)), .n1 45 rfl rfl (fun w HS => X.conv underlying5 underlying79 rfl), .n1 46 rfl rfl (fun w HS => X.shl rfl rfl (by decide)), .n2 42 47 rfl rfl rfl (fun w HS => X.or rfl rfl), .mv 2, .n1 49 rfl rfl (fun w HS => X.indexSl underlying32 inf5 rfl rfl c13.1 c13.2), .n1 50 rfl rfl (fun w HS => X.load underlying5 rfl rfl ((rdC.at 1 hr2 HS rfl).cellI c13.1 c13.2)), .n1 51 rfl rfl (fun w HS => X.conv underlying5 underlying79 rfl), .n2 48 52 rfl rfl rfl (fun w HS => X.or rfl rfl), .as 53, tv⟩ (fun w HS => ?_)
     refine At.next (V.seq (V.region (W.mv rfl (W.nc rfl ?_))))
     obtain ⟨b16_14, b17_14, b18_14, b22_14, b23_14, b24_14, b32_14, b33_14, b34_14, hi15, HS⟩ := station_Station.open HS
     refine W.fa fo87_3 rfl (W.ld 0 HS underlying77 rfl rfl rfl rfl (W.mv rfl ?_))
     obtain ⟨t16, A17, H⟩ := bind_s H
     replace HS := HS.pm [3, 0, 1, 2, 4, 5, 6, 7, 8, 9, 10]
     refine W.e (Y.cl func138 (twins_Table_Fresh.calls A17 HS.j1)) rfl ?_
     rintro _ w ⟨rfl, HS⟩
     replace HS := HS.o1
     refine W.nx ?_
     by_cases c18 : t16.1 = true
     ·replace H := ite_t c18 H
      refine V.condT (sb c18) ?_
      obtain ⟨c19, H⟩ := ite_n H
      refine V.dr [6] [] [(60, pt b0), (61, pt b0), (62, po b0 (0 + 16)), (63, pt b16_14), (64, vs (some ⟨eb3, eo4, none⟩) a2.length sc2), (65, vs (vaddr (some ⟨eb3, eo4, none⟩) sc2 (5 : Int).toNat 1) (cut a2 (5 : Int) (a2.length : Int)).length (sc2 - (5 : Int).toNat))] mo HS ?_
      refine T.ev [(63, _), (65, _)] [] [0, 1, 2, 3, 4, 5] ⟨rfl, rfl, tv⟩ ⟨.mv 0, .nc 60, .fa 61 fo87_1, .ld 62 1 underlying73, .mv 2, .n1 64 rfl rfl (fun w HS => X.slL underlying32 inf5 rfl rfl c19), tv⟩ rfl (fun w HS => ?_)
      obtain ⟨t20, A21, H⟩ := bind_s H
      replace HS := HS.pm [2, 0, 1, 3, 4, 5, 6, 7, 8, 9, 10]
      refine ⟨_, Y.cl func139 (arq_Arq_Input.calls A21 HS.j1 (rdC.part 9 (rdC.subM hr2 c19) rfl)), ?_⟩
      rintro _ w ⟨rfl, HS⟩
      replace HS := HS.o1
      refine T.nw HS ?_
      refine T.fn [] tv tv (fun w HS => ?_)
      refine At.blockEnd ?_
      replace HS := HS.pm [2, 0, 3, 1, 4, 5, 6, 7, 8, 9, 10]
      replace HS := station_Station.close tv HS
      cases H
      exact At.end0 rfl ⟨_, rfl, rfl, HS⟩
     ·replace H := ite_f c18 H
      refine V.condF (sb (b_f c18)) (V.region (W.mv rfl (W.mv rfl (W.nc rfl (W.fa fo87_7 rfl ?_)))))
      obtain ⟨c22, H⟩ := ite_n H
      by_cases c23 : a1 = 0
      ·replace H := ite_t c23 H
       refine W.r (X.indexArK 0 c23 underlying85 inf84 rfl rfl c22.1 c22.2) rfl (W.fa fo84_3 rfl (W.fa fo42_6 rfl (W.e (Y.cl func63 (station_one.cell 1 31 HS rfl rfl rfl)) rfl ?_)))
       rintro _ w ⟨rfl, HS⟩
       refine W.nil (At.blockEnd ?_)
       replace HS := HS.pm [1, 2, 3, 0, 4, 5, 6, 7, 8, 9, 10]
       replace HS := station_Station.close tv HS
       cases H
       exact At.end0 rfl ⟨_, rfl, rfl, HS⟩
      ·replace H := ite_f c23 H
       have hk24 : a1 = 1 := by omega
       refine W.r (X.indexArK 1 hk24 underlying85 inf84 rfl rfl c22.1 c22.2) rfl (W.fa fo84_3 rfl (W.fa fo42_6 rfl (W.e (Y.cl func63 (station_one.cell 1 41 HS rfl rfl rfl)) rfl ?_)))
       rintro _ w ⟨rfl, HS⟩
       refine W.nil (At.blockEnd ?_)
       replace HS := HS.pm [1, 2, 3, 0, 4, 5, 6, 7, 8, 9, 10]
       replace HS := station_Station.close tv HS
       cases H
       exact At.end0 rfl ⟨_, rfl, rfl, HS⟩
  ·replace H := ite_f c6 H
   refine V.condF (sb (dF c6)) (V.meet (σ := Bool) (fun st w => match st with | x34 => Sep.St [station_Station.at b0 a0, R] w0 w ∧ station_Station_came.j1 a0 a2 x34 = some r) (fun st => match st with | x34 => [(0, pt b0), (2, vs (some ⟨eb3, eo4, none⟩) a2.length sc2), (75, vb x34)]) ?_ ?_)
   ·refine V.region (W.mv rfl (W.r (X.indexSl underlying32 inf5 rfl rfl c2.1 c2.2) rfl (W.r (X.load underlying5 rfl rfl ((rdC.at 1 hr2 HS rfl).cellI c2.1 c2.2)) rfl (W.r (X.cmp (decide ((a2.getD (0 : Int).toNat 0) = 1)) rfl rfl rfl rfl) rfl (W.mv rfl ?_)))))
    by_cases c45 : (a2.getD (0 : Int).toNat 0) = 1
    ·replace H := ite_t c45 H
     refine W.want 80 rfl (sb (dT c45)) (W.mv rfl (W.want 80 rfl (sb (dT c45)) (W.r (X.cmp (decide (a1 = 1)) rfl rfl rfl rfl) rfl (W.r (X.pickT (sb (dT c45)) rfl) rfl (W.as rfl (W.nil ?_))))))
     exact At.meet (decide (a1 = 1)) ⟨rfl, rfl, rfl, tv⟩ ⟨HS, H⟩
    ·replace H := ite_f c45 H
     refine W.pass 80 rfl (sb (dF c45)) rfl rfl (W.pass 80 rfl (sb (dF c45)) rfl rfl (W.r (X.pickF (sb (dF c45)) rfl) rfl (W.as rfl (W.nil ?_))))
     exact At.meet false ⟨rfl, rfl, rfl, tv⟩ ⟨HS, H⟩
   ·rintro x34 w ⟨HS, H⟩
    unfold station_Station_came.j1 at H
    by_cases c36 : x34 = true
    ·replace H := ite_t c36 H
     refine V.condT (sb c36) (V.seq (V.region (W.mv rfl ?_)))
     obtain ⟨c37, H⟩ := ite_n H
     refine W.r (X.slL underlying32 inf5 rfl rfl c37) rfl ?_
     obtain ⟨t38, A39, H⟩ := bind_s H
     refine W.e (Y.cl func140 (kcode_Read.calls A39 HS.j0 (rdC.part 1 (rdC.subM hr2 c37) rfl))) rfl ?_
     rintro _ w ⟨rfl, HS⟩
     replace HS := HS.o0
     refine W.mv rfl (W.r (X.extract rfl rfl) rfl (W.r (X.extract rfl rfl) rfl (W.r (X.extract rfl rfl) rfl (W.as rfl (W.as rfl (W.as rfl (W.nx (V.seq (V.region (W.mv rfl (W.r (X.cmp (decide (t38.2.2 = 0)) rfl rfl rfl rfl) rfl (W.nx ?_))))))))))))
     by_cases c40 : t38.2.2 = 0
     ·replace H := ite_t c40 H
      refine V.condT (sb (dT c40)) (V.region (W.mv rfl (W.nc rfl ?_)))
      obtain ⟨b16_41, b17_41, b18_41, b22_41, b23_41, b24_41, b32_41, b33_41, b34_41, hi42, HS⟩ := station_Station.open HS
      refine W.fa fo87_2 rfl (W.ld 0 HS underlying75 rfl rfl rfl rfl (W.mv rfl ?_))
      obtain ⟨t43, A44, H⟩ := bind_s H
      replace HS := HS.pm [2, 0, 1, 3, 4, 5, 6, 7, 8, 9, 10]
      refine W.e (Y.cl func141 (aps_Aps_Remote.calls A44 HS.j1)) rfl ?_
      rintro _ w ⟨rfl, HS⟩
      replace HS := HS.o1
      refine W.nil (At.blockEnd ?_)
      replace HS := HS.pm [1, 2, 0, 3, 4, 5, 6, 7, 8, 9, 10]
      replace HS := station_Station.close tv HS
      cases H
      exact At.end0 rfl ⟨_, rfl, rfl, HS⟩
     ·replace H := ite_f c40 H
      refine V.condF (sb (dF c40)) (V.skip (At.blockEnd ?_))
      cases H
      exact At.end0 rfl ⟨_, rfl, rfl, HS⟩
    ·replace H := ite_f c36 H
     refine V.condF (sb (b_f c36)) (V.skip (At.blockEnd ?_))
     cases H
     exact At.end0 rfl ⟨_, rfl, rfl, HS⟩
 ·replace H := ite_f c5 H
  refine W.pass 15 rfl (sb (dF c5)) rfl rfl (W.pass 15 rfl (sb (dF c5)) rfl rfl (W.pass 15 rfl (sb (dF c5)) rfl rfl (W.r (X.pickF (sb (dF c5)) rfl) rfl (W.as rfl (W.nx (V.condF rfl (V.meet (σ := Bool) (fun st w => match st with | x46 => Sep.St [station_Station.at b0 a0, R] w0 w ∧ station_Station_came.j2 a0 a2 x46 = some r) (fun st => match st with | x46 => [(0, pt b0), (2, vs (some ⟨eb3, eo4, none⟩) a2.length sc2), (75, vb x46)]) ?_ ?_)))))))
  ·refine V.region (W.mv rfl (W.r (X.indexSl underlying32 inf5 rfl rfl c2.1 c2.2) rfl (W.r (X.load underlying5 rfl rfl ((rdC.at 1 hr2 HS rfl).cellI c2.1 c2.2)) rfl (W.r (X.cmp (decide ((a2.getD (0 : Int).toNat 0) = 1)) rfl rfl rfl rfl) rfl (W.mv rfl ?_)))))
   by_cases c57 : (a2.getD (0 : Int).toNat 0) = 1
   ·replace H := ite_t c57 H
    refine W.want 80 rfl (sb (dT c57)) (W.mv rfl (W.want 80 rfl (sb (dT c57)) (W.r (X.cmp (decide (a1 = 1)) rfl rfl rfl rfl) rfl (W.r (X.pickT (sb (dT c57)) rfl) rfl (W.as rfl (W.nil ?_))))))
    exact At.meet (decide (a1 = 1)) ⟨rfl, rfl, rfl, tv⟩ ⟨HS, H⟩
   ·replace H := ite_f c57 H
    refine W.pass 80 rfl (sb (dF c57)) rfl rfl (W.pass 80 rfl (sb (dF c57)) rfl rfl (W.r (X.pickF (sb (dF c57)) rfl) rfl (W.as rfl (W.nil ?_))))
    exact At.meet false ⟨rfl, rfl, rfl, tv⟩ ⟨HS, H⟩
  ·rintro x46 w ⟨HS, H⟩
   unfold station_Station_came.j2 at H
   by_cases c48 : x46 = true
   ·replace H := ite_t c48 H
    refine V.condT (sb c48) (V.seq (V.region (W.mv rfl ?_)))
    obtain ⟨c49, H⟩ := ite_n H
    refine W.r (X.slL underlying32 inf5 rfl rfl c49) rfl ?_
    obtain ⟨t50, A51, H⟩ := bind_s H
    refine W.e (Y.cl func140 (kcode_Read.calls A51 HS.j0 (rdC.part 1 (rdC.subM hr2 c49) rfl))) rfl ?_
    rintro _ w ⟨rfl, HS⟩
    replace HS := HS.o0
    refine W.mv rfl (W.r (X.extract rfl rfl) rfl (W.r (X.extract rfl rfl) rfl (W.r (X.extract rfl rfl) rfl (W.as rfl (W.as rfl (W.as rfl (W.nx (V.seq (V.region (W.mv rfl (W.r (X.cmp (decide (t50.2.2 = 0)) rfl rfl rfl rfl) rfl (W.nx ?_))))))))))))
    by_cases c52 : t50.2.2 = 0
    ·replace H := ite_t c52 H
     refine V.condT (sb (dT c52)) (V.region (W.mv rfl (W.nc rfl ?_)))
     obtain ⟨b16_53, b17_53, b18_53, b22_53, b23_53, b24_53, b32_53, b33_53, b34_53, hi54, HS⟩ := station_Station.open HS
     refine W.fa fo87_2 rfl (W.ld 0 HS underlying75 rfl rfl rfl rfl (W.mv rfl ?_))
     obtain ⟨t55, A56, H⟩ := bind_s H
     replace HS := HS.pm [2, 0, 1, 3, 4, 5, 6, 7, 8, 9, 10]
     refine W.e (Y.cl func141 (aps_Aps_Remote.calls A56 HS.j1)) rfl ?_
     rintro _ w ⟨rfl, HS⟩
     replace HS := HS.o1
     refine W.nil (At.blockEnd ?_)
     replace HS := HS.pm [1, 2, 0, 3, 4, 5, 6, 7, 8, 9, 10]
     replace HS := station_Station.close tv HS
     cases H
     exact At.end0 rfl ⟨_, rfl, rfl, HS⟩
    ·replace H := ite_f c52 H
     refine V.condF (sb (dF c52)) (V.skip (At.blockEnd ?_))
     cases H
     exact At.end0 rfl ⟨_, rfl, rfl, HS⟩
   ·replace H := ite_f c48 H
    refine V.condF (sb (b_f c48)) (V.skip (At.blockEnd ?_))
    cases H
    exact At.end0 rfl ⟨_, rfl, rfl, HS⟩
def station_Station_Push.f (k : Nat) (a0 : station_Station) (a1 : Int) (a2 : Int) : Option (Int × List Int × station_Station) := ((station_has.f a1).bind fun t2 => (if t2 = true then (if 0 ≤ a1 ∧ a1 < 2 then (if a1 = 0 then ((frame_Reader_Push.f k a0.sides.1.reader a2).bind fun t9 => (if t9.1 = 1 then ((monitor_Monitor_Note.f a0.sides.1.monitor true).bind fun t12 => ((station_Station_came.f k ({ a0 with sides := (({ reader := t9.2.2, monitor := t12.2, ring := a0.sides.1.ring, counts := ({ a0.sides.1.counts with Good := station_one.f a0.sides.1.counts.Good } : api_Counts) } : station_side), a0.sides.2) } : station_Station) a1 t9.2.1).bind fun t14 => some (t9.1, t9.2.1, t14))) else (if t9.1 = 2 then some (t9.1, t9.2.1, ({ a0 with sides := (({ a0.sides.1 with reader := t9.2.2, counts := ({ a0.sides.1.counts with Runts := station_one.f a0.sides.1.counts.Runts } : api_Counts) } : station_side), a0.sides.2) } : station_Station)) else (if t9.1 = 4 then ((monitor_Monitor_Note.f a0.sides.1.monitor false).bind fun t18 => some (t9.1, t9.2.1, ({ a0 with sides := (({ reader := t9.2.2, monitor := t18.2, ring := a0.sides.1.ring, counts := ({ a0.sides.1.counts with Bad := station_one.f a0.sides.1.counts.Bad } : api_Counts) } : station_side), a0.sides.2) } : station_Station))) else (if t9.1 = 3 then ((monitor_Monitor_Note.f a0.sides.1.monitor false).bind fun t21 => some (t9.1, t9.2.1, ({ a0 with sides := (({ reader := t9.2.2, monitor := t21.2, ring := a0.sides.1.ring, counts := ({ a0.sides.1.counts with Giants := station_one.f a0.sides.1.counts.Giants } : api_Counts) } : station_side), a0.sides.2) } : station_Station))) else (if t9.1 = 5 then ((monitor_Monitor_Note.f a0.sides.1.monitor false).bind fun t24 => some (t9.1, t9.2.1, ({ a0 with sides := (({ reader := t9.2.2, monitor := t24.2, ring := a0.sides.1.ring, counts := ({ a0.sides.1.counts with Aborts := station_one.f a0.sides.1.counts.Aborts } : api_Counts) } : station_side), a0.sides.2) } : station_Station))) else some (t9.1, t9.2.1, ({ a0 with sides := (({ a0.sides.1 with reader := t9.2.2 } : station_side), a0.sides.2) } : station_Station)))))))) else ((frame_Reader_Push.f k a0.sides.2.reader a2).bind fun t27 => (if t27.1 = 1 then ((monitor_Monitor_Note.f a0.sides.2.monitor true).bind fun t30 => ((station_Station_came.f k ({ a0 with sides := (a0.sides.1, ({ reader := t27.2.2, monitor := t30.2, ring := a0.sides.2.ring, counts := ({ a0.sides.2.counts with Good := station_one.f a0.sides.2.counts.Good } : api_Counts) } : station_side)) } : station_Station) a1 t27.2.1).bind fun t32 => some (t27.1, t27.2.1, t32))) else (if t27.1 = 2 then some (t27.1, t27.2.1, ({ a0 with sides := (a0.sides.1, ({ a0.sides.2 with reader := t27.2.2, counts := ({ a0.sides.2.counts with Runts := station_one.f a0.sides.2.counts.Runts } : api_Counts) } : station_side)) } : station_Station)) else (if t27.1 = 4 then ((monitor_Monitor_Note.f a0.sides.2.monitor false).bind fun t36 => some (t27.1, t27.2.1, ({ a0 with sides := (a0.sides.1, ({ reader := t27.2.2, monitor := t36.2, ring := a0.sides.2.ring, counts := ({ a0.sides.2.counts with Bad := station_one.f a0.sides.2.counts.Bad } : api_Counts) } : station_side)) } : station_Station))) else (if t27.1 = 3 then ((monitor_Monitor_Note.f a0.sides.2.monitor false).bind fun t39 => some (t27.1, t27.2.1, ({ a0 with sides := (a0.sides.1, ({ reader := t27.2.2, monitor := t39.2, ring := a0.sides.2.ring, counts := ({ a0.sides.2.counts with Giants := station_one.f a0.sides.2.counts.Giants } : api_Counts) } : station_side)) } : station_Station))) else (if t27.1 = 5 then ((monitor_Monitor_Note.f a0.sides.2.monitor false).bind fun t42 => some (t27.1, t27.2.1, ({ a0 with sides := (a0.sides.1, ({ reader := t27.2.2, monitor := t42.2, ring := a0.sides.2.ring, counts := ({ a0.sides.2.counts with Aborts := station_one.f a0.sides.2.counts.Aborts } : api_Counts) } : station_side)) } : station_Station))) else some (t27.1, t27.2.1, ({ a0 with sides := (a0.sides.1, ({ a0.sides.2 with reader := t27.2.2 } : station_side)) } : station_Station))))))))) else none) else some (0, ([] : List Int), a0)))
theorem station_Station_Push.calls {k : Nat} {a0 : station_Station} {a1 : Int} {a2 : Int} {R : As} {w0 w : World} {b0 : Nat} {r : Int × List Int × station_Station} (H : station_Station_Push.f k a0 a1 a2 = some r) (HS : Sep.St [station_Station.at b0 a0, R] w0 w)  : Calls Tryz.prog 15 #[pt b0, vi a1, Value.int .u8 a2] w (Ret fun u w => ∃ (aq1 : Option Addr) (cq1 : Nat), u = Value.tuple #[vi r.1, vs aq1 r.2.1.length cq1] ∧ Sep.St [row 5 1 (.slice aq1 r.2.1.length cq1) r.2.1.length (r.2.1.map (Value.int .u8)), station_Station.at b0 r.2.2, R] w0 w) := by
 unfold station_Station_Push.f at H
 refine calls_enter func15 rfl rfl ?_
 have H : _ = some r := H
 refine V.seq (V.region (W.as rfl (W.as rfl (W.nx (V.seq (V.seq (V.region (W.mv rfl ?_))))))))
 obtain ⟨t2, A3, H⟩ := bind_s H
 refine W.e (Y.cl func61 (station_has.calls A3 HS.j0)) rfl ?_
 rintro _ w ⟨rfl, HS⟩
 replace HS := HS.o0
 refine W.r (X.not rfl) rfl (W.nx ?_)
 by_cases c4 : t2 = true
 ·replace H := ite_t c4 H
  refine V.condF (sb (n_t c4)) (V.skip (At.next (V.seq (V.region (W.mv rfl (W.mv rfl (W.nc rfl ?_)))))))
  obtain ⟨b16_5, b17_5, b18_5, b22_5, b23_5, b24_5, b32_5, b33_5, b34_5, hi6, HS⟩ := station_Station.open HS
  refine W.fa fo87_7 rfl ?_
  obtain ⟨c7, H⟩ := ite_n H
  by_cases c8 : a1 = 0
  ·replace H := ite_t c8 H
   refine W.r (X.indexArK 0 c8 underlying85 inf84 rfl rfl c7.1 c7.2) rfl (W.as rfl (W.nx (V.seq (V.region (W.mv rfl (W.nc rfl (W.fa fo84_0 rfl (W.ld 0 HS underlying80 rfl rfl rfl rfl (W.mv rfl ?_)))))))))
   obtain ⟨t9, A10, H⟩ := bind_s H
   replace HS := HS.pm [4, 0, 1, 2, 3, 5, 6, 7, 8, 9, 10]
   refine W.e (Y.cl func62 (frame_Reader_Push.calls A10 HS.j1)) rfl ?_
   rintro _ w ⟨at9_1, ct9_1, rfl, HS⟩
   replace HS := HS.o2
   refine W.mv rfl (W.r (X.extract rfl rfl) rfl (W.r (X.extract rfl rfl) rfl (W.as rfl (W.as rfl (W.nx (V.seq (V.seq (V.region (W.mv rfl (W.nx (V.block (V.seq (V.region (W.r (X.cmp (decide (t9.1 = 1)) rfl rfl rfl rfl) rfl (W.as rfl (W.nx ?_))))))))))))))))
   by_cases c11 : t9.1 = 1
   ·replace H := ite_t c11 H
    refine V.condT (sb (dT c11)) (V.seq (V.region (W.mv rfl (W.nc rfl (W.fa fo84_3 rfl (W.fa fo42_0 rfl (W.e (Y.cl func63 (station_one.cell 2 25 HS rfl rfl rfl)) rfl ?_)))))))
    rintro _ w ⟨rfl, HS⟩
    refine W.nx (V.seq (V.region (W.mv rfl (W.nc rfl (W.fa fo84_1 rfl (W.ld 2 HS underlying81 rfl rfl rfl rfl ?_))))))
    obtain ⟨t12, A13, H⟩ := bind_s H
    replace HS := HS.pm [6, 0, 1, 2, 3, 4, 5, 7, 8, 9, 10, 11]
    refine W.e (Y.cl func64 (monitor_Monitor_Note.calls A13 HS.j1)) rfl ?_
    rintro _ w ⟨rfl, HS⟩
    replace HS := HS.o1
    refine W.nx (V.region (W.mv rfl (W.mv rfl (W.mv rfl ?_))))
    replace HS := HS.pm [3, 4, 5, 6, 2, 0, 7, 8, 9, 10, 1, 11]
    replace HS := station_Station.close tv HS
    obtain ⟨t14, A15, H⟩ := bind_s H
    refine W.e (Y.cl func65 (station_Station_came.calls A15 HS.j1 (rdC.part 0 row_rd rfl))) rfl ?_
    rintro _ w ⟨rfl, HS⟩
    replace HS := HS.o1
    refine W.nil (At.blockEnd (At.next (V.seq (V.region (W.mv rfl (W.mv rfl (W.as rfl (W.as rfl (W.nx (V.ret ?_))))))))))
    replace HS := HS.pk [1, 0, 2] []
    cases H
    exact At.ret2 rfl rfl rfl ⟨_, rfl, at9_1, ct9_1, rfl, HS⟩
   ·replace H := ite_f c11 H
    refine V.condF (sb (dF c11)) (V.seq (V.region (W.r (X.cmp (decide (t9.1 = 2)) rfl rfl rfl rfl) rfl (W.as rfl (W.nx ?_)))))
    by_cases c16 : t9.1 = 2
    ·replace H := ite_t c16 H
     refine V.condT (sb (dT c16)) (V.region (W.mv rfl (W.nc rfl (W.fa fo84_3 rfl (W.fa fo42_3 rfl (W.e (Y.cl func63 (station_one.cell 2 28 HS rfl rfl rfl)) rfl ?_))))))
     rintro _ w ⟨rfl, HS⟩
     refine W.nil (At.blockEnd (At.next (V.seq (V.region (W.mv rfl (W.mv rfl (W.as rfl (W.as rfl (W.nx (V.ret ?_))))))))))
     replace HS := HS.pm [2, 3, 4, 5, 1, 6, 7, 8, 9, 10, 0, 11]
     replace HS := station_Station.close tv HS
     replace HS := HS.pk [1, 0, 2] []
     cases H
     exact At.ret2 rfl rfl rfl ⟨_, rfl, at9_1, ct9_1, rfl, HS⟩
    ·replace H := ite_f c16 H
     refine V.condF (sb (dF c16)) (V.seq (V.region (W.r (X.cmp (decide (t9.1 = 4)) rfl rfl rfl rfl) rfl (W.as rfl (W.nx ?_)))))
     by_cases c17 : t9.1 = 4
     ·replace H := ite_t c17 H
      refine V.condT (sb (dT c17)) (V.seq (V.region (W.mv rfl (W.nc rfl (W.fa fo84_3 rfl (W.fa fo42_1 rfl (W.e (Y.cl func63 (station_one.cell 2 26 HS rfl rfl rfl)) rfl ?_)))))))
      rintro _ w ⟨rfl, HS⟩
      refine W.nx (V.region (W.mv rfl (W.nc rfl (W.fa fo84_1 rfl (W.ld 2 HS underlying81 rfl rfl rfl rfl ?_)))))
      obtain ⟨t18, A19, H⟩ := bind_s H
      replace HS := HS.pm [6, 0, 1, 2, 3, 4, 5, 7, 8, 9, 10, 11]
      refine W.e (Y.cl func64 (monitor_Monitor_Note.calls A19 HS.j1)) rfl ?_
      rintro _ w ⟨rfl, HS⟩
      replace HS := HS.o1
      refine W.nil (At.blockEnd (At.next (V.seq (V.region (W.mv rfl (W.mv rfl (W.as rfl (W.as rfl (W.nx (V.ret ?_))))))))))
      replace HS := HS.pm [3, 4, 5, 6, 2, 0, 7, 8, 9, 10, 1, 11]
      replace HS := station_Station.close tv HS
      replace HS := HS.pk [1, 0, 2] []
      cases H
      exact At.ret2 rfl rfl rfl ⟨_, rfl, at9_1, ct9_1, rfl, HS⟩
     ·replace H := ite_f c17 H
      refine V.condF (sb (dF c17)) (V.seq (V.region (W.r (X.cmp (decide (t9.1 = 3)) rfl rfl rfl rfl) rfl (W.as rfl (W.nx ?_)))))
      by_cases c20 : t9.1 = 3
      ·replace H := ite_t c20 H
       refine V.condT (sb (dT c20)) (V.seq (V.region (W.mv rfl (W.nc rfl (W.fa fo84_3 rfl (W.fa fo42_4 rfl (W.e (Y.cl func63 (station_one.cell 2 29 HS rfl rfl rfl)) rfl ?_)))))))
       rintro _ w ⟨rfl, HS⟩
       refine W.nx (V.region (W.mv rfl (W.nc rfl (W.fa fo84_1 rfl (W.ld 2 HS underlying81 rfl rfl rfl rfl ?_)))))
       obtain ⟨t21, A22, H⟩ := bind_s H
       replace HS := HS.pm [6, 0, 1, 2, 3, 4, 5, 7, 8, 9, 10, 11]
       refine W.e (Y.cl func64 (monitor_Monitor_Note.calls A22 HS.j1)) rfl ?_
       rintro _ w ⟨rfl, HS⟩
       replace HS := HS.o1
       refine W.nil (At.blockEnd (At.next (V.seq (V.region (W.mv rfl (W.mv rfl (W.as rfl (W.as rfl (W.nx (V.ret ?_))))))))))
       replace HS := HS.pm [3, 4, 5, 6, 2, 0, 7, 8, 9, 10, 1, 11]
       replace HS := station_Station.close tv HS
       replace HS := HS.pk [1, 0, 2] []
       cases H
       exact At.ret2 rfl rfl rfl ⟨_, rfl, at9_1, ct9_1, rfl, HS⟩
      ·replace H := ite_f c20 H
       refine V.condF (sb (dF c20)) (V.seq (V.region (W.r (X.cmp (decide (t9.1 = 5)) rfl rfl rfl rfl) rfl (W.as rfl (W.nx ?_)))))
       by_cases c23 : t9.1 = 5
       ·replace H := ite_t c23 H
        refine V.condT (sb (dT c23)) (V.seq (V.region (W.mv rfl (W.nc rfl (W.fa fo84_3 rfl (W.fa fo42_2 rfl (W.e (Y.cl func63 (station_one.cell 2 27 HS rfl rfl rfl)) rfl ?_)))))))
        rintro _ w ⟨rfl, HS⟩
        refine W.nx (V.region (W.mv rfl (W.nc rfl (W.fa fo84_1 rfl (W.ld 2 HS underlying81 rfl rfl rfl rfl ?_)))))
        obtain ⟨t24, A25, H⟩ := bind_s H
        replace HS := HS.pm [6, 0, 1, 2, 3, 4, 5, 7, 8, 9, 10, 11]
        refine W.e (Y.cl func64 (monitor_Monitor_Note.calls A25 HS.j1)) rfl ?_
        rintro _ w ⟨rfl, HS⟩
        replace HS := HS.o1
        refine W.nil (At.blockEnd (At.next (V.seq (V.region (W.mv rfl (W.mv rfl (W.as rfl (W.as rfl (W.nx (V.ret ?_))))))))))
        replace HS := HS.pm [3, 4, 5, 6, 2, 0, 7, 8, 9, 10, 1, 11]
        replace HS := station_Station.close tv HS
        replace HS := HS.pk [1, 0, 2] []
        cases H
        exact At.ret2 rfl rfl rfl ⟨_, rfl, at9_1, ct9_1, rfl, HS⟩
       ·replace H := ite_f c23 H
        refine V.condF (sb (dF c23)) (V.skip (At.blockEnd (At.next (V.seq (V.region (W.mv rfl (W.mv rfl (W.as rfl (W.as rfl (W.nx (V.ret ?_)))))))))))
        replace HS := HS.pm [2, 3, 4, 5, 1, 6, 7, 8, 9, 10, 0, 11]
        replace HS := station_Station.close tv HS
        replace HS := HS.pk [1, 0, 2] []
        cases H
        exact At.ret2 rfl rfl rfl ⟨_, rfl, at9_1, ct9_1, rfl, HS⟩
  ·replace H := ite_f c8 H
   have hk26 : a1 = 1 := by omega
   refine W.r (X.indexArK 1 hk26 underlying85 inf84 rfl rfl c7.1 c7.2) rfl (W.as rfl (W.nx (V.seq (V.region (W.mv rfl (W.nc rfl (W.fa fo84_0 rfl (W.ld 0 HS underlying80 rfl rfl rfl rfl (W.mv rfl ?_)))))))))
   obtain ⟨t27, A28, H⟩ := bind_s H
   replace HS := HS.pm [7, 0, 1, 2, 3, 4, 5, 6, 8, 9, 10]
   refine W.e (Y.cl func62 (frame_Reader_Push.calls A28 HS.j1)) rfl ?_
   rintro _ w ⟨at27_1, ct27_1, rfl, HS⟩
   replace HS := HS.o2
   refine W.mv rfl (W.r (X.extract rfl rfl) rfl (W.r (X.extract rfl rfl) rfl (W.as rfl (W.as rfl (W.nx (V.seq (V.seq (V.region (W.mv rfl (W.nx (V.block (V.seq (V.region (W.r (X.cmp (decide (t27.1 = 1)) rfl rfl rfl rfl) rfl (W.as rfl (W.nx ?_))))))))))))))))
   by_cases c29 : t27.1 = 1
   ·replace H := ite_t c29 H
    refine V.condT (sb (dT c29)) (V.seq (V.region (W.mv rfl (W.nc rfl (W.fa fo84_3 rfl (W.fa fo42_0 rfl (W.e (Y.cl func63 (station_one.cell 2 35 HS rfl rfl rfl)) rfl ?_)))))))
    rintro _ w ⟨rfl, HS⟩
    refine W.nx (V.seq (V.region (W.mv rfl (W.nc rfl (W.fa fo84_1 rfl (W.ld 2 HS underlying81 rfl rfl rfl rfl ?_))))))
    obtain ⟨t30, A31, H⟩ := bind_s H
    replace HS := HS.pm [9, 0, 1, 2, 3, 4, 5, 6, 7, 8, 10, 11]
    refine W.e (Y.cl func64 (monitor_Monitor_Note.calls A31 HS.j1)) rfl ?_
    rintro _ w ⟨rfl, HS⟩
    replace HS := HS.o1
    refine W.nx (V.region (W.mv rfl (W.mv rfl (W.mv rfl ?_))))
    replace HS := HS.pm [3, 4, 5, 6, 7, 8, 9, 2, 0, 10, 1, 11]
    replace HS := station_Station.close tv HS
    obtain ⟨t32, A33, H⟩ := bind_s H
    refine W.e (Y.cl func65 (station_Station_came.calls A33 HS.j1 (rdC.part 0 row_rd rfl))) rfl ?_
    rintro _ w ⟨rfl, HS⟩
    replace HS := HS.o1
    refine W.nil (At.blockEnd (At.next (V.seq (V.region (W.mv rfl (W.mv rfl (W.as rfl (W.as rfl (W.nx (V.ret ?_))))))))))
    replace HS := HS.pk [1, 0, 2] []
    cases H
    exact At.ret2 rfl rfl rfl ⟨_, rfl, at27_1, ct27_1, rfl, HS⟩
   ·replace H := ite_f c29 H
    refine V.condF (sb (dF c29)) (V.seq (V.region (W.r (X.cmp (decide (t27.1 = 2)) rfl rfl rfl rfl) rfl (W.as rfl (W.nx ?_)))))
    by_cases c34 : t27.1 = 2
    ·replace H := ite_t c34 H
     refine V.condT (sb (dT c34)) (V.region (W.mv rfl (W.nc rfl (W.fa fo84_3 rfl (W.fa fo42_3 rfl (W.e (Y.cl func63 (station_one.cell 2 38 HS rfl rfl rfl)) rfl ?_))))))
     rintro _ w ⟨rfl, HS⟩
     refine W.nil (At.blockEnd (At.next (V.seq (V.region (W.mv rfl (W.mv rfl (W.as rfl (W.as rfl (W.nx (V.ret ?_))))))))))
     replace HS := HS.pm [2, 3, 4, 5, 6, 7, 8, 1, 9, 10, 0, 11]
     replace HS := station_Station.close tv HS
     replace HS := HS.pk [1, 0, 2] []
     cases H
     exact At.ret2 rfl rfl rfl ⟨_, rfl, at27_1, ct27_1, rfl, HS⟩
    ·replace H := ite_f c34 H
     refine V.condF (sb (dF c34)) (V.seq (V.region (W.r (X.cmp (decide (t27.1 = 4)) rfl rfl rfl rfl) rfl (W.as rfl (W.nx ?_)))))
     by_cases c35 : t27.1 = 4
     ·replace H := ite_t c35 H
      refine V.condT (sb (dT c35)) (V.seq (V.region (W.mv rfl (W.nc rfl (W.fa fo84_3 rfl (W.fa fo42_1 rfl (W.e (Y.cl func63 (station_one.cell 2 36 HS rfl rfl rfl)) rfl ?_)))))))
      rintro _ w ⟨rfl, HS⟩
      refine W.nx (V.region (W.mv rfl (W.nc rfl (W.fa fo84_1 rfl (W.ld 2 HS underlying81 rfl rfl rfl rfl ?_)))))
      obtain ⟨t36, A37, H⟩ := bind_s H
      replace HS := HS.pm [9, 0, 1, 2, 3, 4, 5, 6, 7, 8, 10, 11]
      refine W.e (Y.cl func64 (monitor_Monitor_Note.calls A37 HS.j1)) rfl ?_
      rintro _ w ⟨rfl, HS⟩
      replace HS := HS.o1
      refine W.nil (At.blockEnd (At.next (V.seq (V.region (W.mv rfl (W.mv rfl (W.as rfl (W.as rfl (W.nx (V.ret ?_))))))))))
      replace HS := HS.pm [3, 4, 5, 6, 7, 8, 9, 2, 0, 10, 1, 11]
      replace HS := station_Station.close tv HS
      replace HS := HS.pk [1, 0, 2] []
      cases H
      exact At.ret2 rfl rfl rfl ⟨_, rfl, at27_1, ct27_1, rfl, HS⟩
     ·replace H := ite_f c35 H
      refine V.condF (sb (dF c35)) (V.seq (V.region (W.r (X.cmp (decide (t27.1 = 3)) rfl rfl rfl rfl) rfl (W.as rfl (W.nx ?_)))))
      by_cases c38 : t27.1 = 3
      ·replace H := ite_t c38 H
       refine V.condT (sb (dT c38)) (V.seq (V.region (W.mv rfl (W.nc rfl (W.fa fo84_3 rfl (W.fa fo42_4 rfl (W.e (Y.cl func63 (station_one.cell 2 39 HS rfl rfl rfl)) rfl ?_)))))))
       rintro _ w ⟨rfl, HS⟩
       refine W.nx (V.region (W.mv rfl (W.nc rfl (W.fa fo84_1 rfl (W.ld 2 HS underlying81 rfl rfl rfl rfl ?_)))))
       obtain ⟨t39, A40, H⟩ := bind_s H
       replace HS := HS.pm [9, 0, 1, 2, 3, 4, 5, 6, 7, 8, 10, 11]
       refine W.e (Y.cl func64 (monitor_Monitor_Note.calls A40 HS.j1)) rfl ?_
       rintro _ w ⟨rfl, HS⟩
       replace HS := HS.o1
       refine W.nil (At.blockEnd (At.next (V.seq (V.region (W.mv rfl (W.mv rfl (W.as rfl (W.as rfl (W.nx (V.ret ?_))))))))))
       replace HS := HS.pm [3, 4, 5, 6, 7, 8, 9, 2, 0, 10, 1, 11]
       replace HS := station_Station.close tv HS
       replace HS := HS.pk [1, 0, 2] []
       cases H
       exact At.ret2 rfl rfl rfl ⟨_, rfl, at27_1, ct27_1, rfl, HS⟩
      ·replace H := ite_f c38 H
       refine V.condF (sb (dF c38)) (V.seq (V.region (W.r (X.cmp (decide (t27.1 = 5)) rfl rfl rfl rfl) rfl (W.as rfl (W.nx ?_)))))
       by_cases c41 : t27.1 = 5
       ·replace H := ite_t c41 H
        refine V.condT (sb (dT c41)) (V.seq (V.region (W.mv rfl (W.nc rfl (W.fa fo84_3 rfl (W.fa fo42_2 rfl (W.e (Y.cl func63 (station_one.cell 2 37 HS rfl rfl rfl)) rfl ?_)))))))
        rintro _ w ⟨rfl, HS⟩
        refine W.nx (V.region (W.mv rfl (W.nc rfl (W.fa fo84_1 rfl (W.ld 2 HS underlying81 rfl rfl rfl rfl ?_)))))
        obtain ⟨t42, A43, H⟩ := bind_s H
        replace HS := HS.pm [9, 0, 1, 2, 3, 4, 5, 6, 7, 8, 10, 11]
        refine W.e (Y.cl func64 (monitor_Monitor_Note.calls A43 HS.j1)) rfl ?_
        rintro _ w ⟨rfl, HS⟩
        replace HS := HS.o1
        refine W.nil (At.blockEnd (At.next (V.seq (V.region (W.mv rfl (W.mv rfl (W.as rfl (W.as rfl (W.nx (V.ret ?_))))))))))
        replace HS := HS.pm [3, 4, 5, 6, 7, 8, 9, 2, 0, 10, 1, 11]
        replace HS := station_Station.close tv HS
        replace HS := HS.pk [1, 0, 2] []
        cases H
        exact At.ret2 rfl rfl rfl ⟨_, rfl, at27_1, ct27_1, rfl, HS⟩
       ·replace H := ite_f c41 H
        refine V.condF (sb (dF c41)) (V.skip (At.blockEnd (At.next (V.seq (V.region (W.mv rfl (W.mv rfl (W.as rfl (W.as rfl (W.nx (V.ret ?_)))))))))))
        replace HS := HS.pm [2, 3, 4, 5, 6, 7, 8, 1, 9, 10, 0, 11]
        replace HS := station_Station.close tv HS
        replace HS := HS.pk [1, 0, 2] []
        cases H
        exact At.ret2 rfl rfl rfl ⟨_, rfl, at27_1, ct27_1, rfl, HS⟩
 ·replace H := ite_f c4 H
  refine V.condT (sb (n_f (b_f c4))) (V.seq (V.region (W.as rfl (W.as rfl (W.nx (V.ret (At.thenRet ?_)))))))
  replace HS := row_nilF (Value.int .u8) 5 1 HS
  cases H
  exact At.ret2 rfl rfl rfl ⟨_, rfl, none, 0, rfl, HS⟩
def ring_Ring_Dropped.f (a0 : ring_Ring) : Option Int := some a0.dropped
theorem ring_Ring_Dropped.calls {a0 : ring_Ring} {R : As} {w0 w : World} {b0 : Nat} {a1_p0 : Option Addr} {c1_p0 : Nat} {a3_p0 : Option Addr} {c3_p0 : Nat} {r : Int} (H : ring_Ring_Dropped.f a0 = some r) (HS : Sep.St [blk b0 (#[vi a0.room, vs a1_p0 a0.b.length c1_p0, vi a0.begun, vs a3_p0 a0.pieces.length c3_p0, vi a0.dropped]) 149, row 5 1 (.slice a1_p0 a0.b.length c1_p0) a0.b.length (a0.b.map (Value.int .u8)), row 3 1 (.slice a3_p0 a0.pieces.length c3_p0) a0.pieces.length (a0.pieces.map (Value.int .i64)), R] w0 w)  : Calls Tryz.prog 66 #[pt b0] w (Ret fun u w => u = vi r ∧ Sep.St [blk b0 (#[vi a0.room, vs a1_p0 a0.b.length c1_p0, vi a0.begun, vs a3_p0 a0.pieces.length c3_p0, vi a0.dropped]) 149, row 5 1 (.slice a1_p0 a0.b.length c1_p0) a0.b.length (a0.b.map (Value.int .u8)), row 3 1 (.slice a3_p0 a0.pieces.length c3_p0) a0.pieces.length (a0.pieces.map (Value.int .i64)), R] w0 w) := by
 unfold ring_Ring_Dropped.f at H
 refine calls_enter func66 rfl rfl ?_
 have H : _ = some r := H
 refine V.seq (V.region (W.as rfl (W.nx (V.seq (V.region (W.mv rfl (W.nc rfl (W.fa fo149_4 rfl (W.ld 0 HS underlying3 rfl rfl rfl rfl (W.as rfl (W.nx (V.ret ?_))))))))))))
 cases H
 exact At.ret1 rfl rfl ⟨_, rfl, rfl, HS⟩
def api_Counts.at (b : Nat) (x : api_Counts) : As := fun h => True ∧ Sp [blk b (#[vi x.Good, vi x.Bad, vi x.Aborts, vi x.Runts, vi x.Giants, vi x.Dropped, vi x.Twins]) 42] h
theorem api_Counts.open {b : Nat} {x : api_Counts} {L : List As} {w0 w : World} (hs : Sep.St (api_Counts.at b x :: L) w0 w) : True ∧ Sep.St (blk b (#[vi x.Good, vi x.Bad, vi x.Aborts, vi x.Runts, vi x.Giants, vi x.Dropped, vi x.Twins]) 42 :: L) w0 w := by
 obtain ⟨ho, ht, hu, h, hon, h1, h2, hd, e1, e2, ⟨hi, hA⟩, hl⟩ := hs
 exact ⟨hi, St.open (m := [blk b (#[vi x.Good, vi x.Bad, vi x.Aborts, vi x.Runts, vi x.Giants, vi x.Dropped, vi x.Twins]) 42]) ⟨ho, ht, hu, h, hon, h1, h2, hd, e1, e2, hA, hl⟩⟩
theorem api_Counts.close {b : Nat} {l0 : Int} {l1 : Int} {l2 : Int} {l3 : Int} {l4 : Int} {l5 : Int} {l6 : Int}  {L : List As} {w0 w : World} (hi : True) (hs : Sep.St (blk b (#[vi l0, vi l1, vi l2, vi l3, vi l4, vi l5, vi l6]) 42 :: L) w0 w) : Sep.St (api_Counts.at b ({ Good := l0, Bad := l1, Aborts := l2, Runts := l3, Giants := l4, Dropped := l5, Twins := l6 } : api_Counts) :: L) w0 w := by
 have h2 := St.join (m := [blk b (#[vi l0, vi l1, vi l2, vi l3, vi l4, vi l5, vi l6]) 42]) hs
 exact h2.mono fun h hh => ⟨hi, hh⟩
mutual
def station_Station_Counts.j0 (a0 : station_Station) (a1 : Int) (x17 : api_Counts) : Option api_Counts := (if 0 ≤ a1 ∧ a1 < 2 then (if a1 = 0 then ((ring_Ring_Dropped.f a0.sides.1.ring).bind fun t23 => some ({ x17 with Dropped := t23 } : api_Counts)) else ((ring_Ring_Dropped.f a0.sides.2.ring).bind fun t33 => some ({ x17 with Dropped := t33 } : api_Counts))) else none)
end
def station_Station_Counts.f (a0 : station_Station) (a1 : Int) : Option api_Counts := ((station_has.f a1).bind fun t13 => (if t13 = true then (if 0 ≤ a1 ∧ a1 < 2 then (if a1 = 0 then (station_Station_Counts.j0 a0 a1 a0.sides.1.counts) else (station_Station_Counts.j0 a0 a1 a0.sides.2.counts)) else none) else some ({ Good := 0, Bad := 0, Aborts := 0, Runts := 0, Giants := 0, Dropped := 0, Twins := 0 } : api_Counts)))
theorem station_Station_Counts.calls {a0 : station_Station} {a1 : Int} {R : As} {w0 w : World} {b0 : Nat} {b16_p0 : Nat} {b17_p0 : Nat} {b18_p0 : Nat} {b22_p0 : Nat} {b23_p0 : Nat} {b24_p0 : Nat} {b32_p0 : Nat} {b33_p0 : Nat} {b34_p0 : Nat} {r : api_Counts} (H : station_Station_Counts.f a0 a1 = some r) (HS : Sep.St [blk b0 (#[vi a0.c.Mode, vi a0.c.Modulus, vi a0.c.Window, vi a0.c.T1, vi a0.c.N2, vi a0.c.Hold, vi a0.c.Wait, vi a0.c.Keep, vi a0.c.Queue, vi a0.c.Size, vi a0.c.Ring, vi a0.c.Rate, vi a0.c.Bad, vi a0.c.Good, vb a0.c.Revert, vb a0.c.Wide, pt b16_p0, pt b17_p0, pt b18_p0, Value.int .u32 a0.number, vi a0.steps, vi a0.line, pt b22_p0, pt b23_p0, pt b24_p0, vi a0.sides.1.counts.Good, vi a0.sides.1.counts.Bad, vi a0.sides.1.counts.Aborts, vi a0.sides.1.counts.Runts, vi a0.sides.1.counts.Giants, vi a0.sides.1.counts.Dropped, vi a0.sides.1.counts.Twins, pt b32_p0, pt b33_p0, pt b34_p0, vi a0.sides.2.counts.Good, vi a0.sides.2.counts.Bad, vi a0.sides.2.counts.Aborts, vi a0.sides.2.counts.Runts, vi a0.sides.2.counts.Giants, vi a0.sides.2.counts.Dropped, vi a0.sides.2.counts.Twins]) 87, arq_Arq.at b16_p0 a0.arq, aps_Aps.at b17_p0 a0.aps, twins_Table.at b18_p0 a0.twins, frame_Reader.at b22_p0 a0.sides.1.reader, monitor_Monitor.at b23_p0 a0.sides.1.monitor, ring_Ring.at b24_p0 a0.sides.1.ring, frame_Reader.at b32_p0 a0.sides.2.reader, monitor_Monitor.at b33_p0 a0.sides.2.monitor, ring_Ring.at b34_p0 a0.sides.2.ring, R] w0 w)  : Calls Tryz.prog 16 #[pt b0, vi a1] w (Ret fun u w => u = Value.agg #[vi r.Good, vi r.Bad, vi r.Aborts, vi r.Runts, vi r.Giants, vi r.Dropped, vi r.Twins] ∧ Sep.St [blk b0 (#[vi a0.c.Mode, vi a0.c.Modulus, vi a0.c.Window, vi a0.c.T1, vi a0.c.N2, vi a0.c.Hold, vi a0.c.Wait, vi a0.c.Keep, vi a0.c.Queue, vi a0.c.Size, vi a0.c.Ring, vi a0.c.Rate, vi a0.c.Bad, vi a0.c.Good, vb a0.c.Revert, vb a0.c.Wide, pt b16_p0, pt b17_p0, pt b18_p0, Value.int .u32 a0.number, vi a0.steps, vi a0.line, pt b22_p0, pt b23_p0, pt b24_p0, vi a0.sides.1.counts.Good, vi a0.sides.1.counts.Bad, vi a0.sides.1.counts.Aborts, vi a0.sides.1.counts.Runts, vi a0.sides.1.counts.Giants, vi a0.sides.1.counts.Dropped, vi a0.sides.1.counts.Twins, pt b32_p0, pt b33_p0, pt b34_p0, vi a0.sides.2.counts.Good, vi a0.sides.2.counts.Bad, vi a0.sides.2.counts.Aborts, vi a0.sides.2.counts.Runts, vi a0.sides.2.counts.Giants, vi a0.sides.2.counts.Dropped, vi a0.sides.2.counts.Twins]) 87, arq_Arq.at b16_p0 a0.arq, aps_Aps.at b17_p0 a0.aps, twins_Table.at b18_p0 a0.twins, frame_Reader.at b22_p0 a0.sides.1.reader, monitor_Monitor.at b23_p0 a0.sides.1.monitor, ring_Ring.at b24_p0 a0.sides.1.ring, frame_Reader.at b32_p0 a0.sides.2.reader, monitor_Monitor.at b33_p0 a0.sides.2.monitor, ring_Ring.at b34_p0 a0.sides.2.ring, R] w0 w) := by
 unfold station_Station_Counts.f at H
 refine calls_enter func16 rfl rfl ?_
 have H : _ = some r := H
 refine V.seq (V.region (W.e (Y.alloc (z := Value.agg (#[vi (0), vi (0), vi (0), vi (0), vi (0), vi (0), vi (0)])) HS ze42) rfl ?_))
 rintro _ w ⟨nb1, rfl, HS⟩
 refine W.nx (V.seq (V.seq (V.region (W.mv rfl ?_))))
 obtain ⟨t13, A14, H⟩ := bind_s H
 refine W.e (Y.cl func61 (station_has.calls A14 HS.j0)) rfl ?_
 rintro _ w ⟨rfl, HS⟩
 replace HS := HS.o0
 refine W.r (X.not rfl) rfl (W.nx ?_)
 by_cases c15 : t13 = true
 ·replace H := ite_t c15 H
  refine V.condF (sb (n_t c15)) (V.skip (At.next (V.meet (σ := Nat × api_Counts) (fun st w => match st with | (nb16, x17) => Sep.St [api_Counts.at nb16 x17, api_Counts.at nb1 ({ Good := 0, Bad := 0, Aborts := 0, Runts := 0, Giants := 0, Dropped := 0, Twins := 0 } : api_Counts), blk b0 (#[vi a0.c.Mode, vi a0.c.Modulus, vi a0.c.Window, vi a0.c.T1, vi a0.c.N2, vi a0.c.Hold, vi a0.c.Wait, vi a0.c.Keep, vi a0.c.Queue, vi a0.c.Size, vi a0.c.Ring, vi a0.c.Rate, vi a0.c.Bad, vi a0.c.Good, vb a0.c.Revert, vb a0.c.Wide, pt b16_p0, pt b17_p0, pt b18_p0, Value.int .u32 a0.number, vi a0.steps, vi a0.line, pt b22_p0, pt b23_p0, pt b24_p0, vi a0.sides.1.counts.Good, vi a0.sides.1.counts.Bad, vi a0.sides.1.counts.Aborts, vi a0.sides.1.counts.Runts, vi a0.sides.1.counts.Giants, vi a0.sides.1.counts.Dropped, vi a0.sides.1.counts.Twins, pt b32_p0, pt b33_p0, pt b34_p0, vi a0.sides.2.counts.Good, vi a0.sides.2.counts.Bad, vi a0.sides.2.counts.Aborts, vi a0.sides.2.counts.Runts, vi a0.sides.2.counts.Giants, vi a0.sides.2.counts.Dropped, vi a0.sides.2.counts.Twins]) 87, arq_Arq.at b16_p0 a0.arq, aps_Aps.at b17_p0 a0.aps, twins_Table.at b18_p0 a0.twins, frame_Reader.at b22_p0 a0.sides.1.reader, monitor_Monitor.at b23_p0 a0.sides.1.monitor, ring_Ring.at b24_p0 a0.sides.1.ring, frame_Reader.at b32_p0 a0.sides.2.reader, monitor_Monitor.at b33_p0 a0.sides.2.monitor, ring_Ring.at b34_p0 a0.sides.2.ring, R] w0 w ∧ station_Station_Counts.j0 a0 a1 x17 = some r) (fun st => match st with | (nb16, x17) => [(0, pt b0), (1, vi a1), (4, pt nb1), (5, pt nb16)]) ?_ ?_)))
  ·refine V.region (W.mv rfl (W.mv rfl (W.nc rfl (W.fa fo87_7 rfl ?_))))
   obtain ⟨c40, H⟩ := ite_n H
   by_cases c41 : a1 = 0
   ·replace H := ite_t c41 H
    refine W.r (X.indexArK 0 c41 underlying85 inf84 rfl rfl c40.1 c40.2) rfl (W.fa fo84_3 rfl (W.r (X.loadSt 1 [vi a0.sides.1.counts.Good, vi a0.sides.1.counts.Bad, vi a0.sides.1.counts.Aborts, vi a0.sides.1.counts.Runts, vi a0.sides.1.counts.Giants, vi a0.sides.1.counts.Dropped, vi a0.sides.1.counts.Twins] HS rfl underlying42 rfl inf42 rfl rfl) rfl (W.e (Y.alloc (z := Value.agg (#[vi (0), vi (0), vi (0), vi (0), vi (0), vi (0), vi (0)])) HS ze42) rfl ?_)))
    rintro _ w ⟨nb42, rfl, HS⟩
    refine W.en (Y.storeSt (c' := #[vi a0.sides.1.counts.Good, vi a0.sides.1.counts.Bad, vi a0.sides.1.counts.Aborts, vi a0.sides.1.counts.Runts, vi a0.sides.1.counts.Giants, vi a0.sides.1.counts.Dropped, vi a0.sides.1.counts.Twins]) 0 [vi a0.sides.1.counts.Good, vi a0.sides.1.counts.Bad, vi a0.sides.1.counts.Aborts, vi a0.sides.1.counts.Runts, vi a0.sides.1.counts.Giants, vi a0.sides.1.counts.Dropped, vi a0.sides.1.counts.Twins] HS rfl inf42 rfl rfl rfl rfl rfl rfl) rfl ?_
    rintro _ w HS
    refine W.nil ?_
    replace HS := api_Counts.close tv HS
    replace HS := HS.pm [1, 0, 2, 3, 4, 5, 6, 7, 8, 9, 10, 11, 12]
    replace HS := api_Counts.close tv HS
    replace HS := HS.pk [1, 0, 2, 3, 4, 5, 6, 7, 8, 9, 10, 11, 12] []
    exact At.meet (nb42, a0.sides.1.counts) ⟨rfl, rfl, rfl, rfl, tv⟩ ⟨HS, H⟩
   ·replace H := ite_f c41 H
    have hk43 : a1 = 1 := by omega
    refine W.r (X.indexArK 1 hk43 underlying85 inf84 rfl rfl c40.1 c40.2) rfl (W.fa fo84_3 rfl (W.r (X.loadSt 1 [vi a0.sides.2.counts.Good, vi a0.sides.2.counts.Bad, vi a0.sides.2.counts.Aborts, vi a0.sides.2.counts.Runts, vi a0.sides.2.counts.Giants, vi a0.sides.2.counts.Dropped, vi a0.sides.2.counts.Twins] HS rfl underlying42 rfl inf42 rfl rfl) rfl (W.e (Y.alloc (z := Value.agg (#[vi (0), vi (0), vi (0), vi (0), vi (0), vi (0), vi (0)])) HS ze42) rfl ?_)))
    rintro _ w ⟨nb44, rfl, HS⟩
    refine W.en (Y.storeSt (c' := #[vi a0.sides.2.counts.Good, vi a0.sides.2.counts.Bad, vi a0.sides.2.counts.Aborts, vi a0.sides.2.counts.Runts, vi a0.sides.2.counts.Giants, vi a0.sides.2.counts.Dropped, vi a0.sides.2.counts.Twins]) 0 [vi a0.sides.2.counts.Good, vi a0.sides.2.counts.Bad, vi a0.sides.2.counts.Aborts, vi a0.sides.2.counts.Runts, vi a0.sides.2.counts.Giants, vi a0.sides.2.counts.Dropped, vi a0.sides.2.counts.Twins] HS rfl inf42 rfl rfl rfl rfl rfl rfl) rfl ?_
    rintro _ w HS
    refine W.nil ?_
    replace HS := api_Counts.close tv HS
    replace HS := HS.pm [1, 0, 2, 3, 4, 5, 6, 7, 8, 9, 10, 11, 12]
    replace HS := api_Counts.close tv HS
    replace HS := HS.pk [1, 0, 2, 3, 4, 5, 6, 7, 8, 9, 10, 11, 12] []
    exact At.meet (nb44, a0.sides.2.counts) ⟨rfl, rfl, rfl, rfl, tv⟩ ⟨HS, H⟩
  ·rintro ⟨nb16, x17⟩ w ⟨HS, H⟩
   unfold station_Station_Counts.j0 at H
   refine V.seq (V.region (W.mv rfl (W.mv rfl (W.nc rfl (W.fa fo87_7 rfl ?_)))))
   obtain ⟨c19, H⟩ := ite_n H
   by_cases c20 : a1 = 0
   ·replace H := ite_t c20 H
    refine W.r (X.indexArK 0 c20 underlying85 inf84 rfl rfl c19.1 c19.2) rfl (W.fa fo84_2 rfl (W.ld 2 HS underlying82 rfl rfl rfl rfl ?_))
    replace HS := HS.fr 8
    obtain ⟨a1_21, c1_21, a3_21, c3_21, hi22, HS⟩ := ring_Ring.open HS
    obtain ⟨t23, A24, H⟩ := bind_s H
    refine W.e (Y.cl func66 (ring_Ring_Dropped.calls A24 HS.j3)) rfl ?_
    rintro _ w ⟨rfl, HS⟩
    replace HS := HS.o3
    replace HS := HS.fr 3
    obtain ⟨hi26, HS⟩ := api_Counts.open HS
    refine W.fa fo42_5 rfl (W.st 0 5 HS inf3 rfl rfl rfl rfl rfl rfl fun w HS => ?_)
    refine W.nx (V.seq (V.region (W.r (X.loadSt 0 [vi x17.Good, vi x17.Bad, vi x17.Aborts, vi x17.Runts, vi x17.Giants, vi t23, vi x17.Twins] HS rfl underlying42 rfl inf42 rfl rfl) rfl ?_)))
    replace HS := HS.fr 4
    obtain ⟨hi28, HS⟩ := api_Counts.open HS
    refine W.en (Y.storeSt (c' := #[vi x17.Good, vi x17.Bad, vi x17.Aborts, vi x17.Runts, vi x17.Giants, vi t23, vi x17.Twins]) 0 [vi x17.Good, vi x17.Bad, vi x17.Aborts, vi x17.Runts, vi x17.Giants, vi t23, vi x17.Twins] HS rfl inf42 rfl rfl rfl rfl rfl rfl) rfl ?_
    rintro _ w HS
    refine W.nx (V.ret ?_)
    have hv29 := run_loadSt (P := Tryz.prog) (p := 0) 0 [vi x17.Good, vi x17.Bad, vi x17.Aborts, vi x17.Runts, vi x17.Giants, vi t23, vi x17.Twins] HS rfl underlying42 rfl inf42 rfl
    replace HS := HS.pm [2, 3, 4, 0, 1, 5, 6, 7, 8, 9, 10, 11, 12, 13, 14]
    replace HS := ring_Ring.close tv HS
    replace HS := HS.pk [3, 4, 5, 6, 7, 8, 0, 9, 10, 11, 12] [1, 2]
    cases H
    exact At.retv1 rfl ⟨_, rfl, hv29⟩ ⟨_, rfl, rfl, HS⟩
   ·replace H := ite_f c20 H
    have hk30 : a1 = 1 := by omega
    refine W.r (X.indexArK 1 hk30 underlying85 inf84 rfl rfl c19.1 c19.2) rfl (W.fa fo84_2 rfl (W.ld 2 HS underlying82 rfl rfl rfl rfl ?_))
    replace HS := HS.fr 11
    obtain ⟨a1_31, c1_31, a3_31, c3_31, hi32, HS⟩ := ring_Ring.open HS
    obtain ⟨t33, A34, H⟩ := bind_s H
    refine W.e (Y.cl func66 (ring_Ring_Dropped.calls A34 HS.j3)) rfl ?_
    rintro _ w ⟨rfl, HS⟩
    replace HS := HS.o3
    replace HS := HS.fr 3
    obtain ⟨hi36, HS⟩ := api_Counts.open HS
    refine W.fa fo42_5 rfl (W.st 0 5 HS inf3 rfl rfl rfl rfl rfl rfl fun w HS => ?_)
    refine W.nx (V.seq (V.region (W.r (X.loadSt 0 [vi x17.Good, vi x17.Bad, vi x17.Aborts, vi x17.Runts, vi x17.Giants, vi t33, vi x17.Twins] HS rfl underlying42 rfl inf42 rfl rfl) rfl ?_)))
    replace HS := HS.fr 4
    obtain ⟨hi38, HS⟩ := api_Counts.open HS
    refine W.en (Y.storeSt (c' := #[vi x17.Good, vi x17.Bad, vi x17.Aborts, vi x17.Runts, vi x17.Giants, vi t33, vi x17.Twins]) 0 [vi x17.Good, vi x17.Bad, vi x17.Aborts, vi x17.Runts, vi x17.Giants, vi t33, vi x17.Twins] HS rfl inf42 rfl rfl rfl rfl rfl rfl) rfl ?_
    rintro _ w HS
    refine W.nx (V.ret ?_)
    have hv39 := run_loadSt (P := Tryz.prog) (p := 0) 0 [vi x17.Good, vi x17.Bad, vi x17.Aborts, vi x17.Runts, vi x17.Giants, vi t33, vi x17.Twins] HS rfl underlying42 rfl inf42 rfl
    replace HS := HS.pm [2, 3, 4, 0, 1, 5, 6, 7, 8, 9, 10, 11, 12, 13, 14]
    replace HS := ring_Ring.close tv HS
    replace HS := HS.pk [3, 4, 5, 6, 7, 8, 9, 10, 11, 0, 12] [1, 2]
    cases H
    exact At.retv1 rfl ⟨_, rfl, hv39⟩ ⟨_, rfl, rfl, HS⟩
 ·replace H := ite_f c15 H
  refine V.condT (sb (n_f (b_f c15))) (V.seq (V.region (W.r (X.bd (Value.agg #[vi (0), vi (0), vi (0), vi (0), vi (0), vi (0), vi (0)]) rfl (fun _ => by kernel_rfl)) rfl (W.en (Y.storeSt (c' := #[vi (0), vi (0), vi (0), vi (0), vi (0), vi (0), vi (0)]) 0 [vi (0), vi (0), vi (0), vi (0), vi (0), vi (0), vi (0)] HS rfl inf42 rfl rfl rfl rfl rfl rfl) rfl ?_))))
  rintro _ w HS
  refine W.nx (V.ret (At.thenRet ?_))
  have hv45 := run_loadSt (P := Tryz.prog) (p := 0) 0 [vi (0), vi (0), vi (0), vi (0), vi (0), vi (0), vi (0)] HS rfl underlying42 rfl inf42 rfl
  replace HS := HS.pk [1, 2, 3, 4, 5, 6, 7, 8, 9, 10, 11] [0]
  cases H
  exact At.retv1 rfl ⟨_, rfl, hv45⟩ ⟨_, rfl, rfl, HS⟩
def V43.at (b : Nat) (x : (api_Counts × api_Counts)) : As := fun h => True ∧ Sp [blk b (#[vi x.1.Good, vi x.1.Bad, vi x.1.Aborts, vi x.1.Runts, vi x.1.Giants, vi x.1.Dropped, vi x.1.Twins, vi x.2.Good, vi x.2.Bad, vi x.2.Aborts, vi x.2.Runts, vi x.2.Giants, vi x.2.Dropped, vi x.2.Twins]) 43] h
theorem V43.open {b : Nat} {x : (api_Counts × api_Counts)} {L : List As} {w0 w : World} (hs : Sep.St (V43.at b x :: L) w0 w) : True ∧ Sep.St (blk b (#[vi x.1.Good, vi x.1.Bad, vi x.1.Aborts, vi x.1.Runts, vi x.1.Giants, vi x.1.Dropped, vi x.1.Twins, vi x.2.Good, vi x.2.Bad, vi x.2.Aborts, vi x.2.Runts, vi x.2.Giants, vi x.2.Dropped, vi x.2.Twins]) 43 :: L) w0 w := by
 obtain ⟨ho, ht, hu, h, hon, h1, h2, hd, e1, e2, ⟨hi, hA⟩, hl⟩ := hs
 exact ⟨hi, St.open (m := [blk b (#[vi x.1.Good, vi x.1.Bad, vi x.1.Aborts, vi x.1.Runts, vi x.1.Giants, vi x.1.Dropped, vi x.1.Twins, vi x.2.Good, vi x.2.Bad, vi x.2.Aborts, vi x.2.Runts, vi x.2.Giants, vi x.2.Dropped, vi x.2.Twins]) 43]) ⟨ho, ht, hu, h, hon, h1, h2, hd, e1, e2, hA, hl⟩⟩
theorem V43.close {b : Nat} {l0 : Int} {l1 : Int} {l2 : Int} {l3 : Int} {l4 : Int} {l5 : Int} {l6 : Int} {l7 : Int} {l8 : Int} {l9 : Int} {l10 : Int} {l11 : Int} {l12 : Int} {l13 : Int}  {L : List As} {w0 w : World} (hi : True) (hs : Sep.St (blk b (#[vi l0, vi l1, vi l2, vi l3, vi l4, vi l5, vi l6, vi l7, vi l8, vi l9, vi l10, vi l11, vi l12, vi l13]) 43 :: L) w0 w) : Sep.St (V43.at b (({ Good := l0, Bad := l1, Aborts := l2, Runts := l3, Giants := l4, Dropped := l5, Twins := l6 } : api_Counts), ({ Good := l7, Bad := l8, Aborts := l9, Runts := l10, Giants := l11, Dropped := l12, Twins := l13 } : api_Counts)) :: L) w0 w := by
 have h2 := St.join (m := [blk b (#[vi l0, vi l1, vi l2, vi l3, vi l4, vi l5, vi l6, vi l7, vi l8, vi l9, vi l10, vi l11, vi l12, vi l13]) 43]) hs
 exact h2.mono fun h hh => ⟨hi, hh⟩
mutual
def signalmanlaw20_StationNoise.j1  : Option Bool := some false
def signalmanlaw20_StationNoise.l3 : Nat → (List Int) → (List Int) → Int → Int → (api_Counts × api_Counts) → station_Station → Option Bool
 | 0, _, _, _, _, _, _ => none
 | k + 1, a2, a3, a4, x32, x33, x34 => (if x32 < 2 then (signalmanlaw20_StationNoise.l4 k a2 a3 a4 x32 0 x33 x34) else (signalmanlaw20_StationNoise.l5 k a4 x33 0 x34))
def signalmanlaw20_StationNoise.l4 : Nat → (List Int) → (List Int) → Int → Int → Int → (api_Counts × api_Counts) → station_Station → Option Bool
 | 0, _, _, _, _, _, _, _ => none
 | k + 1, a2, a3, a4, x32, x38, x39, x40 => (if 0 ≤ x32 ∧ x32 < ((([a2, a3] : List (List Int))).length : Int) then (if x38 < (((([a2, a3] : List (List Int))).getD x32.toNat []).length : Int) then (if 0 ≤ x38 ∧ x38 < (((([a2, a3] : List (List Int))).getD x32.toNat []).length : Int) then ((station_Station_Push.f k x40 x32 (((([a2, a3] : List (List Int))).getD x32.toNat []).getD x38.toNat 0)).bind fun t54 => (if t54.1 = 1 then (if 0 ≤ x32 ∧ x32 < 2 then (if x32 = 0 then (signalmanlaw20_StationNoise.l4 k a2 a3 a4 x32 (w64 (x38 + 1)) (({ x39.1 with Good := w64 (x39.1.Good + 1) } : api_Counts), x39.2) t54.2.2) else (signalmanlaw20_StationNoise.l4 k a2 a3 a4 x32 (w64 (x38 + 1)) (x39.1, ({ x39.2 with Good := w64 (x39.2.Good + 1) } : api_Counts)) t54.2.2)) else none) else (if t54.1 = 4 then (if 0 ≤ x32 ∧ x32 < 2 then (if x32 = 0 then (signalmanlaw20_StationNoise.l4 k a2 a3 a4 x32 (w64 (x38 + 1)) (({ x39.1 with Bad := w64 (x39.1.Bad + 1) } : api_Counts), x39.2) t54.2.2) else (signalmanlaw20_StationNoise.l4 k a2 a3 a4 x32 (w64 (x38 + 1)) (x39.1, ({ x39.2 with Bad := w64 (x39.2.Bad + 1) } : api_Counts)) t54.2.2)) else none) else (if t54.1 = 5 then (if 0 ≤ x32 ∧ x32 < 2 then (if x32 = 0 then (signalmanlaw20_StationNoise.l4 k a2 a3 a4 x32 (w64 (x38 + 1)) (({ x39.1 with Aborts := w64 (x39.1.Aborts + 1) } : api_Counts), x39.2) t54.2.2) else (signalmanlaw20_StationNoise.l4 k a2 a3 a4 x32 (w64 (x38 + 1)) (x39.1, ({ x39.2 with Aborts := w64 (x39.2.Aborts + 1) } : api_Counts)) t54.2.2)) else none) else (if t54.1 = 2 then (if 0 ≤ x32 ∧ x32 < 2 then (if x32 = 0 then (signalmanlaw20_StationNoise.l4 k a2 a3 a4 x32 (w64 (x38 + 1)) (({ x39.1 with Runts := w64 (x39.1.Runts + 1) } : api_Counts), x39.2) t54.2.2) else (signalmanlaw20_StationNoise.l4 k a2 a3 a4 x32 (w64 (x38 + 1)) (x39.1, ({ x39.2 with Runts := w64 (x39.2.Runts + 1) } : api_Counts)) t54.2.2)) else none) else (if t54.1 = 3 then (if 0 ≤ x32 ∧ x32 < 2 then (if x32 = 0 then (signalmanlaw20_StationNoise.l4 k a2 a3 a4 x32 (w64 (x38 + 1)) (({ x39.1 with Giants := w64 (x39.1.Giants + 1) } : api_Counts), x39.2) t54.2.2) else (signalmanlaw20_StationNoise.l4 k a2 a3 a4 x32 (w64 (x38 + 1)) (x39.1, ({ x39.2 with Giants := w64 (x39.2.Giants + 1) } : api_Counts)) t54.2.2)) else none) else (signalmanlaw20_StationNoise.l4 k a2 a3 a4 x32 (w64 (x38 + 1)) x39 t54.2.2))))))) else none) else (signalmanlaw20_StationNoise.l3 k a2 a3 a4 (w64 (x32 + 1)) x39 x40)) else none)
def signalmanlaw20_StationNoise.l5 : Nat → Int → (api_Counts × api_Counts) → Int → station_Station → Option Bool
 | 0, _, _, _, _ => none
 | k + 1, a4, x33, x86, x87 => (if x86 < a4 then ((station_Station_Step.f k x87).bind fun t91 => (signalmanlaw20_StationNoise.l5 k a4 x33 (w64 (x86 + 1)) t91.2)) else (signalmanlaw20_StationNoise.l6 k x33 x87 0))
def signalmanlaw20_StationNoise.l6 : Nat → (api_Counts × api_Counts) → station_Station → Int → Option Bool
 | 0, _, _, _ => none
 | k + 1, x33, x87, x93 => (if x93 < 2 then ((station_Station_Counts.f x87 x93).bind fun t99 => (if 0 ≤ x93 ∧ x93 < 2 then (if x93 = 0 then (if t99.Good = x33.1.Good then (if t99.Bad = x33.1.Bad then (if t99.Aborts = x33.1.Aborts then (if t99.Runts = x33.1.Runts then (signalmanlaw20_StationNoise.j7 x93 (signalmanlaw20_StationNoise.l6 k x33 x87) (!(decide (t99.Giants = x33.1.Giants)))) else (signalmanlaw20_StationNoise.j7 x93 (signalmanlaw20_StationNoise.l6 k x33 x87) true)) else (signalmanlaw20_StationNoise.j7 x93 (signalmanlaw20_StationNoise.l6 k x33 x87) true)) else (signalmanlaw20_StationNoise.j7 x93 (signalmanlaw20_StationNoise.l6 k x33 x87) true)) else (signalmanlaw20_StationNoise.j7 x93 (signalmanlaw20_StationNoise.l6 k x33 x87) true)) else (if t99.Good = x33.2.Good then (if t99.Bad = x33.2.Bad then (if t99.Aborts = x33.2.Aborts then (if t99.Runts = x33.2.Runts then (signalmanlaw20_StationNoise.j7 x93 (signalmanlaw20_StationNoise.l6 k x33 x87) (!(decide (t99.Giants = x33.2.Giants)))) else (signalmanlaw20_StationNoise.j7 x93 (signalmanlaw20_StationNoise.l6 k x33 x87) true)) else (signalmanlaw20_StationNoise.j7 x93 (signalmanlaw20_StationNoise.l6 k x33 x87) true)) else (signalmanlaw20_StationNoise.j7 x93 (signalmanlaw20_StationNoise.l6 k x33 x87) true)) else (signalmanlaw20_StationNoise.j7 x93 (signalmanlaw20_StationNoise.l6 k x33 x87) true))) else none)) else ((station_Station_Status.f x87).bind fun t132 => (if t132.State ≥ 0 then (if t132.State ≤ 3 then (if t132.Sent = 0 then some (decide (t132.Acked = 0)) else some false) else some false) else some false)))
def signalmanlaw20_StationNoise.j7 (x93 : Int) (Lq114 : Int → Option Bool) (x112 : Bool) : Option Bool := (if x112 = true then some false else (Lq114 (w64 (x93 + 1))))
def signalmanlaw20_StationNoise.j2 (k : Nat) (a2 : List Int) (a3 : List Int) (a4 : Int) (t10 : Option station_Station × Int) (t10 : Option station_Station × Int) (t10 : Option station_Station × Int) (x22 : Bool) : Option Bool := (if x22 = true then some false else (signalmanlaw20_StationNoise.l3 k a2 a3 a4 0 (({ Good := 0, Bad := 0, Aborts := 0, Runts := 0, Giants := 0, Dropped := 0, Twins := 0 } : api_Counts), ({ Good := 0, Bad := 0, Aborts := 0, Runts := 0, Giants := 0, Dropped := 0, Twins := 0 } : api_Counts)) (t10.1.getD default)))
def signalmanlaw20_StationNoise.j0 (k : Nat) (a0 : Int) (a1 : Bool) (a2 : List Int) (a3 : List Int) (a4 : Int) (t1 : Bool) (x5 : Bool) : Option Bool := (if x5 = true then some t1 else ((signalmanlaw20_Good.f a0 3 10 true a1).bind fun t8 => ((station_New.f k t8).bind fun t10 => (if t10.1.isNone = true then ((signalmanlaw20_num.f t10.2).bind fun t16 => (if t16 = 0 then signalmanlaw20_StationNoise.j1 else signalmanlaw20_StationNoise.j1)) else ((signalmanlaw20_num.f t10.2).bind fun t138 => (if t138 = 0 then (signalmanlaw20_StationNoise.j2 k a2 a3 a4 t10 t10 t10 false) else (signalmanlaw20_StationNoise.j2 k a2 a3 a4 t10 t10 t10 true)))))))
end
def signalmanlaw20_StationNoise.f (k : Nat) (a0 : Int) (a1 : Bool) (a2 : List Int) (a3 : List Int) (a4 : Int) : Option Bool := ((signalmanlaw20_alive.f k ).bind fun t1 => (if t1 = true then (if (a2.length : Int) > 500 then (signalmanlaw20_StationNoise.j0 k a0 a1 a2 a3 a4 t1 true) else (if (a3.length : Int) > 500 then (signalmanlaw20_StationNoise.j0 k a0 a1 a2 a3 a4 t1 true) else (if a4 < 0 then (signalmanlaw20_StationNoise.j0 k a0 a1 a2 a3 a4 t1 true) else (signalmanlaw20_StationNoise.j0 k a0 a1 a2 a3 a4 t1 (decide (a4 > 50)))))) else (signalmanlaw20_StationNoise.j0 k a0 a1 a2 a3 a4 t1 true)))
theorem signalmanlaw20_StationNoise.calls {k : Nat} {a0 : Int} {a1 : Bool} {a2 : List Int} {a3 : List Int} {a4 : Int} {R : As} {w0 w : World} {sa2 : Option Addr} {sc2 : Nat} {sa3 : Option Addr} {sc3 : Nat} {r : Bool} (H : signalmanlaw20_StationNoise.f k a0 a1 a2 a3 a4 = some r) (HS : Sep.St [fsl 1 (.slice sa2 a2.length sc2) a2.length (a2.map (Value.int .u8)), fsl 1 (.slice sa3 a3.length sc3) a3.length (a3.map (Value.int .u8)), R] w0 w)  : Calls Tryz.prog 4 #[vi a0, vb a1, vs sa2 a2.length sc2, vs sa3 a3.length sc3, vi a4] w (Ret fun u w => u = vb r ∧ Sep.St [R] w0 w) := by
 unfold signalmanlaw20_StationNoise.f at H
 refine calls_enter func4 rfl rfl ?_
 have H : _ = some r := H
 refine V.seq (V.region (W.as rfl (W.nx (V.seq (V.region ?_)))))
 obtain ⟨t1, A2, H⟩ := bind_s H
 refine W.e (Y.cl func8 (signalmanlaw20_alive.calls A2 HS.j0)) rfl ?_
 rintro _ w ⟨rfl, HS⟩
 replace HS := HS.o0
 refine W.as rfl (W.nx (V.seq (V.meet (σ := Bool) (fun st w => match st with | x5 => Sep.St [fsl 1 (.slice sa2 a2.length sc2) a2.length (a2.map (Value.int .u8)), fsl 1 (.slice sa3 a3.length sc3) a3.length (a3.map (Value.int .u8)), R] w0 w ∧ ∃ kf6, kf6 ≤ k ∧ signalmanlaw20_StationNoise.j0 kf6 a0 a1 a2 a3 a4 t1 x5 = some r) (fun st => match st with | x5 => [(0, vi a0), (1, vb a1), (2, vs sa2 a2.length sc2), (3, vs sa3 a3.length sc3), (4, vi a4), (11, vb t1), (44, vb x5)]) ?_ ?_)))
 ·refine V.region (W.mv rfl (W.r (X.not rfl) rfl (W.mv rfl ?_)))
  by_cases c141 : t1 = true
  ·replace H := ite_t c141 H
   refine W.want 27 rfl (sb (n_t c141)) (W.mv rfl (W.want 27 rfl (sb (n_t c141)) (W.r (X.lenSl underlying32 rfl) rfl (W.want 27 rfl (sb (n_t c141)) (W.r (X.cmp (decide ((a2.length : Int) > 500)) rfl rfl rfl rfl) rfl (W.r (X.pickF (sb (n_t c141)) rfl) rfl (W.mv rfl ?_)))))))
   by_cases c142 : (a2.length : Int) > 500
   ·replace H := ite_t c142 H
    refine W.pass 32 rfl (sb (dT c142)) rfl rfl (W.pass 32 rfl (sb (dT c142)) rfl rfl (W.pass 32 rfl (sb (dT c142)) rfl rfl (W.r (X.pickT (sb (dT c142)) rfl) rfl (W.mv rfl (W.pass 37 rfl rfl rfl rfl (W.pass 37 rfl rfl rfl rfl (W.r (X.pickT rfl rfl) rfl (W.mv rfl (W.pass 41 rfl rfl rfl rfl (W.pass 41 rfl rfl rfl rfl (W.r (X.pickT rfl rfl) rfl (W.nil ?_))))))))))))
    exact At.meet true ⟨rfl, rfl, rfl, rfl, rfl, rfl, rfl, tv⟩ ⟨HS, k, by omega, H⟩
   ·replace H := ite_f c142 H
    refine W.want 32 rfl (sb (dF c142)) (W.mv rfl (W.want 32 rfl (sb (dF c142)) (W.r (X.lenSl underlying32 rfl) rfl (W.want 32 rfl (sb (dF c142)) (W.r (X.cmp (decide ((a3.length : Int) > 500)) rfl rfl rfl rfl) rfl (W.r (X.pickF (sb (dF c142)) rfl) rfl (W.mv rfl ?_)))))))
    by_cases c143 : (a3.length : Int) > 500
    ·replace H := ite_t c143 H
     refine W.pass 37 rfl (sb (dT c143)) rfl rfl (W.pass 37 rfl (sb (dT c143)) rfl rfl (W.r (X.pickT (sb (dT c143)) rfl) rfl (W.mv rfl (W.pass 41 rfl rfl rfl rfl (W.pass 41 rfl rfl rfl rfl (W.r (X.pickT rfl rfl) rfl (W.nil ?_)))))))
     exact At.meet true ⟨rfl, rfl, rfl, rfl, rfl, rfl, rfl, tv⟩ ⟨HS, k, by omega, H⟩
    ·replace H := ite_f c143 H
     refine W.want 37 rfl (sb (dF c143)) (W.mv rfl (W.want 37 rfl (sb (dF c143)) (W.r (X.cmp (decide (a4 < 0)) rfl rfl rfl rfl) rfl (W.r (X.pickF (sb (dF c143)) rfl) rfl (W.mv rfl ?_)))))
     by_cases c144 : a4 < 0
     ·replace H := ite_t c144 H
      refine W.pass 41 rfl (sb (dT c144)) rfl rfl (W.pass 41 rfl (sb (dT c144)) rfl rfl (W.r (X.pickT (sb (dT c144)) rfl) rfl (W.nil ?_)))
      exact At.meet true ⟨rfl, rfl, rfl, rfl, rfl, rfl, rfl, tv⟩ ⟨HS, k, by omega, H⟩
     ·replace H := ite_f c144 H
      refine W.want 41 rfl (sb (dF c144)) (W.mv rfl (W.want 41 rfl (sb (dF c144)) (W.r (X.cmp (decide (a4 > 50)) rfl rfl rfl rfl) rfl (W.r (X.pickF (sb (dF c144)) rfl) rfl (W.nil ?_)))))
      exact At.meet (decide (a4 > 50)) ⟨rfl, rfl, rfl, rfl, rfl, rfl, rfl, tv⟩ ⟨HS, k, by omega, H⟩
  ·replace H := ite_f c141 H
   refine W.pass 27 rfl (sb (n_f (b_f c141))) rfl rfl (W.pass 27 rfl (sb (n_f (b_f c141))) rfl rfl (W.pass 27 rfl (sb (n_f (b_f c141))) rfl rfl (W.r (X.pickT (sb (n_f (b_f c141))) rfl) rfl (W.mv rfl (W.pass 32 rfl rfl rfl rfl (W.pass 32 rfl rfl rfl rfl (W.pass 32 rfl rfl rfl rfl (W.r (X.pickT rfl rfl) rfl (W.mv rfl (W.pass 37 rfl rfl rfl rfl (W.pass 37 rfl rfl rfl rfl (W.r (X.pickT rfl rfl) rfl (W.mv rfl (W.pass 41 rfl rfl rfl rfl (W.pass 41 rfl rfl rfl rfl (W.r (X.pickT rfl rfl) rfl (W.nil ?_)))))))))))))))))
   exact At.meet true ⟨rfl, rfl, rfl, rfl, rfl, rfl, rfl, tv⟩ ⟨HS, k, by omega, H⟩
 ·rintro x5 w ⟨HS, kf6, hkkf6, H⟩
  unfold signalmanlaw20_StationNoise.j0 at H
  by_cases c7 : x5 = true
  ·replace H := ite_t c7 H
   refine V.condT (sb c7) (V.seq (V.region (W.mv rfl (W.as rfl (W.nx (V.ret (At.thenRet ?_)))))))
   replace HS := HS.pk [2] [0, 1]
   cases H
   exact At.ret1 rfl rfl ⟨_, rfl, rfl, HS⟩
  ·replace H := ite_f c7 H
   refine V.condF (sb (b_f c7)) (V.skip (At.next (V.seq (V.region (W.mv rfl (W.mv rfl ?_))))))
   obtain ⟨t8, A9, H⟩ := bind_s H
   refine W.e (Y.cl func10 (signalmanlaw20_Good.calls A9 HS.j0)) rfl ?_
   rintro _ w ⟨rfl, HS⟩
   replace HS := HS.o0
   obtain ⟨t10, A11, H⟩ := bind_s H
   by_cases c12 : t10.1.isNone = true
   ·replace H := ite_t c12 H
    refine W.e (Y.cl func9 (station_New.calls A11 HS.j0)) rfl ?_
    rintro _ w ⟨bt10_0, rfl, HS⟩
    replace HS := HS.o1
    replace HS := St.optN c12 HS
    rw [optv_n c12]
    refine W.mv rfl (W.r (X.extract rfl rfl) rfl (W.r (X.extract rfl rfl) rfl (W.as rfl (W.as rfl (W.nx (V.seq (V.meet (σ := Unit) (fun st w => match st with | _ => Sep.St [fsl 1 (.slice sa2 a2.length sc2) a2.length (a2.map (Value.int .u8)), fsl 1 (.slice sa3 a3.length sc3) a3.length (a3.map (Value.int .u8)), R] w0 w ∧ signalmanlaw20_StationNoise.j1 = some r) (fun st => match st with | _ => [(2, vs sa2 a2.length sc2), (3, vs sa3 a3.length sc3), (4, vi a4), (12, Value.pointer none), (59, vb true)]) ?_ ?_)))))))
    ·refine V.region (W.mv rfl ?_)
     obtain ⟨t16, A17, H⟩ := bind_s H
     refine W.e (Y.cl func11 (signalmanlaw20_num.calls A17 HS.j0)) rfl ?_
     rintro _ w ⟨rfl, HS⟩
     replace HS := HS.o0
     refine W.r (X.cmp (!(decide (t16 = 0))) rfl rfl rfl rfl) rfl (W.mv rfl ?_)
     by_cases c18 : t16 = 0
     ·replace H := ite_t c18 H
      refine W.want 56 rfl (sb (n_t (dT c18))) (W.mv rfl (W.want 56 rfl (sb (n_t (dT c18))) (W.r (X.eqP underlying23 rfl rfl) rfl (W.r (X.pickF (sb (n_t (dT c18))) rfl) rfl (W.nil ?_)))))
      exact At.meet () ⟨rfl, rfl, rfl, rfl, rfl, tv⟩ ⟨HS, H⟩
     ·replace H := ite_f c18 H
      refine W.pass 56 rfl (sb (n_f (dF c18))) rfl rfl (W.pass 56 rfl (sb (n_f (dF c18))) rfl rfl (W.r (X.pickT (sb (n_f (dF c18))) rfl) rfl (W.nil ?_)))
      exact At.meet () ⟨rfl, rfl, rfl, rfl, rfl, tv⟩ ⟨HS, H⟩
    ·rintro ⟨⟩ w ⟨HS, H⟩
     unfold signalmanlaw20_StationNoise.j1 at H
     refine V.condT rfl (V.seq (V.region (W.as rfl (W.nx (V.ret (At.thenRet ?_))))))
     replace HS := HS.pk [2] [0, 1]
     cases H
     exact At.ret1 rfl rfl ⟨_, rfl, rfl, HS⟩
   ·replace H := ite_f c12 H
    refine W.e (Y.cl func9 (station_New.calls A11 HS.j0)) rfl ?_
    rintro _ w ⟨bt10_0, rfl, HS⟩
    replace HS := HS.o1
    replace HS := St.optS default c12 HS
    rw [optv_s c12]
    refine W.mv rfl (W.r (X.extract rfl rfl) rfl (W.r (X.extract rfl rfl) rfl (W.as rfl (W.as rfl (W.nx (V.seq (V.meet (σ := Bool) (fun st w => match st with | x22 => Sep.St [station_Station.at bt10_0 (t10.1.getD default), fsl 1 (.slice sa2 a2.length sc2) a2.length (a2.map (Value.int .u8)), fsl 1 (.slice sa3 a3.length sc3) a3.length (a3.map (Value.int .u8)), R] w0 w ∧ ∃ kf23, kf23 ≤ kf6 ∧ signalmanlaw20_StationNoise.j2 kf23 a2 a3 a4 t10 t10 t10 x22 = some r) (fun st => match st with | x22 => [(2, vs sa2 a2.length sc2), (3, vs sa3 a3.length sc3), (4, vi a4), (12, pt bt10_0), (59, vb x22)]) ?_ ?_)))))))
    ·refine V.region (W.mv rfl ?_)
     obtain ⟨t138, A139, H⟩ := bind_s H
     refine W.e (Y.cl func11 (signalmanlaw20_num.calls A139 HS.j0)) rfl ?_
     rintro _ w ⟨rfl, HS⟩
     replace HS := HS.o0
     refine W.r (X.cmp (!(decide (t138 = 0))) rfl rfl rfl rfl) rfl (W.mv rfl ?_)
     by_cases c140 : t138 = 0
     ·replace H := ite_t c140 H
      refine W.want 56 rfl (sb (n_t (dT c140))) (W.mv rfl (W.want 56 rfl (sb (n_t (dT c140))) (W.r (X.eqP underlying23 rfl rfl) rfl (W.r (X.pickF (sb (n_t (dT c140))) rfl) rfl (W.nil ?_)))))
      exact At.meet false ⟨rfl, rfl, rfl, rfl, rfl, tv⟩ ⟨HS, kf6, by omega, H⟩
     ·replace H := ite_f c140 H
      refine W.pass 56 rfl (sb (n_f (dF c140))) rfl rfl (W.pass 56 rfl (sb (n_f (dF c140))) rfl rfl (W.r (X.pickT (sb (n_f (dF c140))) rfl) rfl (W.nil ?_)))
      exact At.meet true ⟨rfl, rfl, rfl, rfl, rfl, tv⟩ ⟨HS, kf6, by omega, H⟩
    ·rintro x22 w ⟨HS, kf23, hkkf23, H⟩
     unfold signalmanlaw20_StationNoise.j2 at H
     by_cases c24 : x22 = true
     ·replace H := ite_t c24 H
      refine V.condT (sb c24) (V.seq (V.region (W.as rfl (W.nx (V.ret (At.thenRet ?_))))))
      replace HS := HS.pk [3] [0, 1, 2]
      cases H
      exact At.ret1 rfl rfl ⟨_, rfl, rfl, HS⟩
     ·replace H := ite_f c24 H
      refine V.condF (sb (b_f c24)) (V.skip (At.next (V.seq (V.region (W.e (Y.alloc (z := Value.agg (#[vi (0), vi (0), vi (0), vi (0), vi (0), vi (0), vi (0), vi (0), vi (0), vi (0), vi (0), vi (0), vi (0), vi (0)])) HS ze43) rfl ?_)))))
      rintro _ w ⟨nb25, rfl, HS⟩
      refine W.nx (V.seq (V.region (W.mv rfl (W.mv rfl (W.e (Y.lc (e := 32) (sz := 1) [vs sa2 a2.length sc2, vs sa3 a3.length sc3] HS rfl rfl (fun _ => by kernel_rfl)) rfl ?_)))))
      rintro _ w ⟨lb26, rfl, HS⟩
      replace HS := St.put (A := tie (El.sl (El.int .u8)) ([]) (([] : List (List Int)))) (fun _ => tie.nil) HS
      replace HS := HS.more 5 rfl (fun _ t => t) fsl.pers
      replace HS := St.put (A := tie (El.int .u8) (a3.map (Value.int .u8)) a3) (fun _ => int_tie) HS
      replace HS := St.swap HS
      replace HS := St.sl_close (E := (El.int .u8)) HS
      replace HS := HS.fr 1
      replace HS := HS.fr 1
      replace HS := St.tie_cons HS
      replace HS := HS.more 4 rfl (fun _ t => t) fsl.pers
      replace HS := St.put (A := tie (El.int .u8) (a2.map (Value.int .u8)) a2) (fun _ => int_tie) HS
      replace HS := St.swap HS
      replace HS := St.sl_close (E := (El.int .u8)) HS
      replace HS := HS.fr 1
      replace HS := HS.fr 1
      replace HS := St.tie_cons HS
      refine W.as rfl (W.nx (V.seq (V.seq (V.region (W.as rfl (W.nx (V.block ?_)))))))
      replace HS := HS.pm [2, 0, 1, 3, 4, 5, 6]
      replace HS := V43.close tv HS
      refine V.loop (σ := Int × (api_Counts × api_Counts) × station_Station) (fun kq (st : Int × (api_Counts × api_Counts) × station_Station) w => match st with | (x32, x33, x34) => Sep.St [V43.at nb25 x33, tie (El.sl (El.int .u8)) ([vs sa2 a2.length sc2, vs sa3 a3.length sc3]) (([a2, a3] : List (List Int))), row 32 1 (.slice (some ⟨lb26, 0, none⟩) (([a2, a3] : List (List Int))).length 2) (([a2, a3] : List (List Int))).length ([vs sa2 a2.length sc2, vs sa3 a3.length sc3]), station_Station.at bt10_0 x34, fsl 1 (.slice sa2 a2.length sc2) a2.length (a2.map (Value.int .u8)), fsl 1 (.slice sa3 a3.length sc3) a3.length (a3.map (Value.int .u8)), R] w0 w ∧ signalmanlaw20_StationNoise.l3 kq a2 a3 a4 x32 x33 x34 = some r ∧ kq ≤ kf23) (fun st => match st with | (x32, x33, x34) => [(4, vi a4), (12, pt bt10_0), (14, pt nb25), (15, vs (some ⟨lb26, 0, none⟩) (([a2, a3] : List (List Int))).length 2), (16, vi x32)]) kf23 (0, (({ Good := 0, Bad := 0, Aborts := 0, Runts := 0, Giants := 0, Dropped := 0, Twins := 0 } : api_Counts), ({ Good := 0, Bad := 0, Aborts := 0, Runts := 0, Giants := 0, Dropped := 0, Twins := 0 } : api_Counts)), t10.1.getD default) ⟨rfl, rfl, rfl, rfl, rfl, tv⟩ ⟨HS, H, Nat.le_refl _⟩ ?_
      rintro kq35 ⟨x32, x33, x34⟩ w ⟨HS, H, hk36⟩
      cases kq35 with
      | zero => exact absurd H (by simp [signalmanlaw20_StationNoise.l3])
      | succ kq35 =>
       simp only [signalmanlaw20_StationNoise.l3] at H
       refine V.seq (V.seq (V.region (W.mv rfl (W.r (X.cmp (decide (x32 < 2)) rfl rfl rfl rfl) rfl (W.nx ?_)))))
       by_cases c37 : x32 < 2
       ·replace H := ite_t c37 H
        refine V.condT (sb (dT c37)) (V.skip (At.next (V.seq (V.block (V.seq (V.region (W.as rfl (W.nx (V.block (V.loop (σ := Int × (api_Counts × api_Counts) × station_Station) (fun kq (st : Int × (api_Counts × api_Counts) × station_Station) w => match st with | (x38, x39, x40) => Sep.St [V43.at nb25 x39, tie (El.sl (El.int .u8)) ([vs sa2 a2.length sc2, vs sa3 a3.length sc3]) (([a2, a3] : List (List Int))), row 32 1 (.slice (some ⟨lb26, 0, none⟩) (([a2, a3] : List (List Int))).length 2) (([a2, a3] : List (List Int))).length ([vs sa2 a2.length sc2, vs sa3 a3.length sc3]), station_Station.at bt10_0 x40, fsl 1 (.slice sa2 a2.length sc2) a2.length (a2.map (Value.int .u8)), fsl 1 (.slice sa3 a3.length sc3) a3.length (a3.map (Value.int .u8)), R] w0 w ∧ signalmanlaw20_StationNoise.l4 kq a2 a3 a4 x32 x38 x39 x40 = some r ∧ kq ≤ kq35) (fun st => match st with | (x38, x39, x40) => [(4, vi a4), (12, pt bt10_0), (14, pt nb25), (15, vs (some ⟨lb26, 0, none⟩) (([a2, a3] : List (List Int))).length 2), (16, vi x32), (17, vi x38)]) kq35 (0, x33, x34) ⟨rfl, rfl, rfl, rfl, rfl, rfl, tv⟩ ⟨HS, H, Nat.le_refl _⟩ ?_))))))))))
        rintro kq41 ⟨x38, x39, x40⟩ w ⟨HS, H, hk42⟩
        cases kq41 with
        | zero => exact absurd H (by simp [signalmanlaw20_StationNoise.l4])
        | succ kq41 =>
         simp only [signalmanlaw20_StationNoise.l4] at H
         refine V.seq (V.seq (V.region (W.mv rfl (W.mv rfl (W.mv rfl ?_)))))
         obtain ⟨c43, H⟩ := ite_n H
         refine W.r (X.indexSl underlying37 inf32 rfl rfl c43.1 c43.2) rfl ?_
         obtain ⟨ec44, hc45, HS⟩ := St.tie_at 1 HS rfl ([]) c43.1 c43.2
         obtain ⟨ea46, em47, he49, HN⟩ := St.sl_openF (Value.int .u8) (fun t => tie_int t) HS; clear HS; subst he49; have HS := HN
         refine W.r (X.load underlying32 rfl rfl ((rdC.at 3 row_rd HS rfl).cellEl0 (hc45 0 _ rfl))) rfl (W.r (X.lenSl underlying32 rfl) rfl (W.r (X.cmp (decide (x38 < (((([a2, a3] : List (List Int))).getD x32.toNat []).length : Int))) rfl rfl rfl rfl) rfl (W.nx ?_)))
         by_cases c50 : x38 < (((([a2, a3] : List (List Int))).getD x32.toNat []).length : Int)
         ·replace H := ite_t c50 H
          refine V.condT (sb (dT c50)) (V.skip (At.next (V.seq (V.block (V.seq (V.region (W.mv rfl (W.mv rfl (W.mv rfl (W.mv rfl (W.r (X.indexSl underlying37 inf32 rfl rfl c43.1 c43.2) rfl (W.r (X.load underlying32 rfl rfl ((rdC.at 3 row_rd HS rfl).cellEl0 (hc45 0 _ rfl))) rfl (W.mv rfl ?_)))))))))))))
          obtain ⟨c51, H⟩ := ite_n H
          obtain ⟨eb52, eo53, hh⟩ := (rdC.at 0 fsl.rd HS rfl).some (by decide) c51.1 c51.2; subst hh
          refine W.r (X.indexSl underlying32 inf5 rfl rfl c51.1 c51.2) rfl (W.r (X.load underlying5 rfl rfl ((rdC.at 0 fsl.rd HS rfl).cellI c51.1 c51.2)) rfl ?_)
          obtain ⟨t54, A55, H⟩ := bind_s H
          replace HS := HS.pm [4, 0, 1, 2, 3, 5, 6, 7]
          refine W.e (Y.cl func15 (station_Station_Push.calls A55 HS.j1)) rfl ?_
          rintro _ w ⟨at54_1, ct54_1, rfl, HS⟩
          replace HS := HS.o2
          refine W.mv rfl (W.r (X.extract rfl rfl) rfl (W.r (X.extract rfl rfl) rfl (W.as rfl (W.as rfl (W.nx (V.seq (V.region (W.mv rfl (W.nx (V.block (V.seq (V.region (W.r (X.cmp (decide (t54.1 = 1)) rfl rfl rfl rfl) rfl (W.as rfl (W.nx ?_)))))))))))))))
          by_cases c56 : t54.1 = 1
          ·replace H := ite_t c56 H
           refine V.condT (sb (dT c56)) (V.region (W.mv rfl ?_))
           obtain ⟨c57, H⟩ := ite_n H
           replace HS := HS.fr 3
           obtain ⟨hi59, HS⟩ := V43.open HS
           by_cases c60 : x32 = 0
           ·replace H := ite_t c60 H
            refine W.r (X.indexArK 0 c60 underlying43 inf42 rfl rfl c57.1 c57.2) rfl (W.fa fo42_0 rfl (W.ld 0 HS underlying3 rfl rfl rfl rfl (W.r (X.add rfl rfl) rfl (W.r (X.indexArK 0 c60 underlying43 inf42 rfl rfl c57.1 c57.2) rfl (W.fa fo42_0 rfl (W.st 0 0 HS inf3 rfl rfl rfl rfl rfl rfl fun w HS => ?_))))))
            refine W.nil (At.blockEnd (At.blockEnd (At.next (V.region (W.mv rfl (W.r (X.add rfl rfl) rfl (W.as rfl (W.nil ?_))))))))
            replace HS := V43.close tv HS
            replace HS := HS.pk [0, 4, 5, 2, 6, 7, 8] [1, 3]
            exact At.round kq41 (by omega) (w64 (x38 + 1), (({ x39.1 with Good := w64 (x39.1.Good + 1) } : api_Counts), x39.2), t54.2.2) ⟨rfl, rfl, rfl, rfl, rfl, rfl, tv⟩ ⟨HS, H, by omega⟩
           ·replace H := ite_f c60 H
            have hk61 : x32 = 1 := by omega
            refine W.r (X.indexArK 1 hk61 underlying43 inf42 rfl rfl c57.1 c57.2) rfl (W.fa fo42_0 rfl (W.ld 0 HS underlying3 rfl rfl rfl rfl (W.r (X.add rfl rfl) rfl (W.r (X.indexArK 1 hk61 underlying43 inf42 rfl rfl c57.1 c57.2) rfl (W.fa fo42_0 rfl (W.st 0 7 HS inf3 rfl rfl rfl rfl rfl rfl fun w HS => ?_))))))
            refine W.nil (At.blockEnd (At.blockEnd (At.next (V.region (W.mv rfl (W.r (X.add rfl rfl) rfl (W.as rfl (W.nil ?_))))))))
            replace HS := V43.close tv HS
            replace HS := HS.pk [0, 4, 5, 2, 6, 7, 8] [1, 3]
            exact At.round kq41 (by omega) (w64 (x38 + 1), (x39.1, ({ x39.2 with Good := w64 (x39.2.Good + 1) } : api_Counts)), t54.2.2) ⟨rfl, rfl, rfl, rfl, rfl, rfl, tv⟩ ⟨HS, H, by omega⟩
          ·replace H := ite_f c56 H
           refine V.condF (sb (dF c56)) (V.seq (V.region (W.r (X.cmp (decide (t54.1 = 4)) rfl rfl rfl rfl) rfl (W.as rfl (W.nx ?_)))))
           by_cases c62 : t54.1 = 4
           ·replace H := ite_t c62 H
            refine V.condT (sb (dT c62)) (V.region (W.mv rfl ?_))
            obtain ⟨c63, H⟩ := ite_n H
            replace HS := HS.fr 3
            obtain ⟨hi65, HS⟩ := V43.open HS
            by_cases c66 : x32 = 0
            ·replace H := ite_t c66 H
             refine W.r (X.indexArK 0 c66 underlying43 inf42 rfl rfl c63.1 c63.2) rfl (W.fa fo42_1 rfl (W.ld 0 HS underlying3 rfl rfl rfl rfl (W.r (X.add rfl rfl) rfl (W.r (X.indexArK 0 c66 underlying43 inf42 rfl rfl c63.1 c63.2) rfl (W.fa fo42_1 rfl (W.st 0 1 HS inf3 rfl rfl rfl rfl rfl rfl fun w HS => ?_))))))
             refine W.nil (At.blockEnd (At.blockEnd (At.next (V.region (W.mv rfl (W.r (X.add rfl rfl) rfl (W.as rfl (W.nil ?_))))))))
             replace HS := V43.close tv HS
             replace HS := HS.pk [0, 4, 5, 2, 6, 7, 8] [1, 3]
             exact At.round kq41 (by omega) (w64 (x38 + 1), (({ x39.1 with Bad := w64 (x39.1.Bad + 1) } : api_Counts), x39.2), t54.2.2) ⟨rfl, rfl, rfl, rfl, rfl, rfl, tv⟩ ⟨HS, H, by omega⟩
            ·replace H := ite_f c66 H
             have hk67 : x32 = 1 := by omega
             refine W.r (X.indexArK 1 hk67 underlying43 inf42 rfl rfl c63.1 c63.2) rfl (W.fa fo42_1 rfl (W.ld 0 HS underlying3 rfl rfl rfl rfl (W.r (X.add rfl rfl) rfl (W.r (X.indexArK 1 hk67 underlying43 inf42 rfl rfl c63.1 c63.2) rfl (W.fa fo42_1 rfl (W.st 0 8 HS inf3 rfl rfl rfl rfl rfl rfl fun w HS => ?_))))))
             refine W.nil (At.blockEnd (At.blockEnd (At.next (V.region (W.mv rfl (W.r (X.add rfl rfl) rfl (W.as rfl (W.nil ?_))))))))
             replace HS := V43.close tv HS
             replace HS := HS.pk [0, 4, 5, 2, 6, 7, 8] [1, 3]
             exact At.round kq41 (by omega) (w64 (x38 + 1), (x39.1, ({ x39.2 with Bad := w64 (x39.2.Bad + 1) } : api_Counts)), t54.2.2) ⟨rfl, rfl, rfl, rfl, rfl, rfl, tv⟩ ⟨HS, H, by omega⟩
           ·replace H := ite_f c62 H
            refine V.condF (sb (dF c62)) (V.seq (V.region (W.r (X.cmp (decide (t54.1 = 5)) rfl rfl rfl rfl) rfl (W.as rfl (W.nx ?_)))))
            by_cases c68 : t54.1 = 5
            ·replace H := ite_t c68 H
             refine V.condT (sb (dT c68)) (V.region (W.mv rfl ?_))
             obtain ⟨c69, H⟩ := ite_n H
             replace HS := HS.fr 3
             obtain ⟨hi71, HS⟩ := V43.open HS
             by_cases c72 : x32 = 0
             ·replace H := ite_t c72 H
              refine W.r (X.indexArK 0 c72 underlying43 inf42 rfl rfl c69.1 c69.2) rfl (W.fa fo42_2 rfl (W.ld 0 HS underlying3 rfl rfl rfl rfl (W.r (X.add rfl rfl) rfl (W.r (X.indexArK 0 c72 underlying43 inf42 rfl rfl c69.1 c69.2) rfl (W.fa fo42_2 rfl (W.st 0 2 HS inf3 rfl rfl rfl rfl rfl rfl fun w HS => ?_))))))
              refine W.nil (At.blockEnd (At.blockEnd (At.next (V.region (W.mv rfl (W.r (X.add rfl rfl) rfl (W.as rfl (W.nil ?_))))))))
              replace HS := V43.close tv HS
              replace HS := HS.pk [0, 4, 5, 2, 6, 7, 8] [1, 3]
              exact At.round kq41 (by omega) (w64 (x38 + 1), (({ x39.1 with Aborts := w64 (x39.1.Aborts + 1) } : api_Counts), x39.2), t54.2.2) ⟨rfl, rfl, rfl, rfl, rfl, rfl, tv⟩ ⟨HS, H, by omega⟩
             ·replace H := ite_f c72 H
              have hk73 : x32 = 1 := by omega
              refine W.r (X.indexArK 1 hk73 underlying43 inf42 rfl rfl c69.1 c69.2) rfl (W.fa fo42_2 rfl (W.ld 0 HS underlying3 rfl rfl rfl rfl (W.r (X.add rfl rfl) rfl (W.r (X.indexArK 1 hk73 underlying43 inf42 rfl rfl c69.1 c69.2) rfl (W.fa fo42_2 rfl (W.st 0 9 HS inf3 rfl rfl rfl rfl rfl rfl fun w HS => ?_))))))
              refine W.nil (At.blockEnd (At.blockEnd (At.next (V.region (W.mv rfl (W.r (X.add rfl rfl) rfl (W.as rfl (W.nil ?_))))))))
              replace HS := V43.close tv HS
              replace HS := HS.pk [0, 4, 5, 2, 6, 7, 8] [1, 3]
              exact At.round kq41 (by omega) (w64 (x38 + 1), (x39.1, ({ x39.2 with Aborts := w64 (x39.2.Aborts + 1) } : api_Counts)), t54.2.2) ⟨rfl, rfl, rfl, rfl, rfl, rfl, tv⟩ ⟨HS, H, by omega⟩
            ·replace H := ite_f c68 H
             refine V.condF (sb (dF c68)) (V.seq (V.region (W.r (X.cmp (decide (t54.1 = 2)) rfl rfl rfl rfl) rfl (W.as rfl (W.nx ?_)))))
             by_cases c74 : t54.1 = 2
             ·replace H := ite_t c74 H
              refine V.condT (sb (dT c74)) (V.region (W.mv rfl ?_))
              obtain ⟨c75, H⟩ := ite_n H
              replace HS := HS.fr 3
              obtain ⟨hi77, HS⟩ := V43.open HS
              by_cases c78 : x32 = 0
              ·replace H := ite_t c78 H
               refine W.r (X.indexArK 0 c78 underlying43 inf42 rfl rfl c75.1 c75.2) rfl (W.fa fo42_3 rfl (W.ld 0 HS underlying3 rfl rfl rfl rfl (W.r (X.add rfl rfl) rfl (W.r (X.indexArK 0 c78 underlying43 inf42 rfl rfl c75.1 c75.2) rfl (W.fa fo42_3 rfl (W.st 0 3 HS inf3 rfl rfl rfl rfl rfl rfl fun w HS => ?_))))))
               refine W.nil (At.blockEnd (At.blockEnd (At.next (V.region (W.mv rfl (W.r (X.add rfl rfl) rfl (W.as rfl (W.nil ?_))))))))
               replace HS := V43.close tv HS
               replace HS := HS.pk [0, 4, 5, 2, 6, 7, 8] [1, 3]
               exact At.round kq41 (by omega) (w64 (x38 + 1), (({ x39.1 with Runts := w64 (x39.1.Runts + 1) } : api_Counts), x39.2), t54.2.2) ⟨rfl, rfl, rfl, rfl, rfl, rfl, tv⟩ ⟨HS, H, by omega⟩
              ·replace H := ite_f c78 H
               have hk79 : x32 = 1 := by omega
               refine W.r (X.indexArK 1 hk79 underlying43 inf42 rfl rfl c75.1 c75.2) rfl (W.fa fo42_3 rfl (W.ld 0 HS underlying3 rfl rfl rfl rfl (W.r (X.add rfl rfl) rfl (W.r (X.indexArK 1 hk79 underlying43 inf42 rfl rfl c75.1 c75.2) rfl (W.fa fo42_3 rfl (W.st 0 10 HS inf3 rfl rfl rfl rfl rfl rfl fun w HS => ?_))))))
               refine W.nil (At.blockEnd (At.blockEnd (At.next (V.region (W.mv rfl (W.r (X.add rfl rfl) rfl (W.as rfl (W.nil ?_))))))))
               replace HS := V43.close tv HS
               replace HS := HS.pk [0, 4, 5, 2, 6, 7, 8] [1, 3]
               exact At.round kq41 (by omega) (w64 (x38 + 1), (x39.1, ({ x39.2 with Runts := w64 (x39.2.Runts + 1) } : api_Counts)), t54.2.2) ⟨rfl, rfl, rfl, rfl, rfl, rfl, tv⟩ ⟨HS, H, by omega⟩
             ·replace H := ite_f c74 H
              refine V.condF (sb (dF c74)) (V.seq (V.region (W.r (X.cmp (decide (t54.1 = 3)) rfl rfl rfl rfl) rfl (W.as rfl (W.nx ?_)))))
              by_cases c80 : t54.1 = 3
              ·replace H := ite_t c80 H
               refine V.condT (sb (dT c80)) (V.region (W.mv rfl ?_))
               obtain ⟨c81, H⟩ := ite_n H
               replace HS := HS.fr 3
               obtain ⟨hi83, HS⟩ := V43.open HS
               by_cases c84 : x32 = 0
               ·replace H := ite_t c84 H
                refine W.r (X.indexArK 0 c84 underlying43 inf42 rfl rfl c81.1 c81.2) rfl (W.fa fo42_4 rfl (W.ld 0 HS underlying3 rfl rfl rfl rfl (W.r (X.add rfl rfl) rfl (W.r (X.indexArK 0 c84 underlying43 inf42 rfl rfl c81.1 c81.2) rfl (W.fa fo42_4 rfl (W.st 0 4 HS inf3 rfl rfl rfl rfl rfl rfl fun w HS => ?_))))))
                refine W.nil (At.blockEnd (At.blockEnd (At.next (V.region (W.mv rfl (W.r (X.add rfl rfl) rfl (W.as rfl (W.nil ?_))))))))
                replace HS := V43.close tv HS
                replace HS := HS.pk [0, 4, 5, 2, 6, 7, 8] [1, 3]
                exact At.round kq41 (by omega) (w64 (x38 + 1), (({ x39.1 with Giants := w64 (x39.1.Giants + 1) } : api_Counts), x39.2), t54.2.2) ⟨rfl, rfl, rfl, rfl, rfl, rfl, tv⟩ ⟨HS, H, by omega⟩
               ·replace H := ite_f c84 H
                have hk85 : x32 = 1 := by omega
                refine W.r (X.indexArK 1 hk85 underlying43 inf42 rfl rfl c81.1 c81.2) rfl (W.fa fo42_4 rfl (W.ld 0 HS underlying3 rfl rfl rfl rfl (W.r (X.add rfl rfl) rfl (W.r (X.indexArK 1 hk85 underlying43 inf42 rfl rfl c81.1 c81.2) rfl (W.fa fo42_4 rfl (W.st 0 11 HS inf3 rfl rfl rfl rfl rfl rfl fun w HS => ?_))))))
                refine W.nil (At.blockEnd (At.blockEnd (At.next (V.region (W.mv rfl (W.r (X.add rfl rfl) rfl (W.as rfl (W.nil ?_))))))))
                replace HS := V43.close tv HS
                replace HS := HS.pk [0, 4, 5, 2, 6, 7, 8] [1, 3]
                exact At.round kq41 (by omega) (w64 (x38 + 1), (x39.1, ({ x39.2 with Giants := w64 (x39.2.Giants + 1) } : api_Counts)), t54.2.2) ⟨rfl, rfl, rfl, rfl, rfl, rfl, tv⟩ ⟨HS, H, by omega⟩
              ·replace H := ite_f c80 H
               refine V.condF (sb (dF c80)) (V.skip (At.blockEnd (At.blockEnd (At.next (V.region (W.mv rfl (W.r (X.add rfl rfl) rfl (W.as rfl (W.nil ?_)))))))))
               replace HS := HS.pk [3, 4, 5, 1, 6, 7, 8] [0, 2]
               exact At.round kq41 (by omega) (w64 (x38 + 1), x39, t54.2.2) ⟨rfl, rfl, rfl, rfl, rfl, rfl, tv⟩ ⟨HS, H, by omega⟩
         ·replace H := ite_f c50 H
          refine V.condF (sb (dF c50)) (V.exit (At.thenExit (At.thenExit (At.blockExit (At.blockEnd (At.next (V.region (W.mv rfl (W.r (X.add rfl rfl) rfl (W.as rfl (W.nil ?_)))))))))))
          replace HS := HS.pk [1, 2, 3, 4, 5, 6, 7] [0]
          exact At.round kq41 (by omega) (w64 (x32 + 1), x39, x40) ⟨rfl, rfl, rfl, rfl, rfl, tv⟩ ⟨HS, H, by omega⟩
       ·replace H := ite_f c37 H
        refine V.condF (sb (dF c37)) (V.exit (At.thenExit (At.thenExit (At.blockExit (At.next (V.seq (V.seq (V.region (W.as rfl (W.nx (V.block (V.loop (σ := Int × station_Station) (fun kq (st : Int × station_Station) w => match st with | (x86, x87) => Sep.St [V43.at nb25 x33, tie (El.sl (El.int .u8)) ([vs sa2 a2.length sc2, vs sa3 a3.length sc3]) (([a2, a3] : List (List Int))), row 32 1 (.slice (some ⟨lb26, 0, none⟩) (([a2, a3] : List (List Int))).length 2) (([a2, a3] : List (List Int))).length ([vs sa2 a2.length sc2, vs sa3 a3.length sc3]), station_Station.at bt10_0 x87, fsl 1 (.slice sa2 a2.length sc2) a2.length (a2.map (Value.int .u8)), fsl 1 (.slice sa3 a3.length sc3) a3.length (a3.map (Value.int .u8)), R] w0 w ∧ signalmanlaw20_StationNoise.l5 kq a4 x33 x86 x87 = some r ∧ kq ≤ kq35) (fun st => match st with | (x86, x87) => [(4, vi a4), (12, pt bt10_0), (14, pt nb25), (20, vi x86)]) kq35 (0, x34) ⟨rfl, rfl, rfl, rfl, tv⟩ ⟨HS, H, Nat.le_refl _⟩ ?_))))))))))))
        rintro kq88 ⟨x86, x87⟩ w ⟨HS, H, hk89⟩
        cases kq88 with
        | zero => exact absurd H (by simp [signalmanlaw20_StationNoise.l5])
        | succ kq88 =>
         simp only [signalmanlaw20_StationNoise.l5] at H
         refine V.seq (V.seq (V.region (W.mv rfl (W.mv rfl (W.r (X.cmp (decide (x86 < a4)) rfl rfl rfl rfl) rfl (W.nx ?_))))))
         by_cases c90 : x86 < a4
         ·replace H := ite_t c90 H
          refine V.condT (sb (dT c90)) (V.skip (At.next (V.seq (V.block (V.region (W.mv rfl ?_))))))
          obtain ⟨t91, A92, H⟩ := bind_s H
          replace HS := HS.pm [3, 0, 1, 2, 4, 5, 6]
          refine W.e (Y.cl func14 (station_Station_Step.calls A92 HS.j1)) rfl ?_
          rintro _ w ⟨at91_0_0, ct91_0_0, dt91_0_0, at91_0_1, ct91_0_1, dt91_0_1, rfl, HS⟩
          replace HS := HS.o5
          refine W.nil (At.blockEnd (At.next (V.region (W.mv rfl (W.r (X.add rfl rfl) rfl (W.as rfl (W.nil ?_)))))))
          replace HS := HS.pk [5, 6, 7, 4, 8, 9, 10] [0, 1, 2, 3]
          exact At.round kq88 (by omega) (w64 (x86 + 1), t91.2) ⟨rfl, rfl, rfl, rfl, tv⟩ ⟨HS, H, by omega⟩
         ·replace H := ite_f c90 H
          refine V.condF (sb (dF c90)) (V.exit (At.thenExit (At.thenExit (At.blockExit (At.next (V.seq (V.seq (V.region (W.as rfl (W.nx (V.block (V.loop (σ := Int) (fun kq (st : Int) w => match st with | x93 => Sep.St [V43.at nb25 x33, tie (El.sl (El.int .u8)) ([vs sa2 a2.length sc2, vs sa3 a3.length sc3]) (([a2, a3] : List (List Int))), row 32 1 (.slice (some ⟨lb26, 0, none⟩) (([a2, a3] : List (List Int))).length 2) (([a2, a3] : List (List Int))).length ([vs sa2 a2.length sc2, vs sa3 a3.length sc3]), station_Station.at bt10_0 x87, fsl 1 (.slice sa2 a2.length sc2) a2.length (a2.map (Value.int .u8)), fsl 1 (.slice sa3 a3.length sc3) a3.length (a3.map (Value.int .u8)), R] w0 w ∧ signalmanlaw20_StationNoise.l6 kq x33 x87 x93 = some r ∧ kq ≤ kq88) (fun st => match st with | x93 => [(12, pt bt10_0), (14, pt nb25), (21, vi x93)]) kq88 (0) ⟨rfl, rfl, rfl, tv⟩ ⟨HS, H, Nat.le_refl _⟩ ?_))))))))))))
          rintro kq94 x93 w ⟨HS, H, hk95⟩
          cases kq94 with
          | zero => exact absurd H (by simp [signalmanlaw20_StationNoise.l6])
          | succ kq94 =>
           simp only [signalmanlaw20_StationNoise.l6] at H
           refine V.seq (V.seq (V.region (W.mv rfl (W.r (X.cmp (decide (x93 < 2)) rfl rfl rfl rfl) rfl (W.nx ?_)))))
           by_cases c96 : x93 < 2
           ·replace H := ite_t c96 H
            refine V.condT (sb (dT c96)) (V.skip (At.next (V.seq (V.block (V.seq (V.region (W.mv rfl (W.mv rfl ?_))))))))
            replace HS := HS.fr 3
            obtain ⟨b16_97, b17_97, b18_97, b22_97, b23_97, b24_97, b32_97, b33_97, b34_97, hi98, HS⟩ := station_Station.open HS
            obtain ⟨t99, A100, H⟩ := bind_s H
            refine W.e (Y.cl func16 (station_Station_Counts.calls A100 HS.j10)) rfl ?_
            rintro _ w ⟨rfl, HS⟩
            replace HS := HS.o10
            refine W.e (Y.alloc (z := Value.agg (#[vi (0), vi (0), vi (0), vi (0), vi (0), vi (0), vi (0)])) HS ze42) rfl ?_
            rintro _ w ⟨nb101, rfl, HS⟩
            refine W.en (Y.storeSt (c' := #[vi t99.Good, vi t99.Bad, vi t99.Aborts, vi t99.Runts, vi t99.Giants, vi t99.Dropped, vi t99.Twins]) 0 [vi t99.Good, vi t99.Bad, vi t99.Aborts, vi t99.Runts, vi t99.Giants, vi t99.Dropped, vi t99.Twins] HS rfl inf42 rfl rfl rfl rfl rfl rfl) rfl ?_
            rintro _ w HS
            refine W.nx (V.meet (σ := Bool) (fun st w => match st with | x112 => Sep.St [station_Station.at bt10_0 x87, api_Counts.at nb101 t99, V43.at nb25 x33, tie (El.sl (El.int .u8)) ([vs sa2 a2.length sc2, vs sa3 a3.length sc3]) (([a2, a3] : List (List Int))), row 32 1 (.slice (some ⟨lb26, 0, none⟩) (([a2, a3] : List (List Int))).length 2) (([a2, a3] : List (List Int))).length ([vs sa2 a2.length sc2, vs sa3 a3.length sc3]), fsl 1 (.slice sa2 a2.length sc2) a2.length (a2.map (Value.int .u8)), fsl 1 (.slice sa3 a3.length sc3) a3.length (a3.map (Value.int .u8)), R] w0 w ∧ ∃ kl115, kl115 ≤ kq94 ∧ signalmanlaw20_StationNoise.j7 x93 (signalmanlaw20_StationNoise.l6 kl115 x33 x87) x112 = some r) (fun st => match st with | x112 => [(12, pt bt10_0), (14, pt nb25), (21, vi x93), (191, vb x112)]) ?_ ?_)
            ·obtain ⟨c117, H⟩ := ite_n H
             replace HS := HS.fr 11
             obtain ⟨hi119, HS⟩ := V43.open HS
             by_cases c120 : x93 = 0
             ·replace H := ite_t c120 H
              by_cases c121 : t99.Good = x33.1.Good
              ·replace H := ite_t c121 H
               by_cases c122 : t99.Bad = x33.1.Bad
               ·replace H := ite_t c122 H
                by_cases c123 : t99.Aborts = x33.1.Aborts
                ·replace H := ite_t c123 H
                 by_cases c124 : t99.Runts = x33.1.Runts
                 ·replace H := ite_t c124 H
                  refine V.dr [] [] [(149, po nb101 (0 + 0)), (150, vi t99.Good), (151, vi x93), (152, po nb25 (0 + 0 * 7)), (153, po nb25 (0 + 0 * 7 + 0)), (154, vi x33.1.Good), (155, vb (!(decide (t99.Good = x33.1.Good)))), (156, vb (!(decide (t99.Good = x33.1.Good)))), (157, po nb101 (0 + 1)), (158, vi t99.Bad), (159, vi x93), (160, po nb25 (0 + 0 * 7)), (161, po nb25 (0 + 0 * 7 + 1)), (162, vi x33.1.Bad), (163, vb (!(decide (t99.Bad = x33.1.Bad)))), (164, vb (!(decide (t99.Bad = x33.1.Bad)))), (165, vb (!(decide (t99.Bad = x33.1.Bad)))), (166, po nb101 (0 + 2)), (167, vi t99.Aborts), (168, vi x93), (169, po nb25 (0 + 0 * 7)), (170, po nb25 (0 + 0 * 7 + 2)), (171, vi x33.1.Aborts), (172, vb (!(decide (t99.Aborts = x33.1.Aborts)))), (173, vb (!(decide (t99.Aborts = x33.1.Aborts)))), (174, vb (!(decide (t99.Aborts = x33.1.Aborts)))), (175, po nb101 (0 + 3)), (176, vi t99.Runts), (177, vi x93), (178, po nb25 (0 + 0 * 7)), (179, po nb25 (0 + 0 * 7 + 3)), (180, vi x33.1.Runts), (181, vb (!(decide (t99.Runts = x33.1.Runts)))), (182, vb (!(decide (t99.Runts = x33.1.Runts)))), (183, vb (!(decide (t99.Runts = x33.1.Runts)))), (184, po nb101 (0 + 4)), (185, vi t99.Giants), (186, vi x93), (187, po nb25 (0 + 0 * 7)), (188, po nb25 (0 + 0 * 7 + 4)), (189, vi x33.1.Giants), (190, vb (!(decide (t99.Giants = x33.1.Giants)))), (191, vb (!(decide (t99.Giants = x33.1.Giants))))] mo HS ?_
                  refine T.fn [(12, _), (14, _), (21, _), (191, _)] ⟨rfl, rfl, rfl, rfl, tv⟩ ⟨.fa 22 fo42_0, .ld 149 1 underlying3, .mv 21, .n2 14 151 rfl rfl rfl (fun w HS => X.indexArK 0 c120 underlying43 inf42 rfl rfl c117.1 c117.2), .fa 152 fo42_0, .ld 153 0 underlying3, .n2 150 154 rfl rfl rfl (fun w HS => X.cmp (!(decide (t99.Good = x33.1.Good))) rfl rfl rfl rfl), .mv 155, .gw [(22, _), (156, _)] 7 false 156 ⟨rfl, rfl, tv⟩ rfl (sb (n_t (dT c121))) (fun w HS => X.fieldAddr 1 fo42_1 rfl), .gw [(157, _), (156, _)] 7 false 156 ⟨rfl, rfl, tv⟩ rfl (sb (n_t (dT c121))) (fun w HS => X.loadAt 1 HS rfl underlying3 rfl rfl rfl), .gw [(21, _), (156, _)] 7 false 156 ⟨rfl, rfl, tv⟩ rfl (sb (n_t (dT c121))) (fun w HS => X.move rfl), .gw [(14, _), (159, _), (156, _)] 7 false 156 ⟨rfl, rfl, rfl, tv⟩ rfl (sb (n_t (dT c121))) (fun w HS => X.indexArK 0 c120 underlying43 inf42 rfl rfl c117.1 c117.2), .gw [(160, _), (156, _)] 7 false 156 ⟨rfl, rfl, tv⟩ rfl (sb (n_t (dT c121))) (fun w HS => X.fieldAddr 1 fo42_1 rfl), .gw [(161, _), (156, _)] 7 false 156 ⟨rfl, rfl, tv⟩ rfl (sb (n_t (dT c121))) (fun w HS => X.loadAt 0 HS rfl underlying3 rfl rfl rfl), .gw [(158, _), (162, _), (156, _)] 7 false 156 ⟨rfl, rfl, rfl, tv⟩ rfl (sb (n_t (dT c121))) (fun w HS => X.cmp (!(decide (t99.Bad = x33.1.Bad))) rfl rfl rfl rfl), .n2 156 163 rfl rfl rfl (fun w HS => X.pickF (sb (n_t (dT c121))) rfl), .mv 164, .gw [(22, _), (165, _)] 16 false 165 ⟨rfl, rfl, tv⟩ rfl (sb (n_t (dT c122))) (fun w HS => X.fieldAddr 2 fo42_2 rfl), .gw [(166, _), (165, _)] 16 false 165 ⟨rfl, rfl, tv⟩ rfl (sb (n_t (dT c122))) (fun w HS => X.loadAt 1 HS rfl underlying3 rfl rfl rfl), .gw [(21, _), (165, _)] 16 false 165 ⟨rfl, rfl, tv⟩ rfl (sb (n_t (dT c122))) (fun w HS => X.move rfl), .gw [(14, _), (168, _), (165, _)] 16 false 165 ⟨rfl, rfl, rfl, tv⟩ rfl (sb (n_t (dT c122))) (fun w HS => X.indexArK 0 c120 underlying43 inf42 rfl rfl c117.1 c117.2), .gw [(169, _), (165, _)] 16 false 165 ⟨rfl, rfl, tv⟩ rfl (sb (n_t (dT c122))) (fun w HS => X.fieldAddr 2 fo42_2 rfl), .gw [(170, _), (165, _)] 16 false 165 ⟨rfl, rfl, tv⟩ rfl (sb (n_t (dT c122))) (fun w HS => X.loadAt 0 HS rfl underlying3 rfl rfl rfl), .gw [(167, _), (171, _), (165, _)] 16 false 165 ⟨rfl, rfl, rfl, tv⟩ rfl (sb (n_t (dT c122))) (fun w HS => X.cmp (!(decide (t99.Aborts = x33.1.Aborts))) rfl rfl rfl rfl), .n2 165 172 rfl rfl rfl (fun w HS => X.pickF (sb (n_t (dT c122))) rfl), .mv 173, .gw [(22, _), (174, _)] 25 false 174 ⟨rfl, rfl, tv⟩ rfl (sb (n_t (dT c123))) (fun w HS => X.fieldAddr 3 fo42_3 rfl), .gw [(175, _), (174, _)] 25 false 174 ⟨rfl, rfl, tv⟩ rfl (sb (n_t (dT c123))) (fun w HS => X.loadAt 1 HS rfl underlying3 rfl rfl rfl), .gw [(21, _), (174, _)] 25 false 174 ⟨rfl, rfl, tv⟩ rfl (sb (n_t (dT c123))) (fun w HS => X.move rfl), .gw [(14, _), (177, _), (174, _)] 25 false 174 ⟨rfl, rfl, rfl, tv⟩ rfl (sb (n_t (dT c123))) (fun w HS => X.indexArK 0 c120 underlying43 inf42 rfl rfl c117.1 c117.2), .gw [(178, _), (174, _)] 25 false 174 ⟨rfl, rfl, tv⟩ rfl (sb (n_t (dT c123))) (fun w HS => X.fieldAddr 3 fo42_3 rfl), .gw [(179, _), (174, _)] 25 false 174 ⟨rfl, rfl, tv⟩ rfl (sb (n_t (dT c123))) (fun w HS => X.loadAt 0 HS rfl underlying3 rfl rfl rfl), .gw [(176, _), (180, _), (174, _)] 25 false 174 ⟨rfl, rfl, rfl, tv⟩ rfl (sb (n_t (dT c123))) (fun w HS => X.cmp (!(decide (t99.Runts = x33.1.Runts))) rfl rfl rfl rfl), .n2 174 181 rfl rfl rfl (fun w HS => X.pickF (sb (n_t (dT c123))) rfl), .mv 182, .gw [(22, _), (183, _)] 34 false 183 ⟨rfl, rfl, tv⟩ rfl (sb (n_t (dT c124))) (fun w HS => X.fieldAddr 4 fo42_4 rfl), .gw [(184, _), (183, _)] 34 false 183 ⟨rfl, rfl, tv⟩ rfl (sb (n_t (dT c124))) (fun w HS => X.loadAt 1 HS rfl underlying3 rfl rfl rfl), .gw [(21, _), (183, _)] 34 false 183 ⟨rfl, rfl, tv⟩ rfl (sb (n_t (dT c124))) (fun w HS => X.move rfl), .gw [(14, _), (186, _), (183, _)] 34 false 183 ⟨rfl, rfl, rfl, tv⟩ rfl (sb (n_t (dT c124))) (fun w HS => X.indexArK 0 c120 underlying43 inf42 rfl rfl c117.1 c117.2), .gw [(187, _), (183, _)] 34 false 183 ⟨rfl, rfl, tv⟩ rfl (sb (n_t (dT c124))) (fun w HS => X.fieldAddr 4 fo42_4 rfl), .gw [(188, _), (183, _)] 34 false 183 ⟨rfl, rfl, tv⟩ rfl (sb (n_t (dT c124))) (fun w HS => X.loadAt 0 HS rfl underlying3 rfl rfl rfl), .gw [(185, _), (189, _), (183, _)] 34 false 183 ⟨rfl, rfl, rfl, tv⟩ rfl (sb (n_t (dT c124))) (fun w HS => X.cmp (!(decide (t99.Giants = x33.1.Giants))) rfl rfl rfl rfl), .n2 183 190 rfl rfl rfl (fun w HS => X.pickF (sb (n_t (dT c124))) rfl), tv⟩ (fun w HS => ?_)
                  replace HS := HS.pm [2, 3, 4, 5, 6, 7, 8, 9, 10, 11, 0, 1, 12, 13, 14, 15, 16]
                  replace HS := station_Station.close tv HS
                  replace HS := HS.pm [2, 0, 1, 3, 4, 5, 6, 7]
                  replace HS := api_Counts.close tv HS
                  replace HS := HS.pm [2, 0, 1, 3, 4, 5, 6, 7]
                  replace HS := V43.close tv HS
                  replace HS := HS.pk [2, 1, 0, 3, 4, 5, 6, 7] []
                  exact At.meet (!(decide (t99.Giants = x33.1.Giants))) ⟨rfl, rfl, rfl, rfl, tv⟩ ⟨HS, kq94, by omega, H⟩
                 ·replace H := ite_f c124 H
                  refine V.dr [] [] [(149, po nb101 (0 + 0)), (150, vi t99.Good), (151, vi x93), (152, po nb25 (0 + 0 * 7)), (153, po nb25 (0 + 0 * 7 + 0)), (154, vi x33.1.Good), (155, vb (!(decide (t99.Good = x33.1.Good)))), (156, vb (!(decide (t99.Good = x33.1.Good)))), (157, po nb101 (0 + 1)), (158, vi t99.Bad), (159, vi x93), (160, po nb25 (0 + 0 * 7)), (161, po nb25 (0 + 0 * 7 + 1)), (162, vi x33.1.Bad), (163, vb (!(decide (t99.Bad = x33.1.Bad)))), (164, vb (!(decide (t99.Bad = x33.1.Bad)))), (165, vb (!(decide (t99.Bad = x33.1.Bad)))), (166, po nb101 (0 + 2)), (167, vi t99.Aborts), (168, vi x93), (169, po nb25 (0 + 0 * 7)), (170, po nb25 (0 + 0 * 7 + 2)), (171, vi x33.1.Aborts), (172, vb (!(decide (t99.Aborts = x33.1.Aborts)))), (173, vb (!(decide (t99.Aborts = x33.1.Aborts)))), (174, vb (!(decide (t99.Aborts = x33.1.Aborts)))), (175, po nb101 (0 + 3)), (176, vi t99.Runts), (177, vi x93), (178, po nb25 (0 + 0 * 7)), (179, po nb25 (0 + 0 * 7 + 3)), (180, vi x33.1.Runts), (181, vb (!(decide (t99.Runts = x33.1.Runts)))), (182, vb (!(decide (t99.Runts = x33.1.Runts)))), (183, vb (!(decide (t99.Runts = x33.1.Runts)))), (184, undef), (185, undef), (186, undef), (187, undef), (188, undef), (189, undef), (190, undef), (191, vb true)] mo HS ?_
                  refine T.fn [(12, _), (14, _), (21, _), (191, _)] ⟨rfl, rfl, rfl, rfl, tv⟩ ⟨.fa 22 fo42_0, .ld 149 1 underlying3, .mv 21, .n2 14 151 rfl rfl rfl (fun w HS => X.indexArK 0 c120 underlying43 inf42 rfl rfl c117.1 c117.2), .fa 152 fo42_0, .ld 153 0 underlying3, .n2 150 154 rfl rfl rfl (fun w HS => X.cmp (!(decide (t99.Good = x33.1.Good))) rfl rfl rfl rfl), .mv 155, .gw [(22, _), (156, _)] 7 false 156 ⟨rfl, rfl, tv⟩ rfl (sb (n_t (dT c121))) (fun w HS => X.fieldAddr 1 fo42_1 rfl), .gw [(157, _), (156, _)] 7 false 156 ⟨rfl, rfl, tv⟩ rfl (sb (n_t (dT c121))) (fun w HS => X.loadAt 1 HS rfl underlying3 rfl rfl rfl), .gw [(21, _), (156, _)] 7 false 156 ⟨rfl, rfl, tv⟩ rfl (sb (n_t (dT c121))) (fun w HS => X.move rfl), .gw [(14, _), (159, _), (156, _)] 7 false 156 ⟨rfl, rfl, rfl, tv⟩ rfl (sb (n_t (dT c121))) (fun w HS => X.indexArK 0 c120 underlying43 inf42 rfl rfl c117.1 c117.2), .gw [(160, _), (156, _)] 7 false 156 ⟨rfl, rfl, tv⟩ rfl (sb (n_t (dT c121))) (fun w HS => X.fieldAddr 1 fo42_1 rfl), .gw [(161, _), (156, _)] 7 false 156 ⟨rfl, rfl, tv⟩ rfl (sb (n_t (dT c121))) (fun w HS => X.loadAt 0 HS rfl underlying3 rfl rfl rfl), .gw [(158, _), (162, _), (156, _)] 7 false 156 ⟨rfl, rfl, rfl, tv⟩ rfl (sb (n_t (dT c121))) (fun w HS => X.cmp (!(decide (t99.Bad = x33.1.Bad))) rfl rfl rfl rfl), .n2 156 163 rfl rfl rfl (fun w HS => X.pickF (sb (n_t (dT c121))) rfl), .mv 164, .gw [(22, _), (165, _)] 16 false 165 ⟨rfl, rfl, tv⟩ rfl (sb (n_t (dT c122))) (fun w HS => X.fieldAddr 2 fo42_2 rfl), .gw [(166, _), (165, _)] 16 false 165 ⟨rfl, rfl, tv⟩ rfl (sb (n_t (dT c122))) (fun w HS => X.loadAt 1 HS rfl underlying3 rfl rfl rfl), .gw [(21, _), (165, _)] 16 false 165 ⟨rfl, rfl, tv⟩ rfl (sb (n_t (dT c122))) (fun w HS => X.move rfl), .gw [(14, _), (168, _), (165, _)] 16 false 165 ⟨rfl, rfl, rfl, tv⟩ rfl (sb (n_t (dT c122))) (fun w HS => X.indexArK 0 c120 underlying43 inf42 rfl rfl c117.1 c117.2), .gw [(169, _), (165, _)] 16 false 165 ⟨rfl, rfl, tv⟩ rfl (sb (n_t (dT c122))) (fun w HS => X.fieldAddr 2 fo42_2 rfl), .gw [(170, _), (165, _)] 16 false 165 ⟨rfl, rfl, tv⟩ rfl (sb (n_t (dT c122))) (fun w HS => X.loadAt 0 HS rfl underlying3 rfl rfl rfl), .gw [(167, _), (171, _), (165, _)] 16 false 165 ⟨rfl, rfl, rfl, tv⟩ rfl (sb (n_t (dT c122))) (fun w HS => X.cmp (!(decide (t99.Aborts = x33.1.Aborts))) rfl rfl rfl rfl), .n2 165 172 rfl rfl rfl (fun w HS => X.pickF (sb (n_t (dT c122))) rfl), .mv 173, .gw [(22, _), (174, _)] 25 false 174 ⟨rfl, rfl, tv⟩ rfl (sb (n_t (dT c123))) (fun w HS => X.fieldAddr 3 fo42_3 rfl), .gw [(175, _), (174, _)] 25 false 174 ⟨rfl, rfl, tv⟩ rfl (sb (n_t (dT c123))) (fun w HS => X.loadAt 1 HS rfl underlying3 rfl rfl rfl), .gw [(21, _), (174, _)] 25 false 174 ⟨rfl, rfl, tv⟩ rfl (sb (n_t (dT c123))) (fun w HS => X.move rfl), .gw [(14, _), (177, _), (174, _)] 25 false 174 ⟨rfl, rfl, rfl, tv⟩ rfl (sb (n_t (dT c123))) (fun w HS => X.indexArK 0 c120 underlying43 inf42 rfl rfl c117.1 c117.2), .gw [(178, _), (174, _)] 25 false 174 ⟨rfl, rfl, tv⟩ rfl (sb (n_t (dT c123))) (fun w HS => X.fieldAddr 3 fo42_3 rfl), .gw [(179, _), (174, _)] 25 false 174 ⟨rfl, rfl, tv⟩ rfl (sb (n_t (dT c123))) (fun w HS => X.loadAt 0 HS rfl underlying3 rfl rfl rfl), .gw [(176, _), (180, _), (174, _)] 25 false 174 ⟨rfl, rfl, rfl, tv⟩ rfl (sb (n_t (dT c123))) (fun w HS => X.cmp (!(decide (t99.Runts = x33.1.Runts))) rfl rfl rfl rfl), .n2 174 181 rfl rfl rfl (fun w HS => X.pickF (sb (n_t (dT c123))) rfl), .mv 182, .gp 34 false true 183 rfl rfl (Option.some.inj (sb (n_f (dF c124)))) rfl, .gp 34 false true 183 rfl rfl (Option.some.inj (sb (n_f (dF c124)))) rfl, .gp 34 false true 183 rfl rfl (Option.some.inj (sb (n_f (dF c124)))) rfl, .gp 34 false true 183 rfl rfl (Option.some.inj (sb (n_f (dF c124)))) rfl, .gp 34 false true 183 rfl rfl (Option.some.inj (sb (n_f (dF c124)))) rfl, .gp 34 false true 183 rfl rfl (Option.some.inj (sb (n_f (dF c124)))) rfl, .gp 34 false true 183 rfl rfl (Option.some.inj (sb (n_f (dF c124)))) rfl, .n2 183 190 rfl rfl rfl (fun w HS => X.pickT (sb (n_f (dF c124))) rfl), tv⟩ (fun w HS => ?_)
                  replace HS := HS.pm [2, 3, 4, 5, 6, 7, 8, 9, 10, 11, 0, 1, 12, 13, 14, 15, 16]
                  replace HS := station_Station.close tv HS
                  replace HS := HS.pm [2, 0, 1, 3, 4, 5, 6, 7]
                  replace HS := api_Counts.close tv HS
                  replace HS := HS.pm [2, 0, 1, 3, 4, 5, 6, 7]
                  replace HS := V43.close tv HS
                  replace HS := HS.pk [2, 1, 0, 3, 4, 5, 6, 7] []
                  exact At.meet true ⟨rfl, rfl, rfl, rfl, tv⟩ ⟨HS, kq94, by omega, H⟩
                ·replace H := ite_f c123 H
                 refine V.dr [] [] [(149, po nb101 (0 + 0)), (150, vi t99.Good), (151, vi x93), (152, po nb25 (0 + 0 * 7)), (153, po nb25 (0 + 0 * 7 + 0)), (154, vi x33.1.Good), (155, vb (!(decide (t99.Good = x33.1.Good)))), (156, vb (!(decide (t99.Good = x33.1.Good)))), (157, po nb101 (0 + 1)), (158, vi t99.Bad), (159, vi x93), (160, po nb25 (0 + 0 * 7)), (161, po nb25 (0 + 0 * 7 + 1)), (162, vi x33.1.Bad), (163, vb (!(decide (t99.Bad = x33.1.Bad)))), (164, vb (!(decide (t99.Bad = x33.1.Bad)))), (165, vb (!(decide (t99.Bad = x33.1.Bad)))), (166, po nb101 (0 + 2)), (167, vi t99.Aborts), (168, vi x93), (169, po nb25 (0 + 0 * 7)), (170, po nb25 (0 + 0 * 7 + 2)), (171, vi x33.1.Aborts), (172, vb (!(decide (t99.Aborts = x33.1.Aborts)))), (173, vb (!(decide (t99.Aborts = x33.1.Aborts)))), (174, vb (!(decide (t99.Aborts = x33.1.Aborts)))), (175, undef), (176, undef), (177, undef), (178, undef), (179, undef), (180, undef), (181, undef), (182, vb true), (183, vb true), (184, undef), (185, undef), (186, undef), (187, undef), (188, undef), (189, undef), (190, undef), (191, vb true)] mo HS ?_
                 refine T.fn [(12, _), (14, _), (21, _), (191, _)] ⟨rfl, rfl, rfl, rfl, tv⟩ ⟨.fa 22 fo42_0, .ld 149 1 underlying3, .mv 21, .n2 14 151 rfl rfl rfl (fun w HS => X.indexArK 0 c120 underlying43 inf42 rfl rfl c117.1 c117.2), .fa 152 fo42_0, .ld 153 0 underlying3, .n2 150 154 rfl rfl rfl (fun w HS => X.cmp (!(decide (t99.Good = x33.1.Good))) rfl rfl rfl rfl), .mv 155, .gw [(22, _), (156, _)] 7 false 156 ⟨rfl, rfl, tv⟩ rfl (sb (n_t (dT c121))) (fun w HS => X.fieldAddr 1 fo42_1 rfl), .gw [(157, _), (156, _)] 7 false 156 ⟨rfl, rfl, tv⟩ rfl (sb (n_t (dT c121))) (fun w HS => X.loadAt 1 HS rfl underlying3 rfl rfl rfl), .gw [(21, _), (156, _)] 7 false 156 ⟨rfl, rfl, tv⟩ rfl (sb (n_t (dT c121))) (fun w HS => X.move rfl), .gw [(14, _), (159, _), (156, _)] 7 false 156 ⟨rfl, rfl, rfl, tv⟩ rfl (sb (n_t (dT c121))) (fun w HS => X.indexArK 0 c120 underlying43 inf42 rfl rfl c117.1 c117.2), .gw [(160, _), (156, _)] 7 false 156 ⟨rfl, rfl, tv⟩ rfl (sb (n_t (dT c121))) (fun w HS => X.fieldAddr 1 fo42_1 rfl), .gw [(161, _), (156, _)] 7 false 156 ⟨rfl, rfl, tv⟩ rfl (sb (n_t (dT c121))) (fun w HS => X.loadAt 0 HS rfl underlying3 rfl rfl rfl), .gw [(158, _), (162, _), (156, _)] 7 false 156 ⟨rfl, rfl, rfl, tv⟩ rfl (sb (n_t (dT c121))) (fun w HS => X.cmp (!(decide (t99.Bad = x33.1.Bad))) rfl rfl rfl rfl), .n2 156 163 rfl rfl rfl (fun w HS => X.pickF (sb (n_t (dT c121))) rfl), .mv 164, .gw [(22, _), (165, _)] 16 false 165 ⟨rfl, rfl, tv⟩ rfl (sb (n_t (dT c122))) (fun w HS => X.fieldAddr 2 fo42_2 rfl), .gw [(166, _), (165, _)] 16 false 165 ⟨rfl, rfl, tv⟩ rfl (sb (n_t (dT c122))) (fun w HS => X.loadAt 1 HS rfl underlying3 rfl rfl rfl), .gw [(21, _), (165, _)] 16 false 165 ⟨rfl, rfl, tv⟩ rfl (sb (n_t (dT c122))) (fun w HS => X.move rfl), .gw [(14, _), (168, _), (165, _)] 16 false 165 ⟨rfl, rfl, rfl, tv⟩ rfl (sb (n_t (dT c122))) (fun w HS => X.indexArK 0 c120 underlying43 inf42 rfl rfl c117.1 c117.2), .gw [(169, _), (165, _)] 16 false 165 ⟨rfl, rfl, tv⟩ rfl (sb (n_t (dT c122))) (fun w HS => X.fieldAddr 2 fo42_2 rfl), .gw [(170, _), (165, _)] 16 false 165 ⟨rfl, rfl, tv⟩ rfl (sb (n_t (dT c122))) (fun w HS => X.loadAt 0 HS rfl underlying3 rfl rfl rfl), .gw [(167, _), (171, _), (165, _)] 16 false 165 ⟨rfl, rfl, rfl, tv⟩ rfl (sb (n_t (dT c122))) (fun w HS => X.cmp (!(decide (t99.Aborts = x33.1.Aborts))) rfl rfl rfl rfl), .n2 165 172 rfl rfl rfl (fun w HS => X.pickF (sb (n_t (dT c122))) rfl), .mv 173, .gp 25 false true 174 rfl rfl (Option.some.inj (sb (n_f (dF c123)))) rfl, .gp 25 false true 174 rfl rfl (Option.some.inj (sb (n_f (dF c123)))) rfl, .gp 25 false true 174 rfl rfl (Option.some.inj (sb (n_f (dF c123)))) rfl, .gp 25 false true 174 rfl rfl (Option.some.inj (sb (n_f (dF c123)))) rfl, .gp 25 false true 174 rfl rfl (Option.some.inj (sb (n_f (dF c123)))) rfl, .gp 25 false true 174 rfl rfl (Option.some.inj (sb (n_f (dF c123)))) rfl, .gp 25 false true 174 rfl rfl (Option.some.inj (sb (n_f (dF c123)))) rfl, .n2 174 181 rfl rfl rfl (fun w HS => X.pickT (sb (n_f (dF c123))) rfl), .mv 182, .gp 34 false true 183 rfl rfl rfl rfl, .gp 34 false true 183 rfl rfl rfl rfl, .gp 34 false true 183 rfl rfl rfl rfl, .gp 34 false true 183 rfl rfl rfl rfl, .gp 34 false true 183 rfl rfl rfl rfl, .gp 34 false true 183 rfl rfl rfl rfl, .gp 34 false true 183 rfl rfl rfl rfl, .n2 183 190 rfl rfl rfl (fun w HS => X.pickT rfl rfl), tv⟩ (fun w HS => ?_)
                 replace HS := HS.pm [2, 3, 4, 5, 6, 7, 8, 9, 10, 11, 0, 1, 12, 13, 14, 15, 16]
                 replace HS := station_Station.close tv HS
                 replace HS := HS.pm [2, 0, 1, 3, 4, 5, 6, 7]
                 replace HS := api_Counts.close tv HS
                 replace HS := HS.pm [2, 0, 1, 3, 4, 5, 6, 7]
                 replace HS := V43.close tv HS
                 replace HS := HS.pk [2, 1, 0, 3, 4, 5, 6, 7] []
                 exact At.meet true ⟨rfl, rfl, rfl, rfl, tv⟩ ⟨HS, kq94, by omega, H⟩
               ·replace H := ite_f c122 H
                refine V.dr [] [] [(149, po nb101 (0 + 0)), (150, vi t99.Good), (151, vi x93), (152, po nb25 (0 + 0 * 7)), (153, po nb25 (0 + 0 * 7 + 0)), (154, vi x33.1.Good), (155, vb (!(decide (t99.Good = x33.1.Good)))), (156, vb (!(decide (t99.Good = x33.1.Good)))), (157, po nb101 (0 + 1)), (158, vi t99.Bad), (159, vi x93), (160, po nb25 (0 + 0 * 7)), (161, po nb25 (0 + 0 * 7 + 1)), (162, vi x33.1.Bad), (163, vb (!(decide (t99.Bad = x33.1.Bad)))), (164, vb (!(decide (t99.Bad = x33.1.Bad)))), (165, vb (!(decide (t99.Bad = x33.1.Bad)))), (166, undef), (167, undef), (168, undef), (169, undef), (170, undef), (171, undef), (172, undef), (173, vb true), (174, vb true), (175, undef), (176, undef), (177, undef), (178, undef), (179, undef), (180, undef), (181, undef), (182, vb true), (183, vb true), (184, undef), (185, undef), (186, undef), (187, undef), (188, undef), (189, undef), (190, undef), (191, vb true)] mo HS ?_
                refine T.fn [(12, _), (14, _), (21, _), (191, _)] ⟨rfl, rfl, rfl, rfl, tv⟩ ⟨.fa 22 fo42_0, .ld 149 1 underlying3, .mv 21, .n2 14 151 rfl rfl rfl (fun w HS => X.indexArK 0 c120 underlying43 inf42 rfl rfl c117.1 c117.2), .fa 152 fo42_0, .ld 153 0 underlying3, .n2 150 154 rfl rfl rfl (fun w HS => X.cmp (!(decide (t99.Good = x33.1.Good))) rfl rfl rfl rfl), .mv 155, .gw [(22, _), (156, _)] 7 false 156 ⟨rfl, rfl, tv⟩ rfl (sb (n_t (dT c121))) (fun w HS => X.fieldAddr 1 fo42_1 rfl), .gw [(157, _), (156, _)] 7 false 156 ⟨rfl, rfl, tv⟩ rfl (sb (n_t (dT c121))) (fun w HS => X.loadAt 1 HS rfl underlying3 rfl rfl rfl), .gw [(21, _), (156, _)] 7 false 156 ⟨rfl, rfl, tv⟩ rfl (sb (n_t (dT c121))) (fun w HS => X.move rfl), .gw [(14, _), (159, _), (156, _)] 7 false 156 ⟨rfl, rfl, rfl, tv⟩ rfl (sb (n_t (dT c121))) (fun w HS => X.indexArK 0 c120 underlying43 inf42 rfl rfl c117.1 c117.2), .gw [(160, _), (156, _)] 7 false 156 ⟨rfl, rfl, tv⟩ rfl (sb (n_t (dT c121))) (fun w HS => X.fieldAddr 1 fo42_1 rfl), .gw [(161, _), (156, _)] 7 false 156 ⟨rfl, rfl, tv⟩ rfl (sb (n_t (dT c121))) (fun w HS => X.loadAt 0 HS rfl underlying3 rfl rfl rfl), .gw [(158, _), (162, _), (156, _)] 7 false 156 ⟨rfl, rfl, rfl, tv⟩ rfl (sb (n_t (dT c121))) (fun w HS => X.cmp (!(decide (t99.Bad = x33.1.Bad))) rfl rfl rfl rfl), .n2 156 163 rfl rfl rfl (fun w HS => X.pickF (sb (n_t (dT c121))) rfl), .mv 164, .gp 16 false true 165 rfl rfl (Option.some.inj (sb (n_f (dF c122)))) rfl, .gp 16 false true 165 rfl rfl (Option.some.inj (sb (n_f (dF c122)))) rfl, .gp 16 false true 165 rfl rfl (Option.some.inj (sb (n_f (dF c122)))) rfl, .gp 16 false true 165 rfl rfl (Option.some.inj (sb (n_f (dF c122)))) rfl, .gp 16 false true 165 rfl rfl (Option.some.inj (sb (n_f (dF c122)))) rfl, .gp 16 false true 165 rfl rfl (Option.some.inj (sb (n_f (dF c122)))) rfl, .gp 16 false true 165 rfl rfl (Option.some.inj (sb (n_f (dF c122)))) rfl, .n2 165 172 rfl rfl rfl (fun w HS => X.pickT (sb (n_f (dF c122))) rfl), .mv 173, .gp 25 false true 174 rfl rfl rfl rfl, .gp 25 false true 174 rfl rfl rfl rfl, .gp 25 false true 174 rfl rfl rfl rfl, .gp 25 false true 174 rfl rfl rfl rfl, .gp 25 false true 174 rfl rfl rfl rfl, .gp 25 false true 174 rfl rfl rfl rfl, .gp 25 false true 174 rfl rfl rfl rfl, .n2 174 181 rfl rfl rfl (fun w HS => X.pickT rfl rfl), .mv 182, .gp 34 false true 183 rfl rfl rfl rfl, .gp 34 false true 183 rfl rfl rfl rfl, .gp 34 false true 183 rfl rfl rfl rfl, .gp 34 false true 183 rfl rfl rfl rfl, .gp 34 false true 183 rfl rfl rfl rfl, .gp 34 false true 183 rfl rfl rfl rfl, .gp 34 false true 183 rfl rfl rfl rfl, .n2 183 190 rfl rfl rfl (fun w HS => X.pickT rfl rfl), tv⟩ (fun w HS => ?_)
                replace HS := HS.pm [2, 3, 4, 5, 6, 7, 8, 9, 10, 11, 0, 1, 12, 13, 14, 15, 16]
                replace HS := station_Station.close tv HS
                replace HS := HS.pm [2, 0, 1, 3, 4, 5, 6, 7]
                replace HS := api_Counts.close tv HS
                replace HS := HS.pm [2, 0, 1, 3, 4, 5, 6, 7]
                replace HS := V43.close tv HS
                replace HS := HS.pk [2, 1, 0, 3, 4, 5, 6, 7] []
                exact At.meet true ⟨rfl, rfl, rfl, rfl, tv⟩ ⟨HS, kq94, by omega, H⟩
              ·replace H := ite_f c121 H
               refine V.dr [] [] [(149, po nb101 (0 + 0)), (150, vi t99.Good), (151, vi x93), (152, po nb25 (0 + 0 * 7)), (153, po nb25 (0 + 0 * 7 + 0)), (154, vi x33.1.Good), (155, vb (!(decide (t99.Good = x33.1.Good)))), (156, vb (!(decide (t99.Good = x33.1.Good)))), (157, undef), (158, undef), (159, undef), (160, undef), (161, undef), (162, undef), (163, undef), (164, vb true), (165, vb true), (166, undef), (167, undef), (168, undef), (169, undef), (170, undef), (171, undef), (172, undef), (173, vb true), (174, vb true), (175, undef), (176, undef), (177, undef), (178, undef), (179, undef), (180, undef), (181, undef), (182, vb true), (183, vb true), (184, undef), (185, undef), (186, undef), (187, undef), (188, undef), (189, undef), (190, undef), (191, vb true)] mo HS ?_
               refine T.fn [(12, _), (14, _), (21, _), (191, _)] ⟨rfl, rfl, rfl, rfl, tv⟩ ⟨.fa 22 fo42_0, .ld 149 1 underlying3, .mv 21, .n2 14 151 rfl rfl rfl (fun w HS => X.indexArK 0 c120 underlying43 inf42 rfl rfl c117.1 c117.2), .fa 152 fo42_0, .ld 153 0 underlying3, .n2 150 154 rfl rfl rfl (fun w HS => X.cmp (!(decide (t99.Good = x33.1.Good))) rfl rfl rfl rfl), .mv 155, .gp 7 false true 156 rfl rfl (Option.some.inj (sb (n_f (dF c121)))) rfl, .gp 7 false true 156 rfl rfl (Option.some.inj (sb (n_f (dF c121)))) rfl, .gp 7 false true 156 rfl rfl (Option.some.inj (sb (n_f (dF c121)))) rfl, .gp 7 false true 156 rfl rfl (Option.some.inj (sb (n_f (dF c121)))) rfl, .gp 7 false true 156 rfl rfl (Option.some.inj (sb (n_f (dF c121)))) rfl, .gp 7 false true 156 rfl rfl (Option.some.inj (sb (n_f (dF c121)))) rfl, .gp 7 false true 156 rfl rfl (Option.some.inj (sb (n_f (dF c121)))) rfl, .n2 156 163 rfl rfl rfl (fun w HS => X.pickT (sb (n_f (dF c121))) rfl), .mv 164, .gp 16 false true 165 rfl rfl rfl rfl, .gp 16 false true 165 rfl rfl rfl rfl, .gp 16 false true 165 rfl rfl rfl rfl, .gp 16 false true 165 rfl rfl rfl rfl, .gp 16 false true 165 rfl rfl rfl rfl, .gp 16 false true 165 rfl rfl rfl rfl, .gp 16 false true 165 rfl rfl rfl rfl, .n2 165 172 rfl rfl rfl (fun w HS => X.pickT rfl rfl), .mv 173, .gp 25 false true 174 rfl rfl rfl rfl, .gp 25 false true 174 rfl rfl rfl rfl, .gp 25 false true 174 rfl rfl rfl rfl, .gp 25 false true 174 rfl rfl rfl rfl, .gp 25 false true 174 rfl rfl rfl rfl, .gp 25 false true 174 rfl rfl rfl rfl, .gp 25 false true 174 rfl rfl rfl rfl, .n2 174 181 rfl rfl rfl (fun w HS => X.pickT rfl rfl), .mv 182, .gp 34 false true 183 rfl rfl rfl rfl, .gp 34 false true 183 rfl rfl rfl rfl, .gp 34 false true 183 rfl rfl rfl rfl, .gp 34 false true 183 rfl rfl rfl rfl, .gp 34 false true 183 rfl rfl rfl rfl, .gp 34 false true 183 rfl rfl rfl rfl, .gp 34 false true 183 rfl rfl rfl rfl, .n2 183 190 rfl rfl rfl (fun w HS => X.pickT rfl rfl), tv⟩ (fun w HS => ?_)
               replace HS := HS.pm [2, 3, 4, 5, 6, 7, 8, 9, 10, 11, 0, 1, 12, 13, 14, 15, 16]
               replace HS := station_Station.close tv HS
               replace HS := HS.pm [2, 0, 1, 3, 4, 5, 6, 7]
               replace HS := api_Counts.close tv HS
               replace HS := HS.pm [2, 0, 1, 3, 4, 5, 6, 7]
               replace HS := V43.close tv HS
               replace HS := HS.pk [2, 1, 0, 3, 4, 5, 6, 7] []
               exact At.meet true ⟨rfl, rfl, rfl, rfl, tv⟩ ⟨HS, kq94, by omega, H⟩
             ·replace H := ite_f c120 H
              have hk125 : x93 = 1 := by omega
              by_cases c126 : t99.Good = x33.2.Good
              ·replace H := ite_t c126 H
               by_cases c127 : t99.Bad = x33.2.Bad
               ·replace H := ite_t c127 H
                by_cases c128 : t99.Aborts = x33.2.Aborts
                ·replace H := ite_t c128 H
                 by_cases c129 : t99.Runts = x33.2.Runts
                 ·replace H := ite_t c129 H
                  refine V.dr [] [] [(149, po nb101 (0 + 0)), (150, vi t99.Good), (151, vi x93), (152, po nb25 (0 + 1 * 7)), (153, po nb25 (0 + 1 * 7 + 0)), (154, vi x33.2.Good), (155, vb (!(decide (t99.Good = x33.2.Good)))), (156, vb (!(decide (t99.Good = x33.2.Good)))), (157, po nb101 (0 + 1)), (158, vi t99.Bad), (159, vi x93), (160, po nb25 (0 + 1 * 7)), (161, po nb25 (0 + 1 * 7 + 1)), (162, vi x33.2.Bad), (163, vb (!(decide (t99.Bad = x33.2.Bad)))), (164, vb (!(decide (t99.Bad = x33.2.Bad)))), (165, vb (!(decide (t99.Bad = x33.2.Bad)))), (166, po nb101 (0 + 2)), (167, vi t99.Aborts), (168, vi x93), (169, po nb25 (0 + 1 * 7)), (170, po nb25 (0 + 1 * 7 + 2)), (171, vi x33.2.Aborts), (172, vb (!(decide (t99.Aborts = x33.2.Aborts)))), (173, vb (!(decide (t99.Aborts = x33.2.Aborts)))), (174, vb (!(decide (t99.Aborts = x33.2.Aborts)))), (175, po nb101 (0 + 3)), (176, vi t99.Runts), (177, vi x93), (178, po nb25 (0 + 1 * 7)), (179, po nb25 (0 + 1 * 7 + 3)), (180, vi x33.2.Runts), (181, vb (!(decide (t99.Runts = x33.2.Runts)))), (182, vb (!(decide (t99.Runts = x33.2.Runts)))), (183, vb (!(decide (t99.Runts = x33.2.Runts)))), (184, po nb101 (0 + 4)), (185, vi t99.Giants), (186, vi x93), (187, po nb25 (0 + 1 * 7)), (188, po nb25 (0 + 1 * 7 + 4)), (189, vi x33.2.Giants), (190, vb (!(decide (t99.Giants = x33.2.Giants)))), (191, vb (!(decide (t99.Giants = x33.2.Giants))))] mo HS ?_
                  refine T.fn [(12, _), (14, _), (21, _), (191, _)] ⟨rfl, rfl, rfl, rfl, tv⟩ ⟨.fa 22 fo42_0, .ld 149 1 underlying3, .mv 21, .n2 14 151 rfl rfl rfl (fun w HS => X.indexArK 1 hk125 underlying43 inf42 rfl rfl c117.1 c117.2), .fa 152 fo42_0, .ld 153 0 underlying3, .n2 150 154 rfl rfl rfl (fun w HS => X.cmp (!(decide (t99.Good = x33.2.Good))) rfl rfl rfl rfl), .mv 155, .gw [(22, _), (156, _)] 7 false 156 ⟨rfl, rfl, tv⟩ rfl (sb (n_t (dT c126))) (fun w HS => X.fieldAddr 1 fo42_1 rfl), .gw [(157, _), (156, _)] 7 false 156 ⟨rfl, rfl, tv⟩ rfl (sb (n_t (dT c126))) (fun w HS => X.loadAt 1 HS rfl underlying3 rfl rfl rfl), .gw [(21, _), (156, _)] 7 false 156 ⟨rfl, rfl, tv⟩ rfl (sb (n_t (dT c126))) (fun w HS => X.move rfl), .gw [(14, _), (159, _), (156, _)] 7 false 156 ⟨rfl, rfl, rfl, tv⟩ rfl (sb (n_t (dT c126))) (fun w HS => X.indexArK 1 hk125 underlying43 inf42 rfl rfl c117.1 c117.2), .gw [(160, _), (156, _)] 7 false 156 ⟨rfl, rfl, tv⟩ rfl (sb (n_t (dT c126))) (fun w HS => X.fieldAddr 1 fo42_1 rfl), .gw [(161, _), (156, _)] 7 false 156 ⟨rfl, rfl, tv⟩ rfl (sb (n_t (dT c126))) (fun w HS => X.loadAt 0 HS rfl underlying3 rfl rfl rfl), .gw [(158, _), (162, _), (156, _)] 7 false 156 ⟨rfl, rfl, rfl, tv⟩ rfl (sb (n_t (dT c126))) (fun w HS => X.cmp (!(decide (t99.Bad = x33.2.Bad))) rfl rfl rfl rfl), .n2 156 163 rfl rfl rfl (fun w HS => X.pickF (sb (n_t (dT c126))) rfl), .mv 164, .gw [(22, _), (165, _)] 16 false 165 ⟨rfl, rfl, tv⟩ rfl (sb (n_t (dT c127))) (fun w HS => X.fieldAddr 2 fo42_2 rfl), .gw [(166, _), (165, _)] 16 false 165 ⟨rfl, rfl, tv⟩ rfl (sb (n_t (dT c127))) (fun w HS => X.loadAt 1 HS rfl underlying3 rfl rfl rfl), .gw [(21, _), (165, _)] 16 false 165 ⟨rfl, rfl, tv⟩ rfl (sb (n_t (dT c127))) (fun w HS => X.move rfl), .gw [(14, _), (168, _), (165, _)] 16 false 165 ⟨rfl, rfl, rfl, tv⟩ rfl (sb (n_t (dT c127))) (fun w HS => X.indexArK 1 hk125 underlying43 inf42 rfl rfl c117.1 c117.2), .gw [(169, _), (165, _)] 16 false 165 ⟨rfl, rfl, tv⟩ rfl (sb (n_t (dT c127))) (fun w HS => X.fieldAddr 2 fo42_2 rfl), .gw [(170, _), (165, _)] 16 false 165 ⟨rfl, rfl, tv⟩ rfl (sb (n_t (dT c127))) (fun w HS => X.loadAt 0 HS rfl underlying3 rfl rfl rfl), .gw [(167, _), (171, _), (165, _)] 16 false 165 ⟨rfl, rfl, rfl, tv⟩ rfl (sb (n_t (dT c127))) (fun w HS => X.cmp (!(decide (t99.Aborts = x33.2.Aborts))) rfl rfl rfl rfl), .n2 165 172 rfl rfl rfl (fun w HS => X.pickF (sb (n_t (dT c127))) rfl), .mv 173, .gw [(22, _), (174, _)] 25 false 174 ⟨rfl, rfl, tv⟩ rfl (sb (n_t (dT c128))) (fun w HS => X.fieldAddr 3 fo42_3 rfl), .gw [(175, _), (174, _)] 25 false 174 ⟨rfl, rfl, tv⟩ rfl (sb (n_t (dT c128))) (fun w HS => X.loadAt 1 HS rfl underlying3 rfl rfl rfl), .gw [(21, _), (174, _)] 25 false 174 ⟨rfl, rfl, tv⟩ rfl (sb (n_t (dT c128))) (fun w HS => X.move rfl), .gw [(14, _), (177, _), (174, _)] 25 false 174 ⟨rfl, rfl, rfl, tv⟩ rfl (sb (n_t (dT c128))) (fun w HS => X.indexArK 1 hk125 underlying43 inf42 rfl rfl c117.1 c117.2), .gw [(178, _), (174, _)] 25 false 174 ⟨rfl, rfl, tv⟩ rfl (sb (n_t (dT c128))) (fun w HS => X.fieldAddr 3 fo42_3 rfl), .gw [(179, _), (174, _)] 25 false 174 ⟨rfl, rfl, tv⟩ rfl (sb (n_t (dT c128))) (fun w HS => X.loadAt 0 HS rfl underlying3 rfl rfl rfl), .gw [(176, _), (180, _), (174, _)] 25 false 174 ⟨rfl, rfl, rfl, tv⟩ rfl (sb (n_t (dT c128))) (fun w HS => X.cmp (!(decide (t99.Runts = x33.2.Runts))) rfl rfl rfl rfl), .n2 174 181 rfl rfl rfl (fun w HS => X.pickF (sb (n_t (dT c128))) rfl), .mv 182, .gw [(22, _), (183, _)] 34 false 183 ⟨rfl, rfl, tv⟩ rfl (sb (n_t (dT c129))) (fun w HS => X.fieldAddr 4 fo42_4 rfl), .gw [(184, _), (183, _)] 34 false 183 ⟨rfl, rfl, tv⟩ rfl (sb (n_t (dT c129))) (fun w HS => X.loadAt 1 HS rfl underlying3 rfl rfl rfl), .gw [(21, _), (183, _)] 34 false 183 ⟨rfl, rfl, tv⟩ rfl (sb (n_t (dT c129))) (fun w HS => X.move rfl), .gw [(14, _), (186, _), (183, _)] 34 false 183 ⟨rfl, rfl, rfl, tv⟩ rfl (sb (n_t (dT c129))) (fun w HS => X.indexArK 1 hk125 underlying43 inf42 rfl rfl c117.1 c117.2), .gw [(187, _), (183, _)] 34 false 183 ⟨rfl, rfl, tv⟩ rfl (sb (n_t (dT c129))) (fun w HS => X.fieldAddr 4 fo42_4 rfl), .gw [(188, _), (183, _)] 34 false 183 ⟨rfl, rfl, tv⟩ rfl (sb (n_t (dT c129))) (fun w HS => X.loadAt 0 HS rfl underlying3 rfl rfl rfl), .gw [(185, _), (189, _), (183, _)] 34 false 183 ⟨rfl, rfl, rfl, tv⟩ rfl (sb (n_t (dT c129))) (fun w HS => X.cmp (!(decide (t99.Giants = x33.2.Giants))) rfl rfl rfl rfl), .n2 183 190 rfl rfl rfl (fun w HS => X.pickF (sb (n_t (dT c129))) rfl), tv⟩ (fun w HS => ?_)
                  replace HS := HS.pm [2, 3, 4, 5, 6, 7, 8, 9, 10, 11, 0, 1, 12, 13, 14, 15, 16]
                  replace HS := station_Station.close tv HS
                  replace HS := HS.pm [2, 0, 1, 3, 4, 5, 6, 7]
                  replace HS := api_Counts.close tv HS
                  replace HS := HS.pm [2, 0, 1, 3, 4, 5, 6, 7]
                  replace HS := V43.close tv HS
                  replace HS := HS.pk [2, 1, 0, 3, 4, 5, 6, 7] []
                  exact At.meet (!(decide (t99.Giants = x33.2.Giants))) ⟨rfl, rfl, rfl, rfl, tv⟩ ⟨HS, kq94, by omega, H⟩
                 ·replace H := ite_f c129 H
                  refine V.dr [] [] [(149, po nb101 (0 + 0)), (150, vi t99.Good), (151, vi x93), (152, po nb25 (0 + 1 * 7)), (153, po nb25 (0 + 1 * 7 + 0)), (154, vi x33.2.Good), (155, vb (!(decide (t99.Good = x33.2.Good)))), (156, vb (!(decide (t99.Good = x33.2.Good)))), (157, po nb101 (0 + 1)), (158, vi t99.Bad), (159, vi x93), (160, po nb25 (0 + 1 * 7)), (161, po nb25 (0 + 1 * 7 + 1)), (162, vi x33.2.Bad), (163, vb (!(decide (t99.Bad = x33.2.Bad)))), (164, vb (!(decide (t99.Bad = x33.2.Bad)))), (165, vb (!(decide (t99.Bad = x33.2.Bad)))), (166, po nb101 (0 + 2)), (167, vi t99.Aborts), (168, vi x93), (169, po nb25 (0 + 1 * 7)), (170, po nb25 (0 + 1 * 7 + 2)), (171, vi x33.2.Aborts), (172, vb (!(decide (t99.Aborts = x33.2.Aborts)))), (173, vb (!(decide (t99.Aborts = x33.2.Aborts)))), (174, vb (!(decide (t99.Aborts = x33.2.Aborts)))), (175, po nb101 (0 + 3)), (176, vi t99.Runts), (177, vi x93), (178, po nb25 (0 + 1 * 7)), (179, po nb25 (0 + 1 * 7 + 3)), (180, vi x33.2.Runts), (181, vb (!(decide (t99.Runts = x33.2.Runts)))), (182, vb (!(decide (t99.Runts = x33.2.Runts)))), (183, vb (!(decide (t99.Runts = x33.2.Runts)))), (184, undef), (185, undef), (186, undef), (187, undef), (188, undef), (189, undef), (190, undef), (191, vb true)] mo HS ?_
                  refine T.fn [(12, _), (14, _), (21, _), (191, _)] ⟨rfl, rfl, rfl, rfl, tv⟩ ⟨.fa 22 fo42_0, .ld 149 1 underlying3, .mv 21, .n2 14 151 rfl rfl rfl (fun w HS => X.indexArK 1 hk125 underlying43 inf42 rfl rfl c117.1 c117.2), .fa 152 fo42_0, .ld 153 0 underlying3, .n2 150 154 rfl rfl rfl (fun w HS => X.cmp (!(decide (t99.Good = x33.2.Good))) rfl rfl rfl rfl), .mv 155, .gw [(22, _), (156, _)] 7 false 156 ⟨rfl, rfl, tv⟩ rfl (sb (n_t (dT c126))) (fun w HS => X.fieldAddr 1 fo42_1 rfl), .gw [(157, _), (156, _)] 7 false 156 ⟨rfl, rfl, tv⟩ rfl (sb (n_t (dT c126))) (fun w HS => X.loadAt 1 HS rfl underlying3 rfl rfl rfl), .gw [(21, _), (156, _)] 7 false 156 ⟨rfl, rfl, tv⟩ rfl (sb (n_t (dT c126))) (fun w HS => X.move rfl), .gw [(14, _), (159, _), (156, _)] 7 false 156 ⟨rfl, rfl, rfl, tv⟩ rfl (sb (n_t (dT c126))) (fun w HS => X.indexArK 1 hk125 underlying43 inf42 rfl rfl c117.1 c117.2), .gw [(160, _), (156, _)] 7 false 156 ⟨rfl, rfl, tv⟩ rfl (sb (n_t (dT c126))) (fun w HS => X.fieldAddr 1 fo42_1 rfl), .gw [(161, _), (156, _)] 7 false 156 ⟨rfl, rfl, tv⟩ rfl (sb (n_t (dT c126))) (fun w HS => X.loadAt 0 HS rfl underlying3 rfl rfl rfl), .gw [(158, _), (162, _), (156, _)] 7 false 156 ⟨rfl, rfl, rfl, tv⟩ rfl (sb (n_t (dT c126))) (fun w HS => X.cmp (!(decide (t99.Bad = x33.2.Bad))) rfl rfl rfl rfl), .n2 156 163 rfl rfl rfl (fun w HS => X.pickF (sb (n_t (dT c126))) rfl), .mv 164, .gw [(22, _), (165, _)] 16 false 165 ⟨rfl, rfl, tv⟩ rfl (sb (n_t (dT c127))) (fun w HS => X.fieldAddr 2 fo42_2 rfl), .gw [(166, _), (165, _)] 16 false 165 ⟨rfl, rfl, tv⟩ rfl (sb (n_t (dT c127))) (fun w HS => X.loadAt 1 HS rfl underlying3 rfl rfl rfl), .gw [(21, _), (165, _)] 16 false 165 ⟨rfl, rfl, tv⟩ rfl (sb (n_t (dT c127))) (fun w HS => X.move rfl), .gw [(14, _), (168, _), (165, _)] 16 false 165 ⟨rfl, rfl, rfl, tv⟩ rfl (sb (n_t (dT c127))) (fun w HS => X.indexArK 1 hk125 underlying43 inf42 rfl rfl c117.1 c117.2), .gw [(169, _), (165, _)] 16 false 165 ⟨rfl, rfl, tv⟩ rfl (sb (n_t (dT c127))) (fun w HS => X.fieldAddr 2 fo42_2 rfl), .gw [(170, _), (165, _)] 16 false 165 ⟨rfl, rfl, tv⟩ rfl (sb (n_t (dT c127))) (fun w HS => X.loadAt 0 HS rfl underlying3 rfl rfl rfl), .gw [(167, _), (171, _), (165, _)] 16 false 165 ⟨rfl, rfl, rfl, tv⟩ rfl (sb (n_t (dT c127))) (fun w HS => X.cmp (!(decide (t99.Aborts = x33.2.Aborts))) rfl rfl rfl rfl), .n2 165 172 rfl rfl rfl (fun w HS => X.pickF (sb (n_t (dT c127))) rfl), .mv 173, .gw [(22, _), (174, _)] 25 false 174 ⟨rfl, rfl, tv⟩ rfl (sb (n_t (dT c128))) (fun w HS => X.fieldAddr 3 fo42_3 rfl), .gw [(175, _), (174, _)] 25 false 174 ⟨rfl, rfl, tv⟩ rfl (sb (n_t (dT c128))) (fun w HS => X.loadAt 1 HS rfl underlying3 rfl rfl rfl), .gw [(21, _), (174, _)] 25 false 174 ⟨rfl, rfl, tv⟩ rfl (sb (n_t (dT c128))) (fun w HS => X.move rfl), .gw [(14, _), (177, _), (174, _)] 25 false 174 ⟨rfl, rfl, rfl, tv⟩ rfl (sb (n_t (dT c128))) (fun w HS => X.indexArK 1 hk125 underlying43 inf42 rfl rfl c117.1 c117.2), .gw [(178, _), (174, _)] 25 false 174 ⟨rfl, rfl, tv⟩ rfl (sb (n_t (dT c128))) (fun w HS => X.fieldAddr 3 fo42_3 rfl), .gw [(179, _), (174, _)] 25 false 174 ⟨rfl, rfl, tv⟩ rfl (sb (n_t (dT c128))) (fun w HS => X.loadAt 0 HS rfl underlying3 rfl rfl rfl), .gw [(176, _), (180, _), (174, _)] 25 false 174 ⟨rfl, rfl, rfl, tv⟩ rfl (sb (n_t (dT c128))) (fun w HS => X.cmp (!(decide (t99.Runts = x33.2.Runts))) rfl rfl rfl rfl), .n2 174 181 rfl rfl rfl (fun w HS => X.pickF (sb (n_t (dT c128))) rfl), .mv 182, .gp 34 false true 183 rfl rfl (Option.some.inj (sb (n_f (dF c129)))) rfl, .gp 34 false true 183 rfl rfl (Option.some.inj (sb (n_f (dF c129)))) rfl, .gp 34 false true 183 rfl rfl (Option.some.inj (sb (n_f (dF c129)))) rfl, .gp 34 false true 183 rfl rfl (Option.some.inj (sb (n_f (dF c129)))) rfl, .gp 34 false true 183 rfl rfl (Option.some.inj (sb (n_f (dF c129)))) rfl, .gp 34 false true 183 rfl rfl (Option.some.inj (sb (n_f (dF c129)))) rfl, .gp 34 false true 183 rfl rfl (Option.some.inj (sb (n_f (dF c129)))) rfl, .n2 183 190 rfl rfl rfl (fun w HS => X.pickT (sb (n_f (dF c129))) rfl), tv⟩ (fun w HS => ?_)
                  replace HS := HS.pm [2, 3, 4, 5, 6, 7, 8, 9, 10, 11, 0, 1, 12, 13, 14, 15, 16]
                  replace HS := station_Station.close tv HS
                  replace HS := HS.pm [2, 0, 1, 3, 4, 5, 6, 7]
                  replace HS := api_Counts.close tv HS
                  replace HS := HS.pm [2, 0, 1, 3, 4, 5, 6, 7]
                  replace HS := V43.close tv HS
                  replace HS := HS.pk [2, 1, 0, 3, 4, 5, 6, 7] []
                  exact At.meet true ⟨rfl, rfl, rfl, rfl, tv⟩ ⟨HS, kq94, by omega, H⟩
                ·replace H := ite_f c128 H
                 refine V.dr [] [] [(149, po nb101 (0 + 0)), (150, vi t99.Good), (151, vi x93), (152, po nb25 (0 + 1 * 7)), (153, po nb25 (0 + 1 * 7 + 0)), (154, vi x33.2.Good), (155, vb (!(decide (t99.Good = x33.2.Good)))), (156, vb (!(decide (t99.Good = x33.2.Good)))), (157, po nb101 (0 + 1)), (158, vi t99.Bad), (159, vi x93), (160, po nb25 (0 + 1 * 7)), (161, po nb25 (0 + 1 * 7 + 1)), (162, vi x33.2.Bad), (163, vb (!(decide (t99.Bad = x33.2.Bad)))), (164, vb (!(decide (t99.Bad = x33.2.Bad)))), (165, vb (!(decide (t99.Bad = x33.2.Bad)))), (166, po nb101 (0 + 2)), (167, vi t99.Aborts), (168, vi x93), (169, po nb25 (0 + 1 * 7)), (170, po nb25 (0 + 1 * 7 + 2)), (171, vi x33.2.Aborts), (172, vb (!(decide (t99.Aborts = x33.2.Aborts)))), (173, vb (!(decide (t99.Aborts = x33.2.Aborts)))), (174, vb (!(decide (t99.Aborts = x33.2.Aborts)))), (175, undef), (176, undef), (177, undef), (178, undef), (179, undef), (180, undef), (181, undef), (182, vb true), (183, vb true), (184, undef), (185, undef), (186, undef), (187, undef), (188, undef), (189, undef), (190, undef), (191, vb true)] mo HS ?_
                 refine T.fn [(12, _), (14, _), (21, _), (191, _)] ⟨rfl, rfl, rfl, rfl, tv⟩ ⟨.fa 22 fo42_0, .ld 149 1 underlying3, .mv 21, .n2 14 151 rfl rfl rfl (fun w HS => X.indexArK 1 hk125 underlying43 inf42 rfl rfl c117.1 c117.2), .fa 152 fo42_0, .ld 153 0 underlying3, .n2 150 154 rfl rfl rfl (fun w HS => X.cmp (!(decide (t99.Good = x33.2.Good))) rfl rfl rfl rfl), .mv 155, .gw [(22, _), (156, _)] 7 false 156 ⟨rfl, rfl, tv⟩ rfl (sb (n_t (dT c126))) (fun w HS => X.fieldAddr 1 fo42_1 rfl), .gw [(157, _), (156, _)] 7 false 156 ⟨rfl, rfl, tv⟩ rfl (sb (n_t (dT c126))) (fun w HS => X.loadAt 1 HS rfl underlying3 rfl rfl rfl), .gw [(21, _), (156, _)] 7 false 156 ⟨rfl, rfl, tv⟩ rfl (sb (n_t (dT c126))) (fun w HS => X.move rfl), .gw [(14, _), (159, _), (156, _)] 7 false 156 ⟨rfl, rfl, rfl, tv⟩ rfl (sb (n_t (dT c126))) (fun w HS => X.indexArK 1 hk125 underlying43 inf42 rfl rfl c117.1 c117.2), .gw [(160, _), (156, _)] 7 false 156 ⟨rfl, rfl, tv⟩ rfl (sb (n_t (dT c126))) (fun w HS => X.fieldAddr 1 fo42_1 rfl), .gw [(161, _), (156, _)] 7 false 156 ⟨rfl, rfl, tv⟩ rfl (sb (n_t (dT c126))) (fun w HS => X.loadAt 0 HS rfl underlying3 rfl rfl rfl), .gw [(158, _), (162, _), (156, _)] 7 false 156 ⟨rfl, rfl, rfl, tv⟩ rfl (sb (n_t (dT c126))) (fun w HS => X.cmp (!(decide (t99.Bad = x33.2.Bad))) rfl rfl rfl rfl), .n2 156 163 rfl rfl rfl (fun w HS => X.pickF (sb (n_t (dT c126))) rfl), .mv 164, .gw [(22, _), (165, _)] 16 false 165 ⟨rfl, rfl, tv⟩ rfl (sb (n_t (dT c127))) (fun w HS => X.fieldAddr 2 fo42_2 rfl), .gw [(166, _), (165, _)] 16 false 165 ⟨rfl, rfl, tv⟩ rfl (sb (n_t (dT c127))) (fun w HS => X.loadAt 1 HS rfl underlying3 rfl rfl rfl), .gw [(21, _), (165, _)] 16 false 165 ⟨rfl, rfl, tv⟩ rfl (sb (n_t (dT c127))) (fun w HS => X.move rfl), .gw [(14, _), (168, _), (165, _)] 16 false 165 ⟨rfl, rfl, rfl, tv⟩ rfl (sb (n_t (dT c127))) (fun w HS => X.indexArK 1 hk125 underlying43 inf42 rfl rfl c117.1 c117.2), .gw [(169, _), (165, _)] 16 false 165 ⟨rfl, rfl, tv⟩ rfl (sb (n_t (dT c127))) (fun w HS => X.fieldAddr 2 fo42_2 rfl), .gw [(170, _), (165, _)] 16 false 165 ⟨rfl, rfl, tv⟩ rfl (sb (n_t (dT c127))) (fun w HS => X.loadAt 0 HS rfl underlying3 rfl rfl rfl), .gw [(167, _), (171, _), (165, _)] 16 false 165 ⟨rfl, rfl, rfl, tv⟩ rfl (sb (n_t (dT c127))) (fun w HS => X.cmp (!(decide (t99.Aborts = x33.2.Aborts))) rfl rfl rfl rfl), .n2 165 172 rfl rfl rfl (fun w HS => X.pickF (sb (n_t (dT c127))) rfl), .mv 173, .gp 25 false true 174 rfl rfl (Option.some.inj (sb (n_f (dF c128)))) rfl, .gp 25 false true 174 rfl rfl (Option.some.inj (sb (n_f (dF c128)))) rfl, .gp 25 false true 174 rfl rfl (Option.some.inj (sb (n_f (dF c128)))) rfl, .gp 25 false true 174 rfl rfl (Option.some.inj (sb (n_f (dF c128)))) rfl, .gp 25 false true 174 rfl rfl (Option.some.inj (sb (n_f (dF c128)))) rfl, .gp 25 false true 174 rfl rfl (Option.some.inj (sb (n_f (dF c128)))) rfl, .gp 25 false true 174 rfl rfl (Option.some.inj (sb (n_f (dF c128)))) rfl, .n2 174 181 rfl rfl rfl (fun w HS => X.pickT (sb (n_f (dF c128))) rfl), .mv 182, .gp 34 false true 183 rfl rfl rfl rfl, .gp 34 false true 183 rfl rfl rfl rfl, .gp 34 false true 183 rfl rfl rfl rfl, .gp 34 false true 183 rfl rfl rfl rfl, .gp 34 false true 183 rfl rfl rfl rfl, .gp 34 false true 183 rfl rfl rfl rfl, .gp 34 false true 183 rfl rfl rfl rfl, .n2 183 190 rfl rfl rfl (fun w HS => X.pickT rfl rfl), tv⟩ (fun w HS => ?_)
                 replace HS := HS.pm [2, 3, 4, 5, 6, 7, 8, 9, 10, 11, 0, 1, 12, 13, 14, 15, 16]
                 replace HS := station_Station.close tv HS
                 replace HS := HS.pm [2, 0, 1, 3, 4, 5, 6, 7]
                 replace HS := api_Counts.close tv HS
                 replace HS := HS.pm [2, 0, 1, 3, 4, 5, 6, 7]
                 replace HS := V43.close tv HS
                 replace HS := HS.pk [2, 1, 0, 3, 4, 5, 6, 7] []
                 exact At.meet true ⟨rfl, rfl, rfl, rfl, tv⟩ ⟨HS, kq94, by omega, H⟩
               ·replace H := ite_f c127 H
                refine V.dr [] [] [(149, po nb101 (0 + 0)), (150, vi t99.Good), (151, vi x93), (152, po nb25 (0 + 1 * 7)), (153, po nb25 (0 + 1 * 7 + 0)), (154, vi x33.2.Good), (155, vb (!(decide (t99.Good = x33.2.Good)))), (156, vb (!(decide (t99.Good = x33.2.Good)))), (157, po nb101 (0 + 1)), (158, vi t99.Bad), (159, vi x93), (160, po nb25 (0 + 1 * 7)), (161, po nb25 (0 + 1 * 7 + 1)), (162, vi x33.2.Bad), (163, vb (!(decide (t99.Bad = x33.2.Bad)))), (164, vb (!(decide (t99.Bad = x33.2.Bad)))), (165, vb (!(decide (t99.Bad = x33.2.Bad)))), (166, undef), (167, undef), (168, undef), (169, undef), (170, undef), (171, undef), (172, undef), (173, vb true), (174, vb true), (175, undef), (176, undef), (177, undef), (178, undef), (179, undef), (180, undef), (181, undef), (182, vb true), (183, vb true), (184, undef), (185, undef), (186, undef), (187, undef), (188, undef), (189, undef), (190, undef), (191, vb true)] mo HS ?_
                refine T.fn [(12, _), (14, _), (21, _), (191, _)] ⟨rfl, rfl, rfl, rfl, tv⟩ ⟨.fa 22 fo42_0, .ld 149 1 underlying3, .mv 21, .n2 14 151 rfl rfl rfl (fun w HS => X.indexArK 1 hk125 underlying43 inf42 rfl rfl c117.1 c117.2), .fa 152 fo42_0, .ld 153 0 underlying3, .n2 150 154 rfl rfl rfl (fun w HS => X.cmp (!(decide (t99.Good = x33.2.Good))) rfl rfl rfl rfl), .mv 155, .gw [(22, _), (156, _)] 7 false 156 ⟨rfl, rfl, tv⟩ rfl (sb (n_t (dT c126))) (fun w HS => X.fieldAddr 1 fo42_1 rfl), .gw [(157, _), (156, _)] 7 false 156 ⟨rfl, rfl, tv⟩ rfl (sb (n_t (dT c126))) (fun w HS => X.loadAt 1 HS rfl underlying3 rfl rfl rfl), .gw [(21, _), (156, _)] 7 false 156 ⟨rfl, rfl, tv⟩ rfl (sb (n_t (dT c126))) (fun w HS => X.move rfl), .gw [(14, _), (159, _), (156, _)] 7 false 156 ⟨rfl, rfl, rfl, tv⟩ rfl (sb (n_t (dT c126))) (fun w HS => X.indexArK 1 hk125 underlying43 inf42 rfl rfl c117.1 c117.2), .gw [(160, _), (156, _)] 7 false 156 ⟨rfl, rfl, tv⟩ rfl (sb (n_t (dT c126))) (fun w HS => X.fieldAddr 1 fo42_1 rfl), .gw [(161, _), (156, _)] 7 false 156 ⟨rfl, rfl, tv⟩ rfl (sb (n_t (dT c126))) (fun w HS => X.loadAt 0 HS rfl underlying3 rfl rfl rfl), .gw [(158, _), (162, _), (156, _)] 7 false 156 ⟨rfl, rfl, rfl, tv⟩ rfl (sb (n_t (dT c126))) (fun w HS => X.cmp (!(decide (t99.Bad = x33.2.Bad))) rfl rfl rfl rfl), .n2 156 163 rfl rfl rfl (fun w HS => X.pickF (sb (n_t (dT c126))) rfl), .mv 164, .gp 16 false true 165 rfl rfl (Option.some.inj (sb (n_f (dF c127)))) rfl, .gp 16 false true 165 rfl rfl (Option.some.inj (sb (n_f (dF c127)))) rfl, .gp 16 false true 165 rfl rfl (Option.some.inj (sb (n_f (dF c127)))) rfl, .gp 16 false true 165 rfl rfl (Option.some.inj (sb (n_f (dF c127)))) rfl, .gp 16 false true 165 rfl rfl (Option.some.inj (sb (n_f (dF c127)))) rfl, .gp 16 false true 165 rfl rfl (Option.some.inj (sb (n_f (dF c127)))) rfl, .gp 16 false true 165 rfl rfl (Option.some.inj (sb (n_f (dF c127)))) rfl, .n2 165 172 rfl rfl rfl (fun w HS => X.pickT (sb (n_f (dF c127))) rfl), .mv 173, .gp 25 false true 174 rfl rfl rfl rfl, .gp 25 false true 174 rfl rfl rfl rfl, .gp 25 false true 174 rfl rfl rfl rfl, .gp 25 false true 174 rfl rfl rfl rfl, .gp 25 false true 174 rfl rfl rfl rfl, .gp 25 false true 174 rfl rfl rfl rfl, .gp 25 false true 174 rfl rfl rfl rfl, .n2 174 181 rfl rfl rfl (fun w HS => X.pickT rfl rfl), .mv 182, .gp 34 false true 183 rfl rfl rfl rfl, .gp 34 false true 183 rfl rfl rfl rfl, .gp 34 false true 183 rfl rfl rfl rfl, .gp 34 false true 183 rfl rfl rfl rfl, .gp 34 false true 183 rfl rfl rfl rfl, .gp 34 false true 183 rfl rfl rfl rfl, .gp 34 false true 183 rfl rfl rfl rfl, .n2 183 190 rfl rfl rfl (fun w HS => X.pickT rfl rfl), tv⟩ (fun w HS => ?_)
                replace HS := HS.pm [2, 3, 4, 5, 6, 7, 8, 9, 10, 11, 0, 1, 12, 13, 14, 15, 16]
                replace HS := station_Station.close tv HS
                replace HS := HS.pm [2, 0, 1, 3, 4, 5, 6, 7]
                replace HS := api_Counts.close tv HS
                replace HS := HS.pm [2, 0, 1, 3, 4, 5, 6, 7]
                replace HS := V43.close tv HS
                replace HS := HS.pk [2, 1, 0, 3, 4, 5, 6, 7] []
                exact At.meet true ⟨rfl, rfl, rfl, rfl, tv⟩ ⟨HS, kq94, by omega, H⟩
              ·replace H := ite_f c126 H
               refine V.dr [] [] [(149, po nb101 (0 + 0)), (150, vi t99.Good), (151, vi x93), (152, po nb25 (0 + 1 * 7)), (153, po nb25 (0 + 1 * 7 + 0)), (154, vi x33.2.Good), (155, vb (!(decide (t99.Good = x33.2.Good)))), (156, vb (!(decide (t99.Good = x33.2.Good)))), (157, undef), (158, undef), (159, undef), (160, undef), (161, undef), (162, undef), (163, undef), (164, vb true), (165, vb true), (166, undef), (167, undef), (168, undef), (169, undef), (170, undef), (171, undef), (172, undef), (173, vb true), (174, vb true), (175, undef), (176, undef), (177, undef), (178, undef), (179, undef), (180, undef), (181, undef), (182, vb true), (183, vb true), (184, undef), (185, undef), (186, undef), (187, undef), (188, undef), (189, undef), (190, undef), (191, vb true)] mo HS ?_
               refine T.fn [(12, _), (14, _), (21, _), (191, _)] ⟨rfl, rfl, rfl, rfl, tv⟩ ⟨.fa 22 fo42_0, .ld 149 1 underlying3, .mv 21, .n2 14 151 rfl rfl rfl (fun w HS => X.indexArK 1 hk125 underlying43 inf42 rfl rfl c117.1 c117.2), .fa 152 fo42_0, .ld 153 0 underlying3, .n2 150 154 rfl rfl rfl (fun w HS => X.cmp (!(decide (t99.Good = x33.2.Good))) rfl rfl rfl rfl), .mv 155, .gp 7 false true 156 rfl rfl (Option.some.inj (sb (n_f (dF c126)))) rfl, .gp 7 false true 156 rfl rfl (Option.some.inj (sb (n_f (dF c126)))) rfl, .gp 7 false true 156 rfl rfl (Option.some.inj (sb (n_f (dF c126)))) rfl, .gp 7 false true 156 rfl rfl (Option.some.inj (sb (n_f (dF c126)))) rfl, .gp 7 false true 156 rfl rfl (Option.some.inj (sb (n_f (dF c126)))) rfl, .gp 7 false true 156 rfl rfl (Option.some.inj (sb (n_f (dF c126)))) rfl, .gp 7 false true 156 rfl rfl (Option.some.inj (sb (n_f (dF c126)))) rfl, .n2 156 163 rfl rfl rfl (fun w HS => X.pickT (sb (n_f (dF c126))) rfl), .mv 164, .gp 16 false true 165 rfl rfl rfl rfl, .gp 16 false true 165 rfl rfl rfl rfl, .gp 16 false true 165 rfl rfl rfl rfl, .gp 16 false true 165 rfl rfl rfl rfl, .gp 16 false true 165 rfl rfl rfl rfl, .gp 16 false true 165 rfl rfl rfl rfl, .gp 16 false true 165 rfl rfl rfl rfl, .n2 165 172 rfl rfl rfl (fun w HS => X.pickT rfl rfl), .mv 173, .gp 25 false true 174 rfl rfl rfl rfl, .gp 25 false true 174 rfl rfl rfl rfl, .gp 25 false true 174 rfl rfl rfl rfl, .gp 25 false true 174 rfl rfl rfl rfl, .gp 25 false true 174 rfl rfl rfl rfl, .gp 25 false true 174 rfl rfl rfl rfl, .gp 25 false true 174 rfl rfl rfl rfl, .n2 174 181 rfl rfl rfl (fun w HS => X.pickT rfl rfl), .mv 182, .gp 34 false true 183 rfl rfl rfl rfl, .gp 34 false true 183 rfl rfl rfl rfl, .gp 34 false true 183 rfl rfl rfl rfl, .gp 34 false true 183 rfl rfl rfl rfl, .gp 34 false true 183 rfl rfl rfl rfl, .gp 34 false true 183 rfl rfl rfl rfl, .gp 34 false true 183 rfl rfl rfl rfl, .n2 183 190 rfl rfl rfl (fun w HS => X.pickT rfl rfl), tv⟩ (fun w HS => ?_)
               replace HS := HS.pm [2, 3, 4, 5, 6, 7, 8, 9, 10, 11, 0, 1, 12, 13, 14, 15, 16]
               replace HS := station_Station.close tv HS
               replace HS := HS.pm [2, 0, 1, 3, 4, 5, 6, 7]
               replace HS := api_Counts.close tv HS
               replace HS := HS.pm [2, 0, 1, 3, 4, 5, 6, 7]
               replace HS := V43.close tv HS
               replace HS := HS.pk [2, 1, 0, 3, 4, 5, 6, 7] []
               exact At.meet true ⟨rfl, rfl, rfl, rfl, tv⟩ ⟨HS, kq94, by omega, H⟩
            ·rintro x112 w ⟨HS, kl115, hkkl115, H⟩
             unfold signalmanlaw20_StationNoise.j7 at H
             by_cases c116 : x112 = true
             ·replace H := ite_t c116 H
              refine V.condT (sb c116) (V.seq (V.region (W.as rfl (W.nx (V.ret (At.blockRet (At.thenRet (At.thenRet (At.blockRet (At.thenRet ?_))))))))))
              replace HS := HS.pk [7] [0, 1, 2, 3, 4, 5, 6]
              cases H
              exact At.ret1 rfl rfl ⟨_, rfl, rfl, HS⟩
             ·replace H := ite_f c116 H
              refine V.condF (sb (b_f c116)) (V.skip (At.blockEnd (At.next (V.region (W.mv rfl (W.r (X.add rfl rfl) rfl (W.as rfl (W.nil ?_))))))))
              replace HS := HS.pk [2, 3, 4, 0, 5, 6, 7] [1]
              exact At.round kl115 (by omega) (w64 (x93 + 1)) ⟨rfl, rfl, rfl, tv⟩ ⟨HS, H, by omega⟩
           ·replace H := ite_f c96 H
            refine V.condF (sb (dF c96)) (V.exit (At.thenExit (At.thenExit (At.blockExit (At.next (V.seq (V.region (W.mv rfl ?_))))))))
            replace HS := HS.fr 3
            obtain ⟨b16_130, b17_130, b18_130, b22_130, b23_130, b24_130, b32_130, b33_130, b34_130, hi131, HS⟩ := station_Station.open HS
            obtain ⟨t132, A133, H⟩ := bind_s H
            refine W.e (Y.cl func13 (station_Station_Status.calls A133 HS.j10)) rfl ?_
            rintro _ w ⟨rfl, HS⟩
            replace HS := HS.o10
            refine W.e (Y.alloc (z := Value.agg (#[vi (0), vi (0), vi (0), vi (0), vi (0), vi (0), vi (0)])) HS ze35) rfl ?_
            rintro _ w ⟨nb134, rfl, HS⟩
            refine W.en (Y.storeSt (c' := #[vi t132.State, vi t132.Line, vi t132.Lines.1, vi t132.Lines.2, vi t132.Sent, vi t132.Acked, vi t132.Lost]) 0 [vi t132.State, vi t132.Line, vi t132.Lines.1, vi t132.Lines.2, vi t132.Sent, vi t132.Acked, vi t132.Lost] HS rfl inf35 rfl rfl rfl rfl rfl rfl) rfl ?_
            rintro _ w HS
            refine W.nx (V.seq (V.region (W.fa fo35_0 rfl (W.ld 0 HS underlying3 rfl rfl rfl rfl (W.r (X.cmp (decide (t132.State ≥ 0)) rfl rfl rfl rfl) rfl (W.mv rfl ?_))))))
            by_cases c135 : t132.State ≥ 0
            ·replace H := ite_t c135 H
             refine W.want 197 rfl (sb (dT c135)) (W.fa fo35_0 rfl (W.want 197 rfl (sb (dT c135)) (W.ld 0 HS underlying3 rfl rfl rfl rfl (W.want 197 rfl (sb (dT c135)) (W.r (X.cmp (decide (t132.State ≤ 3)) rfl rfl rfl rfl) rfl (W.r (X.pickT (sb (dT c135)) rfl) rfl (W.mv rfl ?_)))))))
             by_cases c136 : t132.State ≤ 3
             ·replace H := ite_t c136 H
              refine W.want 202 rfl (sb (dT c136)) (W.fa fo35_3 rfl (W.want 202 rfl (sb (dT c136)) (W.ld 0 HS underlying3 rfl rfl rfl rfl (W.want 202 rfl (sb (dT c136)) (W.r (X.cmp (decide (t132.Sent = 0)) rfl rfl rfl rfl) rfl (W.r (X.pickT (sb (dT c136)) rfl) rfl (W.mv rfl ?_)))))))
              by_cases c137 : t132.Sent = 0
              ·replace H := ite_t c137 H
               refine W.want 207 rfl (sb (dT c137)) (W.fa fo35_4 rfl (W.want 207 rfl (sb (dT c137)) (W.ld 0 HS underlying3 rfl rfl rfl rfl (W.want 207 rfl (sb (dT c137)) (W.r (X.cmp (decide (t132.Acked = 0)) rfl rfl rfl rfl) rfl (W.r (X.pickT (sb (dT c137)) rfl) rfl (W.as rfl (W.nx (V.ret ?_)))))))))
               replace HS := HS.pk [16] [0, 1, 2, 3, 4, 5, 6, 7, 8, 9, 10, 11, 12, 13, 14, 15]
               cases H
               exact At.ret1 rfl rfl ⟨_, rfl, rfl, HS⟩
              ·replace H := ite_f c137 H
               refine W.pass 207 rfl (sb (dF c137)) rfl rfl (W.pass 207 rfl (sb (dF c137)) rfl rfl (W.pass 207 rfl (sb (dF c137)) rfl rfl (W.r (X.pickF (sb (dF c137)) rfl) rfl (W.as rfl (W.nx (V.ret ?_))))))
               replace HS := HS.pk [16] [0, 1, 2, 3, 4, 5, 6, 7, 8, 9, 10, 11, 12, 13, 14, 15]
               cases H
               exact At.ret1 rfl rfl ⟨_, rfl, rfl, HS⟩
             ·replace H := ite_f c136 H
              refine W.pass 202 rfl (sb (dF c136)) rfl rfl (W.pass 202 rfl (sb (dF c136)) rfl rfl (W.pass 202 rfl (sb (dF c136)) rfl rfl (W.r (X.pickF (sb (dF c136)) rfl) rfl (W.mv rfl (W.pass 207 rfl rfl rfl rfl (W.pass 207 rfl rfl rfl rfl (W.pass 207 rfl rfl rfl rfl (W.r (X.pickF rfl rfl) rfl (W.as rfl (W.nx (V.ret ?_)))))))))))
              replace HS := HS.pk [16] [0, 1, 2, 3, 4, 5, 6, 7, 8, 9, 10, 11, 12, 13, 14, 15]
              cases H
              exact At.ret1 rfl rfl ⟨_, rfl, rfl, HS⟩
            ·replace H := ite_f c135 H
             refine W.pass 197 rfl (sb (dF c135)) rfl rfl (W.pass 197 rfl (sb (dF c135)) rfl rfl (W.pass 197 rfl (sb (dF c135)) rfl rfl (W.r (X.pickF (sb (dF c135)) rfl) rfl (W.mv rfl (W.pass 202 rfl rfl rfl rfl (W.pass 202 rfl rfl rfl rfl (W.pass 202 rfl rfl rfl rfl (W.r (X.pickF rfl rfl) rfl (W.mv rfl (W.pass 207 rfl rfl rfl rfl (W.pass 207 rfl rfl rfl rfl (W.pass 207 rfl rfl rfl rfl (W.r (X.pickF rfl rfl) rfl (W.as rfl (W.nx (V.ret ?_))))))))))))))))
             replace HS := HS.pk [16] [0, 1, 2, 3, 4, 5, 6, 7, 8, 9, 10, 11, 12, 13, 14, 15]
             cases H
             exact At.ret1 rfl rfl ⟨_, rfl, rfl, HS⟩
def signalmanlaw20_StationNoise.Pure : Prop := ∀ (a0 : Int) (a1 : Bool) (a2 : List Int) (a3 : List Int) (a4 : Int), (Lit.int .i64 a0).wf = true → (∀ z ∈ a2, (Lit.int .u8 z).wf = true) → (a2.length : Int) ≤ 9223372036854775807 → (∀ z ∈ a3, (Lit.int .u8 z).wf = true) → (a3.length : Int) ≤ 9223372036854775807 → (Lit.int .i64 a4).wf = true → ∃ k, signalmanlaw20_StationNoise.f k a0 a1 a2 a3 a4 = some true
end Go.Proofs.YtodbopebbmplaaaGreat

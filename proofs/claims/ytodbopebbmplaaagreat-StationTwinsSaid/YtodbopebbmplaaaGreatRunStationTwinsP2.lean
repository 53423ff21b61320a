/- StationTwins: the functions that its law reaches, as plain functions, and that the machine's calls come to what these say. Conditions: those that stand at each. -/
import Derived.Test.YtodbopebbmplaaaGreatRunStationTwinsP1
set_option linter.all false
set_option maxRecDepth 100000
set_option maxHeartbeats 4000000
set_option synthInstance.maxSize 100000
set_option synthInstance.maxHeartbeats 1000000
namespace Go.Proofs.YtodbopebbmplaaaGreat
open Go.RowKit Go.Proofs.YtodbopebbmplaaaGreat.Sep Go.Proofs.YtodbopebbmplaaaGreat.Walk
def control_Bytes.f (a0 : api_Ctl) (a1 : Int) : Option (List Int) := ((control_Right.f a0 a1).bind fun t3 => (if t3 = true then ((control_bit.f a0.Poll).bind fun t6 => (if a0.Kind = 0 then ((control_put.f ([] : List Int) (w64 (2 * a0.Ns)) a1).bind fun t9 => ((control_put.f t9 (w64 ((w64 (2 * a0.Nr)) + t6)) a1).bind fun t11 => some t11)) else (if a0.Kind = 1 then ((control_put.f ([] : List Int) 1 a1).bind fun t14 => ((control_put.f t14 (w64 ((w64 (2 * a0.Nr)) + t6)) a1).bind fun t16 => some t16)) else (if a0.Kind = 2 then ((control_put.f ([] : List Int) 9 a1).bind fun t19 => ((control_put.f t19 (w64 ((w64 (2 * a0.Nr)) + t6)) a1).bind fun t21 => some t21)) else ((control_plain.f ).bind fun t23 => (if 0 ≤ w64 (a0.Kind - 3) ∧ w64 (a0.Kind - 3) < (t23.length : Int) then some (([ior .u8 (t23.getD (w64 (a0.Kind - 3)).toNat 0) (IntKind.u8.wrap (w64 (t6 * 16)))] : List Int)) else none)))))) else some ([] : List Int)))
theorem control_Bytes.calls {a0 : api_Ctl} {a1 : Int} {R : As} {w0 w : World}  {r : List Int} (H : control_Bytes.f a0 a1 = some r) (HS : Sep.St [R] w0 w)  : Calls Tryz.prog 237 #[Value.agg #[Value.int .i64 a0.Kind, Value.int .i64 a0.Ns, Value.int .i64 a0.Nr, Value.bool a0.Poll], Value.int .i64 a1] w (Ret fun u w => ∃ (aq0 : Option Addr) (cq0 : Nat), u = Value.slice aq0 r.length cq0 ∧ Sep.St [row 5 1 (.slice aq0 r.length cq0) r.length (r.map (Value.int .u8)), R] w0 w) := by
 unfold control_Bytes.f at H
 refine calls_enter Tryz.func237 rfl rfl ?_
 have H : _ = some r := H
 refine V.seq (V.region (W.e (Y.box HS rfl) rfl ?_))
 rintro _ w ⟨nb1, rfl, HS⟩
 refine W.as rfl (W.nx (V.seq (V.seq (V.region (W.r (X.loadSt 0 [Value.int .i64 a0.Kind, Value.int .i64 a0.Ns, Value.int .i64 a0.Nr, Value.bool a0.Poll] HS rfl Tryz.underlying188 rfl inf188 rfl rfl) rfl (W.mv rfl ?_))))))
 obtain ⟨t3, A4, H⟩ := bind_s H
 refine W.e (Y.cl Tryz.func257 (control_Right.calls A4 HS.j0)) rfl ?_
 rintro _ w ⟨rfl, HS⟩
 replace HS := HS.o0
 refine W.r (X.not rfl) rfl (W.nx ?_)
 by_cases c5 : t3 = true
 ·replace H := ite_t c5 H
  refine V.condF (sb (n_t c5)) (V.skip (At.next (V.seq (V.region (W.fa fo188_3 rfl (W.ld 0 HS Tryz.underlying4 rfl rfl rfl rfl ?_))))))
  obtain ⟨t6, A7, H⟩ := bind_s H
  refine W.e (Y.cl Tryz.func258 (control_bit.calls A7 HS.j0)) rfl ?_
  rintro _ w ⟨rfl, HS⟩
  replace HS := HS.o0
  refine W.as rfl (W.nx (V.seq (V.seq (V.region (W.fa fo188_0 rfl (W.ld 0 HS Tryz.underlying3 rfl rfl rfl rfl (W.nx (V.block (V.seq (V.region (W.r (X.cmp (decide (a0.Kind = 0)) rfl rfl rfl rfl) rfl (W.as rfl (W.nx ?_)))))))))))))
  by_cases c8 : a0.Kind = 0
  ·replace H := ite_t c8 H
   refine V.condT (sb (decide_eq_true c8)) (V.seq (V.dr [4, 11] [12] [(17, Value.pointer (some ⟨nb1, 0 + 1, none⟩)), (18, Value.int .i64 a0.Ns), (19, Value.int .i64 (w64 (2 * a0.Ns))), (20, Value.int .i64 a1), (22, Value.pointer (some ⟨nb1, 0 + 2, none⟩)), (23, Value.int .i64 a0.Nr), (24, Value.int .i64 (w64 (2 * a0.Nr))), (25, Value.int .i64 t6), (26, Value.int .i64 (w64 ((w64 (2 * a0.Nr)) + t6))), (27, Value.int .i64 a1)] mo HS ?_))
   refine T.ev [(19, _), (20, _)] [12] [0, 1, 2, 3] ⟨rfl, rfl, trivial⟩ ⟨.fa 2 fo188_1, .ld 17 0 Tryz.underlying3, .n1 18 rfl rfl (fun w HS => X.mul rfl rfl), .mv 1, .fa 2 fo188_2, .ld 22 0 Tryz.underlying3, .n1 23 rfl rfl (fun w HS => X.mul rfl rfl), .mv 5, .n2 24 25 rfl rfl rfl (fun w HS => X.add rfl rfl), .mv 1, trivial⟩ rfl (fun w HS => ?_)
   replace HS := row_nilF (Value.int .u8) 5 1 HS
   obtain ⟨t9, A10, H⟩ := bind_s H
   refine ⟨_, Y.cl Tryz.func231 (control_put.calls A10 HS.j1), ?_⟩
   rintro _ w ⟨at9_0, ct9_0, rfl, HS⟩
   replace HS := HS.o1
   refine T.nw HS ?_
   refine T.ev [(21, _), (26, _), (27, _)] [] [5, 6, 7, 8, 9, 10] ⟨rfl, rfl, rfl, trivial⟩ ⟨.fa 2 fo188_2, .ld 22 1 Tryz.underlying3, .n1 23 rfl rfl (fun w HS => X.mul rfl rfl), .mv 5, .n2 24 25 rfl rfl rfl (fun w HS => X.add rfl rfl), .mv 1, trivial⟩ rfl (fun w HS => ?_)
   obtain ⟨t11, A12, H⟩ := bind_s H
   refine ⟨_, Y.cl Tryz.func231 (control_put.calls A12 HS.j1), ?_⟩
   rintro _ w ⟨at11_0, ct11_0, rfl, HS⟩
   replace HS := HS.o1
   refine T.nm [(28, Value.slice at11_0 t11.length ct11_0), (4, Value.slice at11_0 t11.length ct11_0)] HS ⟨.inl ⟨rfl, rfl⟩, ⟨.inr ⟨by decide, rfl⟩, trivial⟩⟩ ?_
   refine T.fn [(4, _)] ⟨rfl, trivial⟩ ⟨.as 28, trivial⟩ (fun w HS => ?_)
   refine At.next (V.ret (At.blockRet (At.thenRet ?_)))
   replace HS := HS.pk [0, 2] [1]
   cases H
   exact At.ret1 rfl rfl ⟨_, rfl, at11_0, ct11_0, rfl, HS⟩
  ·replace H := ite_f c8 H
   refine V.condF (sb (decide_eq_false c8)) (V.seq (V.region (W.r (X.cmp (decide (a0.Kind = 1)) rfl rfl rfl rfl) rfl (W.as rfl (W.nx ?_)))))
   by_cases c13 : a0.Kind = 1
   ·replace H := ite_t c13 H
    refine V.condT (sb (decide_eq_true c13)) (V.seq (V.dr [1, 8] [9] [(31, Value.int .i64 a1), (33, Value.pointer (some ⟨nb1, 0 + 2, none⟩)), (34, Value.int .i64 a0.Nr), (35, Value.int .i64 (w64 (2 * a0.Nr))), (36, Value.int .i64 t6), (37, Value.int .i64 (w64 ((w64 (2 * a0.Nr)) + t6))), (38, Value.int .i64 a1)] mo HS ?_))
    refine T.ev [(31, _)] [9] [0] ⟨rfl, trivial⟩ ⟨.mv 1, .fa 2 fo188_2, .ld 33 0 Tryz.underlying3, .n1 34 rfl rfl (fun w HS => X.mul rfl rfl), .mv 5, .n2 35 36 rfl rfl rfl (fun w HS => X.add rfl rfl), .mv 1, trivial⟩ rfl (fun w HS => ?_)
    replace HS := row_nilF (Value.int .u8) 5 1 HS
    obtain ⟨t14, A15, H⟩ := bind_s H
    refine ⟨_, Y.cl Tryz.func231 (control_put.calls A15 HS.j1), ?_⟩
    rintro _ w ⟨at14_0, ct14_0, rfl, HS⟩
    replace HS := HS.o1
    refine T.nw HS ?_
    refine T.ev [(32, _), (37, _), (38, _)] [] [2, 3, 4, 5, 6, 7] ⟨rfl, rfl, rfl, trivial⟩ ⟨.fa 2 fo188_2, .ld 33 1 Tryz.underlying3, .n1 34 rfl rfl (fun w HS => X.mul rfl rfl), .mv 5, .n2 35 36 rfl rfl rfl (fun w HS => X.add rfl rfl), .mv 1, trivial⟩ rfl (fun w HS => ?_)
    obtain ⟨t16, A17, H⟩ := bind_s H
    refine ⟨_, Y.cl Tryz.func231 (control_put.calls A17 HS.j1), ?_⟩
    rintro _ w ⟨at16_0, ct16_0, rfl, HS⟩
    replace HS := HS.o1
    refine T.nm [(39, Value.slice at16_0 t16.length ct16_0), (4, Value.slice at16_0 t16.length ct16_0)] HS ⟨.inl ⟨rfl, rfl⟩, ⟨.inr ⟨by decide, rfl⟩, trivial⟩⟩ ?_
    refine T.fn [(4, _)] ⟨rfl, trivial⟩ ⟨.as 39, trivial⟩ (fun w HS => ?_)
    refine At.next (V.ret (At.blockRet (At.thenRet ?_)))
    replace HS := HS.pk [0, 2] [1]
    cases H
    exact At.ret1 rfl rfl ⟨_, rfl, at16_0, ct16_0, rfl, HS⟩
   ·replace H := ite_f c13 H
    refine V.condF (sb (decide_eq_false c13)) (V.seq (V.region (W.r (X.cmp (decide (a0.Kind = 2)) rfl rfl rfl rfl) rfl (W.as rfl (W.nx ?_)))))
    by_cases c18 : a0.Kind = 2
    ·replace H := ite_t c18 H
     refine V.condT (sb (decide_eq_true c18)) (V.seq (V.dr [1, 8] [9] [(42, Value.int .i64 a1), (44, Value.pointer (some ⟨nb1, 0 + 2, none⟩)), (45, Value.int .i64 a0.Nr), (46, Value.int .i64 (w64 (2 * a0.Nr))), (47, Value.int .i64 t6), (48, Value.int .i64 (w64 ((w64 (2 * a0.Nr)) + t6))), (49, Value.int .i64 a1)] mo HS ?_))
     refine T.ev [(42, _)] [9] [0] ⟨rfl, trivial⟩ ⟨.mv 1, .fa 2 fo188_2, .ld 44 0 Tryz.underlying3, .n1 45 rfl rfl (fun w HS => X.mul rfl rfl), .mv 5, .n2 46 47 rfl rfl rfl (fun w HS => X.add rfl rfl), .mv 1, trivial⟩ rfl (fun w HS => ?_)
     replace HS := row_nilF (Value.int .u8) 5 1 HS
     obtain ⟨t19, A20, H⟩ := bind_s H
     refine ⟨_, Y.cl Tryz.func231 (control_put.calls A20 HS.j1), ?_⟩
     rintro _ w ⟨at19_0, ct19_0, rfl, HS⟩
     replace HS := HS.o1
     refine T.nw HS ?_
     refine T.ev [(43, _), (48, _), (49, _)] [] [2, 3, 4, 5, 6, 7] ⟨rfl, rfl, rfl, trivial⟩ ⟨.fa 2 fo188_2, .ld 44 1 Tryz.underlying3, .n1 45 rfl rfl (fun w HS => X.mul rfl rfl), .mv 5, .n2 46 47 rfl rfl rfl (fun w HS => X.add rfl rfl), .mv 1, trivial⟩ rfl (fun w HS => ?_)
     obtain ⟨t21, A22, H⟩ := bind_s H
     refine ⟨_, Y.cl Tryz.func231 (control_put.calls A22 HS.j1), ?_⟩
     rintro _ w ⟨at21_0, ct21_0, rfl, HS⟩
     replace HS := HS.o1
     refine T.nm [(50, Value.slice at21_0 t21.length ct21_0), (4, Value.slice at21_0 t21.length ct21_0)] HS ⟨.inl ⟨rfl, rfl⟩, ⟨.inr ⟨by decide, rfl⟩, trivial⟩⟩ ?_
     refine T.fn [(4, _)] ⟨rfl, trivial⟩ ⟨.as 50, trivial⟩ (fun w HS => ?_)
     refine At.next (V.ret (At.blockRet (At.thenRet ?_)))
     replace HS := HS.pk [0, 2] [1]
     cases H
     exact At.ret1 rfl rfl ⟨_, rfl, at21_0, ct21_0, rfl, HS⟩
    ·replace H := ite_f c18 H
     refine V.condF (sb (decide_eq_false c18)) (V.skip (At.blockEnd (At.next (V.seq (V.dr [0, 10] [4, 5, 9, 11] [(52, Value.pointer (some ⟨nb1, 0 + 0, none⟩)), (53, Value.int .i64 a0.Kind), (54, Value.int .i64 (w64 (a0.Kind - 3))), (57, Value.int .i64 t6), (58, Value.int .i64 (w64 (t6 * 16))), (59, Value.int .u8 (IntKind.u8.wrap (w64 (t6 * 16))))] mo HS ?_)))))
     refine T.ev [] [11] [] trivial ⟨.fa 2 fo188_0, .ld 52 0 Tryz.underlying3, .n1 53 rfl rfl (fun w HS => X.sub rfl rfl), .mv 5, .n1 57 rfl rfl (fun w HS => X.mul rfl rfl), .n1 58 rfl rfl (fun w HS => X.conv Tryz.underlying3 Tryz.underlying5 rfl), trivial⟩ rfl (fun w HS => ?_)
     obtain ⟨t23, A24, H⟩ := bind_s H
     refine ⟨_, Y.cl Tryz.func230 (control_plain.calls A24 HS.j0), ?_⟩
     rintro _ w ⟨at23_0, ct23_0, rfl, HS⟩
     replace HS := HS.o1
     obtain ⟨c25, H⟩ := ite_n H
     obtain ⟨eb26, eo27, hh⟩ := (rdC.at 0 row_rd HS rfl).some (by decide) c25.1 c25.2; subst hh
     refine T.nm [(51, Value.slice (some ⟨eb26, eo27, none⟩) t23.length ct23_0), (55, Value.pointer (some ⟨eb26, eo27 + (w64 (a0.Kind - 3)).toNat * 1, none⟩)), (56, Value.int .u8 (t23.getD (w64 (a0.Kind - 3)).toNat 0)), (60, Value.int .u8 (ior .u8 (t23.getD (w64 (a0.Kind - 3)).toNat 0) (IntKind.u8.wrap (w64 (t6 * 16)))))] HS ⟨.inl ⟨rfl, rfl⟩, ⟨.inr ⟨by decide, rfl⟩, ⟨.inr ⟨by decide, rfl⟩, ⟨.inr ⟨by decide, rfl⟩, trivial⟩⟩⟩⟩ ?_
     refine T.ev [(60, _)] [] [1, 2, 3, 4, 5, 6, 7, 8, 9] ⟨rfl, trivial⟩ ⟨.fa 2 fo188_0, .ld 52 1 Tryz.underlying3, .n1 53 rfl rfl (fun w HS => X.sub rfl rfl), .n2 51 54 rfl rfl rfl (fun w HS => X.indexSl Tryz.underlying32 inf5 rfl rfl c25.1 c25.2), .n1 55 rfl rfl (fun w HS => X.load Tryz.underlying5 rfl rfl ((rdC.at 0 row_rd HS rfl).cellI c25.1 c25.2)), .mv 5, .n1 57 rfl rfl (fun w HS => X.mul rfl rfl), .n1 58 rfl rfl (fun w HS => X.conv Tryz.underlying3 Tryz.underlying5 rfl), .n2 56 59 rfl rfl rfl (fun w HS => X.or rfl rfl), trivial⟩ rfl (fun w HS => ?_)
     refine ⟨_, Y.ls (e := 5) (Value.int .u8) ([ior .u8 (t23.getD (w64 (a0.Kind - 3)).toNat 0) (IntKind.u8.wrap (w64 (t6 * 16)))] : List Int) HS rfl rfl (fun _ => by kernel_rfl), ?_⟩
     rintro _ w ⟨lb30, rfl, HS⟩
     refine T.nm [(61, Value.slice (some ⟨lb30, 0, none⟩) (([ior .u8 (t23.getD (w64 (a0.Kind - 3)).toNat 0) (IntKind.u8.wrap (w64 (t6 * 16)))] : List Int)).length 1), (4, Value.slice (some ⟨lb30, 0, none⟩) (([ior .u8 (t23.getD (w64 (a0.Kind - 3)).toNat 0) (IntKind.u8.wrap (w64 (t6 * 16)))] : List Int)).length 1)] HS ⟨.inl ⟨rfl, rfl⟩, ⟨.inr ⟨by decide, rfl⟩, trivial⟩⟩ ?_
     refine T.fn [(4, _)] ⟨rfl, trivial⟩ ⟨.as 61, trivial⟩ (fun w HS => ?_)
     refine At.next (V.ret ?_)
     replace HS := HS.pk [0, 3] [1, 2]
     cases H
     exact At.ret1 rfl rfl ⟨_, rfl, (some ⟨lb30, 0, none⟩), 1, rfl, HS⟩
 ·replace H := ite_f c5 H
  refine V.condT (sb (n_f (b_f c5))) (V.seq (V.region (W.as rfl (W.nx (V.ret (At.thenRet ?_))))))
  replace HS := row_nilF (Value.int .u8) 5 1 HS
  replace HS := HS.pk [0, 2] [1]
  cases H
  exact At.ret1 rfl rfl ⟨_, rfl, none, 0, rfl, HS⟩
def arq_Arq_put.f (k : Nat) (a0 : arq_Arq) (a1 : Int) (a2 : api_Ctl) (a3 : List Int) : Option arq_Arq := ((control_Bytes.f a2 a0.m).bind fun t7 => ((slices_Concat_Sbytebyte.f k ([([IntKind.u8.wrap (a1.fdiv (2 ^ (min (8 : Int).toNat IntKind.i64.bits))), IntKind.u8.wrap a1] : List Int), t7, a3] : List (List Int))).bind fun t12 => (if (a0.out.length : Int) + (([t12] : List (List Int))).length ≤ 1099511627776 then some (({ a0 with out := a0.out ++ ([t12] : List (List Int)) } : arq_Arq)) else none)))
theorem arq_Arq_put.calls {k : Nat} {a0 : arq_Arq} {a1 : Int} {a2 : api_Ctl} {a3 : List Int} {R : As} {w0 w : World} {b0 : Nat} {sa3 : Option Addr} {sc3 : Nat} {r : arq_Arq} (H : arq_Arq_put.f k a0 a1 a2 a3 = some r) (HS : Sep.St [arq_Arq.at b0 a0, fsl 1 (.slice sa3 a3.length sc3) a3.length (a3.map (Value.int .u8)), R] w0 w)  : Calls Tryz.prog 206 #[Value.pointer (some ⟨b0, 0, none⟩), Value.int .i64 a1, Value.agg #[Value.int .i64 a2.Kind, Value.int .i64 a2.Ns, Value.int .i64 a2.Nr, Value.bool a2.Poll], Value.slice sa3 a3.length sc3] w (Ret fun u w => u = Value.tuple #[] ∧ Sep.St [arq_Arq.at b0 r, R] w0 w) := by
 unfold arq_Arq_put.f at H
 refine calls_enter Tryz.func206 rfl rfl ?_
 have H : _ = some r := H
 refine V.seq (V.region (W.e (Y.box HS rfl) rfl ?_))
 rintro _ w ⟨nb1, rfl, HS⟩
 refine W.nx ?_
 replace HS := HS.fr 1
 obtain ⟨b8_2, b9_2, b10_2, a11_2, c11_2, d11_2, a12_2, c12_2, hi3, HS⟩ := arq_Arq.open HS
 refine V.dr [10, 16, 18, 19, 20, 21, 24] [22, 23] [(8, Value.pointer (some ⟨b0, 0, none⟩)), (9, Value.pointer (some ⟨b0, 0, none⟩)), (10, Value.pointer (some ⟨b0, 0, none⟩)), (11, Value.pointer (some ⟨b0, 0 + 11, none⟩)), (12, Value.slice a11_2 a0.out.length c11_2), (13, Value.int .i64 a1), (14, Value.int .i64 (a1.fdiv (2 ^ (min (8 : Int).toNat IntKind.i64.bits)))), (15, Value.int .u8 (IntKind.u8.wrap (a1.fdiv (2 ^ (min (8 : Int).toNat IntKind.i64.bits))))), (16, Value.int .i64 a1), (17, Value.int .u8 (IntKind.u8.wrap a1)), (19, Value.agg #[Value.int .i64 a2.Kind, Value.int .i64 a2.Ns, Value.int .i64 a2.Nr, Value.bool a2.Poll]), (20, Value.pointer (some ⟨b0, 0, none⟩)), (21, Value.pointer (some ⟨b0, 0, none⟩)), (22, Value.pointer (some ⟨b0, 0 + 0, none⟩)), (23, Value.int .i64 a0.m), (25, Value.slice sa3 a3.length sc3)] mo HS ?_
 refine T.two rfl rfl ⟨.mv 0, .mv 0, .nc 9, .fa 10 fo136_11, .ld 11 0 Tryz.underlying37, .mv 1, .n1 13 rfl rfl (fun w HS => X.shr rfl rfl (by decide)), .n1 14 rfl rfl (fun w HS => X.conv Tryz.underlying3 Tryz.underlying5 rfl), .mv 1, .n1 16 rfl rfl (fun w HS => X.conv Tryz.underlying3 Tryz.underlying5 rfl), .n1 6 rfl rfl (fun w HS => X.loadSt 7 [Value.int .i64 a2.Kind, Value.int .i64 a2.Ns, Value.int .i64 a2.Nr, Value.bool a2.Poll] HS rfl Tryz.underlying188 rfl inf188 rfl rfl), .mv 0, .nc 20, .fa 21 fo136_0, .ld 22 0 Tryz.underlying3, .mv 3, trivial⟩ (T.step (es := [16, 18, 19, 20, 21, 24]) _ [(15, Value.int .u8 (IntKind.u8.wrap (a1.fdiv (2 ^ (min (8 : Int).toNat IntKind.i64.bits))))), (17, Value.int .u8 (IntKind.u8.wrap a1))] rfl ⟨.inr ⟨rfl, rfl⟩, ⟨.inr ⟨rfl, rfl⟩, trivial⟩⟩ (Or.inl rfl) (by intro d hd; cases hd; exact ⟨by decide, rfl, rfl⟩) [22, 23] [5, 6, 7, 8, 9] rfl rfl rfl rfl rfl (fun w HS => ?_)) (T.step (es := [10, 18, 19, 20, 21, 24]) _ [(19, Value.agg #[Value.int .i64 a2.Kind, Value.int .i64 a2.Ns, Value.int .i64 a2.Nr, Value.bool a2.Poll]), (23, Value.int .i64 a0.m)] rfl ⟨.inr ⟨rfl, rfl⟩, ⟨.inr ⟨rfl, rfl⟩, trivial⟩⟩ (Or.inl rfl) (by intro d hd; cases hd; exact ⟨by decide, rfl, rfl⟩) [22, 23] [11, 12, 13, 14, 15] rfl rfl rfl rfl rfl (fun w HS => ?_))
 ·have HS : Sep.St [blk b0 (#[Value.int .i64 a0.m, Value.int .i64 a0.t1, Value.int .i64 a0.n2, Value.int .i64 a0.size, Value.int .i64 a0.state, Value.int .i64 a0.tag, Value.int .i64 a0.tries, Value.bool a0.rejected, Value.pointer (some ⟨b8_2, 0, none⟩), Value.pointer (some ⟨b9_2, 0, none⟩), Value.pointer (some ⟨b10_2, 0, none⟩), Value.slice a11_2 a0.out.length c11_2, Value.slice a12_2 a0.inds.length c12_2, Value.int .i64 a0.sent, Value.int .i64 a0.acked, Value.int .i64 a0.lost]) 136, backlog_Log.at b8_2 a0.log, reorder_Order.at b9_2 a0.order, clock_Set.at b10_2 a0.timers, row 32 1 (.slice a11_2 a0.out.length c11_2) a0.out.length d11_2, tie (El.sl (El.int .u8)) d11_2 a0.out, row 3 1 (.slice a12_2 a0.inds.length c12_2) a0.inds.length (a0.inds.map (Value.int .i64)), blk nb1 (#[Value.int .i64 a2.Kind, Value.int .i64 a2.Ns, Value.int .i64 a2.Nr, Value.bool a2.Poll]) 188, fsl 1 (.slice sa3 a3.length sc3) a3.length (a3.map (Value.int .u8)), R] w0 w := HS
  refine ⟨_, Y.ls (e := 5) (Value.int .u8) ([IntKind.u8.wrap (a1.fdiv (2 ^ (min (8 : Int).toNat IntKind.i64.bits))), IntKind.u8.wrap a1] : List Int) HS rfl rfl (fun _ => by kernel_rfl), ?_⟩
  rintro _ w ⟨lb6, rfl, HS⟩
  refine T.nw HS ?_
  refine T.ev [(19, _), (23, _)] [22, 23] [11, 12, 13, 14, 15] ⟨rfl, rfl, trivial⟩ ⟨.mv 0, .mv 0, .nc 9, .fa 10 fo136_11, .ld 11 1 Tryz.underlying37, .n1 6 rfl rfl (fun w HS => X.loadSt 8 [Value.int .i64 a2.Kind, Value.int .i64 a2.Ns, Value.int .i64 a2.Nr, Value.bool a2.Poll] HS rfl Tryz.underlying188 rfl inf188 rfl rfl), .mv 0, .nc 20, .fa 21 fo136_0, .ld 22 1 Tryz.underlying3, .mv 3, trivial⟩ rfl (fun w HS => ?_)
  obtain ⟨t7, A8, H⟩ := bind_s H
  refine ⟨_, Y.cl Tryz.func237 (control_Bytes.calls A8 HS.j0), ?_⟩
  rintro _ w ⟨at7_0, ct7_0, rfl, HS⟩
  replace HS := HS.o1
  refine T.nw HS ?_
  refine T.ev [(18, _), (24, _), (25, _)] [22, 23] [17] ⟨rfl, rfl, rfl, trivial⟩ ⟨.mv 0, .mv 0, .nc 9, .fa 10 fo136_11, .ld 11 2 Tryz.underlying37, .mv 3, trivial⟩ rfl (fun w HS => ?_)
  replace HS := HS.fr 1
  replace HS := St.row_freeze HS
  replace HS := HS.fr 1
  replace HS := St.row_freeze HS
  refine ⟨_, Y.lc (e := 32) (sz := 1) [Value.slice (some ⟨lb6, 0, none⟩) (([IntKind.u8.wrap (a1.fdiv (2 ^ (min (8 : Int).toNat IntKind.i64.bits))), IntKind.u8.wrap a1] : List Int)).length 2, Value.slice at7_0 t7.length ct7_0, Value.slice sa3 a3.length sc3] HS rfl rfl (fun _ => by kernel_rfl), ?_⟩
  rintro _ w ⟨lb9, rfl, HS⟩
  replace HS := St.put (A := tie (El.sl (El.int .u8)) ([]) (([] : List (List Int)))) (fun _ => tie.nil) HS
  replace HS := HS.more 12 rfl (fun _ t => t) fsl.pers
  replace HS := St.put (A := tie (El.int .u8) (a3.map (Value.int .u8)) a3) (fun _ => int_tie) HS
  replace HS := St.swap HS
  replace HS := St.sl_close (E := (El.int .u8)) HS
  replace HS := HS.fr 1
  replace HS := HS.fr 1
  replace HS := St.tie_cons HS
  replace HS := HS.more 2 rfl (fun _ t => t) fsl.pers
  replace HS := St.put (A := tie (El.int .u8) (t7.map (Value.int .u8)) t7) (fun _ => int_tie) HS
  replace HS := St.swap HS
  replace HS := St.sl_close (E := (El.int .u8)) HS
  replace HS := HS.fr 1
  replace HS := HS.fr 1
  replace HS := St.tie_cons HS
  replace HS := HS.more 3 rfl (fun _ t => t) fsl.pers
  replace HS := St.put (A := tie (El.int .u8) ((([IntKind.u8.wrap (a1.fdiv (2 ^ (min (8 : Int).toNat IntKind.i64.bits))), IntKind.u8.wrap a1] : List Int)).map (Value.int .u8)) (([IntKind.u8.wrap (a1.fdiv (2 ^ (min (8 : Int).toNat IntKind.i64.bits))), IntKind.u8.wrap a1] : List Int))) (fun _ => int_tie) HS
  replace HS := St.swap HS
  replace HS := St.sl_close (E := (El.int .u8)) HS
  replace HS := HS.fr 1
  replace HS := HS.fr 1
  replace HS := St.tie_cons HS
  refine T.nw HS ?_
  refine T.ev [(26, _)] [22, 23] [] ⟨rfl, trivial⟩ ⟨.mv 0, .mv 0, .nc 9, .fa 10 fo136_11, .ld 11 4 Tryz.underlying37, trivial⟩ rfl (fun w HS => ?_)
  obtain ⟨t12, A13, H⟩ := bind_s H
  refine ⟨_, Y.cl Tryz.func127 (slices_Concat_Sbytebyte.calls A13 HS.j0 (rdC.part 1 row_rd rfl) (fun h hh => let ⟨_, l, t⟩ := Sp.has 0 hh rfl; tie.mono t l)), ?_⟩
  rintro _ w ⟨at12_0, ct12_0, rfl, HS⟩
  replace HS := HS.o1
  refine T.nw HS ?_
  refine T.ev [(27, _)] [22, 23] [] ⟨rfl, trivial⟩ ⟨.mv 0, .mv 0, .nc 9, .fa 10 fo136_11, .ld 11 5 Tryz.underlying37, trivial⟩ rfl (fun w HS => ?_)
  replace HS := St.row_freeze HS
  refine ⟨_, Y.lc (e := 32) (sz := 1) [Value.slice at12_0 t12.length ct12_0] HS rfl rfl (fun _ => by kernel_rfl), ?_⟩
  rintro _ w ⟨lb14, rfl, HS⟩
  replace HS := St.put (A := tie (El.sl (El.int .u8)) ([]) (([] : List (List Int)))) (fun _ => tie.nil) HS
  replace HS := HS.more 2 rfl (fun _ t => t) fsl.pers
  replace HS := St.put (A := tie (El.int .u8) (t12.map (Value.int .u8)) t12) (fun _ => int_tie) HS
  replace HS := St.swap HS
  replace HS := St.sl_close (E := (El.int .u8)) HS
  replace HS := HS.fr 1
  replace HS := HS.fr 1
  replace HS := St.tie_cons HS
  refine T.nw HS ?_
  refine T.ev [(12, _), (28, _)] [] [1, 2, 3, 4] ⟨rfl, rfl, trivial⟩ ⟨.mv 0, .mv 0, .nc 9, .fa 10 fo136_11, .ld 11 7 Tryz.underlying37, trivial⟩ rfl (fun w HS => ?_)
  obtain ⟨c17, H⟩ := ite_n H
  refine ⟨_, Y.app (xs := a0.out) (ys := ([t12] : List (List Int))) 11 Tryz.underlying37 ap32 rfl (by decide) HS rfl rfl rfl (rdC.at 1 row_rd HS rfl) (St.tie_one 0 HS rfl) (by omega) (by omega), ?_⟩
  rintro _ w ⟨ra18, rc19, rfl, HS⟩
  replace HS := HS.fr 12
  replace HS := St.tie_app 1 HS rfl
  refine T.nm [(29, Value.slice ra18 (a0.out ++ ([t12] : List (List Int))).length rc19), (30, Value.pointer (some ⟨b0, 0, none⟩)), (31, Value.pointer (some ⟨b0, 0 + 11, none⟩))] HS ⟨.inl ⟨rfl, rfl⟩, ⟨.inr ⟨by decide, rfl⟩, ⟨.inr ⟨by decide, rfl⟩, trivial⟩⟩⟩ ?_
  refine T.ev [(29, _), (31, _)] [] [0, 22, 23] ⟨rfl, rfl, trivial⟩ ⟨.mv 0, .nc 8, .fa 30 fo136_11, trivial⟩ rfl (fun w HS => ?_)
  refine ⟨_, Y.sto 8 11 HS inf37 rfl rfl rfl rfl rfl rfl, ?_⟩
  rintro _ w HS
  refine T.nn HS ?_
  refine T.fn [] trivial trivial (fun w HS => ?_)
  replace HS := HS.pm [8, 9, 10, 11, 12, 0, 13, 1, 2, 3, 4, 5, 6, 7, 14, 15, 16]
  replace HS := arq_Arq.close trivial HS
  replace HS := HS.pk [0, 10] [1, 2, 3, 4, 5, 6, 7, 8, 9]
  cases H
  exact At.end0 rfl ⟨_, rfl, rfl, HS⟩
 ·have HS : Sep.St [blk b0 (#[Value.int .i64 a0.m, Value.int .i64 a0.t1, Value.int .i64 a0.n2, Value.int .i64 a0.size, Value.int .i64 a0.state, Value.int .i64 a0.tag, Value.int .i64 a0.tries, Value.bool a0.rejected, Value.pointer (some ⟨b8_2, 0, none⟩), Value.pointer (some ⟨b9_2, 0, none⟩), Value.pointer (some ⟨b10_2, 0, none⟩), Value.slice a11_2 a0.out.length c11_2, Value.slice a12_2 a0.inds.length c12_2, Value.int .i64 a0.sent, Value.int .i64 a0.acked, Value.int .i64 a0.lost]) 136, backlog_Log.at b8_2 a0.log, reorder_Order.at b9_2 a0.order, clock_Set.at b10_2 a0.timers, row 32 1 (.slice a11_2 a0.out.length c11_2) a0.out.length d11_2, tie (El.sl (El.int .u8)) d11_2 a0.out, row 3 1 (.slice a12_2 a0.inds.length c12_2) a0.inds.length (a0.inds.map (Value.int .i64)), blk nb1 (#[Value.int .i64 a2.Kind, Value.int .i64 a2.Ns, Value.int .i64 a2.Nr, Value.bool a2.Poll]) 188, fsl 1 (.slice sa3 a3.length sc3) a3.length (a3.map (Value.int .u8)), R] w0 w := HS
  obtain ⟨t20, A21, H⟩ := bind_s H
  refine ⟨_, Y.cl Tryz.func237 (control_Bytes.calls A21 HS.j0), ?_⟩
  rintro _ w ⟨at20_0, ct20_0, rfl, HS⟩
  replace HS := HS.o1
  refine T.nw HS ?_
  refine T.ev [(15, _), (17, _)] [22, 23] [5, 6, 7, 8, 9] ⟨rfl, rfl, trivial⟩ ⟨.mv 0, .mv 0, .nc 9, .fa 10 fo136_11, .ld 11 1 Tryz.underlying37, .mv 1, .n1 13 rfl rfl (fun w HS => X.shr rfl rfl (by decide)), .n1 14 rfl rfl (fun w HS => X.conv Tryz.underlying3 Tryz.underlying5 rfl), .mv 1, .n1 16 rfl rfl (fun w HS => X.conv Tryz.underlying3 Tryz.underlying5 rfl), .mv 3, trivial⟩ rfl (fun w HS => ?_)
  refine ⟨_, Y.ls (e := 5) (Value.int .u8) ([IntKind.u8.wrap (a1.fdiv (2 ^ (min (8 : Int).toNat IntKind.i64.bits))), IntKind.u8.wrap a1] : List Int) HS rfl rfl (fun _ => by kernel_rfl), ?_⟩
  rintro _ w ⟨lb24, rfl, HS⟩
  refine T.nw HS ?_
  refine T.ev [(18, _), (24, _), (25, _)] [22, 23] [17] ⟨rfl, rfl, rfl, trivial⟩ ⟨.mv 0, .mv 0, .nc 9, .fa 10 fo136_11, .ld 11 2 Tryz.underlying37, .mv 3, trivial⟩ rfl (fun w HS => ?_)
  replace HS := St.row_freeze HS
  replace HS := HS.fr 1
  replace HS := St.row_freeze HS
  refine ⟨_, Y.lc (e := 32) (sz := 1) [Value.slice (some ⟨lb24, 0, none⟩) (([IntKind.u8.wrap (a1.fdiv (2 ^ (min (8 : Int).toNat IntKind.i64.bits))), IntKind.u8.wrap a1] : List Int)).length 2, Value.slice at20_0 t20.length ct20_0, Value.slice sa3 a3.length sc3] HS rfl rfl (fun _ => by kernel_rfl), ?_⟩
  rintro _ w ⟨lb25, rfl, HS⟩
  replace HS := St.put (A := tie (El.sl (El.int .u8)) ([]) (([] : List (List Int)))) (fun _ => tie.nil) HS
  replace HS := HS.more 12 rfl (fun _ t => t) fsl.pers
  replace HS := St.put (A := tie (El.int .u8) (a3.map (Value.int .u8)) a3) (fun _ => int_tie) HS
  replace HS := St.swap HS
  replace HS := St.sl_close (E := (El.int .u8)) HS
  replace HS := HS.fr 1
  replace HS := HS.fr 1
  replace HS := St.tie_cons HS
  replace HS := HS.more 2 rfl (fun _ t => t) fsl.pers
  replace HS := St.put (A := tie (El.int .u8) (t20.map (Value.int .u8)) t20) (fun _ => int_tie) HS
  replace HS := St.swap HS
  replace HS := St.sl_close (E := (El.int .u8)) HS
  replace HS := HS.fr 1
  replace HS := HS.fr 1
  replace HS := St.tie_cons HS
  replace HS := HS.more 3 rfl (fun _ t => t) fsl.pers
  replace HS := St.put (A := tie (El.int .u8) ((([IntKind.u8.wrap (a1.fdiv (2 ^ (min (8 : Int).toNat IntKind.i64.bits))), IntKind.u8.wrap a1] : List Int)).map (Value.int .u8)) (([IntKind.u8.wrap (a1.fdiv (2 ^ (min (8 : Int).toNat IntKind.i64.bits))), IntKind.u8.wrap a1] : List Int))) (fun _ => int_tie) HS
  replace HS := St.swap HS
  replace HS := St.sl_close (E := (El.int .u8)) HS
  replace HS := HS.fr 1
  replace HS := HS.fr 1
  replace HS := St.tie_cons HS
  refine T.nw HS ?_
  refine T.ev [(26, _)] [22, 23] [] ⟨rfl, trivial⟩ ⟨.mv 0, .mv 0, .nc 9, .fa 10 fo136_11, .ld 11 4 Tryz.underlying37, trivial⟩ rfl (fun w HS => ?_)
  obtain ⟨t28, A29, H⟩ := bind_s H
  refine ⟨_, Y.cl Tryz.func127 (slices_Concat_Sbytebyte.calls A29 HS.j0 (rdC.part 1 row_rd rfl) (fun h hh => let ⟨_, l, t⟩ := Sp.has 0 hh rfl; tie.mono t l)), ?_⟩
  rintro _ w ⟨at28_0, ct28_0, rfl, HS⟩
  replace HS := HS.o1
  refine T.nw HS ?_
  refine T.ev [(27, _)] [22, 23] [] ⟨rfl, trivial⟩ ⟨.mv 0, .mv 0, .nc 9, .fa 10 fo136_11, .ld 11 5 Tryz.underlying37, trivial⟩ rfl (fun w HS => ?_)
  replace HS := St.row_freeze HS
  refine ⟨_, Y.lc (e := 32) (sz := 1) [Value.slice at28_0 t28.length ct28_0] HS rfl rfl (fun _ => by kernel_rfl), ?_⟩
  rintro _ w ⟨lb30, rfl, HS⟩
  replace HS := St.put (A := tie (El.sl (El.int .u8)) ([]) (([] : List (List Int)))) (fun _ => tie.nil) HS
  replace HS := HS.more 2 rfl (fun _ t => t) fsl.pers
  replace HS := St.put (A := tie (El.int .u8) (t28.map (Value.int .u8)) t28) (fun _ => int_tie) HS
  replace HS := St.swap HS
  replace HS := St.sl_close (E := (El.int .u8)) HS
  replace HS := HS.fr 1
  replace HS := HS.fr 1
  replace HS := St.tie_cons HS
  refine T.nw HS ?_
  refine T.ev [(12, _), (28, _)] [] [1, 2, 3, 4] ⟨rfl, rfl, trivial⟩ ⟨.mv 0, .mv 0, .nc 9, .fa 10 fo136_11, .ld 11 7 Tryz.underlying37, trivial⟩ rfl (fun w HS => ?_)
  obtain ⟨c33, H⟩ := ite_n H
  refine ⟨_, Y.app (xs := a0.out) (ys := ([t28] : List (List Int))) 11 Tryz.underlying37 ap32 rfl (by decide) HS rfl rfl rfl (rdC.at 1 row_rd HS rfl) (St.tie_one 0 HS rfl) (by omega) (by omega), ?_⟩
  rintro _ w ⟨ra34, rc35, rfl, HS⟩
  replace HS := HS.fr 12
  replace HS := St.tie_app 1 HS rfl
  refine T.nm [(29, Value.slice ra34 (a0.out ++ ([t28] : List (List Int))).length rc35), (30, Value.pointer (some ⟨b0, 0, none⟩)), (31, Value.pointer (some ⟨b0, 0 + 11, none⟩))] HS ⟨.inl ⟨rfl, rfl⟩, ⟨.inr ⟨by decide, rfl⟩, ⟨.inr ⟨by decide, rfl⟩, trivial⟩⟩⟩ ?_
  refine T.ev [(29, _), (31, _)] [] [0, 22, 23] ⟨rfl, rfl, trivial⟩ ⟨.mv 0, .nc 8, .fa 30 fo136_11, trivial⟩ rfl (fun w HS => ?_)
  refine ⟨_, Y.sto 8 11 HS inf37 rfl rfl rfl rfl rfl rfl, ?_⟩
  rintro _ w HS
  refine T.nn HS ?_
  refine T.fn [] trivial trivial (fun w HS => ?_)
  replace HS := HS.pm [8, 9, 10, 11, 12, 0, 13, 1, 2, 3, 4, 5, 6, 7, 14, 15, 16]
  replace HS := arq_Arq.close trivial HS
  replace HS := HS.pk [0, 10] [1, 2, 3, 4, 5, 6, 7, 8, 9]
  cases H
  exact At.end0 rfl ⟨_, rfl, rfl, HS⟩
def arq_Arq_tell.f (k : Nat) (a0 : arq_Arq) (a1 : api_Ctl) : Option arq_Arq := ((arq_Arq_put.f k a0 a0.tag a1 ([] : List Int)).bind fun t4 => some t4)
theorem arq_Arq_tell.calls {k : Nat} {a0 : arq_Arq} {a1 : api_Ctl} {R : As} {w0 w : World} {b0 : Nat} {r : arq_Arq} (H : arq_Arq_tell.f k a0 a1 = some r) (HS : Sep.St [arq_Arq.at b0 a0, R] w0 w)  : Calls Tryz.prog 153 #[Value.pointer (some ⟨b0, 0, none⟩), Value.agg #[Value.int .i64 a1.Kind, Value.int .i64 a1.Ns, Value.int .i64 a1.Nr, Value.bool a1.Poll]] w (Ret fun u w => u = Value.tuple #[] ∧ Sep.St [arq_Arq.at b0 r, R] w0 w) := by
 unfold arq_Arq_tell.f at H
 refine calls_enter Tryz.func153 rfl rfl ?_
 have H : _ = some r := H
 refine V.seq (V.region (W.e (Y.box HS rfl) rfl ?_))
 rintro _ w ⟨nb1, rfl, HS⟩
 refine W.nx ?_
 replace HS := HS.fr 1
 obtain ⟨b8_2, b9_2, b10_2, a11_2, c11_2, d11_2, a12_2, c12_2, hi3, HS⟩ := arq_Arq.open HS
 refine V.dr [6] [] [(4, Value.pointer (some ⟨b0, 0, none⟩)), (5, Value.pointer (some ⟨b0, 0, none⟩)), (6, Value.pointer (some ⟨b0, 0, none⟩)), (7, Value.pointer (some ⟨b0, 0 + 5, none⟩)), (8, Value.int .i64 a0.tag), (9, Value.agg #[Value.int .i64 a1.Kind, Value.int .i64 a1.Ns, Value.int .i64 a1.Nr, Value.bool a1.Poll])] mo HS ?_
 refine T.ev [(4, _), (8, _), (9, _)] [] [0, 1, 2, 3, 4, 5] ⟨rfl, rfl, rfl, trivial⟩ ⟨.mv 0, .mv 0, .nc 5, .fa 6 fo136_5, .ld 7 0 Tryz.underlying3, .n1 3 rfl rfl (fun w HS => X.loadSt 7 [Value.int .i64 a1.Kind, Value.int .i64 a1.Ns, Value.int .i64 a1.Nr, Value.bool a1.Poll] HS rfl Tryz.underlying188 rfl inf188 rfl rfl), trivial⟩ rfl (fun w HS => ?_)
 replace HS := arq_Arq.close trivial HS
 replace HS := row_nilF (Value.int .u8) 5 1 HS
 replace HS := St.row_freeze HS
 replace HS := HS.more 0 rfl (fun _ t => t) fsl.pers
 obtain ⟨t4, A5, H⟩ := bind_s H
 replace HS := HS.pm [2, 0, 1, 3, 4]
 refine ⟨_, Y.cl Tryz.func206 (arq_Arq_put.calls A5 HS.j2), ?_⟩
 rintro _ w ⟨rfl, HS⟩
 replace HS := HS.o1
 refine T.nw HS ?_
 refine T.fn [] trivial trivial (fun w HS => ?_)
 replace HS := HS.pk [0, 3] [1, 2]
 cases H
 exact At.end0 rfl ⟨_, rfl, rfl, HS⟩
def clock_has.f (a0 : Int) : Option Bool := (if a0 ≥ 0 then some (decide (a0 < 32)) else some false)
theorem clock_has.calls {a0 : Int} {R : As} {w0 w : World}  {r : Bool} (H : clock_has.f a0 = some r) (HS : Sep.St [R] w0 w)  : Calls Tryz.prog 183 #[Value.int .i64 a0] w (Ret fun u w => u = Value.bool r ∧ Sep.St [R] w0 w) := by
 unfold clock_has.f at H
 refine calls_enter Tryz.func183 rfl rfl ?_
 have H : _ = some r := H
 refine V.seq (V.region (W.as rfl (W.nx (V.seq (V.region (W.mv rfl (W.r (X.cmp (decide (a0 ≥ 0)) rfl rfl rfl rfl) rfl (W.mv rfl ?_))))))))
 by_cases c1 : a0 ≥ 0
 ·replace H := ite_t c1 H
  refine W.want 5 rfl (sb (decide_eq_true c1)) (W.mv rfl (W.want 5 rfl (sb (decide_eq_true c1)) (W.r (X.cmp (decide (a0 < 32)) rfl rfl rfl rfl) rfl (W.r (X.pickT (sb (decide_eq_true c1)) rfl) rfl (W.as rfl (W.nx (V.ret ?_)))))))
  cases H
  exact At.ret1 rfl rfl ⟨_, rfl, rfl, HS⟩
 ·replace H := ite_f c1 H
  refine W.pass 5 rfl (sb (decide_eq_false c1)) rfl rfl (W.pass 5 rfl (sb (decide_eq_false c1)) rfl rfl (W.r (X.pickF (sb (decide_eq_false c1)) rfl) rfl (W.as rfl (W.nx (V.ret ?_)))))
  cases H
  exact At.ret1 rfl rfl ⟨_, rfl, rfl, HS⟩
mutual
def clock_Set_Start.j0 (a1 : Int) (x2 : clock_Set) : Option (Bool × clock_Set) := ((clock_has.f a1).bind fun t4 => some (t4, x2))
end
def clock_Set_Start.f (a0 : clock_Set) (a1 : Int) (a2 : Int) : Option (Bool × clock_Set) := ((clock_has.f a1).bind fun t6 => (if t6 = true then (if 0 ≤ a1 ∧ a1 < 32 then (clock_Set_Start.j0 a1 ({ now := a0.now, left := a0.left.set a1.toNat (imax (1) (imin a2 (1073741824))) } : clock_Set)) else none) else (clock_Set_Start.j0 a1 a0)))
theorem clock_Set_Start.calls {a0 : clock_Set} {a1 : Int} {a2 : Int} {R : As} {w0 w : World} {b0 : Nat} {r : Bool × clock_Set} (H : clock_Set_Start.f a0 a1 a2 = some r) (HS : Sep.St [clock_Set.at b0 a0, R] w0 w)  : Calls Tryz.prog 207 #[Value.pointer (some ⟨b0, 0, none⟩), Value.int .i64 a1, Value.int .i64 a2] w (Ret fun u w => u = Value.bool r.1 ∧ Sep.St [clock_Set.at b0 r.2, R] w0 w) := by
 unfold clock_Set_Start.f at H
 refine calls_enter Tryz.func207 rfl rfl ?_
 have H : _ = some r := H
 refine V.seq (V.region (W.as rfl (W.nx (V.meet (σ := clock_Set) (fun st w => match st with | x2 => Sep.St [clock_Set.at b0 x2, R] w0 w ∧ clock_Set_Start.j0 a1 x2 = some r) (fun st => match st with | x2 => [(1, Value.int .i64 a1)]) ?_ ?_))))
 ·refine V.seq (V.region (W.mv rfl ?_))
  obtain ⟨t6, A7, H⟩ := bind_s H
  refine W.e (Y.cl Tryz.func183 (clock_has.calls A7 HS.j0)) rfl ?_
  rintro _ w ⟨rfl, HS⟩
  replace HS := HS.o0
  refine W.nx ?_
  by_cases c8 : t6 = true
  ·replace H := ite_t c8 H
   refine V.condT (sb c8) (V.region (W.mv rfl (W.mv rfl (W.mv rfl (W.r (X.min2 rfl rfl) rfl (W.r (X.max2 rfl rfl) rfl (W.nc rfl ?_)))))))
   obtain ⟨hi10, HS⟩ := clock_Set.open HS
   refine W.fa fo200_1 rfl ?_
   obtain ⟨c11, H⟩ := ite_n H
   refine W.r (X.indexAr Tryz.underlying198 inf3 rfl rfl c11.1 c11.2) rfl (W.en (Y.storeArr 0 HS rfl rfl inf3 rfl rfl c11.1 c11.2 (by first | exact hi10 | (simp only [List.length_set]; exact hi10))) rfl ?_)
   rintro _ w HS
   refine W.nil ?_
   replace HS := clock_Set.close (by first | exact hi10 | (simp only [List.length_set]; exact hi10)) HS
   exact At.meet (({ now := a0.now, left := a0.left.set a1.toNat (imax (1) (imin a2 (1073741824))) } : clock_Set)) ⟨rfl, trivial⟩ ⟨HS, H⟩
  ·replace H := ite_f c8 H
   refine V.condF (sb (b_f c8)) (V.skip ?_)
   exact At.meet a0 ⟨rfl, trivial⟩ ⟨HS, H⟩
 ·rintro x2 w ⟨HS, H⟩
  unfold clock_Set_Start.j0 at H
  refine V.seq (V.region (W.mv rfl ?_))
  obtain ⟨t4, A5, H⟩ := bind_s H
  refine W.e (Y.cl Tryz.func183 (clock_has.calls A5 HS.j0)) rfl ?_
  rintro _ w ⟨rfl, HS⟩
  replace HS := HS.o0
  refine W.as rfl (W.nx (V.ret ?_))
  cases H
  exact At.ret1 rfl rfl ⟨_, rfl, rfl, HS⟩
def arq_Arq_start.f (a0 : arq_Arq) : Option arq_Arq := ((clock_Set_Start.f a0.timers 0 a0.t1).bind fun t3 => some ({ a0 with timers := t3.2 } : arq_Arq))
theorem arq_Arq_start.calls {a0 : arq_Arq} {R : As} {w0 w : World} {b0 : Nat} {r : arq_Arq} (H : arq_Arq_start.f a0 = some r) (HS : Sep.St [arq_Arq.at b0 a0, R] w0 w)  : Calls Tryz.prog 154 #[Value.pointer (some ⟨b0, 0, none⟩)] w (Ret fun u w => u = Value.tuple #[] ∧ Sep.St [arq_Arq.at b0 r, R] w0 w) := by
 unfold arq_Arq_start.f at H
 refine calls_enter Tryz.func154 rfl rfl ?_
 have H : _ = some r := H
 obtain ⟨b8_1, b9_1, b10_1, a11_1, c11_1, d11_1, a12_1, c12_1, hi2, HS⟩ := arq_Arq.open HS
 refine V.dr [8] [] [(2, Value.pointer (some ⟨b0, 0, none⟩)), (3, Value.pointer (some ⟨b0, 0, none⟩)), (4, Value.pointer (some ⟨b0, 0 + 10, none⟩)), (5, Value.pointer (some ⟨b10_1, 0, none⟩)), (6, Value.pointer (some ⟨b0, 0, none⟩)), (7, Value.pointer (some ⟨b0, 0, none⟩)), (8, Value.pointer (some ⟨b0, 0 + 1, none⟩)), (9, Value.int .i64 a0.t1)] mo HS ?_
 refine T.ev [(5, _), (9, _)] [] [0, 1, 2, 3, 4, 5, 6, 7] ⟨rfl, rfl, trivial⟩ ⟨.mv 0, .nc 2, .fa 3 fo136_10, .ld 4 0 Tryz.underlying133, .mv 0, .nc 6, .fa 7 fo136_1, .ld 8 0 Tryz.underlying3, trivial⟩ rfl (fun w HS => ?_)
 obtain ⟨t3, A4, H⟩ := bind_s H
 replace HS := HS.pm [3, 0, 1, 2, 4, 5, 6, 7]
 refine ⟨_, Y.cl Tryz.func207 (clock_Set_Start.calls A4 HS.j1), ?_⟩
 rintro _ w ⟨rfl, HS⟩
 replace HS := HS.o1
 refine T.nw HS ?_
 refine T.fn [] trivial trivial (fun w HS => ?_)
 replace HS := HS.pm [1, 2, 3, 0, 4, 5, 6, 7]
 replace HS := arq_Arq.close trivial HS
 cases H
 exact At.end0 rfl ⟨_, rfl, rfl, HS⟩
def arq_Arq_Connect.f (k : Nat) (a0 : arq_Arq) : Option (Int × arq_Arq) := (if a0.state = 0 then ((serial_Next.f a0.tag 65536).bind fun t5 => ((arq_Arq_tell.f k ({ a0 with state := 1, tag := t5, tries := 0 } : arq_Arq) ({ Kind := 3, Ns := 0, Nr := 0, Poll := true } : api_Ctl)).bind fun t7 => ((arq_Arq_start.f t7).bind fun t9 => some (0, t9)))) else some (8, a0))
theorem arq_Arq_Connect.calls {k : Nat} {a0 : arq_Arq} {R : As} {w0 w : World} {b0 : Nat} {r : Int × arq_Arq} (H : arq_Arq_Connect.f k a0 = some r) (HS : Sep.St [arq_Arq.at b0 a0, R] w0 w)  : Calls Tryz.prog 79 #[Value.pointer (some ⟨b0, 0, none⟩)] w (Ret fun u w => u = Value.int .i64 r.1 ∧ Sep.St [arq_Arq.at b0 r.2, R] w0 w) := by
 unfold arq_Arq_Connect.f at H
 refine calls_enter Tryz.func79 rfl rfl ?_
 have H : _ = some r := H
 refine V.seq (V.region (W.as rfl (W.nx (V.seq (V.seq (V.region (W.mv rfl (W.nc rfl ?_))))))))
 obtain ⟨b8_2, b9_2, b10_2, a11_2, c11_2, d11_2, a12_2, c12_2, hi3, HS⟩ := arq_Arq.open HS
 refine W.fa fo136_4 rfl (W.ld 0 HS Tryz.underlying3 rfl rfl rfl rfl (W.r (X.cmp (!(decide (a0.state = 0))) rfl rfl rfl rfl) rfl (W.nx ?_)))
 by_cases c4 : a0.state = 0
 ·replace H := ite_t c4 H
  refine V.condF (sb (n_t (decide_eq_true c4))) (V.skip (At.next (V.seq (V.region (W.mv rfl (W.mv rfl (W.nc rfl (W.fa fo136_5 rfl (W.ld 0 HS Tryz.underlying3 rfl rfl rfl rfl ?_)))))))))
  obtain ⟨t5, A6, H⟩ := bind_s H
  refine W.e (Y.cl Tryz.func152 (serial_Next.calls A6 HS.j0)) rfl ?_
  rintro _ w ⟨rfl, HS⟩
  replace HS := HS.o0
  refine W.nc rfl (W.fa fo136_5 rfl (W.st 0 5 HS inf3 rfl rfl rfl rfl rfl rfl fun w HS => ?_))
  refine W.nx (V.seq (V.region (W.mv rfl (W.mv rfl (W.nc rfl (W.fa fo136_4 rfl (W.st 0 4 HS inf3 rfl rfl rfl rfl rfl rfl fun w HS => ?_)))))))
  refine W.nc rfl (W.fa fo136_6 rfl (W.st 0 6 HS inf3 rfl rfl rfl rfl rfl rfl fun w HS => ?_))
  refine W.nx (V.seq (V.region (W.mv rfl (W.r (X.bd (Value.agg #[Value.int .i64 (3), Value.int .i64 (0), Value.int .i64 (0), Value.bool true]) rfl (fun _ => by kernel_rfl)) rfl ?_))))
  replace HS := arq_Arq.close trivial HS
  obtain ⟨t7, A8, H⟩ := bind_s H
  refine W.e (Y.cl Tryz.func153 (arq_Arq_tell.calls A8 HS.j1)) rfl ?_
  rintro _ w ⟨rfl, HS⟩
  replace HS := HS.o1
  refine W.nx (V.seq (V.region (W.mv rfl ?_)))
  obtain ⟨t9, A10, H⟩ := bind_s H
  refine W.e (Y.cl Tryz.func154 (arq_Arq_start.calls A10 HS.j1)) rfl ?_
  rintro _ w ⟨rfl, HS⟩
  replace HS := HS.o1
  refine W.nx (V.seq (V.region (W.as rfl (W.nx (V.ret ?_)))))
  cases H
  exact At.ret1 rfl rfl ⟨_, rfl, rfl, HS⟩
 ·replace H := ite_f c4 H
  refine V.condT (sb (n_f (decide_eq_false c4))) (V.seq (V.region (W.as rfl (W.nx (V.ret (At.thenRet ?_))))))
  replace HS := arq_Arq.close trivial HS
  cases H
  exact At.ret1 rfl rfl ⟨_, rfl, rfl, HS⟩
def station_Station_Connect.f (k : Nat) (a0 : station_Station) : Option (Int × station_Station) := ((arq_Arq_Connect.f k a0.arq).bind fun t3 => some (t3.1, ({ a0 with arq := t3.2 } : station_Station)))
theorem station_Station_Connect.calls {k : Nat} {a0 : station_Station} {R : As} {w0 w : World} {b0 : Nat} {r : Int × station_Station} (H : station_Station_Connect.f k a0 = some r) (HS : Sep.St [station_Station.at b0 a0, R] w0 w)  : Calls Tryz.prog 21 #[Value.pointer (some ⟨b0, 0, none⟩)] w (Ret fun u w => u = Value.int .i64 r.1 ∧ Sep.St [station_Station.at b0 r.2, R] w0 w) := by
 unfold station_Station_Connect.f at H
 refine calls_enter Tryz.func21 rfl rfl ?_
 have H : _ = some r := H
 refine V.seq (V.region (W.as rfl (W.nx (V.seq (V.region (W.mv rfl (W.nc rfl ?_)))))))
 obtain ⟨b16_1, b17_1, b18_1, b22_1, b23_1, b24_1, b32_1, b33_1, b34_1, hi2, HS⟩ := station_Station.open HS
 refine W.fa fo87_1 rfl (W.ld 0 HS Tryz.underlying73 rfl rfl rfl rfl ?_)
 obtain ⟨t3, A4, H⟩ := bind_s H
 replace HS := HS.pm [1, 0, 2, 3, 4, 5, 6, 7, 8, 9, 10]
 refine W.e (Y.cl Tryz.func79 (arq_Arq_Connect.calls A4 HS.j1)) rfl ?_
 rintro _ w ⟨rfl, HS⟩
 replace HS := HS.o1
 refine W.as rfl (W.nx (V.ret ?_))
 replace HS := HS.pm [1, 0, 2, 3, 4, 5, 6, 7, 8, 9, 10]
 replace HS := station_Station.close trivial HS
 cases H
 exact At.ret1 rfl rfl ⟨_, rfl, rfl, HS⟩
def monitor_Monitor_Pass.f (a0 : monitor_Monitor) (a1 : Int) : Option (Int × monitor_Monitor) := ((monitor_cut.f a1 0 1073741824).bind fun t3 => (if (imin (w64 (a0.silence + t3)) (1073741824)) ≥ a0.silent then some (2, ({ a0 with row := 0, silence := imin (w64 (a0.silence + t3)) (1073741824), state := 2 } : monitor_Monitor)) else some (a0.state, ({ a0 with silence := imin (w64 (a0.silence + t3)) (1073741824) } : monitor_Monitor))))
theorem monitor_Monitor_Pass.calls {a0 : monitor_Monitor} {a1 : Int} {R : As} {w0 w : World} {b0 : Nat} {r : Int × monitor_Monitor} (H : monitor_Monitor_Pass.f a0 a1 = some r) (HS : Sep.St [monitor_Monitor.at b0 a0, R] w0 w)  : Calls Tryz.prog 52 #[Value.pointer (some ⟨b0, 0, none⟩), Value.int .i64 a1] w (Ret fun u w => u = Value.int .i64 r.1 ∧ Sep.St [monitor_Monitor.at b0 r.2, R] w0 w) := by
 unfold monitor_Monitor_Pass.f at H
 refine calls_enter Tryz.func52 rfl rfl ?_
 have H : _ = some r := H
 refine V.seq (V.region (W.as rfl (W.nx (V.seq ?_))))
 obtain ⟨b3_1, hi2, HS⟩ := monitor_Monitor.open HS
 refine V.dr [6, 11] [7, 8, 9, 10] [(5, Value.pointer (some ⟨b0, 0, none⟩)), (6, Value.pointer (some ⟨b0, 0, none⟩)), (7, Value.pointer (some ⟨b0, 0, none⟩)), (8, Value.pointer (some ⟨b0, 0 + 5, none⟩)), (9, Value.int .i64 a0.silence), (10, Value.int .i64 a1)] mo HS ?_
 refine T.ev [(10, _)] [] [5] ⟨rfl, trivial⟩ ⟨.mv 0, .mv 0, .nc 6, .fa 7 fo147_5, .ld 8 0 Tryz.underlying3, .mv 1, trivial⟩ rfl (fun w HS => ?_)
 obtain ⟨t3, A4, H⟩ := bind_s H
 refine ⟨_, Y.cl Tryz.func116 (monitor_cut.calls A4 HS.j0), ?_⟩
 rintro _ w ⟨rfl, HS⟩
 replace HS := HS.o0
 refine T.nm [(11, Value.int .i64 t3), (12, Value.int .i64 (w64 (a0.silence + t3))), (13, Value.int .i64 (imin (w64 (a0.silence + t3)) (1073741824))), (14, Value.pointer (some ⟨b0, 0, none⟩)), (15, Value.pointer (some ⟨b0, 0 + 5, none⟩))] HS ⟨.inl ⟨rfl, rfl⟩, ⟨.inr ⟨by decide, rfl⟩, ⟨.inr ⟨by decide, rfl⟩, ⟨.inr ⟨by decide, rfl⟩, ⟨.inr ⟨by decide, rfl⟩, trivial⟩⟩⟩⟩⟩ ?_
 refine T.ev [(13, _), (15, _)] [] [0, 1, 2, 3, 4, 7, 8, 9, 10] ⟨rfl, rfl, trivial⟩ ⟨.mv 0, .mv 0, .nc 6, .fa 7 fo147_5, .ld 8 0 Tryz.underlying3, .n2 9 11 rfl rfl rfl (fun w HS => X.add rfl rfl), .n1 12 rfl rfl (fun w HS => X.min2 rfl rfl), .nc 5, .fa 14 fo147_5, trivial⟩ rfl (fun w HS => ?_)
 refine ⟨_, Y.sto 0 5 HS inf3 rfl rfl rfl rfl rfl rfl, ?_⟩
 rintro _ w HS
 refine T.nn HS ?_
 refine T.fn [(0, _)] ⟨rfl, trivial⟩ trivial (fun w HS => ?_)
 refine At.next (V.seq (V.seq (V.dr [] [] [(16, Value.pointer (some ⟨b0, 0, none⟩)), (17, Value.pointer (some ⟨b0, 0, none⟩)), (18, Value.pointer (some ⟨b0, 0 + 5, none⟩)), (19, Value.int .i64 (imin (w64 (a0.silence + t3)) (1073741824))), (20, Value.pointer (some ⟨b0, 0, none⟩)), (21, Value.pointer (some ⟨b0, 0, none⟩)), (22, Value.pointer (some ⟨b0, 0 + 2, none⟩)), (23, Value.int .i64 a0.silent), (24, Value.bool (decide ((imin (w64 (a0.silence + t3)) (1073741824)) ≥ a0.silent)))] mo HS ?_)))
 refine T.fn [(0, _), (24, _)] ⟨rfl, rfl, trivial⟩ ⟨.mv 0, .nc 16, .fa 17 fo147_5, .ld 18 0 Tryz.underlying3, .mv 0, .nc 20, .fa 21 fo147_2, .ld 22 0 Tryz.underlying3, .n2 19 23 rfl rfl rfl (fun w HS => X.cmp (decide ((imin (w64 (a0.silence + t3)) (1073741824)) ≥ a0.silent)) rfl rfl rfl rfl), trivial⟩ (fun w HS => ?_)
 refine At.next ?_
 by_cases c5 : (imin (w64 (a0.silence + t3)) (1073741824)) ≥ a0.silent
 ·replace H := ite_t c5 H
  refine V.condT (sb (decide_eq_true c5)) (V.region (W.mv rfl (W.mv rfl (W.nc rfl (W.fa fo147_6 rfl (W.st 0 6 HS inf3 rfl rfl rfl rfl rfl rfl fun w HS => ?_))))))
  refine W.nc rfl (W.fa fo147_4 rfl (W.st 0 4 HS inf3 rfl rfl rfl rfl rfl rfl fun w HS => ?_))
  refine W.nx (V.seq (V.region (W.mv rfl (W.nc rfl (W.fa fo147_6 rfl (W.ld 0 HS Tryz.underlying3 rfl rfl rfl rfl (W.as rfl (W.nx (V.ret ?_)))))))))
  replace HS := monitor_Monitor.close trivial HS
  cases H
  exact At.ret1 rfl rfl ⟨_, rfl, rfl, HS⟩
 ·replace H := ite_f c5 H
  refine V.condF (sb (decide_eq_false c5)) (V.skip (At.next (V.seq (V.region (W.mv rfl (W.nc rfl (W.fa fo147_6 rfl (W.ld 0 HS Tryz.underlying3 rfl rfl rfl rfl (W.as rfl (W.nx (V.ret ?_)))))))))))
  replace HS := monitor_Monitor.close trivial HS
  cases H
  exact At.ret1 rfl rfl ⟨_, rfl, rfl, HS⟩
def aps_Aps_held.f (a0 : aps_Aps) (a1 : Int) : Option (Int × aps_Aps) := (if a1 = 0 then some (a1, ({ a0 with bad := 0 } : aps_Aps)) else (if (imin (w64 (a0.bad + 1)) (w64 (a0.hold + 1))) ≤ a0.hold then some (0, ({ a0 with bad := imin (w64 (a0.bad + 1)) (w64 (a0.hold + 1)) } : aps_Aps)) else some (a1, ({ a0 with bad := imin (w64 (a0.bad + 1)) (w64 (a0.hold + 1)) } : aps_Aps))))
theorem aps_Aps_held.calls {a0 : aps_Aps} {a1 : Int} {R : As} {w0 w : World} {b0 : Nat} {r : Int × aps_Aps} (H : aps_Aps_held.f a0 a1 = some r) (HS : Sep.St [aps_Aps.at b0 a0, R] w0 w)  : Calls Tryz.prog 119 #[Value.pointer (some ⟨b0, 0, none⟩), Value.int .i64 a1] w (Ret fun u w => u = Value.int .i64 r.1 ∧ Sep.St [aps_Aps.at b0 r.2, R] w0 w) := by
 unfold aps_Aps_held.f at H
 refine calls_enter Tryz.func119 rfl rfl ?_
 have H : _ = some r := H
 refine V.seq (V.region (W.as rfl (W.nx (V.seq (V.seq (V.region (W.mv rfl (W.r (X.cmp (decide (a1 = 0)) rfl rfl rfl rfl) rfl (W.nx ?_)))))))))
 by_cases c2 : a1 = 0
 ·replace H := ite_t c2 H
  refine V.condT (sb (decide_eq_true c2)) (V.seq (V.region (W.mv rfl (W.nc rfl ?_))))
  obtain ⟨hi4, HS⟩ := aps_Aps.open HS
  refine W.fa fo138_6 rfl (W.st 0 6 HS inf3 rfl rfl rfl rfl rfl rfl fun w HS => ?_)
  refine W.nx (V.seq (V.region (W.mv rfl (W.as rfl (W.nx (V.ret (At.thenRet ?_)))))))
  replace HS := aps_Aps.close trivial HS
  cases H
  exact At.ret1 rfl rfl ⟨_, rfl, rfl, HS⟩
 ·replace H := ite_f c2 H
  refine V.condF (sb (decide_eq_false c2)) (V.skip (At.next (V.seq ?_)))
  obtain ⟨hi6, HS⟩ := aps_Aps.open HS
  refine V.dr [14] [] [(11, Value.pointer (some ⟨b0, 0, none⟩)), (12, Value.pointer (some ⟨b0, 0, none⟩)), (13, Value.pointer (some ⟨b0, 0, none⟩)), (14, Value.pointer (some ⟨b0, 0 + 6, none⟩)), (15, Value.int .i64 a0.bad), (16, Value.int .i64 (w64 (a0.bad + 1))), (17, Value.pointer (some ⟨b0, 0, none⟩)), (18, Value.pointer (some ⟨b0, 0, none⟩)), (19, Value.pointer (some ⟨b0, 0 + 0, none⟩)), (20, Value.int .i64 a0.hold), (21, Value.int .i64 (w64 (a0.hold + 1))), (22, Value.int .i64 (imin (w64 (a0.bad + 1)) (w64 (a0.hold + 1)))), (23, Value.pointer (some ⟨b0, 0, none⟩)), (24, Value.pointer (some ⟨b0, 0 + 6, none⟩))] mo HS ?_
  refine T.ev [(22, _), (24, _)] [] [0, 1, 2, 3, 4, 5, 6, 7, 8, 9, 10, 11, 12, 13] ⟨rfl, rfl, trivial⟩ ⟨.mv 0, .mv 0, .nc 12, .fa 13 fo138_6, .ld 14 0 Tryz.underlying3, .n1 15 rfl rfl (fun w HS => X.add rfl rfl), .mv 0, .nc 17, .fa 18 fo138_0, .ld 19 0 Tryz.underlying3, .n1 20 rfl rfl (fun w HS => X.add rfl rfl), .n2 16 21 rfl rfl rfl (fun w HS => X.min2 rfl rfl), .nc 11, .fa 23 fo138_6, trivial⟩ rfl (fun w HS => ?_)
  refine ⟨_, Y.sto 0 6 HS inf3 rfl rfl rfl rfl rfl rfl, ?_⟩
  rintro _ w HS
  refine T.nn HS ?_
  refine T.fn [(0, _), (1, _)] ⟨rfl, rfl, trivial⟩ trivial (fun w HS => ?_)
  refine At.next (V.seq (V.seq (V.dr [] [] [(25, Value.pointer (some ⟨b0, 0, none⟩)), (26, Value.pointer (some ⟨b0, 0, none⟩)), (27, Value.pointer (some ⟨b0, 0 + 6, none⟩)), (28, Value.int .i64 (imin (w64 (a0.bad + 1)) (w64 (a0.hold + 1)))), (29, Value.pointer (some ⟨b0, 0, none⟩)), (30, Value.pointer (some ⟨b0, 0, none⟩)), (31, Value.pointer (some ⟨b0, 0 + 0, none⟩)), (32, Value.int .i64 a0.hold), (33, Value.bool (decide ((imin (w64 (a0.bad + 1)) (w64 (a0.hold + 1))) ≤ a0.hold)))] mo HS ?_)))
  refine T.fn [(1, _), (33, _)] ⟨rfl, rfl, trivial⟩ ⟨.mv 0, .nc 25, .fa 26 fo138_6, .ld 27 0 Tryz.underlying3, .mv 0, .nc 29, .fa 30 fo138_0, .ld 31 0 Tryz.underlying3, .n2 28 32 rfl rfl rfl (fun w HS => X.cmp (decide ((imin (w64 (a0.bad + 1)) (w64 (a0.hold + 1))) ≤ a0.hold)) rfl rfl rfl rfl), trivial⟩ (fun w HS => ?_)
  refine At.next ?_
  by_cases c7 : (imin (w64 (a0.bad + 1)) (w64 (a0.hold + 1))) ≤ a0.hold
  ·replace H := ite_t c7 H
   refine V.condT (sb (decide_eq_true c7)) (V.seq (V.region (W.as rfl (W.nx (V.ret (At.thenRet ?_))))))
   replace HS := aps_Aps.close trivial HS
   cases H
   exact At.ret1 rfl rfl ⟨_, rfl, rfl, HS⟩
  ·replace H := ite_f c7 H
   refine V.condF (sb (decide_eq_false c7)) (V.skip (At.next (V.seq (V.region (W.mv rfl (W.as rfl (W.nx (V.ret ?_))))))))
   replace HS := aps_Aps.close trivial HS
   cases H
   exact At.ret1 rfl rfl ⟨_, rfl, rfl, HS⟩
def request_Local.f (a0 : Int) (a1 : Int) (a2 : Int) : Option Int := (if a0 = 3 then some (8) else (if a2 = 2 then some (7) else (if a0 = 2 then some (6) else (if a1 = 2 then some (5) else (if a1 = 1 then some (4) else (if a0 = 1 then some (3) else some (0)))))))
theorem request_Local.calls {a0 : Int} {a1 : Int} {a2 : Int} {R : As} {w0 w : World}  {r : Int} (H : request_Local.f a0 a1 a2 = some r) (HS : Sep.St [R] w0 w)  : Calls Tryz.prog 118 #[Value.int .i64 a0, Value.int .i64 a1, Value.int .i64 a2] w (Ret fun u w => u = Value.int .i64 r ∧ Sep.St [R] w0 w) := by
 unfold request_Local.f at H
 refine calls_enter Tryz.func118 rfl rfl ?_
 have H : _ = some r := H
 refine V.seq (V.region (W.as rfl (W.nx (V.seq (V.block (V.seq (V.region (W.mv rfl (W.r (X.cmp (decide (a0 = 3)) rfl rfl rfl rfl) rfl (W.as rfl (W.nx ?_)))))))))))
 by_cases c1 : a0 = 3
 ·replace H := ite_t c1 H
  refine V.condT (sb (decide_eq_true c1)) (V.seq (V.region (W.as rfl (W.nx (V.ret (At.blockRet (At.thenRet ?_)))))))
  cases H
  exact At.ret1 rfl rfl ⟨_, rfl, rfl, HS⟩
 ·replace H := ite_f c1 H
  refine V.condF (sb (decide_eq_false c1)) (V.seq (V.region (W.mv rfl (W.r (X.cmp (decide (a2 = 2)) rfl rfl rfl rfl) rfl (W.as rfl (W.nx ?_))))))
  by_cases c2 : a2 = 2
  ·replace H := ite_t c2 H
   refine V.condT (sb (decide_eq_true c2)) (V.seq (V.region (W.as rfl (W.nx (V.ret (At.blockRet (At.thenRet ?_)))))))
   cases H
   exact At.ret1 rfl rfl ⟨_, rfl, rfl, HS⟩
  ·replace H := ite_f c2 H
   refine V.condF (sb (decide_eq_false c2)) (V.seq (V.region (W.mv rfl (W.r (X.cmp (decide (a0 = 2)) rfl rfl rfl rfl) rfl (W.as rfl (W.nx ?_))))))
   by_cases c3 : a0 = 2
   ·replace H := ite_t c3 H
    refine V.condT (sb (decide_eq_true c3)) (V.seq (V.region (W.as rfl (W.nx (V.ret (At.blockRet (At.thenRet ?_)))))))
    cases H
    exact At.ret1 rfl rfl ⟨_, rfl, rfl, HS⟩
   ·replace H := ite_f c3 H
    refine V.condF (sb (decide_eq_false c3)) (V.seq (V.region (W.mv rfl (W.r (X.cmp (decide (a1 = 2)) rfl rfl rfl rfl) rfl (W.as rfl (W.nx ?_))))))
    by_cases c4 : a1 = 2
    ·replace H := ite_t c4 H
     refine V.condT (sb (decide_eq_true c4)) (V.seq (V.region (W.as rfl (W.nx (V.ret (At.blockRet (At.thenRet ?_)))))))
     cases H
     exact At.ret1 rfl rfl ⟨_, rfl, rfl, HS⟩
    ·replace H := ite_f c4 H
     refine V.condF (sb (decide_eq_false c4)) (V.seq (V.region (W.mv rfl (W.r (X.cmp (decide (a1 = 1)) rfl rfl rfl rfl) rfl (W.as rfl (W.nx ?_))))))
     by_cases c5 : a1 = 1
     ·replace H := ite_t c5 H
      refine V.condT (sb (decide_eq_true c5)) (V.seq (V.region (W.as rfl (W.nx (V.ret (At.blockRet (At.thenRet ?_)))))))
      cases H
      exact At.ret1 rfl rfl ⟨_, rfl, rfl, HS⟩
     ·replace H := ite_f c5 H
      refine V.condF (sb (decide_eq_false c5)) (V.seq (V.region (W.mv rfl (W.r (X.cmp (decide (a0 = 1)) rfl rfl rfl rfl) rfl (W.as rfl (W.nx ?_))))))
      by_cases c6 : a0 = 1
      ·replace H := ite_t c6 H
       refine V.condT (sb (decide_eq_true c6)) (V.seq (V.region (W.as rfl (W.nx (V.ret (At.blockRet (At.thenRet ?_)))))))
       cases H
       exact At.ret1 rfl rfl ⟨_, rfl, rfl, HS⟩
      ·replace H := ite_f c6 H
       refine V.condF (sb (decide_eq_false c6)) (V.skip (At.blockEnd (At.next (V.seq (V.region (W.as rfl (W.nx (V.ret ?_))))))))
       cases H
       exact At.ret1 rfl rfl ⟨_, rfl, rfl, HS⟩
mutual
def aps_Aps_after.j0 (a0 : aps_Aps) (x4 : Bool) : Option (Int × aps_Aps) := (if x4 = true then (if a0.revert = true then some (2, ({ a0 with left := a0.wait } : aps_Aps)) else some (1, a0)) else (if a0.own = 2 then (if (w64 (a0.left - 1)) = 0 then some (0, ({ a0 with left := w64 (a0.left - 1) } : aps_Aps)) else some (2, ({ a0 with left := w64 (a0.left - 1) } : aps_Aps))) else (if a0.own = 1 then some (1, a0) else some (0, a0))))
end
def aps_Aps_after.f (a0 : aps_Aps) : Option (Int × aps_Aps) := (if a0.own = 4 then (aps_Aps_after.j0 a0 (decide (a0.own = 4))) else (aps_Aps_after.j0 a0 (decide (a0.own = 5))))
theorem aps_Aps_after.calls {a0 : aps_Aps} {R : As} {w0 w : World} {b0 : Nat} {r : Int × aps_Aps} (H : aps_Aps_after.f a0 = some r) (HS : Sep.St [aps_Aps.at b0 a0, R] w0 w)  : Calls Tryz.prog 120 #[Value.pointer (some ⟨b0, 0, none⟩)] w (Ret fun u w => u = Value.int .i64 r.1 ∧ Sep.St [aps_Aps.at b0 r.2, R] w0 w) := by
 unfold aps_Aps_after.f at H
 refine calls_enter Tryz.func120 rfl rfl ?_
 have H : _ = some r := H
 refine V.seq (V.region (W.as rfl (W.nx (V.seq (V.seq (V.region (W.mv rfl (W.nc rfl ?_))))))))
 obtain ⟨hi2, HS⟩ := aps_Aps.open HS
 refine W.fa fo138_5 rfl (W.ld 0 HS Tryz.underlying3 rfl rfl rfl rfl (W.nx (V.block (V.meet (σ := Bool) (fun st w => match st with | x4 => Sep.St [aps_Aps.at b0 a0, R] w0 w ∧ aps_Aps_after.j0 a0 x4 = some r) (fun st => match st with | x4 => [(0, Value.pointer (some ⟨b0, 0, none⟩)), (6, Value.int .i64 a0.own), (7, Value.bool x4)]) ?_ ?_))))
 ·refine V.seq (V.region (W.r (X.cmp (decide (a0.own = 4)) rfl rfl rfl rfl) rfl (W.as rfl (W.nx ?_))))
  by_cases c15 : a0.own = 4
  ·replace H := ite_t c15 H
   refine V.condT (sb (decide_eq_true c15)) (V.skip ?_)
   replace HS := aps_Aps.close trivial HS
   exact At.meet (decide (a0.own = 4)) ⟨rfl, rfl, rfl, trivial⟩ ⟨HS, H⟩
  ·replace H := ite_f c15 H
   refine V.condF (sb (decide_eq_false c15)) (V.region (W.r (X.cmp (decide (a0.own = 5)) rfl rfl rfl rfl) rfl (W.as rfl (W.nil ?_))))
   replace HS := aps_Aps.close trivial HS
   exact At.meet (decide (a0.own = 5)) ⟨rfl, rfl, rfl, trivial⟩ ⟨HS, H⟩
 ·rintro x4 w ⟨HS, H⟩
  unfold aps_Aps_after.j0 at H
  by_cases c6 : x4 = true
  ·replace H := ite_t c6 H
   refine V.condT (sb c6) (V.seq (V.seq (V.region (W.mv rfl (W.nc rfl ?_)))))
   obtain ⟨hi8, HS⟩ := aps_Aps.open HS
   refine W.fa fo138_2 rfl (W.ld 0 HS Tryz.underlying4 rfl rfl rfl rfl (W.r (X.not rfl) rfl (W.nx ?_)))
   by_cases c9 : a0.revert = true
   ·replace H := ite_t c9 H
    refine V.condF (sb (n_t c9)) (V.skip (At.next (V.seq (V.region (W.mv rfl (W.mv rfl (W.nc rfl (W.fa fo138_1 rfl (W.ld 0 HS Tryz.underlying3 rfl rfl rfl rfl (W.nc rfl (W.fa fo138_7 rfl (W.st 0 7 HS inf3 rfl rfl rfl rfl rfl rfl fun w HS => ?_))))))))))))
    refine W.nx (V.seq (V.region (W.as rfl (W.nx (V.ret (At.blockRet (At.thenRet ?_)))))))
    replace HS := aps_Aps.close trivial HS
    cases H
    exact At.ret1 rfl rfl ⟨_, rfl, rfl, HS⟩
   ·replace H := ite_f c9 H
    refine V.condT (sb (n_f (b_f c9))) (V.seq (V.region (W.as rfl (W.nx (V.ret (At.thenRet (At.blockRet (At.thenRet ?_))))))))
    replace HS := aps_Aps.close trivial HS
    cases H
    exact At.ret1 rfl rfl ⟨_, rfl, rfl, HS⟩
  ·replace H := ite_f c6 H
   refine V.condF (sb (b_f c6)) (V.seq (V.region (W.r (X.cmp (decide (a0.own = 2)) rfl rfl rfl rfl) rfl (W.as rfl (W.nx ?_)))))
   by_cases c10 : a0.own = 2
   ·replace H := ite_t c10 H
    refine V.condT (sb (decide_eq_true c10)) (V.seq (V.region (W.mv rfl (W.nc rfl ?_))))
    obtain ⟨hi12, HS⟩ := aps_Aps.open HS
    refine W.fa fo138_7 rfl (W.ld 0 HS Tryz.underlying3 rfl rfl rfl rfl (W.r (X.sub rfl rfl) rfl (W.nc rfl (W.fa fo138_7 rfl (W.st 0 7 HS inf3 rfl rfl rfl rfl rfl rfl fun w HS => ?_)))))
    refine W.nx (V.seq (V.seq (V.region (W.mv rfl (W.nc rfl (W.fa fo138_7 rfl (W.ld 0 HS Tryz.underlying3 rfl rfl rfl rfl (W.r (X.cmp (decide ((w64 (a0.left - 1)) = 0)) rfl rfl rfl rfl) rfl (W.nx ?_)))))))))
    by_cases c13 : (w64 (a0.left - 1)) = 0
    ·replace H := ite_t c13 H
     refine V.condT (sb (decide_eq_true c13)) (V.seq (V.region (W.as rfl (W.nx (V.ret (At.thenRet (At.blockRet (At.thenRet ?_))))))))
     replace HS := aps_Aps.close trivial HS
     cases H
     exact At.ret1 rfl rfl ⟨_, rfl, rfl, HS⟩
    ·replace H := ite_f c13 H
     refine V.condF (sb (decide_eq_false c13)) (V.skip (At.next (V.seq (V.region (W.as rfl (W.nx (V.ret (At.blockRet (At.thenRet ?_)))))))))
     replace HS := aps_Aps.close trivial HS
     cases H
     exact At.ret1 rfl rfl ⟨_, rfl, rfl, HS⟩
   ·replace H := ite_f c10 H
    refine V.condF (sb (decide_eq_false c10)) (V.seq (V.region (W.r (X.cmp (decide (a0.own = 1)) rfl rfl rfl rfl) rfl (W.as rfl (W.nx ?_)))))
    by_cases c14 : a0.own = 1
    ·replace H := ite_t c14 H
     refine V.condT (sb (decide_eq_true c14)) (V.seq (V.region (W.as rfl (W.nx (V.ret (At.blockRet (At.thenRet ?_)))))))
     cases H
     exact At.ret1 rfl rfl ⟨_, rfl, rfl, HS⟩
    ·replace H := ite_f c14 H
     refine V.condF (sb (decide_eq_false c14)) (V.skip (At.blockEnd (At.next (V.seq (V.region (W.as rfl (W.nx (V.ret ?_))))))))
     cases H
     exact At.ret1 rfl rfl ⟨_, rfl, rfl, HS⟩
mutual
def request_Of.j0 (a0 : Int) (x1 : Bool) : Option Int := (if x1 = true then some (0) else some a0)
end
def request_Of.f (a0 : Int) : Option Int := (if a0 < 0 then (request_Of.j0 a0 true) else (request_Of.j0 a0 (decide (a0 > 8))))
theorem request_Of.calls {a0 : Int} {R : As} {w0 w : World}  {r : Int} (H : request_Of.f a0 = some r) (HS : Sep.St [R] w0 w)  : Calls Tryz.prog 131 #[Value.int .i64 a0] w (Ret fun u w => u = Value.int .i64 r ∧ Sep.St [R] w0 w) := by
 unfold request_Of.f at H
 refine calls_enter Tryz.func131 rfl rfl ?_
 have H : _ = some r := H
 refine V.seq (V.region (W.as rfl (W.nx (V.seq (V.meet (σ := Bool) (fun st w => match st with | x1 => Sep.St [R] w0 w ∧ request_Of.j0 a0 x1 = some r) (fun st => match st with | x1 => [(0, Value.int .i64 a0), (8, Value.bool x1)]) ?_ ?_)))))
 ·refine V.region (W.mv rfl (W.r (X.cmp (decide (a0 < 0)) rfl rfl rfl rfl) rfl (W.mv rfl ?_)))
  by_cases c4 : a0 < 0
  ·replace H := ite_t c4 H
   refine W.pass 5 rfl (sb (decide_eq_true c4)) rfl rfl (W.pass 5 rfl (sb (decide_eq_true c4)) rfl rfl (W.r (X.pickT (sb (decide_eq_true c4)) rfl) rfl (W.nil ?_)))
   exact At.meet true ⟨rfl, rfl, trivial⟩ ⟨HS, H⟩
  ·replace H := ite_f c4 H
   refine W.want 5 rfl (sb (decide_eq_false c4)) (W.mv rfl (W.want 5 rfl (sb (decide_eq_false c4)) (W.r (X.cmp (decide (a0 > 8)) rfl rfl rfl rfl) rfl (W.r (X.pickF (sb (decide_eq_false c4)) rfl) rfl (W.nil ?_)))))
   exact At.meet (decide (a0 > 8)) ⟨rfl, rfl, trivial⟩ ⟨HS, H⟩
 ·rintro x1 w ⟨HS, H⟩
  unfold request_Of.j0 at H
  by_cases c3 : x1 = true
  ·replace H := ite_t c3 H
   refine V.condT (sb c3) (V.seq (V.region (W.as rfl (W.nx (V.ret (At.thenRet ?_))))))
   cases H
   exact At.ret1 rfl rfl ⟨_, rfl, rfl, HS⟩
  ·replace H := ite_f c3 H
   refine V.condF (sb (b_f c3)) (V.skip (At.next (V.seq (V.region (W.mv rfl (W.as rfl (W.nx (V.ret ?_))))))))
   cases H
   exact At.ret1 rfl rfl ⟨_, rfl, rfl, HS⟩
def request_Wins.f (a0 : Int) (a1 : Int) : Option Int := ((request_Of.f a0).bind fun t1 => ((request_Of.f a1).bind fun t3 => some (imax t1 t3)))
theorem request_Wins.calls {a0 : Int} {a1 : Int} {R : As} {w0 w : World}  {r : Int} (H : request_Wins.f a0 a1 = some r) (HS : Sep.St [R] w0 w)  : Calls Tryz.prog 122 #[Value.int .i64 a0, Value.int .i64 a1] w (Ret fun u w => u = Value.int .i64 r ∧ Sep.St [R] w0 w) := by
 unfold request_Wins.f at H
 refine calls_enter Tryz.func122 rfl rfl ?_
 have H : _ = some r := H
 refine V.seq (V.region (W.as rfl (W.nx (V.seq (V.region (W.mv rfl ?_))))))
 obtain ⟨t1, A2, H⟩ := bind_s H
 refine W.e (Y.cl Tryz.func131 (request_Of.calls A2 HS.j0)) rfl ?_
 rintro _ w ⟨rfl, HS⟩
 replace HS := HS.o0
 refine W.mv rfl ?_
 obtain ⟨t3, A4, H⟩ := bind_s H
 refine W.e (Y.cl Tryz.func131 (request_Of.calls A4 HS.j0)) rfl ?_
 rintro _ w ⟨rfl, HS⟩
 replace HS := HS.o0
 refine W.r (X.max2 rfl rfl) rfl (W.as rfl (W.nx (V.ret ?_)))
 cases H
 exact At.ret1 rfl rfl ⟨_, rfl, rfl, HS⟩
mutual
def request_Line.j0  (x1 : Bool) : Option Int := (if x1 = true then some (1) else some (0))
end
def request_Line.f (a0 : Int) : Option Int := (if a0 ≥ 1 then (request_Line.j0 (decide (a0 ≤ 6))) else (request_Line.j0 false))
theorem request_Line.calls {a0 : Int} {R : As} {w0 w : World}  {r : Int} (H : request_Line.f a0 = some r) (HS : Sep.St [R] w0 w)  : Calls Tryz.prog 121 #[Value.int .i64 a0] w (Ret fun u w => u = Value.int .i64 r ∧ Sep.St [R] w0 w) := by
 unfold request_Line.f at H
 refine calls_enter Tryz.func121 rfl rfl ?_
 have H : _ = some r := H
 refine V.seq (V.region (W.as rfl (W.nx (V.seq (V.meet (σ := Bool) (fun st w => match st with | x1 => Sep.St [R] w0 w ∧ request_Line.j0 x1 = some r) (fun st => match st with | x1 => [(8, Value.bool x1)]) ?_ ?_)))))
 ·refine V.region (W.mv rfl (W.r (X.cmp (decide (a0 ≥ 1)) rfl rfl rfl rfl) rfl (W.mv rfl ?_)))
  by_cases c4 : a0 ≥ 1
  ·replace H := ite_t c4 H
   refine W.want 5 rfl (sb (decide_eq_true c4)) (W.mv rfl (W.want 5 rfl (sb (decide_eq_true c4)) (W.r (X.cmp (decide (a0 ≤ 6)) rfl rfl rfl rfl) rfl (W.r (X.pickT (sb (decide_eq_true c4)) rfl) rfl (W.nil ?_)))))
   exact At.meet (decide (a0 ≤ 6)) ⟨rfl, trivial⟩ ⟨HS, H⟩
  ·replace H := ite_f c4 H
   refine W.pass 5 rfl (sb (decide_eq_false c4)) rfl rfl (W.pass 5 rfl (sb (decide_eq_false c4)) rfl rfl (W.r (X.pickF (sb (decide_eq_false c4)) rfl) rfl (W.nil ?_)))
   exact At.meet false ⟨rfl, trivial⟩ ⟨HS, H⟩
 ·rintro x1 w ⟨HS, H⟩
  unfold request_Line.j0 at H
  by_cases c3 : x1 = true
  ·replace H := ite_t c3 H
   refine V.condT (sb c3) (V.seq (V.region (W.as rfl (W.nx (V.ret (At.thenRet ?_))))))
   cases H
   exact At.ret1 rfl rfl ⟨_, rfl, rfl, HS⟩
  ·replace H := ite_f c3 H
   refine V.condF (sb (b_f c3)) (V.skip (At.next (V.seq (V.region (W.as rfl (W.nx (V.ret ?_)))))))
   cases H
   exact At.ret1 rfl rfl ⟨_, rfl, rfl, HS⟩
theorem aps_Aps_held.kp_command {a0 : _} {a1 : _} {t : _} (h : aps_Aps_held.f a0 a1 = some t) : t.2.command = a0.command := by
 unfold aps_Aps_held.f at h
 repeat' split at h
 all_goals first | (injection h with h; subst h; rfl) | (cases h)
mutual
def aps_Aps_Pass.j0  (x11 : aps_Aps) (x12 : Int) : Option (Int × aps_Aps) := ((request_Wins.f x12 x11.remote).bind fun t16 => ((request_Line.f t16).bind fun t18 => some (t18, ({ x11 with own := x12, line := t18 } : aps_Aps))))
end
def aps_Aps_Pass.f (a0 : aps_Aps) (a1 : Int) (a2 : Int) : Option (Int × aps_Aps) := ((aps_Aps_held.f a0 a1).bind fun t3 => ((request_Local.f a0.command t3.1 a2).bind fun t8 => (if t8 = 0 then ((aps_Aps_after.f t3.2).bind fun t21 => (aps_Aps_Pass.j0 t21.2 t21.1)) else (aps_Aps_Pass.j0 t3.2 t8))))
theorem aps_Aps_Pass.calls {a0 : aps_Aps} {a1 : Int} {a2 : Int} {R : As} {w0 w : World} {b0 : Nat} {r : Int × aps_Aps} (H : aps_Aps_Pass.f a0 a1 a2 = some r) (HS : Sep.St [aps_Aps.at b0 a0, R] w0 w)  : Calls Tryz.prog 53 #[Value.pointer (some ⟨b0, 0, none⟩), Value.int .i64 a1, Value.int .i64 a2] w (Ret fun u w => u = Value.int .i64 r.1 ∧ Sep.St [aps_Aps.at b0 r.2, R] w0 w) := by
 unfold aps_Aps_Pass.f at H
 refine calls_enter Tryz.func53 rfl rfl ?_
 have H : _ = some r := H
 refine V.seq (V.region (W.as rfl (W.nx (V.seq ?_))))
 obtain ⟨hi2, HS⟩ := aps_Aps.open HS
 refine V.dr [6, 8] [9] [(8, Value.pointer (some ⟨b0, 0, none⟩)), (9, Value.pointer (some ⟨b0, 0, none⟩)), (10, Value.pointer (some ⟨b0, 0 + 3, none⟩)), (11, Value.int .i64 a0.command), (12, Value.pointer (some ⟨b0, 0, none⟩)), (13, Value.int .i64 a1), (15, Value.int .i64 a2)] mo HS ?_
 refine T.ev [(12, _), (13, _)] [9] [4, 5] ⟨rfl, rfl, trivial⟩ ⟨.mv 0, .nc 8, .fa 9 fo138_3, .ld 10 0 Tryz.underlying3, .mv 0, .mv 1, .mv 2, trivial⟩ rfl (fun w HS => ?_)
 replace HS := aps_Aps.close trivial HS
 obtain ⟨t3, A4, H⟩ := bind_s H
 refine ⟨_, Y.cl Tryz.func119 (aps_Aps_held.calls A4 HS.j1), ?_⟩
 rintro _ w ⟨rfl, HS⟩
 replace HS := HS.o1
 obtain ⟨hi6, HS⟩ := aps_Aps.open HS
 have hq7 : t3.2.command = a0.command := aps_Aps_held.kp_command A4
 refine T.nw HS ?_
 refine T.ev [(11, _), (14, _), (15, _)] [] [0, 1, 2, 3, 7] ⟨rfl, rfl, rfl, trivial⟩ ⟨.mv 0, .nc 8, .fa 9 fo138_3, .n1 10 rfl rfl (fun w HS => Runs.to (congrArg (Value.int .i64) hq7) (X.loadAt 0 HS rfl Tryz.underlying3 rfl rfl rfl)), .mv 2, trivial⟩ rfl (fun w HS => ?_)
 obtain ⟨t8, A9, H⟩ := bind_s H
 refine ⟨_, Y.cl Tryz.func118 (request_Local.calls A9 HS.j0), ?_⟩
 rintro _ w ⟨rfl, HS⟩
 replace HS := HS.o0
 refine T.nm [(16, Value.int .i64 t8), (7, Value.int .i64 t8)] HS ⟨.inl ⟨rfl, rfl⟩, ⟨.inr ⟨by decide, rfl⟩, trivial⟩⟩ ?_
 refine T.fn [(0, _), (7, _)] ⟨rfl, rfl, trivial⟩ ⟨.as 16, trivial⟩ (fun w HS => ?_)
 refine At.next (V.meet (σ := aps_Aps × Int) (fun st w => match st with | (x11, x12) => Sep.St [aps_Aps.at b0 x11, R] w0 w ∧ aps_Aps_Pass.j0 x11 x12 = some r) (fun st => match st with | (x11, x12) => [(0, Value.pointer (some ⟨b0, 0, none⟩)), (7, Value.int .i64 x12)]) ?_ ?_)
 ·refine V.seq (V.region (W.mv rfl (W.r (X.cmp (decide (t8 = 0)) rfl rfl rfl rfl) rfl (W.nx ?_))))
  by_cases c20 : t8 = 0
  ·replace H := ite_t c20 H
   refine V.condT (sb (decide_eq_true c20)) (V.region (W.mv rfl ?_))
   replace HS := aps_Aps.close trivial HS
   obtain ⟨t21, A22, H⟩ := bind_s H
   refine W.e (Y.cl Tryz.func120 (aps_Aps_after.calls A22 HS.j1)) rfl ?_
   rintro _ w ⟨rfl, HS⟩
   replace HS := HS.o1
   refine W.as rfl (W.nil ?_)
   exact At.meet (t21.2, t21.1) ⟨rfl, rfl, trivial⟩ ⟨HS, H⟩
  ·replace H := ite_f c20 H
   refine V.condF (sb (decide_eq_false c20)) (V.skip ?_)
   replace HS := aps_Aps.close trivial HS
   exact At.meet (t3.2, t8) ⟨rfl, rfl, trivial⟩ ⟨HS, H⟩
 ·rintro ⟨x11, x12⟩ w ⟨HS, H⟩
  unfold aps_Aps_Pass.j0 at H
  refine V.seq (V.region (W.mv rfl (W.mv rfl (W.nc rfl ?_))))
  obtain ⟨hi15, HS⟩ := aps_Aps.open HS
  refine W.fa fo138_5 rfl (W.st 0 5 HS inf3 rfl rfl rfl rfl rfl rfl fun w HS => ?_)
  refine W.nx (V.seq (V.region (W.mv rfl (W.mv rfl (W.mv rfl (W.nc rfl (W.fa fo138_4 rfl (W.ld 0 HS Tryz.underlying3 rfl rfl rfl rfl ?_))))))))
  obtain ⟨t16, A17, H⟩ := bind_s H
  refine W.e (Y.cl Tryz.func122 (request_Wins.calls A17 HS.j0)) rfl ?_
  rintro _ w ⟨rfl, HS⟩
  replace HS := HS.o0
  obtain ⟨t18, A19, H⟩ := bind_s H
  refine W.e (Y.cl Tryz.func121 (request_Line.calls A19 HS.j0)) rfl ?_
  rintro _ w ⟨rfl, HS⟩
  replace HS := HS.o0
  refine W.nc rfl (W.fa fo138_8 rfl (W.st 0 8 HS inf3 rfl rfl rfl rfl rfl rfl fun w HS => ?_))
  refine W.nx (V.seq (V.region (W.mv rfl (W.nc rfl (W.fa fo138_8 rfl (W.ld 0 HS Tryz.underlying3 rfl rfl rfl rfl (W.as rfl (W.nx (V.ret ?_)))))))))
  replace HS := aps_Aps.close trivial HS
  cases H
  exact At.ret1 rfl rfl ⟨_, rfl, rfl, HS⟩
def station_Station_twice.f (a0 : station_Station) : Option Bool := some (decide (a0.c.Mode = 0))
theorem station_Station_twice.calls {a0 : station_Station} {R : As} {w0 w : World} {b0 : Nat} {b16_p0 : Nat} {b17_p0 : Nat} {b18_p0 : Nat} {b22_p0 : Nat} {b23_p0 : Nat} {b24_p0 : Nat} {b32_p0 : Nat} {b33_p0 : Nat} {b34_p0 : Nat} {r : Bool} (H : station_Station_twice.f a0 = some r) (HS : Sep.St [blk b0 (#[Value.int .i64 a0.c.Mode, Value.int .i64 a0.c.Modulus, Value.int .i64 a0.c.Window, Value.int .i64 a0.c.T1, Value.int .i64 a0.c.N2, Value.int .i64 a0.c.Hold, Value.int .i64 a0.c.Wait, Value.int .i64 a0.c.Keep, Value.int .i64 a0.c.Queue, Value.int .i64 a0.c.Size, Value.int .i64 a0.c.Ring, Value.int .i64 a0.c.Rate, Value.int .i64 a0.c.Bad, Value.int .i64 a0.c.Good, Value.bool a0.c.Revert, Value.bool a0.c.Wide, Value.pointer (some ⟨b16_p0, 0, none⟩), Value.pointer (some ⟨b17_p0, 0, none⟩), Value.pointer (some ⟨b18_p0, 0, none⟩), Value.int .u32 a0.number, Value.int .i64 a0.steps, Value.int .i64 a0.line, Value.pointer (some ⟨b22_p0, 0, none⟩), Value.pointer (some ⟨b23_p0, 0, none⟩), Value.pointer (some ⟨b24_p0, 0, none⟩), Value.int .i64 a0.sides.1.counts.Good, Value.int .i64 a0.sides.1.counts.Bad, Value.int .i64 a0.sides.1.counts.Aborts, Value.int .i64 a0.sides.1.counts.Runts, Value.int .i64 a0.sides.1.counts.Giants, Value.int .i64 a0.sides.1.counts.Dropped, Value.int .i64 a0.sides.1.counts.Twins, Value.pointer (some ⟨b32_p0, 0, none⟩), Value.pointer (some ⟨b33_p0, 0, none⟩), Value.pointer (some ⟨b34_p0, 0, none⟩), Value.int .i64 a0.sides.2.counts.Good, Value.int .i64 a0.sides.2.counts.Bad, Value.int .i64 a0.sides.2.counts.Aborts, Value.int .i64 a0.sides.2.counts.Runts, Value.int .i64 a0.sides.2.counts.Giants, Value.int .i64 a0.sides.2.counts.Dropped, Value.int .i64 a0.sides.2.counts.Twins]) 87, arq_Arq.at b16_p0 a0.arq, aps_Aps.at b17_p0 a0.aps, twins_Table.at b18_p0 a0.twins, frame_Reader.at b22_p0 a0.sides.1.reader, monitor_Monitor.at b23_p0 a0.sides.1.monitor, ring_Ring.at b24_p0 a0.sides.1.ring, frame_Reader.at b32_p0 a0.sides.2.reader, monitor_Monitor.at b33_p0 a0.sides.2.monitor, ring_Ring.at b34_p0 a0.sides.2.ring, R] w0 w)  : Calls Tryz.prog 49 #[Value.pointer (some ⟨b0, 0, none⟩)] w (Ret fun u w => u = Value.bool r ∧ Sep.St [blk b0 (#[Value.int .i64 a0.c.Mode, Value.int .i64 a0.c.Modulus, Value.int .i64 a0.c.Window, Value.int .i64 a0.c.T1, Value.int .i64 a0.c.N2, Value.int .i64 a0.c.Hold, Value.int .i64 a0.c.Wait, Value.int .i64 a0.c.Keep, Value.int .i64 a0.c.Queue, Value.int .i64 a0.c.Size, Value.int .i64 a0.c.Ring, Value.int .i64 a0.c.Rate, Value.int .i64 a0.c.Bad, Value.int .i64 a0.c.Good, Value.bool a0.c.Revert, Value.bool a0.c.Wide, Value.pointer (some ⟨b16_p0, 0, none⟩), Value.pointer (some ⟨b17_p0, 0, none⟩), Value.pointer (some ⟨b18_p0, 0, none⟩), Value.int .u32 a0.number, Value.int .i64 a0.steps, Value.int .i64 a0.line, Value.pointer (some ⟨b22_p0, 0, none⟩), Value.pointer (some ⟨b23_p0, 0, none⟩), Value.pointer (some ⟨b24_p0, 0, none⟩), Value.int .i64 a0.sides.1.counts.Good, Value.int .i64 a0.sides.1.counts.Bad, Value.int .i64 a0.sides.1.counts.Aborts, Value.int .i64 a0.sides.1.counts.Runts, Value.int .i64 a0.sides.1.counts.Giants, Value.int .i64 a0.sides.1.counts.Dropped, Value.int .i64 a0.sides.1.counts.Twins, Value.pointer (some ⟨b32_p0, 0, none⟩), Value.pointer (some ⟨b33_p0, 0, none⟩), Value.pointer (some ⟨b34_p0, 0, none⟩), Value.int .i64 a0.sides.2.counts.Good, Value.int .i64 a0.sides.2.counts.Bad, Value.int .i64 a0.sides.2.counts.Aborts, Value.int .i64 a0.sides.2.counts.Runts, Value.int .i64 a0.sides.2.counts.Giants, Value.int .i64 a0.sides.2.counts.Dropped, Value.int .i64 a0.sides.2.counts.Twins]) 87, arq_Arq.at b16_p0 a0.arq, aps_Aps.at b17_p0 a0.aps, twins_Table.at b18_p0 a0.twins, frame_Reader.at b22_p0 a0.sides.1.reader, monitor_Monitor.at b23_p0 a0.sides.1.monitor, ring_Ring.at b24_p0 a0.sides.1.ring, frame_Reader.at b32_p0 a0.sides.2.reader, monitor_Monitor.at b33_p0 a0.sides.2.monitor, ring_Ring.at b34_p0 a0.sides.2.ring, R] w0 w) := by
 unfold station_Station_twice.f at H
 refine calls_enter Tryz.func49 rfl rfl ?_
 have H : _ = some r := H
 refine V.seq (V.region (W.as rfl (W.nx (V.seq (V.region (W.mv rfl (W.nc rfl (W.fa fo87_0 rfl (W.fa fo28_0 rfl (W.ld 0 HS Tryz.underlying3 rfl rfl rfl rfl (W.r (X.cmp (decide (a0.c.Mode = 0)) rfl rfl rfl rfl) rfl (W.as rfl (W.nx (V.ret ?_))))))))))))))
 cases H
 exact At.ret1 rfl rfl ⟨_, rfl, rfl, HS⟩
def backlog_Log_number.f (a0 : backlog_Log) (a1 : Int) : Option Int := (if ¬ (a0.m = 0) then some ((w64 (a0.first + a1)).tmod a0.m) else none)
theorem backlog_Log_number.calls {a0 : backlog_Log} {a1 : Int} {R : As} {w0 w : World} {b0 : Nat} {a5_p0 : Option Addr} {c5_p0 : Nat} {d5_p0 : List Value} {r : Int} (H : backlog_Log_number.f a0 a1 = some r) (HS : Sep.St [blk b0 (#[Value.int .i64 a0.m, Value.int .i64 a0.window, Value.int .i64 a0.queue, Value.int .i64 a0.first, Value.int .i64 a0.out, Value.slice a5_p0 a0.l.length c5_p0]) 194, row 32 1 (.slice a5_p0 a0.l.length c5_p0) a0.l.length d5_p0, tie (El.sl (El.int .u8)) d5_p0 a0.l, R] w0 w)  : Calls Tryz.prog 225 #[Value.pointer (some ⟨b0, 0, none⟩), Value.int .i64 a1] w (Ret fun u w => u = Value.int .i64 r ∧ Sep.St [blk b0 (#[Value.int .i64 a0.m, Value.int .i64 a0.window, Value.int .i64 a0.queue, Value.int .i64 a0.first, Value.int .i64 a0.out, Value.slice a5_p0 a0.l.length c5_p0]) 194, row 32 1 (.slice a5_p0 a0.l.length c5_p0) a0.l.length d5_p0, tie (El.sl (El.int .u8)) d5_p0 a0.l, R] w0 w) := by
 unfold backlog_Log_number.f at H
 refine calls_enter Tryz.func225 rfl rfl ?_
 have H : _ = some r := H
 refine V.seq (V.region (W.as rfl (W.nx (V.seq ?_))))
 obtain ⟨c1, H⟩ := ite_n H
 refine V.dr [] [] [(5, Value.pointer (some ⟨b0, 0, none⟩)), (6, Value.pointer (some ⟨b0, 0, none⟩)), (7, Value.pointer (some ⟨b0, 0 + 3, none⟩)), (8, Value.int .i64 a0.first), (9, Value.int .i64 a1), (10, Value.int .i64 (w64 (a0.first + a1))), (11, Value.pointer (some ⟨b0, 0, none⟩)), (12, Value.pointer (some ⟨b0, 0, none⟩)), (13, Value.pointer (some ⟨b0, 0 + 0, none⟩)), (14, Value.int .i64 a0.m), (15, Value.int .i64 ((w64 (a0.first + a1)).tmod a0.m)), (4, Value.int .i64 ((w64 (a0.first + a1)).tmod a0.m))] mo HS ?_
 refine T.fn [(4, _)] ⟨rfl, trivial⟩ ⟨.mv 0, .nc 5, .fa 6 fo194_3, .ld 7 0 Tryz.underlying3, .mv 1, .n2 8 9 rfl rfl rfl (fun w HS => X.add rfl rfl), .mv 0, .nc 11, .fa 12 fo194_0, .ld 13 0 Tryz.underlying3, .n2 10 14 rfl rfl rfl (fun w HS => X.rem rfl rfl c1), .as 15, trivial⟩ (fun w HS => ?_)
 refine At.next (V.ret ?_)
 cases H
 exact At.ret1 rfl rfl ⟨_, rfl, rfl, HS⟩
mutual
def backlog_Log_Out.l0 : Nat → backlog_Log → Int → (List Int) → Option (List Int)
 | 0, _, _, _ => none
 | k + 1, a0, x5, x8 => (if x5 < a0.out then ((backlog_Log_number.f a0 x5).bind fun t12 => (if (x8.length : Int) + ([t12] : List Int).length ≤ 1099511627776 then (backlog_Log_Out.l0 k a0 (w64 (x5 + 1)) (x8 ++ ([t12] : List Int))) else none)) else some x8)
end
def backlog_Log_Out.f (k : Nat) (a0 : backlog_Log) : Option (List Int) := (backlog_Log_Out.l0 k a0 0 ([] : List Int))
theorem backlog_Log_Out.calls {k : Nat} {a0 : backlog_Log} {R : As} {w0 w : World} {b0 : Nat} {a5_p0 : Option Addr} {c5_p0 : Nat} {d5_p0 : List Value} {r : List Int} (H : backlog_Log_Out.f k a0 = some r) (HS : Sep.St [blk b0 (#[Value.int .i64 a0.m, Value.int .i64 a0.window, Value.int .i64 a0.queue, Value.int .i64 a0.first, Value.int .i64 a0.out, Value.slice a5_p0 a0.l.length c5_p0]) 194, row 32 1 (.slice a5_p0 a0.l.length c5_p0) a0.l.length d5_p0, tie (El.sl (El.int .u8)) d5_p0 a0.l, R] w0 w)  : Calls Tryz.prog 181 #[Value.pointer (some ⟨b0, 0, none⟩)] w (Ret fun u w => ∃ (aq0 : Option Addr) (cq0 : Nat), u = Value.slice aq0 r.length cq0 ∧ Sep.St [row 3 1 (.slice aq0 r.length cq0) r.length (r.map (Value.int .i64)), blk b0 (#[Value.int .i64 a0.m, Value.int .i64 a0.window, Value.int .i64 a0.queue, Value.int .i64 a0.first, Value.int .i64 a0.out, Value.slice a5_p0 a0.l.length c5_p0]) 194, row 32 1 (.slice a5_p0 a0.l.length c5_p0) a0.l.length d5_p0, tie (El.sl (El.int .u8)) d5_p0 a0.l, R] w0 w) := by
 unfold backlog_Log_Out.f at H
 refine calls_enter Tryz.func181 rfl rfl ?_
 have H : _ = some r := H
 refine V.seq (V.region (W.as rfl (W.nx (V.seq (V.region (W.as rfl (W.nx (V.seq (V.seq (V.region (W.mv rfl (W.nc rfl (W.fa fo194_4 rfl (W.ld 0 HS Tryz.underlying3 rfl rfl rfl rfl (W.mv rfl (W.nx (V.block ?_)))))))))))))))))
 replace HS := row_nilF (Value.int .i64) 3 1 HS
 refine V.loop (σ := Int × Option Addr × Nat × List Int) (fun kq (st : Int × Option Addr × Nat × List Int) w => match st with | (x5, ra6, rc7, x8) => Sep.St [row 3 1 (.slice ra6 x8.length rc7) x8.length (x8.map (Value.int .i64)), blk b0 (#[Value.int .i64 a0.m, Value.int .i64 a0.window, Value.int .i64 a0.queue, Value.int .i64 a0.first, Value.int .i64 a0.out, Value.slice a5_p0 a0.l.length c5_p0]) 194, row 32 1 (.slice a5_p0 a0.l.length c5_p0) a0.l.length d5_p0, tie (El.sl (El.int .u8)) d5_p0 a0.l, R] w0 w ∧ backlog_Log_Out.l0 kq a0 x5 x8 = some r ∧ kq ≤ k) (fun st => match st with | (x5, ra6, rc7, x8) => [(0, Value.pointer (some ⟨b0, 0, none⟩)), (3, Value.slice ra6 x8.length rc7), (8, Value.int .i64 a0.out), (9, Value.int .i64 x5)]) k (0, none, 0, ([] : List Int)) ⟨rfl, rfl, rfl, rfl, trivial⟩ ⟨HS, H, Nat.le_refl _⟩ ?_
 rintro kq9 ⟨x5, ra6, rc7, x8⟩ w ⟨HS, H, hk10⟩
 cases kq9 with
 | zero => exact absurd H (by simp [backlog_Log_Out.l0])
 | succ kq9 =>
  simp only [backlog_Log_Out.l0] at H
  refine V.seq (V.region (W.r (X.cmp (decide (x5 < a0.out)) rfl rfl rfl rfl) rfl (W.nx (V.seq ?_))))
  by_cases c11 : x5 < a0.out
  ·replace H := ite_t c11 H
   refine V.condT (sb (decide_eq_true c11)) (V.skip (At.next (V.seq (V.block (V.seq (V.region (W.mv rfl (W.as rfl (W.nx (V.region (W.mv rfl (W.mv rfl (W.mv rfl ?_)))))))))))))
   obtain ⟨t12, A13, H⟩ := bind_s H
   replace HS := HS.pm [1, 2, 3, 0, 4]
   refine W.e (Y.cl Tryz.func225 (backlog_Log_number.calls A13 HS.j3)) rfl ?_
   rintro _ w ⟨rfl, HS⟩
   replace HS := HS.o3
   refine W.e (Y.ls (e := 3) (Value.int .i64) ([t12] : List Int) HS rfl rfl (fun _ => by kernel_rfl)) rfl ?_
   rintro _ w ⟨lb16, rfl, HS⟩
   obtain ⟨c17, H⟩ := ite_n H
   refine W.e (Y.appF (Value.int .i64) (fun _ => rfl) 4 Tryz.underlying48 ap3 rfl HS rfl rfl rfl (rdC.at 0 row_rd HS rfl) (by omega) (by omega)) rfl ?_
   rintro _ w ⟨ra18, rc19, rfl, HS⟩
   refine W.as rfl (W.nil (At.blockEnd (At.next (V.region (W.r (X.add rfl rfl) rfl (W.mv rfl (W.nil ?_)))))))
   replace HS := HS.pk [4, 1, 2, 3, 5] [0]
   exact At.round kq9 (by omega) (w64 (x5 + 1), ra18, rc19, x8 ++ ([t12] : List Int)) ⟨rfl, rfl, rfl, rfl, trivial⟩ ⟨HS, H, by omega⟩
  ·replace H := ite_f c11 H
   refine V.condF (sb (decide_eq_false c11)) (V.exit (At.thenExit (At.thenExit (At.blockExit (At.next (V.seq (V.region (W.mv rfl (W.as rfl (W.nx (V.ret ?_)))))))))))
   cases H
   exact At.ret1 rfl rfl ⟨_, rfl, ra6, rc7, rfl, HS⟩
def serial_Dist.f (a0 : Int) (a1 : Int) (a2 : Int) : Option Int := ((serial_round.f a0 a2).bind fun t1 => ((serial_round.f a1 a2).bind fun t3 => ((serial_round.f (w64 (t3.1 - t1.1)) t3.2).bind fun t5 => some t5.1)))
theorem serial_Dist.calls {a0 : Int} {a1 : Int} {a2 : Int} {R : As} {w0 w : World}  {r : Int} (H : serial_Dist.f a0 a1 a2 = some r) (HS : Sep.St [R] w0 w)  : Calls Tryz.prog 252 #[Value.int .i64 a0, Value.int .i64 a1, Value.int .i64 a2] w (Ret fun u w => u = Value.int .i64 r ∧ Sep.St [R] w0 w) := by
 unfold serial_Dist.f at H
 refine calls_enter Tryz.func252 rfl rfl ?_
 have H : _ = some r := H
 refine V.seq (V.region (W.as rfl (W.nx (V.seq (V.region (W.mv rfl (W.mv rfl ?_)))))))
 obtain ⟨t1, A2, H⟩ := bind_s H
 refine W.e (Y.cl Tryz.func205 (serial_round.calls A2 HS.j0)) rfl ?_
 rintro _ w ⟨rfl, HS⟩
 replace HS := HS.o0
 refine W.mv rfl (W.r (X.extract rfl rfl) rfl (W.r (X.extract rfl rfl) rfl (W.as rfl (W.nx (V.seq (V.region (W.mv rfl (W.mv rfl ?_))))))))
 obtain ⟨t3, A4, H⟩ := bind_s H
 refine W.e (Y.cl Tryz.func205 (serial_round.calls A4 HS.j0)) rfl ?_
 rintro _ w ⟨rfl, HS⟩
 replace HS := HS.o0
 refine W.mv rfl (W.r (X.extract rfl rfl) rfl (W.r (X.extract rfl rfl) rfl (W.as rfl (W.as rfl (W.nx (V.seq (V.region (W.mv rfl (W.mv rfl (W.r (X.sub rfl rfl) rfl (W.mv rfl ?_)))))))))))
 obtain ⟨t5, A6, H⟩ := bind_s H
 refine W.e (Y.cl Tryz.func205 (serial_round.calls A6 HS.j0)) rfl ?_
 rintro _ w ⟨rfl, HS⟩
 replace HS := HS.o0
 refine W.mv rfl (W.r (X.extract rfl rfl) rfl (W.r (X.extract rfl rfl) rfl (W.as rfl (W.as rfl (W.nx (V.seq (V.region (W.mv rfl (W.as rfl (W.nx (V.ret ?_)))))))))))
 cases H
 exact At.ret1 rfl rfl ⟨_, rfl, rfl, HS⟩
def slices_Clone_Sbytebyte.f (a0 : List Int) : Option (List Int) := (if (([] : List Int).length : Int) + a0.length ≤ 1099511627776 then some (([] : List Int) ++ a0) else none)
theorem slices_Clone_Sbytebyte.calls {a0 : List Int} {R : As} {w0 w : World} {sa0 : Option Addr} {sc0 : Nat} {r : List Int} (H : slices_Clone_Sbytebyte.f a0 = some r) (HS : Sep.St [R] w0 w) (hr0 : rdC R 1 (.slice sa0 a0.length sc0) a0.length (a0.map (Value.int .u8))) : Calls Tryz.prog 130 #[Value.slice sa0 a0.length sc0] w (Ret fun u w => ∃ (aq0 : Option Addr) (cq0 : Nat), u = Value.slice aq0 r.length cq0 ∧ Sep.St [row 5 1 (.slice aq0 r.length cq0) r.length (r.map (Value.int .u8)), R] w0 w) := by
 unfold slices_Clone_Sbytebyte.f at H
 refine calls_enter Tryz.func130 rfl rfl ?_
 have H : _ = some r := H
 refine V.seq (V.region (W.as rfl (W.nx (V.seq (V.seq (V.region (W.mv rfl (W.r (X.eqSl Tryz.underlying32 rfl rfl) rfl (W.nx ?_)))))))))
 by_cases cg1 : sa0.isNone = false
 ·refine V.condF (sb cg1) (V.skip (At.next (V.seq (V.region (W.e (Y.lit (e := 5) (sz := 1) (vs := #[]) [] HS (fun a ha => by simp only [List.map_toArray, List.map_cons, List.map_nil]; try rfl) rfl (by decide) (fun _ => by kernel_rfl)) rfl ?_)))))
  rintro _ w ⟨ra4, rc5, rfl, HS⟩
  have HS : Sep.St [row 5 1 (.slice ra4 ([] : List Int).length rc5) ([] : List Int).length (([] : List Int).map (Value.int .u8)), R] w0 w := HS
  refine W.mv rfl ?_
  obtain ⟨c7, H⟩ := ite_n H
  refine W.e (Y.appF (Value.int .u8) (fun _ => rfl) 0 Tryz.underlying32 ap5 rfl HS rfl rfl rfl (rdC.at 1 hr0 HS rfl) (by omega) (by omega)) rfl ?_
  rintro _ w ⟨ra8, rc9, rfl, HS⟩
  refine W.as rfl (W.nx (V.ret ?_))
  cases H
  exact At.ret1 rfl rfl ⟨_, rfl, ra8, rc9, rfl, HS⟩
 ·have hN2 : sa0.isNone = true := by simpa using cg1
  have hz3 : a0 = [] := List.eq_nil_of_length_eq_zero ((rdC.at 0 hr0 HS rfl).nil (Option.isNone_iff_eq_none.1 hN2)).1
  have H : some ([] : List Int) = some r := by simpa [hz3] using H
  refine V.condT (sb hN2) (V.seq (V.region (W.as rfl (W.nx (V.ret (At.thenRet ?_))))))
  replace HS := row_nilF (Value.int .u8) 5 1 HS
  cases H
  exact At.ret1 rfl rfl ⟨_, rfl, none, 0, rfl, HS⟩
mutual
def backlog_Log_Body.j0 (a0 : backlog_Log) (t1 : Int) (x6 : Bool) : Option (List Int × Bool) := (if x6 = true then some (([] : List Int), false) else (if 0 ≤ t1 ∧ t1 < (a0.l.length : Int) then ((slices_Clone_Sbytebyte.f (a0.l.getD t1.toNat [])).bind fun t18 => some (t18, true)) else none))
end
def backlog_Log_Body.f (a0 : backlog_Log) (a1 : Int) : Option (List Int × Bool) := ((serial_Dist.f a0.first a1 a0.m).bind fun t1 => (if a1 < 0 then (backlog_Log_Body.j0 a0 t1 true) else (if a1 ≥ a0.m then (backlog_Log_Body.j0 a0 t1 true) else (backlog_Log_Body.j0 a0 t1 (decide (t1 ≥ a0.out))))))
theorem backlog_Log_Body.calls {a0 : backlog_Log} {a1 : Int} {R : As} {w0 w : World} {b0 : Nat} {a5_p0 : Option Addr} {c5_p0 : Nat} {d5_p0 : List Value} {r : List Int × Bool} (H : backlog_Log_Body.f a0 a1 = some r) (HS : Sep.St [blk b0 (#[Value.int .i64 a0.m, Value.int .i64 a0.window, Value.int .i64 a0.queue, Value.int .i64 a0.first, Value.int .i64 a0.out, Value.slice a5_p0 a0.l.length c5_p0]) 194, row 32 1 (.slice a5_p0 a0.l.length c5_p0) a0.l.length d5_p0, tie (El.sl (El.int .u8)) d5_p0 a0.l, R] w0 w)  : Calls Tryz.prog 226 #[Value.pointer (some ⟨b0, 0, none⟩), Value.int .i64 a1] w (Ret fun u w => ∃ (aq0 : Option Addr) (cq0 : Nat), u = Value.tuple #[Value.slice aq0 r.1.length cq0, Value.bool r.2] ∧ Sep.St [row 5 1 (.slice aq0 r.1.length cq0) r.1.length (r.1.map (Value.int .u8)), blk b0 (#[Value.int .i64 a0.m, Value.int .i64 a0.window, Value.int .i64 a0.queue, Value.int .i64 a0.first, Value.int .i64 a0.out, Value.slice a5_p0 a0.l.length c5_p0]) 194, row 32 1 (.slice a5_p0 a0.l.length c5_p0) a0.l.length d5_p0, tie (El.sl (El.int .u8)) d5_p0 a0.l, R] w0 w) := by
 unfold backlog_Log_Body.f at H
 refine calls_enter Tryz.func226 rfl rfl ?_
 have H : _ = some r := H
 refine V.seq (V.region (W.as rfl (W.as rfl (W.nx (V.seq (V.dr [9] [10] [(7, Value.pointer (some ⟨b0, 0, none⟩)), (8, Value.pointer (some ⟨b0, 0, none⟩)), (9, Value.pointer (some ⟨b0, 0 + 3, none⟩)), (10, Value.int .i64 a0.first), (11, Value.int .i64 a1), (12, Value.pointer (some ⟨b0, 0, none⟩)), (13, Value.pointer (some ⟨b0, 0, none⟩)), (14, Value.pointer (some ⟨b0, 0 + 0, none⟩)), (15, Value.int .i64 a0.m)] mo HS ?_))))))
 refine T.ev [(10, _), (11, _), (15, _)] [] [0, 1, 2, 3, 4, 5, 6, 7, 8] ⟨rfl, rfl, rfl, trivial⟩ ⟨.mv 0, .nc 7, .fa 8 fo194_3, .ld 9 0 Tryz.underlying3, .mv 1, .mv 0, .nc 12, .fa 13 fo194_0, .ld 14 0 Tryz.underlying3, trivial⟩ rfl (fun w HS => ?_)
 obtain ⟨t1, A2, H⟩ := bind_s H
 refine ⟨_, Y.cl Tryz.func252 (serial_Dist.calls A2 HS.j0), ?_⟩
 rintro _ w ⟨rfl, HS⟩
 replace HS := HS.o0
 refine T.nm [(16, Value.int .i64 t1), (6, Value.int .i64 t1)] HS ⟨.inl ⟨rfl, rfl⟩, ⟨.inr ⟨by decide, rfl⟩, trivial⟩⟩ ?_
 refine T.fn [(0, _), (1, _), (6, _)] ⟨rfl, rfl, rfl, trivial⟩ ⟨.as 16, trivial⟩ (fun w HS => ?_)
 refine At.next (V.seq (V.meet (σ := Bool) (fun st w => match st with | x6 => Sep.St [blk b0 (#[Value.int .i64 a0.m, Value.int .i64 a0.window, Value.int .i64 a0.queue, Value.int .i64 a0.first, Value.int .i64 a0.out, Value.slice a5_p0 a0.l.length c5_p0]) 194, row 32 1 (.slice a5_p0 a0.l.length c5_p0) a0.l.length d5_p0, tie (El.sl (El.int .u8)) d5_p0 a0.l, R] w0 w ∧ backlog_Log_Body.j0 a0 t1 x6 = some r) (fun st => match st with | x6 => [(0, Value.pointer (some ⟨b0, 0, none⟩)), (6, Value.int .i64 t1), (34, Value.bool x6)]) ?_ ?_))
 ·refine V.region (W.mv rfl (W.r (X.cmp (decide (a1 < 0)) rfl rfl rfl rfl) rfl (W.mv rfl ?_)))
  by_cases c20 : a1 < 0
  ·replace H := ite_t c20 H
   refine W.pass 19 rfl (sb (decide_eq_true c20)) rfl rfl (W.pass 19 rfl (sb (decide_eq_true c20)) rfl rfl (W.pass 19 rfl (sb (decide_eq_true c20)) rfl rfl (W.pass 19 rfl (sb (decide_eq_true c20)) rfl rfl (W.pass 19 rfl (sb (decide_eq_true c20)) rfl rfl (W.pass 19 rfl (sb (decide_eq_true c20)) rfl rfl (W.r (X.pickT (sb (decide_eq_true c20)) rfl) rfl (W.mv rfl (W.pass 27 rfl rfl rfl rfl (W.pass 27 rfl rfl rfl rfl (W.pass 27 rfl rfl rfl rfl (W.pass 27 rfl rfl rfl rfl (W.pass 27 rfl rfl rfl rfl (W.pass 27 rfl rfl rfl rfl (W.r (X.pickT rfl rfl) rfl (W.nil ?_)))))))))))))))
   exact At.meet true ⟨rfl, rfl, rfl, trivial⟩ ⟨HS, H⟩
  ·replace H := ite_f c20 H
   refine W.want 19 rfl (sb (decide_eq_false c20)) (W.mv rfl (W.want 19 rfl (sb (decide_eq_false c20)) (W.mv rfl (W.want 19 rfl (sb (decide_eq_false c20)) (W.nc rfl (W.want 19 rfl (sb (decide_eq_false c20)) (W.fa fo194_0 rfl (W.want 19 rfl (sb (decide_eq_false c20)) (W.ld 0 HS Tryz.underlying3 rfl rfl rfl rfl (W.want 19 rfl (sb (decide_eq_false c20)) (W.r (X.cmp (decide (a1 ≥ a0.m)) rfl rfl rfl rfl) rfl (W.r (X.pickF (sb (decide_eq_false c20)) rfl) rfl (W.mv rfl ?_)))))))))))))
   by_cases c21 : a1 ≥ a0.m
   ·replace H := ite_t c21 H
    refine W.pass 27 rfl (sb (decide_eq_true c21)) rfl rfl (W.pass 27 rfl (sb (decide_eq_true c21)) rfl rfl (W.pass 27 rfl (sb (decide_eq_true c21)) rfl rfl (W.pass 27 rfl (sb (decide_eq_true c21)) rfl rfl (W.pass 27 rfl (sb (decide_eq_true c21)) rfl rfl (W.pass 27 rfl (sb (decide_eq_true c21)) rfl rfl (W.r (X.pickT (sb (decide_eq_true c21)) rfl) rfl (W.nil ?_)))))))
    exact At.meet true ⟨rfl, rfl, rfl, trivial⟩ ⟨HS, H⟩
   ·replace H := ite_f c21 H
    refine W.want 27 rfl (sb (decide_eq_false c21)) (W.mv rfl (W.want 27 rfl (sb (decide_eq_false c21)) (W.mv rfl (W.want 27 rfl (sb (decide_eq_false c21)) (W.nc rfl (W.want 27 rfl (sb (decide_eq_false c21)) (W.fa fo194_4 rfl (W.want 27 rfl (sb (decide_eq_false c21)) (W.ld 0 HS Tryz.underlying3 rfl rfl rfl rfl (W.want 27 rfl (sb (decide_eq_false c21)) (W.r (X.cmp (decide (t1 ≥ a0.out)) rfl rfl rfl rfl) rfl (W.r (X.pickF (sb (decide_eq_false c21)) rfl) rfl (W.nil ?_)))))))))))))
    exact At.meet (decide (t1 ≥ a0.out)) ⟨rfl, rfl, rfl, trivial⟩ ⟨HS, H⟩
 ·rintro x6 w ⟨HS, H⟩
  unfold backlog_Log_Body.j0 at H
  by_cases c8 : x6 = true
  ·replace H := ite_t c8 H
   refine V.condT (sb c8) (V.seq (V.region (W.as rfl (W.as rfl (W.nx (V.ret (At.thenRet ?_)))))))
   replace HS := row_nilF (Value.int .u8) 5 1 HS
   cases H
   exact At.ret2 rfl rfl rfl ⟨_, rfl, none, 0, rfl, HS⟩
  ·replace H := ite_f c8 H
   refine V.condF (sb (b_f c8)) (V.skip (At.next (V.seq (V.region (W.mv rfl (W.nc rfl (W.fa fo194_5 rfl (W.ld 0 HS Tryz.underlying37 rfl rfl rfl rfl (W.mv rfl ?_)))))))))
   obtain ⟨c9, H⟩ := ite_n H
   obtain ⟨eb10, eo11, hh⟩ := (rdC.at 1 row_rd HS rfl).some (by decide) c9.1 c9.2; subst hh
   refine W.r (X.indexSl Tryz.underlying37 inf32 rfl rfl c9.1 c9.2) rfl ?_
   obtain ⟨ec12, hc13, HS⟩ := St.tie_at 2 HS rfl ([]) c9.1 c9.2
   obtain ⟨ea14, em15, he17, HN⟩ := St.sl_openF (Value.int .u8) (fun t => tie_int t) HS; clear HS; subst he17; have HS := HN
   refine W.r (X.load Tryz.underlying32 rfl rfl ((rdC.at 2 row_rd HS rfl).cellEl0 (hc13 0 _ rfl))) rfl ?_
   obtain ⟨t18, A19, H⟩ := bind_s H
   refine W.e (Y.cl Tryz.func130 (slices_Clone_Sbytebyte.calls A19 HS.j0 (rdC.part 0 fsl.rd rfl))) rfl ?_
   rintro _ w ⟨at18_0, ct18_0, rfl, HS⟩
   replace HS := HS.o1
   refine W.as rfl (W.as rfl (W.nx (V.ret ?_)))
   replace HS := HS.pk [0, 2, 3, 4, 5] [1]
   cases H
   exact At.ret2 rfl rfl rfl ⟨_, rfl, at18_0, ct18_0, rfl, HS⟩
def reorder_Order_Next.f (a0 : reorder_Order) : Option Int := some a0.next
theorem reorder_Order_Next.calls {a0 : reorder_Order} {R : As} {w0 w : World} {b0 : Nat} {b3_p0 : Nat} {k3_p0 : List (Int × Value)} {a4_p0 : Option Addr} {c4_p0 : Nat} {d4_p0 : List Value} {r : Int} (H : reorder_Order_Next.f a0 = some r) (HS : Sep.St [blk b0 (#[Value.int .i64 a0.m, Value.int .i64 a0.window, Value.int .i64 a0.next, Value.map (some b3_p0), Value.slice a4_p0 a0.ready.length c4_p0]) 197, mblk b3_p0 k3_p0, tieM (El.sl (El.int .u8)) k3_p0 a0.kept, row 32 1 (.slice a4_p0 a0.ready.length c4_p0) a0.ready.length d4_p0, tie (El.sl (El.int .u8)) d4_p0 a0.ready, R] w0 w)  : Calls Tryz.prog 236 #[Value.pointer (some ⟨b0, 0, none⟩)] w (Ret fun u w => u = Value.int .i64 r ∧ Sep.St [blk b0 (#[Value.int .i64 a0.m, Value.int .i64 a0.window, Value.int .i64 a0.next, Value.map (some b3_p0), Value.slice a4_p0 a0.ready.length c4_p0]) 197, mblk b3_p0 k3_p0, tieM (El.sl (El.int .u8)) k3_p0 a0.kept, row 32 1 (.slice a4_p0 a0.ready.length c4_p0) a0.ready.length d4_p0, tie (El.sl (El.int .u8)) d4_p0 a0.ready, R] w0 w) := by
 unfold reorder_Order_Next.f at H
 refine calls_enter Tryz.func236 rfl rfl ?_
 have H : _ = some r := H
 refine V.seq (V.region (W.as rfl (W.nx (V.seq (V.region (W.mv rfl (W.nc rfl (W.fa fo197_2 rfl (W.ld 0 HS Tryz.underlying3 rfl rfl rfl rfl (W.as rfl (W.nx (V.ret ?_))))))))))))
 cases H
 exact At.ret1 rfl rfl ⟨_, rfl, rfl, HS⟩
def arq_Arq_message.f (k : Nat) (a0 : arq_Arq) (a1 : Int) (a2 : List Int) (a3 : Bool) : Option arq_Arq := ((reorder_Order_Next.f a0.order).bind fun t5 => ((arq_Arq_put.f k a0 a0.tag ({ Kind := 0, Ns := a1, Nr := t5, Poll := a3 } : api_Ctl) a2).bind fun t7 => some t7))
theorem arq_Arq_message.calls {k : Nat} {a0 : arq_Arq} {a1 : Int} {a2 : List Int} {a3 : Bool} {R : As} {w0 w : World} {b0 : Nat} {sa2 : Option Addr} {sc2 : Nat} {r : arq_Arq} (H : arq_Arq_message.f k a0 a1 a2 a3 = some r) (HS : Sep.St [arq_Arq.at b0 a0, fsl 1 (.slice sa2 a2.length sc2) a2.length (a2.map (Value.int .u8)), R] w0 w)  : Calls Tryz.prog 203 #[Value.pointer (some ⟨b0, 0, none⟩), Value.int .i64 a1, Value.slice sa2 a2.length sc2, Value.bool a3] w (Ret fun u w => u = Value.tuple #[] ∧ Sep.St [arq_Arq.at b0 r, R] w0 w) := by
 unfold arq_Arq_message.f at H
 refine calls_enter Tryz.func203 rfl rfl ?_
 have H : _ = some r := H
 obtain ⟨b8_1, b9_1, b10_1, a11_1, c11_1, d11_1, a12_1, c12_1, hi2, HS⟩ := arq_Arq.open HS
 refine V.dr [10, 14] [12] [(8, Value.pointer (some ⟨b0, 0, none⟩)), (9, Value.pointer (some ⟨b0, 0, none⟩)), (10, Value.pointer (some ⟨b0, 0, none⟩)), (11, Value.pointer (some ⟨b0, 0 + 5, none⟩)), (12, Value.int .i64 a0.tag), (13, Value.int .i64 a1), (14, Value.pointer (some ⟨b0, 0, none⟩)), (15, Value.pointer (some ⟨b0, 0, none⟩)), (16, Value.pointer (some ⟨b0, 0 + 9, none⟩)), (17, Value.pointer (some ⟨b9_1, 0, none⟩)), (19, Value.bool a3), (21, Value.slice sa2 a2.length sc2)] mo HS ?_
 refine T.ev [(17, _)] [] [6, 7, 8, 9] ⟨rfl, trivial⟩ ⟨.mv 0, .mv 0, .nc 9, .fa 10 fo136_5, .ld 11 0 Tryz.underlying3, .mv 1, .mv 0, .nc 14, .fa 15 fo136_9, .ld 16 0 Tryz.underlying131, .mv 3, .mv 2, trivial⟩ rfl (fun w HS => ?_)
 replace HS := HS.fr 2
 obtain ⟨b3_3, k3_3, a4_3, c4_3, d4_3, hi4, HS⟩ := reorder_Order.open HS
 obtain ⟨t5, A6, H⟩ := bind_s H
 refine ⟨_, Y.cl Tryz.func236 (reorder_Order_Next.calls A6 HS.j5), ?_⟩
 rintro _ w ⟨rfl, HS⟩
 replace HS := HS.o5
 refine T.nm [(18, Value.int .i64 t5), (20, Value.agg #[Value.int .i64 (0), Value.int .i64 a1, Value.int .i64 t5, Value.bool a3])] HS ⟨.inl ⟨rfl, rfl⟩, ⟨.inr ⟨by decide, rfl⟩, trivial⟩⟩ ?_
 refine T.ev [(8, _), (12, _), (20, _), (21, _)] [] [0, 1, 2, 3, 4, 5, 11, 12, 13] ⟨rfl, rfl, rfl, rfl, trivial⟩ ⟨.mv 0, .mv 0, .nc 9, .fa 10 fo136_5, .ld 11 5 Tryz.underlying3, .mv 1, .mv 3, .ns [(13, _), (18, _), (19, _)] ⟨rfl, rfl, rfl, trivial⟩ rfl (fun w HS => X.bd (Value.agg #[Value.int .i64 (0), Value.int .i64 a1, Value.int .i64 t5, Value.bool a3]) rfl (fun _ => by kernel_rfl)), .mv 2, trivial⟩ rfl (fun w HS => ?_)
 replace HS := reorder_Order.close trivial HS
 replace HS := HS.pm [1, 2, 0, 3, 4, 5, 6, 7, 8]
 replace HS := arq_Arq.close trivial HS
 replace HS := HS.more 1 rfl (fun _ t => t) fsl.pers
 obtain ⟨t7, A8, H⟩ := bind_s H
 replace HS := HS.pm [1, 0, 2, 3]
 refine ⟨_, Y.cl Tryz.func206 (arq_Arq_put.calls A8 HS.j2), ?_⟩
 rintro _ w ⟨rfl, HS⟩
 replace HS := HS.o1
 refine T.nw HS ?_
 refine T.fn [] trivial trivial (fun w HS => ?_)
 replace HS := HS.pk [0, 2] [1]
 cases H
 exact At.end0 rfl ⟨_, rfl, rfl, HS⟩
def arq_Arq_repeat.f (k : Nat) (a0 : arq_Arq) (a1 : Int) (a2 : Bool) : Option arq_Arq := ((backlog_Log_Body.f a0.log a1).bind fun t5 => ((arq_Arq_message.f k a0 a1 t5.1 a2).bind fun t7 => some t7))
theorem arq_Arq_repeat.calls {k : Nat} {a0 : arq_Arq} {a1 : Int} {a2 : Bool} {R : As} {w0 w : World} {b0 : Nat} {r : arq_Arq} (H : arq_Arq_repeat.f k a0 a1 a2 = some r) (HS : Sep.St [arq_Arq.at b0 a0, R] w0 w)  : Calls Tryz.prog 182 #[Value.pointer (some ⟨b0, 0, none⟩), Value.int .i64 a1, Value.bool a2] w (Ret fun u w => u = Value.tuple #[] ∧ Sep.St [arq_Arq.at b0 r, R] w0 w) := by
 unfold arq_Arq_repeat.f at H
 refine calls_enter Tryz.func182 rfl rfl ?_
 have H : _ = some r := H
 refine V.seq (V.region (W.mv rfl (W.nc rfl ?_)))
 obtain ⟨b8_1, b9_1, b10_1, a11_1, c11_1, d11_1, a12_1, c12_1, hi2, HS⟩ := arq_Arq.open HS
 refine W.fa fo136_8 rfl (W.ld 0 HS Tryz.underlying129 rfl rfl rfl rfl (W.mv rfl ?_))
 replace HS := HS.fr 1
 obtain ⟨a5_3, c5_3, d5_3, hi4, HS⟩ := backlog_Log.open HS
 obtain ⟨t5, A6, H⟩ := bind_s H
 refine W.e (Y.cl Tryz.func226 (backlog_Log_Body.calls A6 HS.j3)) rfl ?_
 rintro _ w ⟨at5_0, ct5_0, rfl, HS⟩
 replace HS := HS.o4
 refine W.mv rfl (W.r (X.extract rfl rfl) rfl (W.r (X.extract rfl rfl) rfl (W.as rfl (W.as rfl (W.nx (V.region (W.mv rfl (W.mv rfl (W.mv rfl (W.mv rfl ?_))))))))))
 replace HS := HS.pm [1, 2, 3, 0, 4, 5, 6, 7, 8, 9, 10]
 replace HS := backlog_Log.close trivial HS
 replace HS := HS.pm [2, 0, 3, 4, 5, 6, 7, 1, 8]
 replace HS := arq_Arq.close trivial HS
 replace HS := HS.fr 1
 replace HS := St.row_freeze HS
 replace HS := HS.more 0 rfl (fun _ t => t) fsl.pers
 obtain ⟨t7, A8, H⟩ := bind_s H
 replace HS := HS.pm [2, 0, 1, 3]
 refine W.e (Y.cl Tryz.func203 (arq_Arq_message.calls A8 HS.j2)) rfl ?_
 rintro _ w ⟨rfl, HS⟩
 replace HS := HS.o1
 refine W.nil ?_
 replace HS := HS.pk [0, 2] [1]
 cases H
 exact At.end0 rfl ⟨_, rfl, rfl, HS⟩
mutual
def arq_Arq_resend.l0 : Nat → (List Int) → Int → arq_Arq → Option arq_Arq
 | 0, _, _, _ => none
 | k + 1, t5, x17, x18 => (if x17 < (t5.length : Int) then (if 0 ≤ x17 ∧ x17 < (t5.length : Int) then ((arq_Arq_repeat.f k x18 (t5.getD x17.toNat 0) false).bind fun t25 => (arq_Arq_resend.l0 k t5 (w64 (x17 + 1)) t25)) else none) else (if (t5.length : Int) > 0 then ((arq_Arq_start.f x18).bind fun t28 => some t28) else some x18))
end
def arq_Arq_resend.f (k : Nat) (a0 : arq_Arq) : Option arq_Arq := ((backlog_Log_Out.f k a0.log).bind fun t5 => (arq_Arq_resend.l0 k t5 0 a0))
theorem arq_Arq_resend.calls {k : Nat} {a0 : arq_Arq} {R : As} {w0 w : World} {b0 : Nat} {r : arq_Arq} (H : arq_Arq_resend.f k a0 = some r) (HS : Sep.St [arq_Arq.at b0 a0, R] w0 w)  : Calls Tryz.prog 123 #[Value.pointer (some ⟨b0, 0, none⟩)] w (Ret fun u w => u = Value.tuple #[] ∧ Sep.St [arq_Arq.at b0 r, R] w0 w) := by
 unfold arq_Arq_resend.f at H
 refine calls_enter Tryz.func123 rfl rfl ?_
 have H : _ = some r := H
 refine V.seq (V.region (W.mv rfl (W.nc rfl ?_)))
 obtain ⟨b8_1, b9_1, b10_1, a11_1, c11_1, d11_1, a12_1, c12_1, hi2, HS⟩ := arq_Arq.open HS
 refine W.fa fo136_8 rfl (W.ld 0 HS Tryz.underlying129 rfl rfl rfl rfl ?_)
 replace HS := HS.fr 1
 obtain ⟨a5_3, c5_3, d5_3, hi4, HS⟩ := backlog_Log.open HS
 obtain ⟨t5, A6, H⟩ := bind_s H
 refine W.e (Y.cl Tryz.func181 (backlog_Log_Out.calls A6 HS.j3)) rfl ?_
 rintro _ w ⟨at5_0, ct5_0, rfl, HS⟩
 replace HS := HS.o4
 refine W.as rfl (W.nx (V.seq (V.seq (V.region (W.mv rfl (W.r (X.lenSl Tryz.underlying48 rfl) rfl (W.mv rfl (W.nx (V.block ?_)))))))))
 replace HS := HS.pm [1, 2, 3, 0, 4, 5, 6, 7, 8, 9, 10]
 replace HS := backlog_Log.close trivial HS
 replace HS := HS.pm [2, 0, 3, 4, 5, 6, 7, 1, 8]
 replace HS := arq_Arq.close trivial HS
 refine V.loop (σ := Int × arq_Arq) (fun kq (st : Int × arq_Arq) w => match st with | (x17, x18) => Sep.St [arq_Arq.at b0 x18, row 3 1 (.slice at5_0 t5.length ct5_0) t5.length (t5.map (Value.int .i64)), R] w0 w ∧ arq_Arq_resend.l0 kq t5 x17 x18 = some r ∧ kq ≤ k) (fun st => match st with | (x17, x18) => [(0, Value.pointer (some ⟨b0, 0, none⟩)), (2, Value.slice at5_0 t5.length ct5_0), (10, Value.slice at5_0 t5.length ct5_0), (11, Value.int .i64 (t5.length : Int)), (12, Value.int .i64 x17)]) k (0, a0) ⟨rfl, rfl, rfl, rfl, rfl, trivial⟩ ⟨HS, H, Nat.le_refl _⟩ ?_
 rintro kq19 ⟨x17, x18⟩ w ⟨HS, H, hk20⟩
 cases kq19 with
 | zero => exact absurd H (by simp [arq_Arq_resend.l0])
 | succ kq19 =>
  simp only [arq_Arq_resend.l0] at H
  refine V.seq (V.region (W.r (X.cmp (decide (x17 < (t5.length : Int))) rfl rfl rfl rfl) rfl (W.nx (V.seq ?_))))
  by_cases c21 : x17 < (t5.length : Int)
  ·replace H := ite_t c21 H
   refine V.condT (sb (decide_eq_true c21)) (V.skip (At.next (V.seq (V.block (V.seq (V.region ?_))))))
   obtain ⟨c22, H⟩ := ite_n H
   obtain ⟨eb23, eo24, hh⟩ := (rdC.at 1 row_rd HS rfl).some (by decide) c22.1 c22.2; subst hh
   refine W.r (X.indexSl Tryz.underlying48 inf3 rfl rfl c22.1 c22.2) rfl (W.r (X.load Tryz.underlying3 rfl rfl ((rdC.at 1 row_rd HS rfl).cellI c22.1 c22.2)) rfl (W.as rfl (W.nx (V.region (W.mv rfl (W.mv rfl ?_))))))
   obtain ⟨t25, A26, H⟩ := bind_s H
   refine W.e (Y.cl Tryz.func182 (arq_Arq_repeat.calls A26 HS.j1)) rfl ?_
   rintro _ w ⟨rfl, HS⟩
   replace HS := HS.o1
   refine W.nil (At.blockEnd (At.next (V.region (W.r (X.add rfl rfl) rfl (W.mv rfl (W.nil ?_))))))
   exact At.round kq19 (by omega) (w64 (x17 + 1), t25) ⟨rfl, rfl, rfl, rfl, rfl, trivial⟩ ⟨HS, H, by omega⟩
  ·replace H := ite_f c21 H
   refine V.condF (sb (decide_eq_false c21)) (V.exit (At.thenExit (At.thenExit (At.blockExit (At.next (V.seq (V.region (W.mv rfl (W.r (X.lenSl Tryz.underlying48 rfl) rfl (W.r (X.cmp (decide ((t5.length : Int) > 0)) rfl rfl rfl rfl) rfl (W.nx ?_)))))))))))
   by_cases c27 : (t5.length : Int) > 0
   ·replace H := ite_t c27 H
    refine V.condT (sb (decide_eq_true c27)) (V.region (W.mv rfl ?_))
    obtain ⟨t28, A29, H⟩ := bind_s H
    refine W.e (Y.cl Tryz.func154 (arq_Arq_start.calls A29 HS.j1)) rfl ?_
    rintro _ w ⟨rfl, HS⟩
    replace HS := HS.o1
    refine W.nil ?_
    replace HS := HS.pk [0, 2] [1]
    cases H
    exact At.end0 rfl ⟨_, rfl, rfl, HS⟩
   ·replace H := ite_f c27 H
    refine V.condF (sb (decide_eq_false c27)) (V.skip ?_)
    replace HS := HS.pk [0, 2] [1]
    cases H
    exact At.end0 rfl ⟨_, rfl, rfl, HS⟩
def arq_Arq_Again.f (k : Nat) (a0 : arq_Arq) : Option arq_Arq := (if a0.state = 2 then ((arq_Arq_resend.f k a0).bind fun t4 => some t4) else some a0)
theorem arq_Arq_Again.calls {k : Nat} {a0 : arq_Arq} {R : As} {w0 w : World} {b0 : Nat} {r : arq_Arq} (H : arq_Arq_Again.f k a0 = some r) (HS : Sep.St [arq_Arq.at b0 a0, R] w0 w)  : Calls Tryz.prog 54 #[Value.pointer (some ⟨b0, 0, none⟩)] w (Ret fun u w => u = Value.tuple #[] ∧ Sep.St [arq_Arq.at b0 r, R] w0 w) := by
 unfold arq_Arq_Again.f at H
 refine calls_enter Tryz.func54 rfl rfl ?_
 have H : _ = some r := H
 refine V.seq (V.region (W.mv rfl (W.nc rfl ?_)))
 obtain ⟨b8_1, b9_1, b10_1, a11_1, c11_1, d11_1, a12_1, c12_1, hi2, HS⟩ := arq_Arq.open HS
 refine W.fa fo136_4 rfl (W.ld 0 HS Tryz.underlying3 rfl rfl rfl rfl (W.r (X.cmp (decide (a0.state = 2)) rfl rfl rfl rfl) rfl (W.nx ?_)))
 by_cases c3 : a0.state = 2
 ·replace H := ite_t c3 H
  refine V.condT (sb (decide_eq_true c3)) (V.region (W.mv rfl ?_))
  replace HS := arq_Arq.close trivial HS
  obtain ⟨t4, A5, H⟩ := bind_s H
  refine W.e (Y.cl Tryz.func123 (arq_Arq_resend.calls A5 HS.j1)) rfl ?_
  rintro _ w ⟨rfl, HS⟩
  replace HS := HS.o1
  refine W.nil ?_
  cases H
  exact At.end0 rfl ⟨_, rfl, rfl, HS⟩
 ·replace H := ite_f c3 H
  refine V.condF (sb (decide_eq_false c3)) (V.skip ?_)
  replace HS := arq_Arq.close trivial HS
  cases H
  exact At.end0 rfl ⟨_, rfl, rfl, HS⟩
def clock_Set_Left.f (a0 : clock_Set) (a1 : Int) : Option (Int × Bool) := ((clock_has.f a1).bind fun t1 => (if t1 = true then (if 0 ≤ a1 ∧ a1 < 32 then some (a0.left.getD a1.toNat 0, decide ((a0.left.getD a1.toNat 0) > 0)) else none) else some (0, false)))
theorem clock_Set_Left.calls {a0 : clock_Set} {a1 : Int} {R : As} {w0 w : World} {b0 : Nat} {r : Int × Bool} (H : clock_Set_Left.f a0 a1 = some r) (HS : Sep.St [blk b0 (([Value.int .u32 a0.now] ++ a0.left.map (Value.int .i64)).toArray) 200, R] w0 w) (hv0 : a0.left.length = 32) : Calls Tryz.prog 124 #[Value.pointer (some ⟨b0, 0, none⟩), Value.int .i64 a1] w (Ret fun u w => u = Value.tuple #[Value.int .i64 r.1, Value.bool r.2] ∧ Sep.St [blk b0 (([Value.int .u32 a0.now] ++ a0.left.map (Value.int .i64)).toArray) 200, R] w0 w) := by
 unfold clock_Set_Left.f at H
 refine calls_enter Tryz.func124 rfl rfl ?_
 have H : _ = some r := H
 refine V.seq (V.region (W.as rfl (W.as rfl (W.nx (V.seq (V.seq (V.region (W.mv rfl ?_))))))))
 obtain ⟨t1, A2, H⟩ := bind_s H
 refine W.e (Y.cl Tryz.func183 (clock_has.calls A2 HS.j0)) rfl ?_
 rintro _ w ⟨rfl, HS⟩
 replace HS := HS.o0
 refine W.r (X.not rfl) rfl (W.nx ?_)
 by_cases c3 : t1 = true
 ·replace H := ite_t c3 H
  refine V.condF (sb (n_t c3)) (V.skip (At.next (V.seq ?_)))
  obtain ⟨c4, H⟩ := ite_n H
  refine V.dr [] [] [(9, Value.pointer (some ⟨b0, 0, none⟩)), (10, Value.int .i64 a1), (11, Value.pointer (some ⟨b0, 0, none⟩)), (12, Value.pointer (some ⟨b0, 0 + 1, none⟩)), (13, Value.pointer (some ⟨b0, 0 + 1 + a1.toNat * 1, none⟩)), (14, Value.int .i64 (a0.left.getD a1.toNat 0)), (15, Value.pointer (some ⟨b0, 0, none⟩)), (16, Value.int .i64 a1), (17, Value.pointer (some ⟨b0, 0, none⟩)), (18, Value.pointer (some ⟨b0, 0 + 1, none⟩)), (19, Value.pointer (some ⟨b0, 0 + 1 + a1.toNat * 1, none⟩)), (20, Value.int .i64 (a0.left.getD a1.toNat 0)), (21, Value.bool (decide ((a0.left.getD a1.toNat 0) > 0))), (4, Value.int .i64 (a0.left.getD a1.toNat 0)), (5, Value.bool (decide ((a0.left.getD a1.toNat 0) > 0)))] mo HS ?_
  refine T.fn [(4, _), (5, _)] ⟨rfl, rfl, trivial⟩ ⟨.mv 0, .mv 1, .nc 9, .fa 11 fo200_1, .n2 10 12 rfl rfl rfl (fun w HS => X.indexAr Tryz.underlying198 inf3 rfl rfl c4.1 c4.2), .n1 13 rfl rfl (fun w HS => X.load Tryz.underlying3 rfl rfl (cellArr 0 HS rfl rfl c4.1 c4.2 (by first | exact hv0 | (simp only [List.length_set]; exact hv0)))), .mv 0, .mv 1, .nc 15, .fa 17 fo200_1, .n2 16 18 rfl rfl rfl (fun w HS => X.indexAr Tryz.underlying198 inf3 rfl rfl c4.1 c4.2), .n1 19 rfl rfl (fun w HS => X.load Tryz.underlying3 rfl rfl (cellArr 0 HS rfl rfl c4.1 c4.2 (by first | exact hv0 | (simp only [List.length_set]; exact hv0)))), .n1 20 rfl rfl (fun w HS => X.cmp (decide ((a0.left.getD a1.toNat 0) > 0)) rfl rfl rfl rfl), .as 14, .as 21, trivial⟩ (fun w HS => ?_)
  refine At.next (V.ret ?_)
  cases H
  exact At.ret2 rfl rfl rfl ⟨_, rfl, rfl, HS⟩
 ·replace H := ite_f c3 H
  refine V.condT (sb (n_f (b_f c3))) (V.seq (V.region (W.as rfl (W.as rfl (W.nx (V.ret (At.thenRet ?_)))))))
  cases H
  exact At.ret2 rfl rfl rfl ⟨_, rfl, rfl, HS⟩
mutual
def clock_Set_soonest.l0 : Nat → clock_Set → Int → Bool → Int → Option (Int × Bool)
 | 0, _, _, _, _ => none
 | k + 1, a0, x2, x3, x4 => (if x4 < 32 then (if 0 ≤ x4 ∧ x4 < 32 then (if (a0.left.getD x4.toNat 0) > 0 then (clock_Set_soonest.j1 a0 x2 x3 x4 (clock_Set_soonest.l0 k a0) (decide ((a0.left.getD x4.toNat 0) ≤ x2))) else (clock_Set_soonest.j1 a0 x2 x3 x4 (clock_Set_soonest.l0 k a0) false)) else none) else some (x2, x3))
def clock_Set_soonest.j1 (a0 : clock_Set) (x2 : Int) (x3 : Bool) (x4 : Int) (Lq11 : Int → Bool → Int → Option (Int × Bool)) (x9 : Bool) : Option (Int × Bool) := (if x9 = true then (Lq11 (a0.left.getD x4.toNat 0) true (w64 (x4 + 1))) else (Lq11 x2 x3 (w64 (x4 + 1))))
end
def clock_Set_soonest.f (k : Nat) (a0 : clock_Set) (a1 : Int) : Option (Int × Bool) := (clock_Set_soonest.l0 k a0 a1 false 0)
theorem clock_Set_soonest.calls {k : Nat} {a0 : clock_Set} {a1 : Int} {R : As} {w0 w : World} {b0 : Nat} {r : Int × Bool} (H : clock_Set_soonest.f k a0 a1 = some r) (HS : Sep.St [blk b0 (([Value.int .u32 a0.now] ++ a0.left.map (Value.int .i64)).toArray) 200, R] w0 w) (hv0 : a0.left.length = 32) : Calls Tryz.prog 184 #[Value.pointer (some ⟨b0, 0, none⟩), Value.int .i64 a1] w (Ret fun u w => u = Value.tuple #[Value.int .i64 r.1, Value.bool r.2] ∧ Sep.St [blk b0 (([Value.int .u32 a0.now] ++ a0.left.map (Value.int .i64)).toArray) 200, R] w0 w) := by
 unfold clock_Set_soonest.f at H
 refine calls_enter Tryz.func184 rfl rfl ?_
 have H : _ = some r := H
 refine V.seq (V.region (W.as rfl (W.as rfl (W.nx (V.seq (V.region (W.as rfl (W.nx (V.seq (V.seq (V.region (W.mv rfl (W.nc rfl (W.fa fo200_1 rfl (W.r (X.loadArr 0 HS rfl rfl Tryz.underlying198 rfl inf198 (by first | exact hv0 | (simp only [List.length_set]; exact hv0)) rfl) rfl (W.mv rfl (W.nx (V.block (V.loop (σ := Int × Bool × Int) (fun kq (st : Int × Bool × Int) w => match st with | (x2, x3, x4) => Sep.St [blk b0 (([Value.int .u32 a0.now] ++ a0.left.map (Value.int .i64)).toArray) 200, R] w0 w ∧ clock_Set_soonest.l0 kq a0 x2 x3 x4 = some r ∧ kq ≤ k) (fun st => match st with | (x2, x3, x4) => [(1, Value.int .i64 x2), (6, Value.bool x3), (12, Value.agg (a0.left.map (Value.int .i64)).toArray), (13, Value.int .i64 x4)]) k (a1, false, 0) ⟨rfl, rfl, rfl, rfl, trivial⟩ ⟨HS, H, Nat.le_refl _⟩ ?_)))))))))))))))))))
 rintro kq5 ⟨x2, x3, x4⟩ w ⟨HS, H, hk6⟩
 cases kq5 with
 | zero => exact absurd H (by simp [clock_Set_soonest.l0])
 | succ kq5 =>
  simp only [clock_Set_soonest.l0] at H
  refine V.seq (V.region (W.r (X.cmp (decide (x4 < 32)) rfl rfl rfl rfl) rfl (W.nx (V.seq ?_))))
  by_cases c7 : x4 < 32
  ·replace H := ite_t c7 H
   refine V.condT (sb (decide_eq_true c7)) (V.skip (At.next (V.seq (V.block (V.seq (V.region ?_))))))
   obtain ⟨c8, H⟩ := ite_n H
   refine W.r (X.indexArr Tryz.underlying198 Tryz.underlying3 rfl inf3 rfl rfl c8.1 c8.2 (by first | exact hv0 | (simp only [List.length_set]; exact hv0))) rfl (W.as rfl (W.nx (V.meet (σ := Bool) (fun st w => match st with | x9 => Sep.St [blk b0 (([Value.int .u32 a0.now] ++ a0.left.map (Value.int .i64)).toArray) 200, R] w0 w ∧ ∃ kl12, kl12 ≤ kq5 ∧ clock_Set_soonest.j1 a0 x2 x3 x4 (clock_Set_soonest.l0 kl12 a0) x9 = some r) (fun st => match st with | x9 => [(1, Value.int .i64 x2), (6, Value.bool x3), (8, Value.int .i64 (a0.left.getD x4.toNat 0)), (12, Value.agg (a0.left.map (Value.int .i64)).toArray), (13, Value.int .i64 x4), (22, Value.bool x9)]) ?_ ?_)))
   ·refine V.region (W.mv rfl (W.r (X.cmp (decide ((a0.left.getD x4.toNat 0) > 0)) rfl rfl rfl rfl) rfl (W.mv rfl ?_)))
    by_cases c14 : (a0.left.getD x4.toNat 0) > 0
    ·replace H := ite_t c14 H
     refine W.want 18 rfl (sb (decide_eq_true c14)) (W.mv rfl (W.want 18 rfl (sb (decide_eq_true c14)) (W.mv rfl (W.want 18 rfl (sb (decide_eq_true c14)) (W.r (X.cmp (decide ((a0.left.getD x4.toNat 0) ≤ x2)) rfl rfl rfl rfl) rfl (W.r (X.pickT (sb (decide_eq_true c14)) rfl) rfl (W.nil ?_)))))))
     exact At.meet (decide ((a0.left.getD x4.toNat 0) ≤ x2)) ⟨rfl, rfl, rfl, rfl, rfl, rfl, trivial⟩ ⟨HS, kq5, by omega, H⟩
    ·replace H := ite_f c14 H
     refine W.pass 18 rfl (sb (decide_eq_false c14)) rfl rfl (W.pass 18 rfl (sb (decide_eq_false c14)) rfl rfl (W.pass 18 rfl (sb (decide_eq_false c14)) rfl rfl (W.r (X.pickF (sb (decide_eq_false c14)) rfl) rfl (W.nil ?_))))
     exact At.meet false ⟨rfl, rfl, rfl, rfl, rfl, rfl, trivial⟩ ⟨HS, kq5, by omega, H⟩
   ·rintro x9 w ⟨HS, kl12, hkkl12, H⟩
    unfold clock_Set_soonest.j1 at H
    by_cases c13 : x9 = true
    ·replace H := ite_t c13 H
     refine V.condT (sb c13) (V.region (W.mv rfl (W.as rfl (W.as rfl (W.nil (At.blockEnd (At.next (V.region (W.r (X.add rfl rfl) rfl (W.mv rfl (W.nil ?_)))))))))))
     exact At.round kl12 (by omega) (a0.left.getD x4.toNat 0, true, w64 (x4 + 1)) ⟨rfl, rfl, rfl, rfl, trivial⟩ ⟨HS, H, by omega⟩
    ·replace H := ite_f c13 H
     refine V.condF (sb (b_f c13)) (V.skip (At.blockEnd (At.next (V.region (W.r (X.add rfl rfl) rfl (W.mv rfl (W.nil ?_)))))))
     exact At.round kl12 (by omega) (x2, x3, w64 (x4 + 1)) ⟨rfl, rfl, rfl, rfl, trivial⟩ ⟨HS, H, by omega⟩
  ·replace H := ite_f c7 H
   refine V.condF (sb (decide_eq_false c7)) (V.exit (At.thenExit (At.thenExit (At.blockExit (At.next (V.seq (V.region (W.mv rfl (W.mv rfl (W.as rfl (W.as rfl (W.nx (V.ret ?_)))))))))))))
   cases H
   exact At.ret2 rfl rfl rfl ⟨_, rfl, rfl, HS⟩
mutual
def clock_Set_pass.l0 : Nat → clock_Set → Int → Int → clock_Set → (List Int) → Option (List Int × clock_Set)
 | 0, _, _, _, _, _ => none
 | k + 1, a0, a1, x5, x6, x9 => (if x5 < 32 then (if 0 ≤ x5 ∧ x5 < 32 then (if (a0.left.getD x5.toNat 0) = 0 then (clock_Set_pass.l0 k a0 a1 (w64 (x5 + 1)) x6 x9) else (if (a0.left.getD x5.toNat 0) = a1 then (if (x9.length : Int) + ([x5] : List Int).length ≤ 1099511627776 then (clock_Set_pass.l0 k a0 a1 (w64 (x5 + 1)) ({ now := x6.now, left := x6.left.set x5.toNat (w64 ((a0.left.getD x5.toNat 0) - a1)) } : clock_Set) (x9 ++ ([x5] : List Int))) else none) else (clock_Set_pass.l0 k a0 a1 (w64 (x5 + 1)) ({ now := x6.now, left := x6.left.set x5.toNat (w64 ((a0.left.getD x5.toNat 0) - a1)) } : clock_Set) x9))) else none) else some (x9, x6))
end
def clock_Set_pass.f (k : Nat) (a0 : clock_Set) (a1 : Int) : Option (List Int × clock_Set) := (clock_Set_pass.l0 k a0 a1 0 a0 ([] : List Int))
theorem clock_Set_pass.calls {k : Nat} {a0 : clock_Set} {a1 : Int} {R : As} {w0 w : World} {b0 : Nat} {r : List Int × clock_Set} (H : clock_Set_pass.f k a0 a1 = some r) (HS : Sep.St [clock_Set.at b0 a0, R] w0 w)  : Calls Tryz.prog 185 #[Value.pointer (some ⟨b0, 0, none⟩), Value.int .i64 a1] w (Ret fun u w => ∃ (aq0 : Option Addr) (cq0 : Nat), u = Value.slice aq0 r.1.length cq0 ∧ Sep.St [row 3 1 (.slice aq0 r.1.length cq0) r.1.length (r.1.map (Value.int .i64)), clock_Set.at b0 r.2, R] w0 w) := by
 unfold clock_Set_pass.f at H
 refine calls_enter Tryz.func185 rfl rfl ?_
 have H : _ = some r := H
 refine V.seq (V.region (W.as rfl (W.nx (V.seq (V.region (W.as rfl (W.nx (V.seq (V.seq (V.region (W.mv rfl (W.nc rfl ?_))))))))))))
 obtain ⟨hi2, HS⟩ := clock_Set.open HS
 refine W.fa fo200_1 rfl (W.r (X.loadArr 0 HS rfl rfl Tryz.underlying198 rfl inf198 (by first | exact hi2 | (simp only [List.length_set]; exact hi2)) rfl) rfl (W.mv rfl (W.nx (V.block ?_))))
 replace HS := row_nilF (Value.int .i64) 3 1 HS
 replace HS := HS.pm [1, 0, 2]
 replace HS := clock_Set.close (by first | exact hi2 | (simp only [List.length_set]; exact hi2)) HS
 refine V.loop (σ := Int × clock_Set × Option Addr × Nat × List Int) (fun kq (st : Int × clock_Set × Option Addr × Nat × List Int) w => match st with | (x5, x6, ra7, rc8, x9) => Sep.St [clock_Set.at b0 x6, row 3 1 (.slice ra7 x9.length rc8) x9.length (x9.map (Value.int .i64)), R] w0 w ∧ clock_Set_pass.l0 kq a0 a1 x5 x6 x9 = some r ∧ kq ≤ k) (fun st => match st with | (x5, x6, ra7, rc8, x9) => [(0, Value.pointer (some ⟨b0, 0, none⟩)), (1, Value.int .i64 a1), (5, Value.slice ra7 x9.length rc8), (11, Value.agg (a0.left.map (Value.int .i64)).toArray), (12, Value.int .i64 x5)]) k (0, a0, none, 0, ([] : List Int)) ⟨rfl, rfl, rfl, rfl, rfl, trivial⟩ ⟨HS, H, Nat.le_refl _⟩ ?_
 rintro kq10 ⟨x5, x6, ra7, rc8, x9⟩ w ⟨HS, H, hk11⟩
 cases kq10 with
 | zero => exact absurd H (by simp [clock_Set_pass.l0])
 | succ kq10 =>
  simp only [clock_Set_pass.l0] at H
  refine V.seq (V.region (W.r (X.cmp (decide (x5 < 32)) rfl rfl rfl rfl) rfl (W.nx (V.seq ?_))))
  by_cases c12 : x5 < 32
  ·replace H := ite_t c12 H
   refine V.condT (sb (decide_eq_true c12)) (V.skip (At.next (V.seq (V.block (V.seq (V.region (W.mv rfl ?_)))))))
   obtain ⟨c13, H⟩ := ite_n H
   refine W.r (X.indexArr Tryz.underlying198 Tryz.underlying3 rfl inf3 rfl rfl c13.1 c13.2 (by first | exact hi2 | (simp only [List.length_set]; exact hi2))) rfl (W.as rfl (W.as rfl (W.nx (V.seq (V.seq (V.region (W.mv rfl (W.r (X.cmp (decide ((a0.left.getD x5.toNat 0) = 0)) rfl rfl rfl rfl) rfl (W.nx ?_)))))))))
   by_cases c14 : (a0.left.getD x5.toNat 0) = 0
   ·replace H := ite_t c14 H
    refine V.condT (sb (decide_eq_true c14)) (V.exit (At.thenExit (At.blockExit (At.next (V.region (W.r (X.add rfl rfl) rfl (W.mv rfl (W.nil ?_))))))))
    exact At.round kq10 (by omega) (w64 (x5 + 1), x6, ra7, rc8, x9) ⟨rfl, rfl, rfl, rfl, rfl, trivial⟩ ⟨HS, H, by omega⟩
   ·replace H := ite_f c14 H
    refine V.condF (sb (decide_eq_false c14)) (V.skip (At.next (V.seq (V.region (W.mv rfl (W.mv rfl (W.mv rfl (W.mv rfl (W.r (X.sub rfl rfl) rfl (W.nc rfl ?_))))))))))
    obtain ⟨hi16, HS⟩ := clock_Set.open HS
    refine W.fa fo200_1 rfl (W.r (X.indexAr Tryz.underlying198 inf3 rfl rfl c13.1 c13.2) rfl (W.en (Y.storeArr 0 HS rfl rfl inf3 rfl rfl c13.1 c13.2 (by first | exact hi16 | (simp only [List.length_set]; exact hi16))) rfl ?_))
    rintro _ w HS
    refine W.nx (V.seq (V.region (W.mv rfl (W.mv rfl (W.r (X.cmp (decide ((a0.left.getD x5.toNat 0) = a1)) rfl rfl rfl rfl) rfl (W.nx ?_))))))
    by_cases c17 : (a0.left.getD x5.toNat 0) = a1
    ·replace H := ite_t c17 H
     refine V.condT (sb (decide_eq_true c17)) (V.region (W.mv rfl (W.mv rfl (W.e (Y.ls (e := 3) (Value.int .i64) ([x5] : List Int) HS rfl rfl (fun _ => by kernel_rfl)) rfl ?_))))
     rintro _ w ⟨lb20, rfl, HS⟩
     obtain ⟨c21, H⟩ := ite_n H
     refine W.e (Y.appF (Value.int .i64) (fun _ => rfl) 2 Tryz.underlying48 ap3 rfl HS rfl rfl rfl (rdC.at 0 row_rd HS rfl) (by omega) (by omega)) rfl ?_
     rintro _ w ⟨ra22, rc23, rfl, HS⟩
     refine W.as rfl (W.nil (At.blockEnd (At.next (V.region (W.r (X.add rfl rfl) rfl (W.mv rfl (W.nil ?_)))))))
     replace HS := HS.pm [1, 0, 2, 3]
     replace HS := clock_Set.close (by first | exact hi16 | (simp only [List.length_set]; exact hi16)) HS
     replace HS := HS.pk [0, 2, 3] [1]
     exact At.round kq10 (by omega) (w64 (x5 + 1), ({ now := x6.now, left := x6.left.set x5.toNat (w64 ((a0.left.getD x5.toNat 0) - a1)) } : clock_Set), ra22, rc23, x9 ++ ([x5] : List Int)) ⟨rfl, rfl, rfl, rfl, rfl, trivial⟩ ⟨HS, H, by omega⟩
    ·replace H := ite_f c17 H
     refine V.condF (sb (decide_eq_false c17)) (V.skip (At.blockEnd (At.next (V.region (W.r (X.add rfl rfl) rfl (W.mv rfl (W.nil ?_)))))))
     replace HS := clock_Set.close (by first | exact hi16 | (simp only [List.length_set]; exact hi16)) HS
     exact At.round kq10 (by omega) (w64 (x5 + 1), ({ now := x6.now, left := x6.left.set x5.toNat (w64 ((a0.left.getD x5.toNat 0) - a1)) } : clock_Set), ra7, rc8, x9) ⟨rfl, rfl, rfl, rfl, rfl, trivial⟩ ⟨HS, H, by omega⟩
  ·replace H := ite_f c12 H
   refine V.condF (sb (decide_eq_false c12)) (V.exit (At.thenExit (At.thenExit (At.blockExit (At.next (V.seq (V.region (W.mv rfl (W.as rfl (W.nx (V.ret ?_)))))))))))
   replace HS := HS.pk [1, 0, 2] []
   cases H
   exact At.ret1 rfl rfl ⟨_, rfl, ra7, rc8, rfl, HS⟩
mutual
def clock_Set_Pass.l0 : Nat → Int → Int → Bool → clock_Set → (List Int) → Option (List Int × clock_Set)
 | 0, _, _, _, _, _ => none
 | k + 1, x7, x8, x9, x10, x13 => (if x9 = true then ((clock_Set_pass.f k x10 x8).bind fun t17 => (if (x13.length : Int) + t17.1.length ≤ 1099511627776 then ((clock_Set_soonest.f k t17.2 (w64 (x7 - x8))).bind fun t24 => (clock_Set_Pass.l0 k (w64 (x7 - x8)) t24.1 t24.2 t17.2 (x13 ++ t17.1))) else none)) else ((clock_Set_pass.f k x10 x7).bind fun t26 => some (x13, t26.2)))
end
def clock_Set_Pass.f (k : Nat) (a0 : clock_Set) (a1 : Int) : Option (List Int × clock_Set) := ((clock_Set_soonest.f k ({ now := IntKind.u32.wrap (a0.now + (IntKind.u32.wrap (imax (0) (imin a1 (1073741824))))), left := a0.left } : clock_Set) (imax (0) (imin a1 (1073741824)))).bind fun t4 => (clock_Set_Pass.l0 k (imax (0) (imin a1 (1073741824))) t4.1 t4.2 ({ now := IntKind.u32.wrap (a0.now + (IntKind.u32.wrap (imax (0) (imin a1 (1073741824))))), left := a0.left } : clock_Set) ([] : List Int)))
theorem clock_Set_Pass.calls {k : Nat} {a0 : clock_Set} {a1 : Int} {R : As} {w0 w : World} {b0 : Nat} {r : List Int × clock_Set} (H : clock_Set_Pass.f k a0 a1 = some r) (HS : Sep.St [clock_Set.at b0 a0, R] w0 w)  : Calls Tryz.prog 125 #[Value.pointer (some ⟨b0, 0, none⟩), Value.int .i64 a1] w (Ret fun u w => ∃ (aq0 : Option Addr) (cq0 : Nat), u = Value.slice aq0 r.1.length cq0 ∧ Sep.St [row 3 1 (.slice aq0 r.1.length cq0) r.1.length (r.1.map (Value.int .i64)), clock_Set.at b0 r.2, R] w0 w) := by
 unfold clock_Set_Pass.f at H
 refine calls_enter Tryz.func125 rfl rfl ?_
 have H : _ = some r := H
 refine V.seq (V.region (W.as rfl (W.nx (V.seq (V.region (W.mv rfl (W.r (X.min2 rfl rfl) rfl (W.r (X.max2 rfl rfl) rfl (W.as rfl (W.nx (V.seq (V.region (W.mv rfl (W.nc rfl ?_))))))))))))))
 obtain ⟨hi2, HS⟩ := clock_Set.open HS
 refine W.fa fo200_0 rfl (W.ld 0 HS Tryz.underlying79 rfl rfl rfl rfl (W.mv rfl (W.r (X.conv Tryz.underlying3 Tryz.underlying79 rfl) rfl (W.r (X.add rfl rfl) rfl (W.nc rfl (W.fa fo200_0 rfl (W.st 0 0 HS inf79 rfl rfl rfl rfl rfl rfl fun w HS => ?_)))))))
 refine W.nx (V.seq (V.region (W.as rfl (W.nx (V.seq (V.seq (V.region (W.mv rfl (W.mv rfl ?_)))))))))
 obtain ⟨t4, A5, H⟩ := bind_s H
 refine W.e (Y.cl Tryz.func184 (clock_Set_soonest.calls A5 HS.j1 (by first | exact hi2 | (simp only [List.length_set]; exact hi2)))) rfl ?_
 rintro _ w ⟨rfl, HS⟩
 replace HS := HS.o1
 refine W.mv rfl (W.r (X.extract rfl rfl) rfl (W.r (X.extract rfl rfl) rfl (W.as rfl (W.as rfl (W.nx (V.block ?_))))))
 replace HS := row_nilF (Value.int .i64) 3 1 HS
 replace HS := HS.pm [1, 0, 2]
 replace HS := clock_Set.close (by first | exact hi2 | (simp only [List.length_set]; exact hi2)) HS
 refine V.loop (σ := Int × Int × Bool × clock_Set × Option Addr × Nat × List Int) (fun kq (st : Int × Int × Bool × clock_Set × Option Addr × Nat × List Int) w => match st with | (x7, x8, x9, x10, ra11, rc12, x13) => Sep.St [clock_Set.at b0 x10, row 3 1 (.slice ra11 x13.length rc12) x13.length (x13.map (Value.int .i64)), R] w0 w ∧ clock_Set_Pass.l0 kq x7 x8 x9 x10 x13 = some r ∧ kq ≤ k) (fun st => match st with | (x7, x8, x9, x10, ra11, rc12, x13) => [(0, Value.pointer (some ⟨b0, 0, none⟩)), (1, Value.int .i64 x7), (5, Value.slice ra11 x13.length rc12), (6, Value.int .i64 x8), (7, Value.bool x9)]) k (imax (0) (imin a1 (1073741824)), t4.1, t4.2, ({ now := IntKind.u32.wrap (a0.now + (IntKind.u32.wrap (imax (0) (imin a1 (1073741824))))), left := a0.left } : clock_Set), none, 0, ([] : List Int)) ⟨rfl, rfl, rfl, rfl, rfl, trivial⟩ ⟨HS, H, Nat.le_refl _⟩ ?_
 rintro kq14 ⟨x7, x8, x9, x10, ra11, rc12, x13⟩ w ⟨HS, H, hk15⟩
 cases kq14 with
 | zero => exact absurd H (by simp [clock_Set_Pass.l0])
 | succ kq14 =>
  simp only [clock_Set_Pass.l0] at H
  refine V.seq (V.seq (V.region (W.mv rfl (W.nx ?_))))
  by_cases c16 : x9 = true
  ·replace H := ite_t c16 H
   refine V.condT (sb c16) (V.skip (At.next (V.seq (V.block (V.seq (V.region (W.mv rfl (W.mv rfl (W.mv rfl ?_)))))))))
   obtain ⟨t17, A18, H⟩ := bind_s H
   refine W.e (Y.cl Tryz.func185 (clock_Set_pass.calls A18 HS.j1)) rfl ?_
   rintro _ w ⟨at17_0, ct17_0, rfl, HS⟩
   replace HS := HS.o2
   obtain ⟨c19, H⟩ := ite_n H
   refine W.e (Y.appF (Value.int .i64) (fun _ => rfl) 2 Tryz.underlying48 ap3 rfl HS rfl rfl rfl (rdC.at 0 row_rd HS rfl) (by omega) (by omega)) rfl ?_
   rintro _ w ⟨ra20, rc21, rfl, HS⟩
   refine W.as rfl (W.nx (V.region (W.mv rfl (W.mv rfl (W.r (X.sub rfl rfl) rfl (W.as rfl (W.nil (At.blockEnd (At.next (V.region (W.mv rfl (W.mv rfl ?_))))))))))))
   replace HS := HS.fr 1
   obtain ⟨hi23, HS⟩ := clock_Set.open HS
   obtain ⟨t24, A25, H⟩ := bind_s H
   refine W.e (Y.cl Tryz.func184 (clock_Set_soonest.calls A25 HS.j1 (by first | exact hi23 | (simp only [List.length_set]; exact hi23)))) rfl ?_
   rintro _ w ⟨rfl, HS⟩
   replace HS := HS.o1
   refine W.mv rfl (W.r (X.extract rfl rfl) rfl (W.r (X.extract rfl rfl) rfl (W.as rfl (W.as rfl (W.nil ?_)))))
   replace HS := clock_Set.close (by first | exact hi23 | (simp only [List.length_set]; exact hi23)) HS
   replace HS := HS.pk [0, 2, 3] [1]
   exact At.round kq14 (by omega) (w64 (x7 - x8), t24.1, t24.2, t17.2, ra20, rc21, x13 ++ t17.1) ⟨rfl, rfl, rfl, rfl, rfl, trivial⟩ ⟨HS, H, by omega⟩
  ·replace H := ite_f c16 H
   refine V.condF (sb (b_f c16)) (V.exit (At.thenExit (At.thenExit (At.blockExit (At.next (V.seq (V.region (W.mv rfl (W.mv rfl ?_)))))))))
   obtain ⟨t26, A27, H⟩ := bind_s H
   refine W.e (Y.cl Tryz.func185 (clock_Set_pass.calls A27 HS.j1)) rfl ?_
   rintro _ w ⟨at26_0, ct26_0, rfl, HS⟩
   replace HS := HS.o2
   refine W.nx (V.seq (V.region (W.mv rfl (W.as rfl (W.nx (V.ret ?_))))))
   replace HS := HS.pk [2, 1, 3] [0]
   cases H
   exact At.ret1 rfl rfl ⟨_, rfl, ra11, rc12, rfl, HS⟩
def backlog_Log_Clear.f (a0 : backlog_Log) : Option (Int × backlog_Log) := some ((a0.l.length : Int), ({ a0 with first := 0, out := 0, l := ([] : List (List Int)) } : backlog_Log))
theorem backlog_Log_Clear.calls {a0 : backlog_Log} {R : As} {w0 w : World} {b0 : Nat} {r : Int × backlog_Log} (H : backlog_Log_Clear.f a0 = some r) (HS : Sep.St [backlog_Log.at b0 a0, R] w0 w)  : Calls Tryz.prog 209 #[Value.pointer (some ⟨b0, 0, none⟩)] w (Ret fun u w => u = Value.int .i64 r.1 ∧ Sep.St [backlog_Log.at b0 r.2, R] w0 w) := by
 unfold backlog_Log_Clear.f at H
 refine calls_enter Tryz.func209 rfl rfl ?_
 have H : _ = some r := H
 refine V.seq (V.region (W.as rfl (W.nx (V.seq (V.region (W.mv rfl (W.nc rfl ?_)))))))
 obtain ⟨a5_1, c5_1, d5_1, hi2, HS⟩ := backlog_Log.open HS
 refine W.fa fo194_5 rfl (W.ld 0 HS Tryz.underlying37 rfl rfl rfl rfl (W.r (X.lenSl Tryz.underlying37 rfl) rfl (W.as rfl (W.nx (V.seq (V.region (W.mv rfl (W.mv rfl (W.mv rfl (W.nc rfl (W.fa fo194_5 rfl (W.st 0 5 HS inf37 rfl rfl rfl rfl rfl rfl fun w HS => ?_))))))))))))
 refine W.nc rfl (W.fa fo194_4 rfl (W.st 0 4 HS inf3 rfl rfl rfl rfl rfl rfl fun w HS => ?_))
 refine W.nc rfl (W.fa fo194_3 rfl (W.st 0 3 HS inf3 rfl rfl rfl rfl rfl rfl fun w HS => ?_))
 refine W.nx (V.seq (V.region (W.mv rfl (W.as rfl (W.nx (V.ret ?_))))))
 replace HS := row_nilE (El.sl (El.int .u8)) 32 1 HS
 replace HS := HS.pm [2, 0, 1, 3, 4, 5]
 replace HS := backlog_Log.close (l5 := ([] : List (List Int))) trivial HS
 replace HS := HS.pk [0, 3] [1, 2]
 cases H
 exact At.ret1 rfl rfl ⟨_, rfl, rfl, HS⟩
def reorder_Order_Clear.f (a0 : reorder_Order) : Option reorder_Order := some (({ a0 with next := 0, kept := ([] : List (Int × (List Int))) } : reorder_Order))
theorem reorder_Order_Clear.calls {a0 : reorder_Order} {R : As} {w0 w : World} {b0 : Nat} {r : reorder_Order} (H : reorder_Order_Clear.f a0 = some r) (HS : Sep.St [reorder_Order.at b0 a0, R] w0 w)  : Calls Tryz.prog 210 #[Value.pointer (some ⟨b0, 0, none⟩)] w (Ret fun u w => u = Value.tuple #[] ∧ Sep.St [reorder_Order.at b0 r, R] w0 w) := by
 unfold reorder_Order_Clear.f at H
 refine calls_enter Tryz.func210 rfl rfl ?_
 have H : _ = some r := H
 refine V.seq (V.region (W.mv rfl (W.nc rfl ?_)))
 obtain ⟨b3_1, k3_1, a4_1, c4_1, d4_1, hi2, HS⟩ := reorder_Order.open HS
 refine W.fa fo197_3 rfl (W.ld 0 HS Tryz.underlying195 rfl rfl rfl rfl ?_)
 replace HS := HS.fr 2
 replace HS := HS.mono (B := tieM (El.sl (El.int .u8)) [] ([] : List (Int × (List Int)))) fun _ _ => trivial
 refine W.en (Y.clearMap 2 Tryz.underlying195 HS rfl rfl) rfl ?_
 rintro _ w HS
 refine W.nx (V.region (W.mv rfl (W.nc rfl (W.fa fo197_2 rfl (W.st 1 2 HS inf3 rfl rfl rfl rfl rfl rfl fun w HS => ?_)))))
 refine W.nil ?_
 replace HS := HS.pm [1, 2, 0, 3, 4, 5]
 replace HS := reorder_Order.close trivial HS
 cases H
 exact At.end0 rfl ⟨_, rfl, rfl, HS⟩
def clock_Set_Stop.f (a0 : clock_Set) (a1 : Int) : Option (Bool × clock_Set) := ((clock_Set_Left.f a0 a1).bind fun t3 => (if t3.2 = true then (if 0 ≤ a1 ∧ a1 < 32 then some (t3.2, ({ now := a0.now, left := a0.left.set a1.toNat (0) } : clock_Set)) else none) else some (t3.2, a0)))
theorem clock_Set_Stop.calls {a0 : clock_Set} {a1 : Int} {R : As} {w0 w : World} {b0 : Nat} {r : Bool × clock_Set} (H : clock_Set_Stop.f a0 a1 = some r) (HS : Sep.St [clock_Set.at b0 a0, R] w0 w)  : Calls Tryz.prog 211 #[Value.pointer (some ⟨b0, 0, none⟩), Value.int .i64 a1] w (Ret fun u w => u = Value.bool r.1 ∧ Sep.St [clock_Set.at b0 r.2, R] w0 w) := by
 unfold clock_Set_Stop.f at H
 refine calls_enter Tryz.func211 rfl rfl ?_
 have H : _ = some r := H
 refine V.seq (V.region (W.as rfl (W.nx (V.seq (V.region (W.mv rfl (W.mv rfl ?_)))))))
 obtain ⟨hi2, HS⟩ := clock_Set.open HS
 obtain ⟨t3, A4, H⟩ := bind_s H
 refine W.e (Y.cl Tryz.func124 (clock_Set_Left.calls A4 HS.j1 (by first | exact hi2 | (simp only [List.length_set]; exact hi2)))) rfl ?_
 rintro _ w ⟨rfl, HS⟩
 replace HS := HS.o1
 refine W.mv rfl (W.r (X.extract rfl rfl) rfl (W.r (X.extract rfl rfl) rfl (W.as rfl (W.as rfl (W.nx (V.seq (V.seq (V.region (W.mv rfl (W.nx ?_))))))))))
 by_cases c5 : t3.2 = true
 ·replace H := ite_t c5 H
  refine V.condT (sb c5) (V.region (W.mv rfl (W.mv rfl (W.nc rfl (W.fa fo200_1 rfl ?_)))))
  obtain ⟨c6, H⟩ := ite_n H
  refine W.r (X.indexAr Tryz.underlying198 inf3 rfl rfl c6.1 c6.2) rfl (W.en (Y.storeArr 0 HS rfl rfl inf3 rfl rfl c6.1 c6.2 (by first | exact hi2 | (simp only [List.length_set]; exact hi2))) rfl ?_)
  rintro _ w HS
  refine W.nx (V.seq (V.region (W.mv rfl (W.as rfl (W.nx (V.ret ?_))))))
  replace HS := clock_Set.close (by first | exact hi2 | (simp only [List.length_set]; exact hi2)) HS
  cases H
  exact At.ret1 rfl rfl ⟨_, rfl, rfl, HS⟩
 ·replace H := ite_f c5 H
  refine V.condF (sb (b_f c5)) (V.skip (At.next (V.seq (V.region (W.mv rfl (W.as rfl (W.nx (V.ret ?_))))))))
  replace HS := clock_Set.close (by first | exact hi2 | (simp only [List.length_set]; exact hi2)) HS
  cases H
  exact At.ret1 rfl rfl ⟨_, rfl, rfl, HS⟩
def arq_Arq_fresh.f (a0 : arq_Arq) (a1 : Int) : Option arq_Arq := ((backlog_Log_Clear.f a0.log).bind fun t3 => ((reorder_Order_Clear.f a0.order).bind fun t5 => ((clock_Set_Stop.f a0.timers 0).bind fun t7 => some (({ a0 with state := a1, tries := 0, rejected := false, log := t3.2, order := t5, timers := t7.2, lost := w64 (a0.lost + t3.1) } : arq_Arq)))))
theorem arq_Arq_fresh.calls {a0 : arq_Arq} {a1 : Int} {R : As} {w0 w : World} {b0 : Nat} {r : arq_Arq} (H : arq_Arq_fresh.f a0 a1 = some r) (HS : Sep.St [arq_Arq.at b0 a0, R] w0 w)  : Calls Tryz.prog 156 #[Value.pointer (some ⟨b0, 0, none⟩), Value.int .i64 a1] w (Ret fun u w => u = Value.tuple #[] ∧ Sep.St [arq_Arq.at b0 r, R] w0 w) := by
 unfold arq_Arq_fresh.f at H
 refine calls_enter Tryz.func156 rfl rfl ?_
 have H : _ = some r := H
 refine V.seq (V.region (W.mv rfl (W.mv rfl (W.mv rfl (W.mv rfl (W.nc rfl ?_))))))
 obtain ⟨b8_1, b9_1, b10_1, a11_1, c11_1, d11_1, a12_1, c12_1, hi2, HS⟩ := arq_Arq.open HS
 refine W.fa fo136_4 rfl (W.st 0 4 HS inf3 rfl rfl rfl rfl rfl rfl fun w HS => ?_)
 refine W.nc rfl (W.fa fo136_6 rfl (W.st 0 6 HS inf3 rfl rfl rfl rfl rfl rfl fun w HS => ?_))
 refine W.nc rfl (W.fa fo136_7 rfl (W.st 0 7 HS inf4 rfl rfl rfl rfl rfl rfl fun w HS => ?_))
 refine W.nx (V.seq (V.dr [8, 12] [9, 10, 11] [(14, Value.pointer (some ⟨b0, 0, none⟩)), (15, Value.pointer (some ⟨b0, 0, none⟩)), (16, Value.pointer (some ⟨b0, 0 + 15, none⟩)), (17, Value.int .i64 a0.lost), (18, Value.pointer (some ⟨b0, 0, none⟩)), (19, Value.pointer (some ⟨b0, 0, none⟩)), (20, Value.pointer (some ⟨b0, 0 + 8, none⟩)), (21, Value.pointer (some ⟨b8_1, 0, none⟩))] mo HS ?_))
 refine T.ev [(21, _)] [] [4, 5, 6, 7] ⟨rfl, trivial⟩ ⟨.mv 0, .nc 14, .fa 15 fo136_15, .ld 16 0 Tryz.underlying3, .mv 0, .nc 18, .fa 19 fo136_8, .ld 20 0 Tryz.underlying129, trivial⟩ rfl (fun w HS => ?_)
 obtain ⟨t3, A4, H⟩ := bind_s H
 replace HS := HS.pm [1, 0, 2, 3, 4, 5, 6, 7]
 refine ⟨_, Y.cl Tryz.func209 (backlog_Log_Clear.calls A4 HS.j1), ?_⟩
 rintro _ w ⟨rfl, HS⟩
 replace HS := HS.o1
 refine T.nm [(22, Value.int .i64 t3.1), (23, Value.int .i64 (w64 (a0.lost + t3.1))), (24, Value.pointer (some ⟨b0, 0, none⟩)), (25, Value.pointer (some ⟨b0, 0 + 15, none⟩))] HS ⟨.inl ⟨rfl, rfl⟩, ⟨.inr ⟨by decide, rfl⟩, ⟨.inr ⟨by decide, rfl⟩, ⟨.inr ⟨by decide, rfl⟩, trivial⟩⟩⟩⟩ ?_
 refine T.ev [(23, _), (25, _)] [] [0, 1, 2, 3, 9, 10, 11] ⟨rfl, rfl, trivial⟩ ⟨.mv 0, .nc 14, .fa 15 fo136_15, .ld 16 1 Tryz.underlying3, .n2 17 22 rfl rfl rfl (fun w HS => X.add rfl rfl), .nc 14, .fa 24 fo136_15, trivial⟩ rfl (fun w HS => ?_)
 refine ⟨_, Y.sto 1 15 HS inf3 rfl rfl rfl rfl rfl rfl, ?_⟩
 rintro _ w HS
 refine T.nn HS ?_
 refine T.fn [(0, _)] ⟨rfl, trivial⟩ trivial (fun w HS => ?_)
 refine At.next (V.seq (V.region (W.mv rfl (W.nc rfl (W.fa fo136_9 rfl (W.ld 1 HS Tryz.underlying131 rfl rfl rfl rfl ?_))))))
 obtain ⟨t5, A6, H⟩ := bind_s H
 replace HS := HS.pm [2, 0, 1, 3, 4, 5, 6, 7]
 refine W.e (Y.cl Tryz.func210 (reorder_Order_Clear.calls A6 HS.j1)) rfl ?_
 rintro _ w ⟨rfl, HS⟩
 replace HS := HS.o1
 refine W.nx (V.region (W.mv rfl (W.nc rfl (W.fa fo136_10 rfl (W.ld 2 HS Tryz.underlying133 rfl rfl rfl rfl ?_)))))
 obtain ⟨t7, A8, H⟩ := bind_s H
 replace HS := HS.pm [3, 0, 1, 2, 4, 5, 6, 7]
 refine W.e (Y.cl Tryz.func211 (clock_Set_Stop.calls A8 HS.j1)) rfl ?_
 rintro _ w ⟨rfl, HS⟩
 replace HS := HS.o1
 refine W.nil ?_
 replace HS := HS.pm [3, 2, 1, 0, 4, 5, 6, 7]
 replace HS := arq_Arq.close trivial HS
 cases H
 exact At.end0 rfl ⟨_, rfl, rfl, HS⟩
def arq_Arq_end.f (a0 : arq_Arq) : Option arq_Arq := ((arq_Arq_fresh.f a0 0).bind fun t1 => (if (t1.inds.length : Int) + ([2] : List Int).length ≤ 1099511627776 then some (({ t1 with inds := t1.inds ++ ([2] : List Int) } : arq_Arq)) else none))
theorem arq_Arq_end.calls {a0 : arq_Arq} {R : As} {w0 w : World} {b0 : Nat} {r : arq_Arq} (H : arq_Arq_end.f a0 = some r) (HS : Sep.St [arq_Arq.at b0 a0, R] w0 w)  : Calls Tryz.prog 186 #[Value.pointer (some ⟨b0, 0, none⟩)] w (Ret fun u w => u = Value.tuple #[] ∧ Sep.St [arq_Arq.at b0 r, R] w0 w) := by
 unfold arq_Arq_end.f at H
 refine calls_enter Tryz.func186 rfl rfl ?_
 have H : _ = some r := H
 refine V.seq (V.region (W.mv rfl ?_))
 obtain ⟨t1, A2, H⟩ := bind_s H
 refine W.e (Y.cl Tryz.func156 (arq_Arq_fresh.calls A2 HS.j1)) rfl ?_
 rintro _ w ⟨rfl, HS⟩
 replace HS := HS.o1
 refine W.nx (V.region (W.mv rfl (W.mv rfl (W.nc rfl ?_))))
 obtain ⟨b8_3, b9_3, b10_3, a11_3, c11_3, d11_3, a12_3, c12_3, hi4, HS⟩ := arq_Arq.open HS
 refine W.fa fo136_12 rfl (W.ld 0 HS Tryz.underlying48 rfl rfl rfl rfl (W.e (Y.ls (e := 3) (Value.int .i64) ([2] : List Int) HS rfl rfl (fun _ => by kernel_rfl)) rfl ?_))
 rintro _ w ⟨lb7, rfl, HS⟩
 obtain ⟨c8, H⟩ := ite_n H
 refine W.e (Y.appF (Value.int .i64) (fun _ => rfl) 7 Tryz.underlying48 ap3 rfl HS rfl rfl rfl (rdC.at 0 row_rd HS rfl) (by omega) (by omega)) rfl ?_
 rintro _ w ⟨ra9, rc10, rfl, HS⟩
 refine W.nc rfl (W.fa fo136_12 rfl (W.st 1 12 HS inf48 rfl rfl rfl rfl rfl rfl fun w HS => ?_))
 refine W.nil ?_
 replace HS := HS.pm [1, 2, 3, 4, 5, 6, 7, 0, 8]
 replace HS := arq_Arq.close trivial HS
 replace HS := HS.pk [0, 2] [1]
 cases H
 exact At.end0 rfl ⟨_, rfl, rfl, HS⟩
def arq_Arq_late.f (k : Nat) (a0 : arq_Arq) : Option arq_Arq := (if (w64 (a0.tries + 1)) > a0.n2 then ((arq_Arq_end.f ({ a0 with tries := w64 (a0.tries + 1) } : arq_Arq)).bind fun t11 => some t11) else ((arq_Arq_start.f ({ a0 with tries := w64 (a0.tries + 1) } : arq_Arq)).bind fun t13 => (if t13.state = 1 then ((arq_Arq_tell.f k t13 ({ Kind := 3, Ns := 0, Nr := 0, Poll := true } : api_Ctl)).bind fun t18 => some t18) else (if t13.state = 3 then ((arq_Arq_tell.f k t13 ({ Kind := 5, Ns := 0, Nr := 0, Poll := true } : api_Ctl)).bind fun t21 => some t21) else (if t13.state = 2 then ((backlog_Log_Out.f k t13.log).bind fun t26 => (if (t26.length : Int) > 0 then (if 0 ≤ (0 : Int) ∧ (0 : Int) < (t26.length : Int) then ((arq_Arq_repeat.f k t13 (t26.getD (0 : Int).toNat 0) true).bind fun t32 => some t32) else none) else some t13)) else some t13)))))
theorem arq_Arq_late.calls {k : Nat} {a0 : arq_Arq} {R : As} {w0 w : World} {b0 : Nat} {r : arq_Arq} (H : arq_Arq_late.f k a0 = some r) (HS : Sep.St [arq_Arq.at b0 a0, R] w0 w)  : Calls Tryz.prog 126 #[Value.pointer (some ⟨b0, 0, none⟩)] w (Ret fun u w => u = Value.tuple #[] ∧ Sep.St [arq_Arq.at b0 r, R] w0 w) := by
 unfold arq_Arq_late.f at H
 refine calls_enter Tryz.func126 rfl rfl ?_
 have H : _ = some r := H
 refine V.seq (V.region (W.mv rfl (W.nc rfl ?_)))
 obtain ⟨b8_1, b9_1, b10_1, a11_1, c11_1, d11_1, a12_1, c12_1, hi2, HS⟩ := arq_Arq.open HS
 refine W.fa fo136_6 rfl (W.ld 0 HS Tryz.underlying3 rfl rfl rfl rfl (W.r (X.add rfl rfl) rfl (W.nc rfl (W.fa fo136_6 rfl (W.st 0 6 HS inf3 rfl rfl rfl rfl rfl rfl fun w HS => ?_)))))
 refine W.nx (V.seq (V.seq (V.dr [] [] [(10, Value.pointer (some ⟨b0, 0, none⟩)), (11, Value.pointer (some ⟨b0, 0, none⟩)), (12, Value.pointer (some ⟨b0, 0 + 6, none⟩)), (13, Value.int .i64 (w64 (a0.tries + 1))), (14, Value.pointer (some ⟨b0, 0, none⟩)), (15, Value.pointer (some ⟨b0, 0, none⟩)), (16, Value.pointer (some ⟨b0, 0 + 2, none⟩)), (17, Value.int .i64 a0.n2), (18, Value.bool (decide ((w64 (a0.tries + 1)) > a0.n2)))] mo HS ?_)))
 refine T.fn [(0, _), (18, _)] ⟨rfl, rfl, trivial⟩ ⟨.mv 0, .nc 10, .fa 11 fo136_6, .ld 12 0 Tryz.underlying3, .mv 0, .nc 14, .fa 15 fo136_2, .ld 16 0 Tryz.underlying3, .n2 13 17 rfl rfl rfl (fun w HS => X.cmp (decide ((w64 (a0.tries + 1)) > a0.n2)) rfl rfl rfl rfl), trivial⟩ (fun w HS => ?_)
 refine At.next ?_
 by_cases c10 : (w64 (a0.tries + 1)) > a0.n2
 ·replace H := ite_t c10 H
  refine V.condT (sb (decide_eq_true c10)) (V.seq (V.region (W.mv rfl ?_)))
  replace HS := arq_Arq.close trivial HS
  obtain ⟨t11, A12, H⟩ := bind_s H
  refine W.e (Y.cl Tryz.func186 (arq_Arq_end.calls A12 HS.j1)) rfl ?_
  rintro _ w ⟨rfl, HS⟩
  replace HS := HS.o1
  refine W.nx (V.ret (At.thenRet ?_))
  cases H
  exact At.ret0 rfl ⟨_, rfl, rfl, HS⟩
 ·replace H := ite_f c10 H
  refine V.condF (sb (decide_eq_false c10)) (V.skip (At.next (V.seq (V.region (W.mv rfl ?_)))))
  replace HS := arq_Arq.close trivial HS
  obtain ⟨t13, A14, H⟩ := bind_s H
  refine W.e (Y.cl Tryz.func154 (arq_Arq_start.calls A14 HS.j1)) rfl ?_
  rintro _ w ⟨rfl, HS⟩
  replace HS := HS.o1
  refine W.nx (V.seq (V.region (W.mv rfl (W.nc rfl ?_))))
  obtain ⟨b8_15, b9_15, b10_15, a11_15, c11_15, d11_15, a12_15, c12_15, hi16, HS⟩ := arq_Arq.open HS
  refine W.fa fo136_4 rfl (W.ld 0 HS Tryz.underlying3 rfl rfl rfl rfl (W.nx (V.block (V.seq (V.region (W.r (X.cmp (decide (t13.state = 1)) rfl rfl rfl rfl) rfl (W.as rfl (W.nx ?_))))))))
  by_cases c17 : t13.state = 1
  ·replace H := ite_t c17 H
   refine V.condT (sb (decide_eq_true c17)) (V.region (W.mv rfl (W.r (X.bd (Value.agg #[Value.int .i64 (3), Value.int .i64 (0), Value.int .i64 (0), Value.bool true]) rfl (fun _ => by kernel_rfl)) rfl ?_)))
   replace HS := arq_Arq.close trivial HS
   obtain ⟨t18, A19, H⟩ := bind_s H
   refine W.e (Y.cl Tryz.func153 (arq_Arq_tell.calls A19 HS.j1)) rfl ?_
   rintro _ w ⟨rfl, HS⟩
   replace HS := HS.o1
   refine W.nil (At.blockEnd ?_)
   cases H
   exact At.end0 rfl ⟨_, rfl, rfl, HS⟩
  ·replace H := ite_f c17 H
   refine V.condF (sb (decide_eq_false c17)) (V.seq (V.region (W.r (X.cmp (decide (t13.state = 3)) rfl rfl rfl rfl) rfl (W.as rfl (W.nx ?_)))))
   by_cases c20 : t13.state = 3
   ·replace H := ite_t c20 H
    refine V.condT (sb (decide_eq_true c20)) (V.region (W.mv rfl (W.r (X.bd (Value.agg #[Value.int .i64 (5), Value.int .i64 (0), Value.int .i64 (0), Value.bool true]) rfl (fun _ => by kernel_rfl)) rfl ?_)))
    replace HS := arq_Arq.close trivial HS
    obtain ⟨t21, A22, H⟩ := bind_s H
    refine W.e (Y.cl Tryz.func153 (arq_Arq_tell.calls A22 HS.j1)) rfl ?_
    rintro _ w ⟨rfl, HS⟩
    replace HS := HS.o1
    refine W.nil (At.blockEnd ?_)
    cases H
    exact At.end0 rfl ⟨_, rfl, rfl, HS⟩
   ·replace H := ite_f c20 H
    refine V.condF (sb (decide_eq_false c20)) (V.seq (V.region (W.r (X.cmp (decide (t13.state = 2)) rfl rfl rfl rfl) rfl (W.as rfl (W.nx ?_)))))
    by_cases c23 : t13.state = 2
    ·replace H := ite_t c23 H
     refine V.condT (sb (decide_eq_true c23)) (V.seq (V.region (W.mv rfl (W.nc rfl (W.fa fo136_8 rfl (W.ld 0 HS Tryz.underlying129 rfl rfl rfl rfl ?_))))))
     replace HS := HS.fr 1
     obtain ⟨a5_24, c5_24, d5_24, hi25, HS⟩ := backlog_Log.open HS
     obtain ⟨t26, A27, H⟩ := bind_s H
     refine W.e (Y.cl Tryz.func181 (backlog_Log_Out.calls A27 HS.j3)) rfl ?_
     rintro _ w ⟨at26_0, ct26_0, rfl, HS⟩
     replace HS := HS.o4
     refine W.as rfl (W.nx (V.seq (V.region (W.mv rfl (W.r (X.lenSl Tryz.underlying48 rfl) rfl (W.r (X.cmp (decide ((t26.length : Int) > 0)) rfl rfl rfl rfl) rfl (W.nx ?_)))))))
     by_cases c28 : (t26.length : Int) > 0
     ·replace H := ite_t c28 H
      refine V.condT (sb (decide_eq_true c28)) (V.region (W.mv rfl (W.mv rfl ?_)))
      obtain ⟨c29, H⟩ := ite_n H
      obtain ⟨eb30, eo31, hh⟩ := (rdC.at 0 row_rd HS rfl).some (by decide) c29.1 c29.2; subst hh
      refine W.r (X.indexSl Tryz.underlying48 inf3 rfl rfl c29.1 c29.2) rfl (W.r (X.load Tryz.underlying3 rfl rfl ((rdC.at 0 row_rd HS rfl).cellI c29.1 c29.2)) rfl ?_)
      replace HS := HS.pm [1, 2, 3, 0, 4, 5, 6, 7, 8, 9, 10]
      replace HS := backlog_Log.close trivial HS
      replace HS := HS.pm [2, 0, 3, 4, 5, 6, 7, 1, 8]
      replace HS := arq_Arq.close trivial HS
      obtain ⟨t32, A33, H⟩ := bind_s H
      refine W.e (Y.cl Tryz.func182 (arq_Arq_repeat.calls A33 HS.j1)) rfl ?_
      rintro _ w ⟨rfl, HS⟩
      replace HS := HS.o1
      refine W.nil (At.blockEnd ?_)
      replace HS := HS.pk [0, 2] [1]
      cases H
      exact At.end0 rfl ⟨_, rfl, rfl, HS⟩
     ·replace H := ite_f c28 H
      refine V.condF (sb (decide_eq_false c28)) (V.skip (At.blockEnd ?_))
      replace HS := HS.pm [1, 2, 3, 0, 4, 5, 6, 7, 8, 9, 10]
      replace HS := backlog_Log.close trivial HS
      replace HS := HS.pm [2, 0, 3, 4, 5, 6, 7, 1, 8]
      replace HS := arq_Arq.close trivial HS
      replace HS := HS.pk [0, 2] [1]
      cases H
      exact At.end0 rfl ⟨_, rfl, rfl, HS⟩
    ·replace H := ite_f c23 H
     refine V.condF (sb (decide_eq_false c23)) (V.skip (At.blockEnd ?_))
     replace HS := arq_Arq.close trivial HS
     cases H
     exact At.end0 rfl ⟨_, rfl, rfl, HS⟩
mutual
def arq_Arq_Pass.l0 : Nat → Int → Int → Int → Bool → arq_Arq → Option arq_Arq
 | 0, _, _, _, _, _ => none
 | k + 1, t1, x10, x11, x12, x13 => (if x12 = true then (arq_Arq_Pass.j1 k t1 x10 x11 x13 (arq_Arq_Pass.l0 k t1) (decide (x11 ≤ x10))) else (arq_Arq_Pass.j1 k t1 x10 x11 x13 (arq_Arq_Pass.l0 k t1) false))
def arq_Arq_Pass.j1 (k : Nat) (t1 : Int) (x10 : Int) (x11 : Int) (x13 : arq_Arq) (Lq18 : Int → Int → Bool → arq_Arq → Option arq_Arq) (x16 : Bool) : Option arq_Arq := (if x16 = true then ((clock_Set_Pass.f k x13.timers x11).bind fun t23 => ((arq_Arq_late.f k ({ x13 with timers := t23.2 } : arq_Arq)).bind fun t25 => ((clock_Set_Left.f t25.timers 0).bind fun t31 => (Lq18 (w64 (x10 - x11)) t31.1 t31.2 t25)))) else ((clock_Set_Pass.f k x13.timers x10).bind fun t35 => some ({ x13 with timers := t35.2 } : arq_Arq)))
end
def arq_Arq_Pass.f (k : Nat) (a0 : arq_Arq) (a1 : Int) : Option arq_Arq := ((arq_cut.f a1 0 1048576).bind fun t1 => ((clock_Set_Left.f a0.timers 0).bind fun t8 => (arq_Arq_Pass.l0 k t1 t1 t8.1 t8.2 a0)))
theorem arq_Arq_Pass.calls {k : Nat} {a0 : arq_Arq} {a1 : Int} {R : As} {w0 w : World} {b0 : Nat} {r : arq_Arq} (H : arq_Arq_Pass.f k a0 a1 = some r) (HS : Sep.St [arq_Arq.at b0 a0, R] w0 w)  : Calls Tryz.prog 55 #[Value.pointer (some ⟨b0, 0, none⟩), Value.int .i64 a1] w (Ret fun u w => u = Value.tuple #[] ∧ Sep.St [arq_Arq.at b0 r, R] w0 w) := by
 unfold arq_Arq_Pass.f at H
 refine calls_enter Tryz.func55 rfl rfl ?_
 have H : _ = some r := H
 refine V.seq (V.region (W.mv rfl ?_))
 obtain ⟨t1, A2, H⟩ := bind_s H
 refine W.e (Y.cl Tryz.func111 (arq_cut.calls A2 HS.j0)) rfl ?_
 rintro _ w ⟨rfl, HS⟩
 replace HS := HS.o0
 refine W.as rfl (W.nx (V.seq (V.seq (V.region (W.mv rfl (W.nc rfl ?_))))))
 obtain ⟨b8_4, b9_4, b10_4, a11_4, c11_4, d11_4, a12_4, c12_4, hi5, HS⟩ := arq_Arq.open HS
 refine W.fa fo136_10 rfl (W.ld 0 HS Tryz.underlying133 rfl rfl rfl rfl ?_)
 replace HS := HS.fr 3
 obtain ⟨hi7, HS⟩ := clock_Set.open HS
 obtain ⟨t8, A9, H⟩ := bind_s H
 refine W.e (Y.cl Tryz.func124 (clock_Set_Left.calls A9 HS.j1 (by first | exact hi7 | (simp only [List.length_set]; exact hi7)))) rfl ?_
 rintro _ w ⟨rfl, HS⟩
 replace HS := HS.o1
 refine W.mv rfl (W.r (X.extract rfl rfl) rfl (W.r (X.extract rfl rfl) rfl (W.as rfl (W.as rfl (W.nx (V.block ?_))))))
 replace HS := clock_Set.close (by first | exact hi7 | (simp only [List.length_set]; exact hi7)) HS
 replace HS := HS.pm [1, 2, 3, 0, 4, 5, 6, 7]
 replace HS := arq_Arq.close trivial HS
 refine V.loop (σ := Int × Int × Bool × arq_Arq) (fun kq (st : Int × Int × Bool × arq_Arq) w => match st with | (x10, x11, x12, x13) => Sep.St [arq_Arq.at b0 x13, R] w0 w ∧ arq_Arq_Pass.l0 kq t1 x10 x11 x12 x13 = some r ∧ kq ≤ k) (fun st => match st with | (x10, x11, x12, x13) => [(0, Value.pointer (some ⟨b0, 0, none⟩)), (1, Value.int .i64 x10), (4, Value.int .i64 x11), (5, Value.bool x12)]) k (t1, t8.1, t8.2, a0) ⟨rfl, rfl, rfl, rfl, trivial⟩ ⟨HS, H, Nat.le_refl _⟩ ?_
 rintro kq14 ⟨x10, x11, x12, x13⟩ w ⟨HS, H, hk15⟩
 cases kq14 with
 | zero => exact absurd H (by simp [arq_Arq_Pass.l0])
 | succ kq14 =>
  simp only [arq_Arq_Pass.l0] at H
  refine V.seq (V.meet (σ := Bool) (fun st w => match st with | x16 => Sep.St [arq_Arq.at b0 x13, R] w0 w ∧ ∃ kf17 kl19, kf17 ≤ kq14 ∧ kl19 ≤ kq14 ∧ arq_Arq_Pass.j1 kf17 t1 x10 x11 x13 (arq_Arq_Pass.l0 kl19 t1) x16 = some r) (fun st => match st with | x16 => [(0, Value.pointer (some ⟨b0, 0, none⟩)), (1, Value.int .i64 x10), (4, Value.int .i64 x11), (21, Value.bool x16)]) ?_ ?_)
  ·refine V.region (W.mv rfl (W.mv rfl ?_))
   by_cases c37 : x12 = true
   ·replace H := ite_t c37 H
    refine W.want 17 rfl (sb c37) (W.mv rfl (W.want 17 rfl (sb c37) (W.mv rfl (W.want 17 rfl (sb c37) (W.r (X.cmp (decide (x11 ≤ x10)) rfl rfl rfl rfl) rfl (W.r (X.pickT (sb c37) rfl) rfl (W.nil ?_)))))))
    exact At.meet (decide (x11 ≤ x10)) ⟨rfl, rfl, rfl, rfl, trivial⟩ ⟨HS, kq14, kq14, by omega, by omega, H⟩
   ·replace H := ite_f c37 H
    refine W.pass 17 rfl (sb (b_f c37)) rfl rfl (W.pass 17 rfl (sb (b_f c37)) rfl rfl (W.pass 17 rfl (sb (b_f c37)) rfl rfl (W.r (X.pickF (sb (b_f c37)) rfl) rfl (W.nil ?_))))
    exact At.meet false ⟨rfl, rfl, rfl, rfl, trivial⟩ ⟨HS, kq14, kq14, by omega, by omega, H⟩
  ·rintro x16 w ⟨HS, kf17, kl19, hkkf17, hkkl19, H⟩
   unfold arq_Arq_Pass.j1 at H
   by_cases c20 : x16 = true
   ·replace H := ite_t c20 H
    refine V.condT (sb c20) (V.skip (At.next (V.seq (V.block (V.seq (V.region (W.mv rfl (W.nc rfl ?_))))))))
    obtain ⟨b8_21, b9_21, b10_21, a11_21, c11_21, d11_21, a12_21, c12_21, hi22, HS⟩ := arq_Arq.open HS
    refine W.fa fo136_10 rfl (W.ld 0 HS Tryz.underlying133 rfl rfl rfl rfl (W.mv rfl ?_))
    obtain ⟨t23, A24, H⟩ := bind_s H
    replace HS := HS.pm [3, 0, 1, 2, 4, 5, 6, 7]
    refine W.e (Y.cl Tryz.func125 (clock_Set_Pass.calls A24 HS.j1)) rfl ?_
    rintro _ w ⟨at23_0, ct23_0, rfl, HS⟩
    replace HS := HS.o2
    refine W.nx (V.seq (V.region (W.mv rfl (W.mv rfl (W.r (X.sub rfl rfl) rfl (W.as rfl (W.nx (V.region (W.mv rfl ?_)))))))))
    replace HS := HS.pm [2, 3, 4, 1, 5, 6, 7, 0, 8]
    replace HS := arq_Arq.close trivial HS
    obtain ⟨t25, A26, H⟩ := bind_s H
    refine W.e (Y.cl Tryz.func126 (arq_Arq_late.calls A26 HS.j1)) rfl ?_
    rintro _ w ⟨rfl, HS⟩
    replace HS := HS.o1
    refine W.nil (At.blockEnd (At.next (V.region (W.mv rfl (W.nc rfl ?_)))))
    obtain ⟨b8_27, b9_27, b10_27, a11_27, c11_27, d11_27, a12_27, c12_27, hi28, HS⟩ := arq_Arq.open HS
    refine W.fa fo136_10 rfl (W.ld 0 HS Tryz.underlying133 rfl rfl rfl rfl ?_)
    replace HS := HS.fr 3
    obtain ⟨hi30, HS⟩ := clock_Set.open HS
    obtain ⟨t31, A32, H⟩ := bind_s H
    refine W.e (Y.cl Tryz.func124 (clock_Set_Left.calls A32 HS.j1 (by first | exact hi30 | (simp only [List.length_set]; exact hi30)))) rfl ?_
    rintro _ w ⟨rfl, HS⟩
    replace HS := HS.o1
    refine W.mv rfl (W.r (X.extract rfl rfl) rfl (W.r (X.extract rfl rfl) rfl (W.as rfl (W.as rfl (W.nil ?_)))))
    replace HS := clock_Set.close (by first | exact hi30 | (simp only [List.length_set]; exact hi30)) HS
    replace HS := HS.pm [1, 2, 3, 0, 4, 5, 6, 7, 8]
    replace HS := arq_Arq.close trivial HS
    replace HS := HS.pk [0, 2] [1]
    exact At.round kl19 (by omega) (w64 (x10 - x11), t31.1, t31.2, t25) ⟨rfl, rfl, rfl, rfl, trivial⟩ ⟨HS, H, by omega⟩
   ·replace H := ite_f c20 H
    refine V.condF (sb (b_f c20)) (V.exit (At.thenExit (At.thenExit (At.blockExit (At.next (V.region (W.mv rfl (W.nc rfl ?_))))))))
    obtain ⟨b8_33, b9_33, b10_33, a11_33, c11_33, d11_33, a12_33, c12_33, hi34, HS⟩ := arq_Arq.open HS
    refine W.fa fo136_10 rfl (W.ld 0 HS Tryz.underlying133 rfl rfl rfl rfl (W.mv rfl ?_))
    obtain ⟨t35, A36, H⟩ := bind_s H
    replace HS := HS.pm [3, 0, 1, 2, 4, 5, 6, 7]
    refine W.e (Y.cl Tryz.func125 (clock_Set_Pass.calls A36 HS.j1)) rfl ?_
    rintro _ w ⟨at35_0, ct35_0, rfl, HS⟩
    replace HS := HS.o2
    refine W.nil ?_
    replace HS := HS.pm [2, 3, 4, 1, 5, 6, 7, 0, 8]
    replace HS := arq_Arq.close trivial HS
    replace HS := HS.pk [0, 2] [1]
    cases H
    exact At.end0 rfl ⟨_, rfl, rfl, HS⟩
def arq_Arq_Output.f (a0 : arq_Arq) : Option (List (List Int) × arq_Arq) := some (a0.out, ({ a0 with out := ([] : List (List Int)) } : arq_Arq))
theorem arq_Arq_Output.calls {a0 : arq_Arq} {R : As} {w0 w : World} {b0 : Nat} {r : List (List Int) × arq_Arq} (H : arq_Arq_Output.f a0 = some r) (HS : Sep.St [arq_Arq.at b0 a0, R] w0 w)  : Calls Tryz.prog 56 #[Value.pointer (some ⟨b0, 0, none⟩)] w (Ret fun u w => ∃ (aq0 : Option Addr) (cq0 : Nat) (dq0 : List Value), u = Value.slice aq0 r.1.length cq0 ∧ Sep.St [row 32 1 (.slice aq0 r.1.length cq0) r.1.length dq0, tie (El.sl (El.int .u8)) dq0 r.1, arq_Arq.at b0 r.2, R] w0 w) := by
 unfold arq_Arq_Output.f at H
 refine calls_enter Tryz.func56 rfl rfl ?_
 have H : _ = some r := H
 refine V.seq (V.region (W.as rfl (W.nx (V.seq (V.region (W.mv rfl (W.nc rfl ?_)))))))
 obtain ⟨b8_1, b9_1, b10_1, a11_1, c11_1, d11_1, a12_1, c12_1, hi2, HS⟩ := arq_Arq.open HS
 refine W.fa fo136_11 rfl (W.ld 0 HS Tryz.underlying37 rfl rfl rfl rfl (W.as rfl (W.nx (V.seq (V.region (W.mv rfl (W.nc rfl (W.fa fo136_11 rfl (W.st 0 11 HS inf37 rfl rfl rfl rfl rfl rfl fun w HS => ?_)))))))))
 refine W.nx (V.seq (V.region (W.mv rfl (W.as rfl (W.nx (V.ret ?_))))))
 replace HS := row_nilE (El.sl (El.int .u8)) 32 1 HS
 replace HS := HS.pm [2, 3, 4, 5, 0, 1, 8, 6, 7, 9]
 replace HS := arq_Arq.close (l11 := ([] : List (List Int))) trivial HS
 replace HS := HS.pk [1, 2, 0, 3] []
 cases H
 exact At.ret1 rfl rfl ⟨_, rfl, a11_1, c11_1, d11_1, rfl, HS⟩
def station_Station_piece.f (k : Nat) (a0 : station_Station) (a1 : List Int) : Option (List Int × station_Station) := ((slices_Concat_Sbytebyte.f k ([([0, IntKind.u8.wrap (a0.number.fdiv (2 ^ (min (24 : Int).toNat IntKind.u32.bits))), IntKind.u8.wrap (a0.number.fdiv (2 ^ (min (16 : Int).toNat IntKind.u32.bits))), IntKind.u8.wrap (a0.number.fdiv (2 ^ (min (8 : Int).toNat IntKind.u32.bits))), IntKind.u8.wrap a0.number] : List Int), a1] : List (List Int))).bind fun t9 => some (t9, ({ a0 with number := IntKind.u32.wrap (a0.number + 1) } : station_Station)))
theorem station_Station_piece.calls {k : Nat} {a0 : station_Station} {a1 : List Int} {R : As} {w0 w : World} {b0 : Nat} {sa1 : Option Addr} {sc1 : Nat} {r : List Int × station_Station} (H : station_Station_piece.f k a0 a1 = some r) (HS : Sep.St [station_Station.at b0 a0, fsl 1 (.slice sa1 a1.length sc1) a1.length (a1.map (Value.int .u8)), R] w0 w)  : Calls Tryz.prog 57 #[Value.pointer (some ⟨b0, 0, none⟩), Value.slice sa1 a1.length sc1] w (Ret fun u w => ∃ (aq0 : Option Addr) (cq0 : Nat), u = Value.slice aq0 r.1.length cq0 ∧ Sep.St [row 5 1 (.slice aq0 r.1.length cq0) r.1.length (r.1.map (Value.int .u8)), station_Station.at b0 r.2, R] w0 w) := by
 unfold station_Station_piece.f at H
 refine calls_enter Tryz.func57 rfl rfl ?_
 have H : _ = some r := H
 refine V.seq (V.region (W.as rfl (W.nx (V.seq (V.region (W.mv rfl (W.nc rfl ?_)))))))
 obtain ⟨b16_1, b17_1, b18_1, b22_1, b23_1, b24_1, b32_1, b33_1, b34_1, hi2, HS⟩ := station_Station.open HS
 refine W.fa fo87_4 rfl (W.ld 0 HS Tryz.underlying79 rfl rfl rfl rfl (W.as rfl (W.nx (V.seq (V.region (W.mv rfl (W.nc rfl (W.fa fo87_4 rfl (W.ld 0 HS Tryz.underlying79 rfl rfl rfl rfl (W.r (X.add rfl rfl) rfl (W.nc rfl (W.fa fo87_4 rfl (W.st 0 19 HS inf79 rfl rfl rfl rfl rfl rfl fun w HS => ?_)))))))))))))
 refine W.nx (V.seq (V.region (W.mv rfl (W.r (X.shr rfl rfl (by decide)) rfl (W.r (X.conv Tryz.underlying79 Tryz.underlying5 rfl) rfl (W.mv rfl (W.r (X.shr rfl rfl (by decide)) rfl (W.r (X.conv Tryz.underlying79 Tryz.underlying5 rfl) rfl (W.mv rfl (W.r (X.shr rfl rfl (by decide)) rfl (W.r (X.conv Tryz.underlying79 Tryz.underlying5 rfl) rfl (W.mv rfl (W.r (X.conv Tryz.underlying79 Tryz.underlying5 rfl) rfl (W.e (Y.ls (e := 5) (Value.int .u8) ([0, IntKind.u8.wrap (a0.number.fdiv (2 ^ (min (24 : Int).toNat IntKind.u32.bits))), IntKind.u8.wrap (a0.number.fdiv (2 ^ (min (16 : Int).toNat IntKind.u32.bits))), IntKind.u8.wrap (a0.number.fdiv (2 ^ (min (8 : Int).toNat IntKind.u32.bits))), IntKind.u8.wrap a0.number] : List Int) HS rfl rfl (fun _ => by kernel_rfl)) rfl ?_))))))))))))))
 rintro _ w ⟨lb5, rfl, HS⟩
 refine W.mv rfl ?_
 replace HS := St.row_freeze HS
 refine W.e (Y.lc (e := 32) (sz := 1) [Value.slice (some ⟨lb5, 0, none⟩) (([0, IntKind.u8.wrap (a0.number.fdiv (2 ^ (min (24 : Int).toNat IntKind.u32.bits))), IntKind.u8.wrap (a0.number.fdiv (2 ^ (min (16 : Int).toNat IntKind.u32.bits))), IntKind.u8.wrap (a0.number.fdiv (2 ^ (min (8 : Int).toNat IntKind.u32.bits))), IntKind.u8.wrap a0.number] : List Int)).length 5, Value.slice sa1 a1.length sc1] HS rfl rfl (fun _ => by kernel_rfl)) rfl ?_
 rintro _ w ⟨lb6, rfl, HS⟩
 replace HS := St.put (A := tie (El.sl (El.int .u8)) ([]) (([] : List (List Int)))) (fun _ => tie.nil) HS
 replace HS := HS.more 13 rfl (fun _ t => t) fsl.pers
 replace HS := St.put (A := tie (El.int .u8) (a1.map (Value.int .u8)) a1) (fun _ => int_tie) HS
 replace HS := St.swap HS
 replace HS := St.sl_close (E := (El.int .u8)) HS
 replace HS := HS.fr 1
 replace HS := HS.fr 1
 replace HS := St.tie_cons HS
 replace HS := HS.more 2 rfl (fun _ t => t) fsl.pers
 replace HS := St.put (A := tie (El.int .u8) ((([0, IntKind.u8.wrap (a0.number.fdiv (2 ^ (min (24 : Int).toNat IntKind.u32.bits))), IntKind.u8.wrap (a0.number.fdiv (2 ^ (min (16 : Int).toNat IntKind.u32.bits))), IntKind.u8.wrap (a0.number.fdiv (2 ^ (min (8 : Int).toNat IntKind.u32.bits))), IntKind.u8.wrap a0.number] : List Int)).map (Value.int .u8)) (([0, IntKind.u8.wrap (a0.number.fdiv (2 ^ (min (24 : Int).toNat IntKind.u32.bits))), IntKind.u8.wrap (a0.number.fdiv (2 ^ (min (16 : Int).toNat IntKind.u32.bits))), IntKind.u8.wrap (a0.number.fdiv (2 ^ (min (8 : Int).toNat IntKind.u32.bits))), IntKind.u8.wrap a0.number] : List Int))) (fun _ => int_tie) HS
 replace HS := St.swap HS
 replace HS := St.sl_close (E := (El.int .u8)) HS
 replace HS := HS.fr 1
 replace HS := HS.fr 1
 replace HS := St.tie_cons HS
 obtain ⟨t9, A10, H⟩ := bind_s H
 refine W.e (Y.cl Tryz.func127 (slices_Concat_Sbytebyte.calls A10 HS.j0 (rdC.part 1 row_rd rfl) (fun h hh => let ⟨_, l, t⟩ := Sp.has 0 hh rfl; tie.mono t l))) rfl ?_
 rintro _ w ⟨at9_0, ct9_0, rfl, HS⟩
 replace HS := HS.o1
 refine W.as rfl (W.nx (V.ret ?_))
 replace HS := HS.pm [4, 5, 6, 7, 8, 9, 10, 11, 12, 13, 0, 1, 2, 3, 14, 15]
 replace HS := station_Station.close trivial HS
 replace HS := HS.pk [1, 0, 6] [2, 3, 4, 5]
 cases H
 exact At.ret1 rfl rfl ⟨_, rfl, at9_0, ct9_0, rfl, HS⟩
mutual
def octets_Stuff.l0 : Nat → (List Int) → Int → (List Int) → Option (List Int)
 | 0, _, _, _ => none
 | k + 1, a0, x2, x5 => (if x2 < (a0.length : Int) then (if 0 ≤ x2 ∧ x2 < (a0.length : Int) then (if (a0.getD x2.toNat 0) = 126 then (octets_Stuff.j2 a0 x2 x5 (octets_Stuff.l0 k a0) true) else (octets_Stuff.j2 a0 x2 x5 (octets_Stuff.l0 k a0) (decide ((a0.getD x2.toNat 0) = 125)))) else none) else some x5)
def octets_Stuff.j1 (x2 : Int) (Lq17 : Int → (List Int) → Option (List Int)) (x14 : List Int) (x15 : Int) : Option (List Int) := (if (x14.length : Int) + ([x15] : List Int).length ≤ 1099511627776 then (Lq17 (w64 (x2 + 1)) (x14 ++ ([x15] : List Int))) else none)
def octets_Stuff.j2 (a0 : List Int) (x2 : Int) (x5 : List Int) (Lq27 : Int → (List Int) → Option (List Int)) (x25 : Bool) : Option (List Int) := (if x25 = true then (if (x5.length : Int) + ([125] : List Int).length ≤ 1099511627776 then (octets_Stuff.j1 x2 Lq27 (x5 ++ ([125] : List Int)) (ixor .u8 (a0.getD x2.toNat 0) (32))) else none) else (octets_Stuff.j1 x2 Lq27 x5 (a0.getD x2.toNat 0)))
end
def octets_Stuff.f (k : Nat) (a0 : List Int) : Option (List Int) := (octets_Stuff.l0 k a0 0 ([] : List Int))
theorem octets_Stuff.calls {k : Nat} {a0 : List Int} {R : As} {w0 w : World} {sa0 : Option Addr} {sc0 : Nat} {r : List Int} (H : octets_Stuff.f k a0 = some r) (HS : Sep.St [R] w0 w) (hr0 : rdC R 1 (.slice sa0 a0.length sc0) a0.length (a0.map (Value.int .u8))) : Calls Tryz.prog 188 #[Value.slice sa0 a0.length sc0] w (Ret fun u w => ∃ (aq0 : Option Addr) (cq0 : Nat), u = Value.slice aq0 r.length cq0 ∧ Sep.St [row 5 1 (.slice aq0 r.length cq0) r.length (r.map (Value.int .u8)), R] w0 w) := by
 unfold octets_Stuff.f at H
 refine calls_enter Tryz.func188 rfl rfl ?_
 have H : _ = some r := H
 refine V.seq (V.region (W.as rfl (W.nx (V.seq (V.region (W.as rfl (W.nx (V.seq (V.seq (V.region (W.mv rfl (W.r (X.lenSl Tryz.underlying32 rfl) rfl (W.mv rfl (W.nx (V.block ?_)))))))))))))))
 replace HS := row_nilF (Value.int .u8) 5 1 HS
 refine V.loop (σ := Int × Option Addr × Nat × List Int) (fun kq (st : Int × Option Addr × Nat × List Int) w => match st with | (x2, ra3, rc4, x5) => Sep.St [row 5 1 (.slice ra3 x5.length rc4) x5.length (x5.map (Value.int .u8)), R] w0 w ∧ octets_Stuff.l0 kq a0 x2 x5 = some r ∧ kq ≤ k) (fun st => match st with | (x2, ra3, rc4, x5) => [(3, Value.slice ra3 x5.length rc4), (6, Value.slice sa0 a0.length sc0), (7, Value.int .i64 (a0.length : Int)), (8, Value.int .i64 x2)]) k (0, none, 0, ([] : List Int)) ⟨rfl, rfl, rfl, rfl, trivial⟩ ⟨HS, H, Nat.le_refl _⟩ ?_
 rintro kq6 ⟨x2, ra3, rc4, x5⟩ w ⟨HS, H, hk7⟩
 cases kq6 with
 | zero => exact absurd H (by simp [octets_Stuff.l0])
 | succ kq6 =>
  simp only [octets_Stuff.l0] at H
  refine V.seq (V.region (W.r (X.cmp (decide (x2 < (a0.length : Int))) rfl rfl rfl rfl) rfl (W.nx (V.seq ?_))))
  by_cases c8 : x2 < (a0.length : Int)
  ·replace H := ite_t c8 H
   refine V.condT (sb (decide_eq_true c8)) (V.skip (At.next (V.seq (V.block (V.seq (V.region ?_))))))
   obtain ⟨c9, H⟩ := ite_n H
   obtain ⟨eb10, eo11, hh⟩ := (rdC.at 1 hr0 HS rfl).some (by decide) c9.1 c9.2; subst hh
   refine W.r (X.indexSl Tryz.underlying32 inf5 rfl rfl c9.1 c9.2) rfl (W.r (X.load Tryz.underlying5 rfl rfl ((rdC.at 1 hr0 HS rfl).cellI c9.1 c9.2)) rfl (W.as rfl (W.nx (V.meet (σ := Option Addr × Nat × List Int × Int) (fun st w => match st with | (ra12, rc13, x14, x15) => Sep.St [row 5 1 (.slice ra12 x14.length rc13) x14.length (x14.map (Value.int .u8)), R] w0 w ∧ ∃ kl18, kl18 ≤ kq6 ∧ octets_Stuff.j1 x2 (octets_Stuff.l0 kl18 a0) x14 x15 = some r) (fun st => match st with | (ra12, rc13, x14, x15) => [(3, Value.slice ra12 x14.length rc13), (5, Value.int .u8 x15), (6, Value.slice (some ⟨eb10, eo11, none⟩) a0.length sc0), (7, Value.int .i64 (a0.length : Int)), (8, Value.int .i64 x2)]) ?_ ?_))))
   ·refine V.meet (σ := Bool) (fun st w => match st with | x25 => Sep.St [row 5 1 (.slice ra3 x5.length rc4) x5.length (x5.map (Value.int .u8)), R] w0 w ∧ ∃ kl28, kl28 ≤ kq6 ∧ octets_Stuff.j2 a0 x2 x5 (octets_Stuff.l0 kl28 a0) x25 = some r) (fun st => match st with | x25 => [(3, Value.slice ra3 x5.length rc4), (5, Value.int .u8 (a0.getD x2.toNat 0)), (6, Value.slice (some ⟨eb10, eo11, none⟩) a0.length sc0), (7, Value.int .i64 (a0.length : Int)), (8, Value.int .i64 x2), (17, Value.bool x25)]) ?_ ?_
    ·refine V.region (W.mv rfl (W.r (X.cmp (decide ((a0.getD x2.toNat 0) = 126)) rfl rfl rfl rfl) rfl (W.mv rfl ?_)))
     by_cases c36 : (a0.getD x2.toNat 0) = 126
     ·replace H := ite_t c36 H
      refine W.pass 14 rfl (sb (decide_eq_true c36)) rfl rfl (W.pass 14 rfl (sb (decide_eq_true c36)) rfl rfl (W.r (X.pickT (sb (decide_eq_true c36)) rfl) rfl (W.nil ?_)))
      exact At.meet true ⟨rfl, rfl, rfl, rfl, rfl, rfl, trivial⟩ ⟨HS, kq6, by omega, H⟩
     ·replace H := ite_f c36 H
      refine W.want 14 rfl (sb (decide_eq_false c36)) (W.mv rfl (W.want 14 rfl (sb (decide_eq_false c36)) (W.r (X.cmp (decide ((a0.getD x2.toNat 0) = 125)) rfl rfl rfl rfl) rfl (W.r (X.pickF (sb (decide_eq_false c36)) rfl) rfl (W.nil ?_)))))
      exact At.meet (decide ((a0.getD x2.toNat 0) = 125)) ⟨rfl, rfl, rfl, rfl, rfl, rfl, trivial⟩ ⟨HS, kq6, by omega, H⟩
    ·rintro x25 w ⟨HS, kl28, hkkl28, H⟩
     unfold octets_Stuff.j2 at H
     by_cases c29 : x25 = true
     ·replace H := ite_t c29 H
      refine V.condT (sb c29) (V.seq (V.region (W.mv rfl (W.e (Y.ls (e := 5) (Value.int .u8) ([125] : List Int) HS rfl rfl (fun _ => by kernel_rfl)) rfl ?_))))
      rintro _ w ⟨lb32, rfl, HS⟩
      obtain ⟨c33, H⟩ := ite_n H
      refine W.e (Y.appF (Value.int .u8) (fun _ => rfl) 1 Tryz.underlying32 ap5 rfl HS rfl rfl rfl (rdC.at 0 row_rd HS rfl) (by omega) (by omega)) rfl ?_
      rintro _ w ⟨ra34, rc35, rfl, HS⟩
      refine W.as rfl (W.nx (V.region (W.mv rfl (W.r (X.xor rfl rfl) rfl (W.as rfl (W.nil ?_))))))
      replace HS := HS.pk [1, 2] [0]
      exact At.meet (ra34, rc35, x5 ++ ([125] : List Int), ixor .u8 (a0.getD x2.toNat 0) (32)) ⟨rfl, rfl, rfl, rfl, rfl, trivial⟩ ⟨HS, kl28, by omega, H⟩
     ·replace H := ite_f c29 H
      refine V.condF (sb (b_f c29)) (V.skip ?_)
      exact At.meet (ra3, rc4, x5, a0.getD x2.toNat 0) ⟨rfl, rfl, rfl, rfl, rfl, trivial⟩ ⟨HS, kl28, by omega, H⟩
   ·rintro ⟨ra12, rc13, x14, x15⟩ w ⟨HS, kl18, hkkl18, H⟩
    unfold octets_Stuff.j1 at H
    refine V.region (W.mv rfl (W.mv rfl (W.e (Y.ls (e := 5) (Value.int .u8) ([x15] : List Int) HS rfl rfl (fun _ => by kernel_rfl)) rfl ?_)))
    rintro _ w ⟨lb21, rfl, HS⟩
    obtain ⟨c22, H⟩ := ite_n H
    refine W.e (Y.appF (Value.int .u8) (fun _ => rfl) 1 Tryz.underlying32 ap5 rfl HS rfl rfl rfl (rdC.at 0 row_rd HS rfl) (by omega) (by omega)) rfl ?_
    rintro _ w ⟨ra23, rc24, rfl, HS⟩
    refine W.as rfl (W.nil (At.blockEnd (At.next (V.region (W.r (X.add rfl rfl) rfl (W.mv rfl (W.nil ?_)))))))
    replace HS := HS.pk [1, 2] [0]
    exact At.round kl18 (by omega) (w64 (x2 + 1), ra23, rc24, x14 ++ ([x15] : List Int)) ⟨rfl, rfl, rfl, rfl, trivial⟩ ⟨HS, H, by omega⟩
  ·replace H := ite_f c8 H
   refine V.condF (sb (decide_eq_false c8)) (V.exit (At.thenExit (At.thenExit (At.blockExit (At.next (V.seq (V.region (W.mv rfl (W.as rfl (W.nx (V.ret ?_)))))))))))
   cases H
   exact At.ret1 rfl rfl ⟨_, rfl, ra3, rc4, rfl, HS⟩
def frame_Put.f (k : Nat) (a0 : List Int) (a1 : Bool) : Option (List Int) := ((fcs_Put.f k a0 a1).bind fun t4 => ((octets_Stuff.f k t4).bind fun t6 => ((slices_Concat_Sbytebyte.f k ([([126] : List Int), t6, ([126] : List Int)] : List (List Int))).bind fun t14 => some t14)))
theorem frame_Put.calls {k : Nat} {a0 : List Int} {a1 : Bool} {R : As} {w0 w : World} {sa0 : Option Addr} {sc0 : Nat} {r : List Int} (H : frame_Put.f k a0 a1 = some r) (HS : Sep.St [fsl 1 (.slice sa0 a0.length sc0) a0.length (a0.map (Value.int .u8)), R] w0 w)  : Calls Tryz.prog 129 #[Value.slice sa0 a0.length sc0, Value.bool a1] w (Ret fun u w => ∃ (aq0 : Option Addr) (cq0 : Nat), u = Value.slice aq0 r.length cq0 ∧ Sep.St [row 5 1 (.slice aq0 r.length cq0) r.length (r.map (Value.int .u8)), R] w0 w) := by
 unfold frame_Put.f at H
 refine calls_enter Tryz.func129 rfl rfl ?_
 have H : _ = some r := H
 refine V.seq (V.region (W.as rfl (W.nx (V.seq (V.region (W.e (Y.ls (e := 5) (Value.int .u8) ([126] : List Int) HS rfl rfl (fun _ => by kernel_rfl)) rfl ?_))))))
 rintro _ w ⟨lb3, rfl, HS⟩
 refine W.mv rfl (W.mv rfl ?_)
 replace HS := HS.more 1 rfl (fun _ t => t) fsl.pers
 obtain ⟨t4, A5, H⟩ := bind_s H
 refine W.e (Y.cl Tryz.func179 (fcs_Put.calls A5 HS.j1)) rfl ?_
 rintro _ w ⟨at4_0, ct4_0, rfl, HS⟩
 replace HS := HS.o1
 obtain ⟨t6, A7, H⟩ := bind_s H
 refine W.e (Y.cl Tryz.func188 (octets_Stuff.calls A7 HS.j0 (rdC.part 0 row_rd rfl))) rfl ?_
 rintro _ w ⟨at6_0, ct6_0, rfl, HS⟩
 replace HS := HS.o1
 refine W.e (Y.ls (e := 5) (Value.int .u8) ([126] : List Int) HS rfl rfl (fun _ => by kernel_rfl)) rfl ?_
 rintro _ w ⟨lb10, rfl, HS⟩
 replace HS := HS.fr 3
 replace HS := St.row_freeze HS
 replace HS := HS.fr 2
 replace HS := St.row_freeze HS
 replace HS := HS.fr 2
 replace HS := St.row_freeze HS
 refine W.e (Y.lc (e := 32) (sz := 1) [Value.slice (some ⟨lb3, 0, none⟩) ([126] : List Int).length 1, Value.slice at6_0 t6.length ct6_0, Value.slice (some ⟨lb10, 0, none⟩) ([126] : List Int).length 1] HS rfl rfl (fun _ => by kernel_rfl)) rfl ?_
 rintro _ w ⟨lb11, rfl, HS⟩
 replace HS := St.put (A := tie (El.sl (El.int .u8)) ([]) (([] : List (List Int)))) (fun _ => tie.nil) HS
 replace HS := HS.more 2 rfl (fun _ t => t) fsl.pers
 replace HS := St.put (A := tie (El.int .u8) (([126] : List Int).map (Value.int .u8)) ([126] : List Int)) (fun _ => int_tie) HS
 replace HS := St.swap HS
 replace HS := St.sl_close (E := (El.int .u8)) HS
 replace HS := HS.fr 1
 replace HS := HS.fr 1
 replace HS := St.tie_cons HS
 replace HS := HS.more 3 rfl (fun _ t => t) fsl.pers
 replace HS := St.put (A := tie (El.int .u8) (t6.map (Value.int .u8)) t6) (fun _ => int_tie) HS
 replace HS := St.swap HS
 replace HS := St.sl_close (E := (El.int .u8)) HS
 replace HS := HS.fr 1
 replace HS := HS.fr 1
 replace HS := St.tie_cons HS
 replace HS := HS.more 4 rfl (fun _ t => t) fsl.pers
 replace HS := St.put (A := tie (El.int .u8) (([126] : List Int).map (Value.int .u8)) ([126] : List Int)) (fun _ => int_tie) HS
 replace HS := St.swap HS
 replace HS := St.sl_close (E := (El.int .u8)) HS
 replace HS := HS.fr 1
 replace HS := HS.fr 1
 replace HS := St.tie_cons HS
 obtain ⟨t14, A15, H⟩ := bind_s H
 refine W.e (Y.cl Tryz.func127 (slices_Concat_Sbytebyte.calls A15 HS.j0 (rdC.part 1 row_rd rfl) (fun h hh => let ⟨_, l, t⟩ := Sp.has 0 hh rfl; tie.mono t l))) rfl ?_
 rintro _ w ⟨at14_0, ct14_0, rfl, HS⟩
 replace HS := HS.o1
 refine W.as rfl (W.nx (V.ret ?_))
 replace HS := HS.pk [0, 8] [1, 2, 3, 4, 5, 6, 7]
 cases H
 exact At.ret1 rfl rfl ⟨_, rfl, at14_0, ct14_0, rfl, HS⟩
def ring_Ring_Add.f (a0 : ring_Ring) (a1 : List Int) : Option (Bool × ring_Ring) := (if (a1.length : Int) > (w64 (a0.room - (a0.b.length : Int))) then some (false, ({ a0 with dropped := imin (w64 (a0.dropped + 1)) (4294967295) } : ring_Ring)) else (if (a0.b.length : Int) + a1.length ≤ 1099511627776 then (if (a0.pieces.length : Int) + (([(a1.length : Int)] : List Int)).length ≤ 1099511627776 then some (true, ({ a0 with b := a0.b ++ a1, pieces := a0.pieces ++ ([(a1.length : Int)] : List Int) } : ring_Ring)) else none) else none))
theorem ring_Ring_Add.calls {a0 : ring_Ring} {a1 : List Int} {R : As} {w0 w : World} {b0 : Nat} {sa1 : Option Addr} {sc1 : Nat} {r : Bool × ring_Ring} (H : ring_Ring_Add.f a0 a1 = some r) (HS : Sep.St [ring_Ring.at b0 a0, R] w0 w) (hr1 : rdC R 1 (.slice sa1 a1.length sc1) a1.length (a1.map (Value.int .u8))) : Calls Tryz.prog 128 #[Value.pointer (some ⟨b0, 0, none⟩), Value.slice sa1 a1.length sc1] w (Ret fun u w => u = Value.bool r.1 ∧ Sep.St [ring_Ring.at b0 r.2, R] w0 w) := by
 unfold ring_Ring_Add.f at H
 refine calls_enter Tryz.func128 rfl rfl ?_
 have H : _ = some r := H
 refine V.seq (V.region (W.as rfl (W.nx (V.seq (V.seq ?_)))))
 obtain ⟨a1_2, c1_2, a3_2, c3_2, hi3, HS⟩ := ring_Ring.open HS
 refine V.dr [] [] [(5, Value.slice sa1 a1.length sc1), (6, Value.int .i64 (a1.length : Int)), (7, Value.pointer (some ⟨b0, 0, none⟩)), (8, Value.pointer (some ⟨b0, 0, none⟩)), (9, Value.pointer (some ⟨b0, 0 + 0, none⟩)), (10, Value.int .i64 a0.room), (11, Value.pointer (some ⟨b0, 0, none⟩)), (12, Value.pointer (some ⟨b0, 0, none⟩)), (13, Value.pointer (some ⟨b0, 0 + 1, none⟩)), (14, Value.slice a1_2 a0.b.length c1_2), (15, Value.int .i64 (a0.b.length : Int)), (16, Value.int .i64 (w64 (a0.room - (a0.b.length : Int)))), (17, Value.bool (decide ((a1.length : Int) > (w64 (a0.room - (a0.b.length : Int))))))] mo HS ?_
 refine T.fn [(0, _), (1, _), (17, _)] ⟨rfl, rfl, rfl, trivial⟩ ⟨.mv 1, .n1 5 rfl rfl (fun w HS => X.lenSl Tryz.underlying32 rfl), .mv 0, .nc 7, .fa 8 fo149_0, .ld 9 0 Tryz.underlying3, .mv 0, .nc 11, .fa 12 fo149_1, .ld 13 0 Tryz.underlying32, .n1 14 rfl rfl (fun w HS => X.lenSl Tryz.underlying32 rfl), .n2 10 15 rfl rfl rfl (fun w HS => X.sub rfl rfl), .n2 6 16 rfl rfl rfl (fun w HS => X.cmp (decide ((a1.length : Int) > (w64 (a0.room - (a0.b.length : Int))))) rfl rfl rfl rfl), trivial⟩ (fun w HS => ?_)
 refine At.next ?_
 by_cases c4 : (a1.length : Int) > (w64 (a0.room - (a0.b.length : Int)))
 ·replace H := ite_t c4 H
  refine V.condT (sb (decide_eq_true c4)) (V.seq (V.region (W.mv rfl (W.mv rfl (W.nc rfl (W.fa fo149_4 rfl (W.ld 0 HS Tryz.underlying3 rfl rfl rfl rfl (W.r (X.add rfl rfl) rfl (W.r (X.min2 rfl rfl) rfl (W.nc rfl (W.fa fo149_4 rfl (W.st 0 4 HS inf3 rfl rfl rfl rfl rfl rfl fun w HS => ?_))))))))))))
  refine W.nx (V.seq (V.region (W.as rfl (W.nx (V.ret (At.thenRet ?_))))))
  replace HS := ring_Ring.close trivial HS
  cases H
  exact At.ret1 rfl rfl ⟨_, rfl, rfl, HS⟩
 ·replace H := ite_f c4 H
  refine V.condF (sb (decide_eq_false c4)) (V.skip (At.next (V.seq (V.region (W.mv rfl (W.mv rfl (W.nc rfl (W.fa fo149_1 rfl (W.ld 0 HS Tryz.underlying32 rfl rfl rfl rfl (W.mv rfl ?_))))))))))
  obtain ⟨c5, H⟩ := ite_n H
  refine W.e (Y.appF (Value.int .u8) (fun _ => rfl) 1 Tryz.underlying32 ap5 rfl HS rfl rfl rfl (rdC.at 3 hr1 HS rfl) (by omega) (by omega)) rfl ?_
  rintro _ w ⟨ra6, rc7, rfl, HS⟩
  refine W.nc rfl (W.fa fo149_1 rfl (W.st 0 1 HS inf32 rfl rfl rfl rfl rfl rfl fun w HS => ?_))
  refine W.nx (V.seq (V.region (W.mv rfl (W.mv rfl (W.nc rfl (W.fa fo149_3 rfl (W.ld 0 HS Tryz.underlying48 rfl rfl rfl rfl (W.mv rfl (W.r (X.lenSl Tryz.underlying32 rfl) rfl (W.e (Y.ls (e := 3) (Value.int .i64) ([(a1.length : Int)] : List Int) HS rfl rfl (fun _ => by kernel_rfl)) rfl ?_))))))))))
  rintro _ w ⟨lb10, rfl, HS⟩
  obtain ⟨c11, H⟩ := ite_n H
  refine W.e (Y.appF (Value.int .i64) (fun _ => rfl) 3 Tryz.underlying48 ap3 rfl HS rfl rfl rfl (rdC.at 0 row_rd HS rfl) (by omega) (by omega)) rfl ?_
  rintro _ w ⟨ra12, rc13, rfl, HS⟩
  refine W.nc rfl (W.fa fo149_3 rfl (W.st 1 3 HS inf48 rfl rfl rfl rfl rfl rfl fun w HS => ?_))
  refine W.nx (V.seq (V.region (W.as rfl (W.nx (V.ret ?_)))))
  replace HS := HS.pm [1, 2, 3, 0, 4]
  replace HS := ring_Ring.close trivial HS
  replace HS := HS.pk [0, 2] [1]
  cases H
  exact At.ret1 rfl rfl ⟨_, rfl, rfl, HS⟩
def V38.at (b : Nat) (x : (List (List Int) × List (List Int))) : As := fun h => True ∧ ∃ a0 : Option Addr, ∃ c0 : Nat, ∃ d0 : List Value, ∃ a1 : Option Addr, ∃ c1 : Nat, ∃ d1 : List Value, Sp [blk b (#[Value.slice a0 x.1.length c0, Value.slice a1 x.2.length c1]) 38, row 32 1 (.slice a0 x.1.length c0) x.1.length d0, tie (El.sl (El.int .u8)) d0 x.1, row 32 1 (.slice a1 x.2.length c1) x.2.length d1, tie (El.sl (El.int .u8)) d1 x.2] h
theorem V38.open {b : Nat} {x : (List (List Int) × List (List Int))} {L : List As} {w0 w : World} (hs : Sep.St (V38.at b x :: L) w0 w) : ∃ a0 : Option Addr, ∃ c0 : Nat, ∃ d0 : List Value, ∃ a1 : Option Addr, ∃ c1 : Nat, ∃ d1 : List Value, True ∧ Sep.St (blk b (#[Value.slice a0 x.1.length c0, Value.slice a1 x.2.length c1]) 38 :: row 32 1 (.slice a0 x.1.length c0) x.1.length d0 :: tie (El.sl (El.int .u8)) d0 x.1 :: row 32 1 (.slice a1 x.2.length c1) x.2.length d1 :: tie (El.sl (El.int .u8)) d1 x.2 :: L) w0 w := by
 have h1 := St.pure.1 (show St ((fun h => True ∧ (fun h => ∃ a0 : Option Addr, ∃ c0 : Nat, ∃ d0 : List Value, ∃ a1 : Option Addr, ∃ c1 : Nat, ∃ d1 : List Value, Sp [blk b (#[Value.slice a0 x.1.length c0, Value.slice a1 x.2.length c1]) 38, row 32 1 (.slice a0 x.1.length c0) x.1.length d0, tie (El.sl (El.int .u8)) d0 x.1, row 32 1 (.slice a1 x.2.length c1) x.2.length d1, tie (El.sl (El.int .u8)) d1 x.2] h) h) :: L) w0 w from hs)
 obtain ⟨hi, hs⟩ := h1
 obtain ⟨a0, hs⟩ := St.ex.1 (show St ((fun h => ∃ a0 : Option Addr, (fun h => ∃ c0 : Nat, ∃ d0 : List Value, ∃ a1 : Option Addr, ∃ c1 : Nat, ∃ d1 : List Value, Sp [blk b (#[Value.slice a0 x.1.length c0, Value.slice a1 x.2.length c1]) 38, row 32 1 (.slice a0 x.1.length c0) x.1.length d0, tie (El.sl (El.int .u8)) d0 x.1, row 32 1 (.slice a1 x.2.length c1) x.2.length d1, tie (El.sl (El.int .u8)) d1 x.2] h) h) :: L) w0 w from hs)
 obtain ⟨c0, hs⟩ := St.ex.1 (show St ((fun h => ∃ c0 : Nat, (fun h => ∃ d0 : List Value, ∃ a1 : Option Addr, ∃ c1 : Nat, ∃ d1 : List Value, Sp [blk b (#[Value.slice a0 x.1.length c0, Value.slice a1 x.2.length c1]) 38, row 32 1 (.slice a0 x.1.length c0) x.1.length d0, tie (El.sl (El.int .u8)) d0 x.1, row 32 1 (.slice a1 x.2.length c1) x.2.length d1, tie (El.sl (El.int .u8)) d1 x.2] h) h) :: L) w0 w from hs)
 obtain ⟨d0, hs⟩ := St.ex.1 (show St ((fun h => ∃ d0 : List Value, (fun h => ∃ a1 : Option Addr, ∃ c1 : Nat, ∃ d1 : List Value, Sp [blk b (#[Value.slice a0 x.1.length c0, Value.slice a1 x.2.length c1]) 38, row 32 1 (.slice a0 x.1.length c0) x.1.length d0, tie (El.sl (El.int .u8)) d0 x.1, row 32 1 (.slice a1 x.2.length c1) x.2.length d1, tie (El.sl (El.int .u8)) d1 x.2] h) h) :: L) w0 w from hs)
 obtain ⟨a1, hs⟩ := St.ex.1 (show St ((fun h => ∃ a1 : Option Addr, (fun h => ∃ c1 : Nat, ∃ d1 : List Value, Sp [blk b (#[Value.slice a0 x.1.length c0, Value.slice a1 x.2.length c1]) 38, row 32 1 (.slice a0 x.1.length c0) x.1.length d0, tie (El.sl (El.int .u8)) d0 x.1, row 32 1 (.slice a1 x.2.length c1) x.2.length d1, tie (El.sl (El.int .u8)) d1 x.2] h) h) :: L) w0 w from hs)
 obtain ⟨c1, hs⟩ := St.ex.1 (show St ((fun h => ∃ c1 : Nat, (fun h => ∃ d1 : List Value, Sp [blk b (#[Value.slice a0 x.1.length c0, Value.slice a1 x.2.length c1]) 38, row 32 1 (.slice a0 x.1.length c0) x.1.length d0, tie (El.sl (El.int .u8)) d0 x.1, row 32 1 (.slice a1 x.2.length c1) x.2.length d1, tie (El.sl (El.int .u8)) d1 x.2] h) h) :: L) w0 w from hs)
 obtain ⟨d1, hs⟩ := St.ex.1 (show St ((fun h => ∃ d1 : List Value, (fun h => Sp [blk b (#[Value.slice a0 x.1.length c0, Value.slice a1 x.2.length c1]) 38, row 32 1 (.slice a0 x.1.length c0) x.1.length d0, tie (El.sl (El.int .u8)) d0 x.1, row 32 1 (.slice a1 x.2.length c1) x.2.length d1, tie (El.sl (El.int .u8)) d1 x.2] h) h) :: L) w0 w from hs)
 exact ⟨a0, c0, d0, a1, c1, d1, hi, St.open (m := [blk b (#[Value.slice a0 x.1.length c0, Value.slice a1 x.2.length c1]) 38, row 32 1 (.slice a0 x.1.length c0) x.1.length d0, tie (El.sl (El.int .u8)) d0 x.1, row 32 1 (.slice a1 x.2.length c1) x.2.length d1, tie (El.sl (El.int .u8)) d1 x.2]) hs⟩
theorem V38.close {b : Nat} {l0 : List (List Int)} {l1 : List (List Int)} {a0 : Option Addr} {c0 : Nat} {d0 : List Value} {a1 : Option Addr} {c1 : Nat} {d1 : List Value} {L : List As} {w0 w : World} (hi : True) (hs : Sep.St (blk b (#[Value.slice a0 l0.length c0, Value.slice a1 l1.length c1]) 38 :: row 32 1 (.slice a0 l0.length c0) l0.length d0 :: tie (El.sl (El.int .u8)) d0 l0 :: row 32 1 (.slice a1 l1.length c1) l1.length d1 :: tie (El.sl (El.int .u8)) d1 l1 :: L) w0 w) : Sep.St (V38.at b (l0, l1) :: L) w0 w := by
 have h2 := St.join (m := [blk b (#[Value.slice a0 l0.length c0, Value.slice a1 l1.length c1]) 38, row 32 1 (.slice a0 l0.length c0) l0.length d0, tie (El.sl (El.int .u8)) d0 l0, row 32 1 (.slice a1 l1.length c1) l1.length d1, tie (El.sl (El.int .u8)) d1 l1]) hs
 exact h2.mono fun h hh => ⟨hi, _, _, _, _, _, _, hh⟩
mutual
def station_Station_put.j0 (a1 : (List (List Int) × List (List Int))) (a2 : Int) (a3 : List Int) (x4 : station_Station) (x5 : Bool) : Option (station_Station × (List (List Int) × List (List Int))) := (if x5 = true then (if 0 ≤ a2 ∧ a2 < 2 then (if a2 = 0 then ((slices_Clone_Sbytebyte.f a3).bind fun t12 => (if (a1.1.length : Int) + (([t12] : List (List Int))).length ≤ 1099511627776 then some (x4, (a1.1 ++ ([t12] : List (List Int)), a1.2)) else none)) else ((slices_Clone_Sbytebyte.f a3).bind fun t21 => (if (a1.2.length : Int) + (([t21] : List (List Int))).length ≤ 1099511627776 then some (x4, (a1.1, a1.2 ++ ([t21] : List (List Int)))) else none))) else none) else some (x4, a1))
end
def station_Station_put.f (k : Nat) (a0 : station_Station) (a1 : (List (List Int) × List (List Int))) (a2 : Int) (a3 : List Int) : Option (station_Station × (List (List Int) × List (List Int))) := (if 0 ≤ a2 ∧ a2 < 2 then (if a2 = 0 then ((frame_Put.f k a3 a0.c.Wide).bind fun t33 => ((ring_Ring_Add.f a0.sides.1.ring t33).bind fun t35 => (station_Station_put.j0 a1 a2 a3 ({ a0 with sides := (({ a0.sides.1 with ring := t35.2 } : station_side), a0.sides.2) } : station_Station) t35.1))) else ((frame_Put.f k a3 a0.c.Wide).bind fun t38 => ((ring_Ring_Add.f a0.sides.2.ring t38).bind fun t40 => (station_Station_put.j0 a1 a2 a3 ({ a0 with sides := (a0.sides.1, ({ a0.sides.2 with ring := t40.2 } : station_side)) } : station_Station) t40.1)))) else none)
theorem station_Station_put.calls {k : Nat} {a0 : station_Station} {a1 : (List (List Int) × List (List Int))} {a2 : Int} {a3 : List Int} {R : As} {w0 w : World} {b0 : Nat} {b1 : Nat} {sa3 : Option Addr} {sc3 : Nat} {r : station_Station × (List (List Int) × List (List Int))} (H : station_Station_put.f k a0 a1 a2 a3 = some r) (HS : Sep.St [station_Station.at b0 a0, V38.at b1 a1, fsl 1 (.slice sa3 a3.length sc3) a3.length (a3.map (Value.int .u8)), R] w0 w)  : Calls Tryz.prog 58 #[Value.pointer (some ⟨b0, 0, none⟩), Value.pointer (some ⟨b1, 0, none⟩), Value.int .i64 a2, Value.slice sa3 a3.length sc3] w (Ret fun u w => u = Value.tuple #[] ∧ Sep.St [station_Station.at b0 r.1, V38.at b1 r.2, R] w0 w) := by
 unfold station_Station_put.f at H
 refine calls_enter Tryz.func58 rfl rfl ?_
 have H : _ = some r := H
 refine V.meet (σ := station_Station × Bool) (fun st w => match st with | (x4, x5) => Sep.St [station_Station.at b0 x4, V38.at b1 a1, fsl 1 (.slice sa3 a3.length sc3) a3.length (a3.map (Value.int .u8)), R] w0 w ∧ station_Station_put.j0 a1 a2 a3 x4 x5 = some r) (fun st => match st with | (x4, x5) => [(1, Value.pointer (some ⟨b1, 0, none⟩)), (2, Value.int .i64 a2), (3, Value.slice sa3 a3.length sc3), (22, Value.bool x5)]) ?_ ?_
 ·obtain ⟨b16_29, b17_29, b18_29, b22_29, b23_29, b24_29, b32_29, b33_29, b34_29, hi30, HS⟩ := station_Station.open HS
  obtain ⟨c31, H⟩ := ite_n H
  by_cases c32 : a2 = 0
  ·replace H := ite_t c32 H
   refine V.dr [13, 14] [] [(8, Value.pointer (some ⟨b0, 0, none⟩)), (9, Value.int .i64 a2), (10, Value.pointer (some ⟨b0, 0, none⟩)), (11, Value.pointer (some ⟨b0, 0 + 22, none⟩)), (12, Value.pointer (some ⟨b0, 0 + 22 + 0 * 10, none⟩)), (13, Value.pointer (some ⟨b0, 0 + 22 + 0 * 10 + 2, none⟩)), (14, Value.pointer (some ⟨b24_29, 0, none⟩)), (15, Value.slice sa3 a3.length sc3), (16, Value.pointer (some ⟨b0, 0, none⟩)), (17, Value.pointer (some ⟨b0, 0, none⟩)), (18, Value.pointer (some ⟨b0, 0 + 0, none⟩)), (19, Value.pointer (some ⟨b0, 0 + 0 + 15, none⟩)), (20, Value.bool a0.c.Wide)] mo HS ?_
   refine T.ev [(15, _), (20, _)] [] [7, 8, 9, 10, 11, 12] ⟨rfl, rfl, trivial⟩ ⟨.mv 0, .mv 2, .nc 8, .fa 10 fo87_7, .n2 9 11 rfl rfl rfl (fun w HS => X.indexArK 0 c32 Tryz.underlying85 inf84 rfl rfl c31.1 c31.2), .fa 12 fo84_2, .ld 13 0 Tryz.underlying82, .mv 3, .mv 0, .nc 16, .fa 17 fo87_0, .fa 18 fo28_15, .ld 19 0 Tryz.underlying4, trivial⟩ rfl (fun w HS => ?_)
   replace HS := HS.more 11 rfl (fun _ t => t) fsl.pers
   obtain ⟨t33, A34, H⟩ := bind_s H
   refine ⟨_, Y.cl Tryz.func129 (frame_Put.calls A34 HS.j1), ?_⟩
   rintro _ w ⟨at33_0, ct33_0, rfl, HS⟩
   replace HS := HS.o1
   refine T.nw HS ?_
   refine T.ev [(14, _), (21, _)] [] [0, 1, 2, 3, 4, 5, 6] ⟨rfl, rfl, trivial⟩ ⟨.mv 0, .mv 2, .nc 8, .fa 10 fo87_7, .n2 9 11 rfl rfl rfl (fun w HS => X.indexArK 0 c32 Tryz.underlying85 inf84 rfl rfl c31.1 c31.2), .fa 12 fo84_2, .ld 13 1 Tryz.underlying82, trivial⟩ rfl (fun w HS => ?_)
   obtain ⟨t35, A36, H⟩ := bind_s H
   replace HS := HS.pm [7, 0, 1, 2, 3, 4, 5, 6, 8, 9, 10, 11, 12, 13]
   refine ⟨_, Y.cl Tryz.func128 (ring_Ring_Add.calls A36 HS.j1 (rdC.part 0 row_rd rfl)), ?_⟩
   rintro _ w ⟨rfl, HS⟩
   replace HS := HS.o1
   refine T.nw HS ?_
   refine T.fn [(1, _), (2, _), (3, _), (22, _)] ⟨rfl, rfl, rfl, rfl, trivial⟩ trivial (fun w HS => ?_)
   replace HS := HS.pm [2, 3, 4, 5, 6, 7, 0, 8, 9, 10, 1, 11, 12, 13]
   replace HS := station_Station.close trivial HS
   replace HS := HS.pk [0, 2, 3, 4] [1]
   exact At.meet (({ a0 with sides := (({ a0.sides.1 with ring := t35.2 } : station_side), a0.sides.2) } : station_Station), t35.1) ⟨rfl, rfl, rfl, rfl, trivial⟩ ⟨HS, H⟩
  ·replace H := ite_f c32 H
   have hk37 : a2 = 1 := by omega
   refine V.dr [13, 14] [] [(8, Value.pointer (some ⟨b0, 0, none⟩)), (9, Value.int .i64 a2), (10, Value.pointer (some ⟨b0, 0, none⟩)), (11, Value.pointer (some ⟨b0, 0 + 22, none⟩)), (12, Value.pointer (some ⟨b0, 0 + 22 + 1 * 10, none⟩)), (13, Value.pointer (some ⟨b0, 0 + 22 + 1 * 10 + 2, none⟩)), (14, Value.pointer (some ⟨b34_29, 0, none⟩)), (15, Value.slice sa3 a3.length sc3), (16, Value.pointer (some ⟨b0, 0, none⟩)), (17, Value.pointer (some ⟨b0, 0, none⟩)), (18, Value.pointer (some ⟨b0, 0 + 0, none⟩)), (19, Value.pointer (some ⟨b0, 0 + 0 + 15, none⟩)), (20, Value.bool a0.c.Wide)] mo HS ?_
   refine T.ev [(15, _), (20, _)] [] [7, 8, 9, 10, 11, 12] ⟨rfl, rfl, trivial⟩ ⟨.mv 0, .mv 2, .nc 8, .fa 10 fo87_7, .n2 9 11 rfl rfl rfl (fun w HS => X.indexArK 1 hk37 Tryz.underlying85 inf84 rfl rfl c31.1 c31.2), .fa 12 fo84_2, .ld 13 0 Tryz.underlying82, .mv 3, .mv 0, .nc 16, .fa 17 fo87_0, .fa 18 fo28_15, .ld 19 0 Tryz.underlying4, trivial⟩ rfl (fun w HS => ?_)
   replace HS := HS.more 11 rfl (fun _ t => t) fsl.pers
   obtain ⟨t38, A39, H⟩ := bind_s H
   refine ⟨_, Y.cl Tryz.func129 (frame_Put.calls A39 HS.j1), ?_⟩
   rintro _ w ⟨at38_0, ct38_0, rfl, HS⟩
   replace HS := HS.o1
   refine T.nw HS ?_
   refine T.ev [(14, _), (21, _)] [] [0, 1, 2, 3, 4, 5, 6] ⟨rfl, rfl, trivial⟩ ⟨.mv 0, .mv 2, .nc 8, .fa 10 fo87_7, .n2 9 11 rfl rfl rfl (fun w HS => X.indexArK 1 hk37 Tryz.underlying85 inf84 rfl rfl c31.1 c31.2), .fa 12 fo84_2, .ld 13 1 Tryz.underlying82, trivial⟩ rfl (fun w HS => ?_)
   obtain ⟨t40, A41, H⟩ := bind_s H
   replace HS := HS.pm [10, 0, 1, 2, 3, 4, 5, 6, 7, 8, 9, 11, 12, 13]
   refine ⟨_, Y.cl Tryz.func128 (ring_Ring_Add.calls A41 HS.j1 (rdC.part 0 row_rd rfl)), ?_⟩
   rintro _ w ⟨rfl, HS⟩
   replace HS := HS.o1
   refine T.nw HS ?_
   refine T.fn [(1, _), (2, _), (3, _), (22, _)] ⟨rfl, rfl, rfl, rfl, trivial⟩ trivial (fun w HS => ?_)
   replace HS := HS.pm [2, 3, 4, 5, 6, 7, 8, 9, 10, 0, 1, 11, 12, 13]
   replace HS := station_Station.close trivial HS
   replace HS := HS.pk [0, 2, 3, 4] [1]
   exact At.meet (({ a0 with sides := (a0.sides.1, ({ a0.sides.2 with ring := t40.2 } : station_side)) } : station_Station), t40.1) ⟨rfl, rfl, rfl, rfl, trivial⟩ ⟨HS, H⟩
 ·rintro ⟨x4, x5⟩ w ⟨HS, H⟩
  unfold station_Station_put.j0 at H
  by_cases c7 : x5 = true
  ·replace H := ite_t c7 H
   refine V.condT (sb c7) ?_
   obtain ⟨c8, H⟩ := ite_n H
   replace HS := HS.fr 1
   obtain ⟨a0_9, c0_9, d0_9, a1_9, c1_9, d1_9, hi10, HS⟩ := V38.open HS
   by_cases c11 : a2 = 0
   ·replace H := ite_t c11 H
    refine V.dr [8, 9, 10, 13] [12] [(23, Value.pointer (some ⟨b1, 0, none⟩)), (24, Value.int .i64 a2), (25, Value.pointer (some ⟨b1, 0, none⟩)), (26, Value.int .i64 a2), (27, Value.pointer (some ⟨b1, 0, none⟩)), (28, Value.pointer (some ⟨b1, 0 + 0 * 1, none⟩)), (29, Value.slice a0_9 a1.1.length c0_9), (30, Value.slice sa3 a3.length sc3), (34, Value.pointer (some ⟨b1, 0, none⟩))] mo HS ?_
    refine T.ev [(30, _)] [12] [7] ⟨rfl, trivial⟩ ⟨.mv 1, .mv 2, .mv 1, .mv 2, .nc 25, .n2 26 27 rfl rfl rfl (fun w HS => X.indexArK 0 c11 Tryz.underlying38 inf37 rfl rfl c8.1 c8.2), .ld 28 0 Tryz.underlying37, .mv 3, .nc 23, trivial⟩ rfl (fun w HS => ?_)
    obtain ⟨t12, A13, H⟩ := bind_s H
    refine ⟨_, Y.cl Tryz.func130 (slices_Clone_Sbytebyte.calls A13 HS.j0 (rdC.part 6 fsl.rd rfl)), ?_⟩
    rintro _ w ⟨at12_0, ct12_0, rfl, HS⟩
    replace HS := HS.o1
    refine T.nw HS ?_
    refine T.ev [(31, _)] [12] [] ⟨rfl, trivial⟩ ⟨.mv 1, .mv 2, .mv 1, .mv 2, .nc 25, .n2 26 27 rfl rfl rfl (fun w HS => X.indexArK 0 c11 Tryz.underlying38 inf37 rfl rfl c8.1 c8.2), .ld 28 1 Tryz.underlying37, .nc 23, trivial⟩ rfl (fun w HS => ?_)
    replace HS := St.row_freeze HS
    refine ⟨_, Y.lc (e := 32) (sz := 1) [Value.slice at12_0 t12.length ct12_0] HS rfl rfl (fun _ => by kernel_rfl), ?_⟩
    rintro _ w ⟨lb14, rfl, HS⟩
    replace HS := St.put (A := tie (El.sl (El.int .u8)) ([]) (([] : List (List Int)))) (fun _ => tie.nil) HS
    replace HS := HS.more 2 rfl (fun _ t => t) fsl.pers
    replace HS := St.put (A := tie (El.int .u8) (t12.map (Value.int .u8)) t12) (fun _ => int_tie) HS
    replace HS := St.swap HS
    replace HS := St.sl_close (E := (El.int .u8)) HS
    replace HS := HS.fr 1
    replace HS := HS.fr 1
    replace HS := St.tie_cons HS
    refine T.nw HS ?_
    refine T.ev [(29, _), (32, _)] [] [2, 3, 4, 5, 6] ⟨rfl, rfl, trivial⟩ ⟨.mv 1, .mv 2, .mv 1, .mv 2, .nc 25, .n2 26 27 rfl rfl rfl (fun w HS => X.indexArK 0 c11 Tryz.underlying38 inf37 rfl rfl c8.1 c8.2), .ld 28 3 Tryz.underlying37, .nc 23, trivial⟩ rfl (fun w HS => ?_)
    obtain ⟨c17, H⟩ := ite_n H
    refine ⟨_, Y.app (xs := a1.1) (ys := ([t12] : List (List Int))) 4 Tryz.underlying37 ap32 rfl (by decide) HS rfl rfl rfl (rdC.at 1 row_rd HS rfl) (St.tie_one 0 HS rfl) (by omega) (by omega), ?_⟩
    rintro _ w ⟨ra18, rc19, rfl, HS⟩
    replace HS := HS.fr 5
    replace HS := St.tie_app 1 HS rfl
    refine T.nm [(33, Value.slice ra18 (a1.1 ++ ([t12] : List (List Int))).length rc19), (35, Value.pointer (some ⟨b1, 0 + 0 * 1, none⟩))] HS ⟨.inl ⟨rfl, rfl⟩, ⟨.inr ⟨by decide, rfl⟩, trivial⟩⟩ ?_
    refine T.ev [(33, _), (35, _)] [] [0, 1, 11, 12] ⟨rfl, rfl, trivial⟩ ⟨.mv 1, .mv 2, .nc 23, .n2 24 34 rfl rfl rfl (fun w HS => X.indexArK 0 c11 Tryz.underlying38 inf37 rfl rfl c8.1 c8.2), trivial⟩ rfl (fun w HS => ?_)
    refine ⟨_, Y.sto 4 0 HS inf37 rfl rfl rfl rfl rfl rfl, ?_⟩
    rintro _ w HS
    refine T.nn HS ?_
    refine T.fn [] trivial trivial (fun w HS => ?_)
    replace HS := HS.pm [4, 5, 0, 6, 7, 1, 2, 3, 8, 9, 10]
    replace HS := V38.close trivial HS
    replace HS := HS.pk [4, 0, 6] [1, 2, 3, 5]
    cases H
    exact At.end0 rfl ⟨_, rfl, rfl, HS⟩
   ·replace H := ite_f c11 H
    have hk20 : a2 = 1 := by omega
    refine V.dr [8, 9, 10, 13] [12] [(23, Value.pointer (some ⟨b1, 0, none⟩)), (24, Value.int .i64 a2), (25, Value.pointer (some ⟨b1, 0, none⟩)), (26, Value.int .i64 a2), (27, Value.pointer (some ⟨b1, 0, none⟩)), (28, Value.pointer (some ⟨b1, 0 + 1 * 1, none⟩)), (29, Value.slice a1_9 a1.2.length c1_9), (30, Value.slice sa3 a3.length sc3), (34, Value.pointer (some ⟨b1, 0, none⟩))] mo HS ?_
    refine T.ev [(30, _)] [12] [7] ⟨rfl, trivial⟩ ⟨.mv 1, .mv 2, .mv 1, .mv 2, .nc 25, .n2 26 27 rfl rfl rfl (fun w HS => X.indexArK 1 hk20 Tryz.underlying38 inf37 rfl rfl c8.1 c8.2), .ld 28 0 Tryz.underlying37, .mv 3, .nc 23, trivial⟩ rfl (fun w HS => ?_)
    obtain ⟨t21, A22, H⟩ := bind_s H
    refine ⟨_, Y.cl Tryz.func130 (slices_Clone_Sbytebyte.calls A22 HS.j0 (rdC.part 6 fsl.rd rfl)), ?_⟩
    rintro _ w ⟨at21_0, ct21_0, rfl, HS⟩
    replace HS := HS.o1
    refine T.nw HS ?_
    refine T.ev [(31, _)] [12] [] ⟨rfl, trivial⟩ ⟨.mv 1, .mv 2, .mv 1, .mv 2, .nc 25, .n2 26 27 rfl rfl rfl (fun w HS => X.indexArK 1 hk20 Tryz.underlying38 inf37 rfl rfl c8.1 c8.2), .ld 28 1 Tryz.underlying37, .nc 23, trivial⟩ rfl (fun w HS => ?_)
    replace HS := St.row_freeze HS
    refine ⟨_, Y.lc (e := 32) (sz := 1) [Value.slice at21_0 t21.length ct21_0] HS rfl rfl (fun _ => by kernel_rfl), ?_⟩
    rintro _ w ⟨lb23, rfl, HS⟩
    replace HS := St.put (A := tie (El.sl (El.int .u8)) ([]) (([] : List (List Int)))) (fun _ => tie.nil) HS
    replace HS := HS.more 2 rfl (fun _ t => t) fsl.pers
    replace HS := St.put (A := tie (El.int .u8) (t21.map (Value.int .u8)) t21) (fun _ => int_tie) HS
    replace HS := St.swap HS
    replace HS := St.sl_close (E := (El.int .u8)) HS
    replace HS := HS.fr 1
    replace HS := HS.fr 1
    replace HS := St.tie_cons HS
    refine T.nw HS ?_
    refine T.ev [(29, _), (32, _)] [] [2, 3, 4, 5, 6] ⟨rfl, rfl, trivial⟩ ⟨.mv 1, .mv 2, .mv 1, .mv 2, .nc 25, .n2 26 27 rfl rfl rfl (fun w HS => X.indexArK 1 hk20 Tryz.underlying38 inf37 rfl rfl c8.1 c8.2), .ld 28 3 Tryz.underlying37, .nc 23, trivial⟩ rfl (fun w HS => ?_)
    obtain ⟨c26, H⟩ := ite_n H
    refine ⟨_, Y.app (xs := a1.2) (ys := ([t21] : List (List Int))) 6 Tryz.underlying37 ap32 rfl (by decide) HS rfl rfl rfl (rdC.at 1 row_rd HS rfl) (St.tie_one 0 HS rfl) (by omega) (by omega), ?_⟩
    rintro _ w ⟨ra27, rc28, rfl, HS⟩
    replace HS := HS.fr 7
    replace HS := St.tie_app 1 HS rfl
    refine T.nm [(33, Value.slice ra27 (a1.2 ++ ([t21] : List (List Int))).length rc28), (35, Value.pointer (some ⟨b1, 0 + 1 * 1, none⟩))] HS ⟨.inl ⟨rfl, rfl⟩, ⟨.inr ⟨by decide, rfl⟩, trivial⟩⟩ ?_
    refine T.ev [(33, _), (35, _)] [] [0, 1, 11, 12] ⟨rfl, rfl, trivial⟩ ⟨.mv 1, .mv 2, .nc 23, .n2 24 34 rfl rfl rfl (fun w HS => X.indexArK 1 hk20 Tryz.underlying38 inf37 rfl rfl c8.1 c8.2), trivial⟩ rfl (fun w HS => ?_)
    refine ⟨_, Y.sto 4 1 HS inf37 rfl rfl rfl rfl rfl rfl, ?_⟩
    rintro _ w HS
    refine T.nn HS ?_
    refine T.fn [] trivial trivial (fun w HS => ?_)
    replace HS := HS.pm [4, 5, 6, 7, 0, 1, 2, 3, 8, 9, 10]
    replace HS := V38.close trivial HS
    replace HS := HS.pk [4, 0, 6] [1, 2, 3, 5]
    cases H
    exact At.end0 rfl ⟨_, rfl, rfl, HS⟩
  ·replace H := ite_f c7 H
   refine V.condF (sb (b_f c7)) (V.skip ?_)
   replace HS := HS.pk [0, 1, 3] [2]
   cases H
   exact At.end0 rfl ⟨_, rfl, rfl, HS⟩
def aps_Aps_Request.f (a0 : aps_Aps) : Option Int := some a0.own
theorem aps_Aps_Request.calls {a0 : aps_Aps} {R : As} {w0 w : World} {b0 : Nat} {r : Int} (H : aps_Aps_Request.f a0 = some r) (HS : Sep.St [blk b0 (#[Value.int .i64 a0.hold, Value.int .i64 a0.wait, Value.bool a0.revert, Value.int .i64 a0.command, Value.int .i64 a0.remote, Value.int .i64 a0.own, Value.int .i64 a0.bad, Value.int .i64 a0.left, Value.int .i64 a0.line]) 138, R] w0 w)  : Calls Tryz.prog 60 #[Value.pointer (some ⟨b0, 0, none⟩)] w (Ret fun u w => u = Value.int .i64 r ∧ Sep.St [blk b0 (#[Value.int .i64 a0.hold, Value.int .i64 a0.wait, Value.bool a0.revert, Value.int .i64 a0.command, Value.int .i64 a0.remote, Value.int .i64 a0.own, Value.int .i64 a0.bad, Value.int .i64 a0.left, Value.int .i64 a0.line]) 138, R] w0 w) := by
 unfold aps_Aps_Request.f at H
 refine calls_enter Tryz.func60 rfl rfl ?_
 have H : _ = some r := H
 refine V.seq (V.region (W.as rfl (W.nx (V.seq (V.region (W.mv rfl (W.nc rfl (W.fa fo138_5 rfl (W.ld 0 HS Tryz.underlying3 rfl rfl rfl rfl (W.as rfl (W.nx (V.ret ?_))))))))))))
 cases H
 exact At.ret1 rfl rfl ⟨_, rfl, rfl, HS⟩
mutual
def kcode_Put.j0  (x3 : Int) : Option (List Int) := some ([x3, icom .u8 x3] : List Int)
end
def kcode_Put.f (a0 : Int) (a1 : Int) : Option (List Int) := ((request_Of.f a0).bind fun t1 => (if a1 = 1 then (kcode_Put.j0 (IntKind.u8.wrap ((IntKind.u8.wrap (w64 (t1 * 16))) + 1))) else (kcode_Put.j0 (IntKind.u8.wrap (w64 (t1 * 16))))))
theorem kcode_Put.calls {a0 : Int} {a1 : Int} {R : As} {w0 w : World}  {r : List Int} (H : kcode_Put.f a0 a1 = some r) (HS : Sep.St [R] w0 w)  : Calls Tryz.prog 59 #[Value.int .i64 a0, Value.int .i64 a1] w (Ret fun u w => ∃ (aq0 : Option Addr) (cq0 : Nat), u = Value.slice aq0 r.length cq0 ∧ Sep.St [row 5 1 (.slice aq0 r.length cq0) r.length (r.map (Value.int .u8)), R] w0 w) := by
 unfold kcode_Put.f at H
 refine calls_enter Tryz.func59 rfl rfl ?_
 have H : _ = some r := H
 refine V.seq (V.region (W.as rfl (W.nx (V.seq (V.region (W.mv rfl ?_))))))
 obtain ⟨t1, A2, H⟩ := bind_s H
 refine W.e (Y.cl Tryz.func131 (request_Of.calls A2 HS.j0)) rfl ?_
 rintro _ w ⟨rfl, HS⟩
 replace HS := HS.o0
 refine W.r (X.mul rfl rfl) rfl (W.r (X.conv Tryz.underlying3 Tryz.underlying5 rfl) rfl (W.as rfl (W.nx (V.meet (σ := Int) (fun st w => match st with | x3 => Sep.St [R] w0 w ∧ kcode_Put.j0 x3 = some r) (fun st => match st with | x3 => [(5, Value.int .u8 x3)]) ?_ ?_))))
 ·refine V.seq (V.region (W.mv rfl (W.r (X.cmp (decide (a1 = 1)) rfl rfl rfl rfl) rfl (W.nx ?_))))
  by_cases c8 : a1 = 1
  ·replace H := ite_t c8 H
   refine V.condT (sb (decide_eq_true c8)) (V.region (W.mv rfl (W.r (X.add rfl rfl) rfl (W.as rfl (W.nil ?_)))))
   exact At.meet (IntKind.u8.wrap ((IntKind.u8.wrap (w64 (t1 * 16))) + 1)) ⟨rfl, trivial⟩ ⟨HS, H⟩
  ·replace H := ite_f c8 H
   refine V.condF (sb (decide_eq_false c8)) (V.skip ?_)
   exact At.meet (IntKind.u8.wrap (w64 (t1 * 16))) ⟨rfl, trivial⟩ ⟨HS, H⟩
 ·rintro x3 w ⟨HS, H⟩
  unfold kcode_Put.j0 at H
  refine V.seq (V.region (W.mv rfl (W.mv rfl (W.r (X.com rfl) rfl (W.e (Y.ls (e := 5) (Value.int .u8) ([x3, icom .u8 x3] : List Int) HS rfl rfl (fun _ => by kernel_rfl)) rfl ?_)))))
  rintro _ w ⟨lb7, rfl, HS⟩
  refine W.as rfl (W.nx (V.ret ?_))
  cases H
  exact At.ret1 rfl rfl ⟨_, rfl, (some ⟨lb7, 0, none⟩), 2, rfl, HS⟩
end Go.Proofs.YtodbopebbmplaaaGreat

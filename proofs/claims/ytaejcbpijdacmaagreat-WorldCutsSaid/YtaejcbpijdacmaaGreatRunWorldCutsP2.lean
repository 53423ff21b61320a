/- WorldCuts: the functions that its law reaches, as plain functions, and that the machine's calls come to what these say. Conditions: those that stand at each. -/
import Derived.Test.YtaejcbpijdacmaaGreatRunWorldCutsP1
set_option linter.all false
set_option maxRecDepth 100000
set_option maxHeartbeats 4000000
set_option synthInstance.maxSize 100000
set_option synthInstance.maxHeartbeats 1000000
namespace Go.Proofs.YtaejcbpijdacmaaGreat
open Go.RowKit Go.Proofs.YtaejcbpijdacmaaGreat.Sep Go.Proofs.YtaejcbpijdacmaaGreat.Walk Go.Proofs.Tryz
def arq_Arq_put.f (k : Nat) (a0 : arq_Arq) (a1 : Int) (a2 : api_Ctl) (a3 : List Int) : Option arq_Arq := ((control_Bytes.f a2 a0.m).bind fun t7 => ((slices_Concat_Sbytebyte.f k ([([IntKind.u8.wrap (a1.fdiv (2 ^ (min (8 : Int).toNat IntKind.i64.bits))), IntKind.u8.wrap a1] : List Int), t7, a3] : List (List Int))).bind fun t12 => (if (a0.out.length : Int) + (([t12] : List (List Int))).length ≤ 1099511627776 then some (({ a0 with out := a0.out ++ ([t12] : List (List Int)) } : arq_Arq)) else none)))
theorem arq_Arq_put.calls {k : Nat} {a0 : arq_Arq} {a1 : Int} {a2 : api_Ctl} {a3 : List Int} {R : As} {w0 w : World} {b0 : Nat} {sa3 : Option Addr} {sc3 : Nat} {r : arq_Arq} (H : arq_Arq_put.f k a0 a1 a2 a3 = some r) (HS : Sep.St [arq_Arq.at b0 a0, fsl 1 (.slice sa3 a3.length sc3) a3.length (a3.map (Value.int .u8)), R] w0 w)  : Calls Tryz.prog 176 #[pt b0, vi a1, Value.agg #[vi a2.Kind, vi a2.Ns, vi a2.Nr, vb a2.Poll], vs sa3 a3.length sc3] w (Ret fun u w => u = Value.tuple #[] ∧ Sep.St [arq_Arq.at b0 r, R] w0 w) := by
 unfold arq_Arq_put.f at H
 refine calls_enter func176 rfl rfl ?_
 have H : _ = some r := H
 refine V.seq (V.region (W.e (Y.box HS rfl) rfl ?_))
 rintro _ w ⟨nb1, rfl, HS⟩
 refine W.nx ?_
 replace HS := HS.fr 1
 obtain ⟨b8_2, b9_2, b10_2, a11_2, c11_2, d11_2, a12_2, c12_2, hi3, HS⟩ := arq_Arq.open HS
 refine V.dr [10, 16, 18, 19, 20, 21, 24] [22, 23] [(8, pt b0), (9, pt b0), (10, pt b0), (11, po b0 (0 + 11)), (12, vs a11_2 a0.out.length c11_2), (13, vi a1), (14, vi (a1.fdiv (2 ^ (min (8 : Int).toNat IntKind.i64.bits)))), (15, Value.int .u8 (IntKind.u8.wrap (a1.fdiv (2 ^ (min (8 : Int).toNat IntKind.i64.bits))))), (16, vi a1), (17, Value.int .u8 (IntKind.u8.wrap a1)), (19, Value.agg #[vi a2.Kind, vi a2.Ns, vi a2.Nr, vb a2.Poll]), (20, pt b0), (21, pt b0), (22, po b0 (0 + 0)), (23, vi a0.m), (25, vs sa3 a3.length sc3)] mo HS ?_
 refine T.two rfl rfl ⟨.mv 0, .mv 0, .nc 9, .fa 10 fo158_11, .ld 11 0 underlying35, .mv 1, .n1 13 rfl rfl (fun w HS => X.shr rfl rfl (by decide)), .n1 14 rfl rfl (fun w HS => X.conv underlying3 underlying5 rfl), .mv 1, .n1 16 rfl rfl (fun w HS => X.conv underlying3 underlying5 rfl), .n1 6 rfl rfl (fun w HS => X.loadSt 7 [vi a2.Kind, vi a2.Ns, vi a2.Nr, vb a2.Poll] HS rfl underlying161 rfl inf161 rfl rfl), .mv 0, .nc 20, .fa 21 fo158_0, .ld 22 0 underlying3, .mv 3, tv⟩ (T.step (es := [16, 18, 19, 20, 21, 24]) _ [(15, Value.int .u8 (IntKind.u8.wrap (a1.fdiv (2 ^ (min (8 : Int).toNat IntKind.i64.bits))))), (17, Value.int .u8 (IntKind.u8.wrap a1))] rfl ⟨.inr ⟨rfl, rfl⟩, ⟨.inr ⟨rfl, rfl⟩, tv⟩⟩ (Or.inl rfl) (by intro d hd; cases hd; exact ⟨by decide, rfl, rfl⟩) [22, 23] [5, 6, 7, 8, 9] rfl rfl rfl rfl rfl (fun w HS => ?_)) (T.step (es := [10, 18, 19, 20, 21, 24]) _ [(19, Value.agg #[vi a2.Kind, vi a2.Ns, vi a2.Nr, vb a2.Poll]), (23, vi a0.m)] rfl ⟨.inr ⟨rfl, rfl⟩, ⟨.inr ⟨rfl, rfl⟩, tv⟩⟩ (Or.inl rfl) (by intro d hd; cases hd; exact ⟨by decide, rfl, rfl⟩) [22, 23] [11, 12, 13, 14, 15] rfl rfl rfl rfl rfl (fun w HS => ?_))
 ·have HS : Sep.St [blk b0 (#[vi a0.m, vi a0.t1, vi a0.n2, vi a0.size, vi a0.state, vi a0.tag, vi a0.tries, vb a0.rejected, pt b8_2, pt b9_2, pt b10_2, vs a11_2 a0.out.length c11_2, vs a12_2 a0.inds.length c12_2, vi a0.sent, vi a0.acked, vi a0.lost]) 158, backlog_Log.at b8_2 a0.log, reorder_Order.at b9_2 a0.order, clock_Set.at b10_2 a0.timers, row 48 1 (.slice a11_2 a0.out.length c11_2) a0.out.length d11_2, tie (El.sl (El.int .u8)) d11_2 a0.out, row 3 1 (.slice a12_2 a0.inds.length c12_2) a0.inds.length (a0.inds.map (Value.int .i64)), blk nb1 (#[vi a2.Kind, vi a2.Ns, vi a2.Nr, vb a2.Poll]) 161, fsl 1 (.slice sa3 a3.length sc3) a3.length (a3.map (Value.int .u8)), R] w0 w := HS
  refine ⟨_, Y.ls (e := 5) (Value.int .u8) ([IntKind.u8.wrap (a1.fdiv (2 ^ (min (8 : Int).toNat IntKind.i64.bits))), IntKind.u8.wrap a1] : List Int) HS rfl rfl (fun _ => by kernel_rfl), ?_⟩
  rintro _ w ⟨lb6, rfl, HS⟩
  refine T.nw HS ?_
  refine T.ev [(19, _), (23, _)] [22, 23] [11, 12, 13, 14, 15] ⟨rfl, rfl, tv⟩ ⟨.mv 0, .mv 0, .nc 9, .fa 10 fo158_11, .ld 11 1 underlying35, .n1 6 rfl rfl (fun w HS => X.loadSt 8 [vi a2.Kind, vi a2.Ns, vi a2.Nr, vb a2.Poll] HS rfl underlying161 rfl inf161 rfl rfl), .mv 0, .nc 20, .fa 21 fo158_0, .ld 22 1 underlying3, .mv 3, tv⟩ rfl (fun w HS => ?_)
  obtain ⟨t7, A8, H⟩ := bind_s H
  refine ⟨_, Y.cl func230 (control_Bytes.calls A8 HS.j0), ?_⟩
  rintro _ w ⟨at7_0, ct7_0, rfl, HS⟩
  replace HS := HS.o1
  refine T.nw HS ?_
  refine T.ev [(18, _), (24, _), (25, _)] [22, 23] [17] ⟨rfl, rfl, rfl, tv⟩ ⟨.mv 0, .mv 0, .nc 9, .fa 10 fo158_11, .ld 11 2 underlying35, .mv 3, tv⟩ rfl (fun w HS => ?_)
  replace HS := HS.fr 1
  replace HS := St.row_freeze HS
  replace HS := HS.fr 1
  replace HS := St.row_freeze HS
  refine ⟨_, Y.lc (e := 48) (sz := 1) [vs (some ⟨lb6, 0, none⟩) (([IntKind.u8.wrap (a1.fdiv (2 ^ (min (8 : Int).toNat IntKind.i64.bits))), IntKind.u8.wrap a1] : List Int)).length 2, vs at7_0 t7.length ct7_0, vs sa3 a3.length sc3] HS rfl rfl (fun _ => by kernel_rfl), ?_⟩
  rintro _ w ⟨lb9, rfl, HS⟩
  replace HS := St.put (A := tie (El.sl (El.int .u8)) ([]) (([] : List (List Int)))) (fun _ => tie.nil) HS
  replace HS := HS.more 12 rfl (fun _ t => t) fsl.pers
  replace HS := St.put (A := tie (El.int .u8) (a3.map (Value.int .u8)) a3) (fun _ => int_tie) HS
  replace HS := St.swap HS
  replace HS := St.sl_close (E := (El.int .u8)) HS
  replace HS := HS.fr 1
  replace HS := HS.fr 1
  replace HS := St.tie_cons HS
  replace HS := HS.more 2 rfl (fun _ t => t) fsl.pers
  replace HS := St.put (A := tie (El.int .u8) (t7.map (Value.int .u8)) t7) (fun _ => int_tie) HS
  replace HS := St.swap HS
  replace HS := St.sl_close (E := (El.int .u8)) HS
  replace HS := HS.fr 1
  replace HS := HS.fr 1
  replace HS := St.tie_cons HS
  replace HS := HS.more 3 rfl (fun _ t => t) fsl.pers
  replace HS := St.put (A := tie (El.int .u8) ((([IntKind.u8.wrap (a1.fdiv (2 ^ (min (8 : Int).toNat IntKind.i64.bits))), IntKind.u8.wrap a1] : List Int)).map (Value.int .u8)) (([IntKind.u8.wrap (a1.fdiv (2 ^ (min (8 : Int).toNat IntKind.i64.bits))), IntKind.u8.wrap a1] : List Int))) (fun _ => int_tie) HS
  replace HS := St.swap HS
  replace HS := St.sl_close (E := (El.int .u8)) HS
  replace HS := HS.fr 1
  replace HS := HS.fr 1
  replace HS := St.tie_cons HS
  refine T.nw HS ?_
  refine T.ev [(26, _)] [22, 23] [] ⟨rfl, tv⟩ ⟨.mv 0, .mv 0, .nc 9, .fa 10 fo158_11, .ld 11 4 underlying35, tv⟩ rfl (fun w HS => ?_)
  obtain ⟨t12, A13, H⟩ := bind_s H
  refine ⟨_, Y.cl func187 (slices_Concat_Sbytebyte.calls A13 HS.j0 (rdC.part 1 row_rd rfl) (fun h hh => let ⟨_, l, t⟩ := Sp.has 0 hh rfl; tie.mono t l)), ?_⟩
  rintro _ w ⟨at12_0, ct12_0, rfl, HS⟩
  replace HS := HS.o1
  refine T.nw HS ?_
  refine T.ev [(27, _)] [22, 23] [] ⟨rfl, tv⟩ ⟨.mv 0, .mv 0, .nc 9, .fa 10 fo158_11, .ld 11 5 underlying35, tv⟩ rfl (fun w HS => ?_)
  replace HS := St.row_freeze HS
  refine ⟨_, Y.lc (e := 48) (sz := 1) [vs at12_0 t12.length ct12_0] HS rfl rfl (fun _ => by kernel_rfl), ?_⟩
  rintro _ w ⟨lb14, rfl, HS⟩
  replace HS := St.put (A := tie (El.sl (El.int .u8)) ([]) (([] : List (List Int)))) (fun _ => tie.nil) HS
  replace HS := HS.more 2 rfl (fun _ t => t) fsl.pers
  replace HS := St.put (A := tie (El.int .u8) (t12.map (Value.int .u8)) t12) (fun _ => int_tie) HS
  replace HS := St.swap HS
  replace HS := St.sl_close (E := (El.int .u8)) HS
  replace HS := HS.fr 1
  replace HS := HS.fr 1
  replace HS := St.tie_cons HS
  refine T.nw HS ?_
  refine T.ev [(12, _), (28, _)] [] [1, 2, 3, 4] ⟨rfl, rfl, tv⟩ ⟨.mv 0, .mv 0, .nc 9, .fa 10 fo158_11, .ld 11 7 underlying35, tv⟩ rfl (fun w HS => ?_)
  obtain ⟨c17, H⟩ := ite_n H
  refine ⟨_, Y.app (xs := a0.out) (ys := ([t12] : List (List Int))) 11 underlying35 ap48 rfl (by decide) HS rfl rfl rfl (rdC.at 1 row_rd HS rfl) (St.tie_one 0 HS rfl) (by omega) (by omega), ?_⟩
  rintro _ w ⟨ra18, rc19, rfl, HS⟩
  replace HS := HS.fr 12
  replace HS := St.tie_app 1 HS rfl
  refine T.nm [(29, vs ra18 (a0.out ++ ([t12] : List (List Int))).length rc19), (30, pt b0), (31, po b0 (0 + 11))] HS ⟨.inl ⟨rfl, rfl⟩, ⟨.inr ⟨by decide, rfl⟩, ⟨.inr ⟨by decide, rfl⟩, tv⟩⟩⟩ ?_
  refine T.ev [(29, _), (31, _)] [] [0, 22, 23] ⟨rfl, rfl, tv⟩ ⟨.mv 0, .nc 8, .fa 30 fo158_11, tv⟩ rfl (fun w HS => ?_)
  refine ⟨_, Y.sto 8 11 HS inf35 rfl rfl rfl rfl rfl rfl, ?_⟩
  rintro _ w HS
  refine T.nn HS ?_
  refine T.fn [] tv tv (fun w HS => ?_)
  replace HS := HS.pm [8, 9, 10, 11, 12, 0, 13, 1, 2, 3, 4, 5, 6, 7, 14, 15, 16]
  replace HS := arq_Arq.close tv HS
  replace HS := HS.pk [0, 10] [1, 2, 3, 4, 5, 6, 7, 8, 9]
  cases H
  exact At.end0 rfl ⟨_, rfl, rfl, HS⟩
 ·have HS : Sep.St [blk b0 (#[vi a0.m, vi a0.t1, vi a0.n2, vi a0.size, vi a0.state, vi a0.tag, vi a0.tries, vb a0.rejected, pt b8_2, pt b9_2, pt b10_2, vs a11_2 a0.out.length c11_2, vs a12_2 a0.inds.length c12_2, vi a0.sent, vi a0.acked, vi a0.lost]) 158, backlog_Log.at b8_2 a0.log, reorder_Order.at b9_2 a0.order, clock_Set.at b10_2 a0.timers, row 48 1 (.slice a11_2 a0.out.length c11_2) a0.out.length d11_2, tie (El.sl (El.int .u8)) d11_2 a0.out, row 3 1 (.slice a12_2 a0.inds.length c12_2) a0.inds.length (a0.inds.map (Value.int .i64)), blk nb1 (#[vi a2.Kind, vi a2.Ns, vi a2.Nr, vb a2.Poll]) 161, fsl 1 (.slice sa3 a3.length sc3) a3.length (a3.map (Value.int .u8)), R] w0 w := HS
  obtain ⟨t20, A21, H⟩ := bind_s H
  refine ⟨_, Y.cl func230 (control_Bytes.calls A21 HS.j0), ?_⟩
  rintro _ w ⟨at20_0, ct20_0, rfl, HS⟩
  replace HS := HS.o1
  refine T.nw HS ?_
  refine T.ev [(15, _), (17, _)] [22, 23] [5, 6, 7, 8, 9] ⟨rfl, rfl, tv⟩ ⟨.mv 0, .mv 0, .nc 9, .fa 10 fo158_11, .ld 11 1 underlying35, .mv 1, .n1 13 rfl rfl (fun w HS => X.shr rfl rfl (by decide)), .n1 14 rfl rfl (fun w HS => X.conv underlying3 underlying5 rfl), .mv 1, .n1 16 rfl rfl (fun w HS => X.conv underlying3 underlying5 rfl), .mv 3, tv⟩ rfl (fun w HS => ?_)
  refine ⟨_, Y.ls (e := 5) (Value.int .u8) ([IntKind.u8.wrap (a1.fdiv (2 ^ (min (8 : Int).toNat IntKind.i64.bits))), IntKind.u8.wrap a1] : List Int) HS rfl rfl (fun _ => by kernel_rfl), ?_⟩
  rintro _ w ⟨lb24, rfl, HS⟩
  refine T.nw HS ?_
  refine T.ev [(18, _), (24, _), (25, _)] [22, 23] [17] ⟨rfl, rfl, rfl, tv⟩ ⟨.mv 0, .mv 0, .nc 9, .fa 10 fo158_11, .ld 11 2 underlying35, .mv 3, tv⟩ rfl (fun w HS => ?_)
  replace HS := St.row_freeze HS
  replace HS := HS.fr 1
  replace HS := St.row_freeze HS
  refine ⟨_, Y.lc (e := 48) (sz := 1) [vs (some ⟨lb24, 0, none⟩) (([IntKind.u8.wrap (a1.fdiv (2 ^ (min (8 : Int).toNat IntKind.i64.bits))), IntKind.u8.wrap a1] : List Int)).length 2, vs at20_0 t20.length ct20_0, vs sa3 a3.length sc3] HS rfl rfl (fun _ => by kernel_rfl), ?_⟩
  rintro _ w ⟨lb25, rfl, HS⟩
  replace HS := St.put (A := tie (El.sl (El.int .u8)) ([]) (([] : List (List Int)))) (fun _ => tie.nil) HS
  replace HS := HS.more 12 rfl (fun _ t => t) fsl.pers
  replace HS := St.put (A := tie (El.int .u8) (a3.map (Value.int .u8)) a3) (fun _ => int_tie) HS
  replace HS := St.swap HS
  replace HS := St.sl_close (E := (El.int .u8)) HS
  replace HS := HS.fr 1
  replace HS := HS.fr 1
  replace HS := St.tie_cons HS
  replace HS := HS.more 2 rfl (fun _ t => t) fsl.pers
  replace HS := St.put (A := tie (El.int .u8) (t20.map (Value.int .u8)) t20) (fun _ => int_tie) HS
  replace HS := St.swap HS
  replace HS := St.sl_close (E := (El.int .u8)) HS
  replace HS := HS.fr 1
  replace HS := HS.fr 1
  replace HS := St.tie_cons HS
  replace HS := HS.more 3 rfl (fun _ t => t) fsl.pers
  replace HS := St.put (A := tie (El.int .u8) ((([IntKind.u8.wrap (a1.fdiv (2 ^ (min (8 : Int).toNat IntKind.i64.bits))), IntKind.u8.wrap a1] : List Int)).map (Value.int .u8)) (([IntKind.u8.wrap (a1.fdiv (2 ^ (min (8 : Int).toNat IntKind.i64.bits))), IntKind.u8.wrap a1] : List Int))) (fun _ => int_tie) HS
  replace HS := St.swap HS
  replace HS := St.sl_close (E := (El.int .u8)) HS
  replace HS := HS.fr 1
  replace HS := HS.fr 1
  replace HS := St.tie_cons HS
  refine T.nw HS ?_
  refine T.ev [(26, _)] [22, 23] [] ⟨rfl, tv⟩ ⟨.mv 0, .mv 0, .nc 9, .fa 10 fo158_11, .ld 11 4 underlying35, tv⟩ rfl (fun w HS => ?_)
  obtain ⟨t28, A29, H⟩ := bind_s H
  refine ⟨_, Y.cl func187 (slices_Concat_Sbytebyte.calls A29 HS.j0 (rdC.part 1 row_rd rfl) (fun h hh => let ⟨_, l, t⟩ := Sp.has 0 hh rfl; tie.mono t l)), ?_⟩
  rintro _ w ⟨at28_0, ct28_0, rfl, HS⟩
  replace HS := HS.o1
  refine T.nw HS ?_
  refine T.ev [(27, _)] [22, 23] [] ⟨rfl, tv⟩ ⟨.mv 0, .mv 0, .nc 9, .fa 10 fo158_11, .ld 11 5 underlying35, tv⟩ rfl (fun w HS => ?_)
  replace HS := St.row_freeze HS
  refine ⟨_, Y.lc (e := 48) (sz := 1) [vs at28_0 t28.length ct28_0] HS rfl rfl (fun _ => by kernel_rfl), ?_⟩
  rintro _ w ⟨lb30, rfl, HS⟩
  replace HS := St.put (A := tie (El.sl (El.int .u8)) ([]) (([] : List (List Int)))) (fun _ => tie.nil) HS
  replace HS := HS.more 2 rfl (fun _ t => t) fsl.pers
  replace HS := St.put (A := tie (El.int .u8) (t28.map (Value.int .u8)) t28) (fun _ => int_tie) HS
  replace HS := St.swap HS
  replace HS := St.sl_close (E := (El.int .u8)) HS
  replace HS := HS.fr 1
  replace HS := HS.fr 1
  replace HS := St.tie_cons HS
  refine T.nw HS ?_
  refine T.ev [(12, _), (28, _)] [] [1, 2, 3, 4] ⟨rfl, rfl, tv⟩ ⟨.mv 0, .mv 0, .nc 9, .fa 10 fo158_11, .ld 11 7 underlying35, tv⟩ rfl (fun w HS => ?_)
  obtain ⟨c33, H⟩ := ite_n H
  refine ⟨_, Y.app (xs := a0.out) (ys := ([t28] : List (List Int))) 11 underlying35 ap48 rfl (by decide) HS rfl rfl rfl (rdC.at 1 row_rd HS rfl) (St.tie_one 0 HS rfl) (by omega) (by omega), ?_⟩
  rintro _ w ⟨ra34, rc35, rfl, HS⟩
  replace HS := HS.fr 12
  replace HS := St.tie_app 1 HS rfl
  refine T.nm [(29, vs ra34 (a0.out ++ ([t28] : List (List Int))).length rc35), (30, pt b0), (31, po b0 (0 + 11))] HS ⟨.inl ⟨rfl, rfl⟩, ⟨.inr ⟨by decide, rfl⟩, ⟨.inr ⟨by decide, rfl⟩, tv⟩⟩⟩ ?_
  refine T.ev [(29, _), (31, _)] [] [0, 22, 23] ⟨rfl, rfl, tv⟩ ⟨.mv 0, .nc 8, .fa 30 fo158_11, tv⟩ rfl (fun w HS => ?_)
  refine ⟨_, Y.sto 8 11 HS inf35 rfl rfl rfl rfl rfl rfl, ?_⟩
  rintro _ w HS
  refine T.nn HS ?_
  refine T.fn [] tv tv (fun w HS => ?_)
  replace HS := HS.pm [8, 9, 10, 11, 12, 0, 13, 1, 2, 3, 4, 5, 6, 7, 14, 15, 16]
  replace HS := arq_Arq.close tv HS
  replace HS := HS.pk [0, 10] [1, 2, 3, 4, 5, 6, 7, 8, 9]
  cases H
  exact At.end0 rfl ⟨_, rfl, rfl, HS⟩
def arq_Arq_tell.f (k : Nat) (a0 : arq_Arq) (a1 : api_Ctl) : Option arq_Arq := ((arq_Arq_put.f k a0 a0.tag a1 ([] : List Int)).bind fun t4 => some t4)
theorem arq_Arq_tell.calls {k : Nat} {a0 : arq_Arq} {a1 : api_Ctl} {R : As} {w0 w : World} {b0 : Nat} {r : arq_Arq} (H : arq_Arq_tell.f k a0 a1 = some r) (HS : Sep.St [arq_Arq.at b0 a0, R] w0 w)  : Calls Tryz.prog 113 #[pt b0, Value.agg #[vi a1.Kind, vi a1.Ns, vi a1.Nr, vb a1.Poll]] w (Ret fun u w => u = Value.tuple #[] ∧ Sep.St [arq_Arq.at b0 r, R] w0 w) := by
 unfold arq_Arq_tell.f at H
 refine calls_enter func113 rfl rfl ?_
 have H : _ = some r := H
 refine V.seq (V.region (W.e (Y.box HS rfl) rfl ?_))
 rintro _ w ⟨nb1, rfl, HS⟩
 refine W.nx ?_
 replace HS := HS.fr 1
 obtain ⟨b8_2, b9_2, b10_2, a11_2, c11_2, d11_2, a12_2, c12_2, hi3, HS⟩ := arq_Arq.open HS
 refine V.dr [6] [] [(4, pt b0), (5, pt b0), (6, pt b0), (7, po b0 (0 + 5)), (8, vi a0.tag), (9, Value.agg #[vi a1.Kind, vi a1.Ns, vi a1.Nr, vb a1.Poll])] mo HS ?_
 refine T.ev [(4, _), (8, _), (9, _)] [] [0, 1, 2, 3, 4, 5] ⟨rfl, rfl, rfl, tv⟩ ⟨.mv 0, .mv 0, .nc 5, .fa 6 fo158_5, .ld 7 0 underlying3, .n1 3 rfl rfl (fun w HS => X.loadSt 7 [vi a1.Kind, vi a1.Ns, vi a1.Nr, vb a1.Poll] HS rfl underlying161 rfl inf161 rfl rfl), tv⟩ rfl (fun w HS => ?_)
 replace HS := arq_Arq.close tv HS
 replace HS := row_nilF (Value.int .u8) 5 1 HS
 replace HS := St.row_freeze HS
 replace HS := HS.more 0 rfl (fun _ t => t) fsl.pers
 obtain ⟨t4, A5, H⟩ := bind_s H
 replace HS := HS.pm [2, 0, 1, 3, 4]
 refine ⟨_, Y.cl func176 (arq_Arq_put.calls A5 HS.j2), ?_⟩
 rintro _ w ⟨rfl, HS⟩
 replace HS := HS.o1
 refine T.nw HS ?_
 refine T.fn [] tv tv (fun w HS => ?_)
 replace HS := HS.pk [0, 3] [1, 2]
 cases H
 exact At.end0 rfl ⟨_, rfl, rfl, HS⟩
def clock_has.f (a0 : Int) : Option Bool := (if a0 ≥ 0 then some (decide (a0 < 32)) else some false)
theorem clock_has.calls {a0 : Int} {R : As} {w0 w : World}  {r : Bool} (H : clock_has.f a0 = some r) (HS : Sep.St [R] w0 w)  : Calls Tryz.prog 231 #[vi a0] w (Ret fun u w => u = vb r ∧ Sep.St [R] w0 w) := by
 unfold clock_has.f at H
 refine calls_enter func231 rfl rfl ?_
 have H : _ = some r := H
 refine V.seq (V.region (W.as rfl (W.nx (V.seq (V.region (W.mv rfl (W.r (X.cmp (decide (a0 ≥ 0)) rfl rfl rfl rfl) rfl (W.mv rfl ?_))))))))
 by_cases c1 : a0 ≥ 0
 ·replace H := ite_t c1 H
  refine W.want 5 rfl (sb (dT c1)) (W.mv rfl (W.want 5 rfl (sb (dT c1)) (W.r (X.cmp (decide (a0 < 32)) rfl rfl rfl rfl) rfl (W.r (X.pickT (sb (dT c1)) rfl) rfl (W.as rfl (W.nx (V.ret ?_)))))))
  cases H
  exact At.ret1 rfl rfl ⟨_, rfl, rfl, HS⟩
 ·replace H := ite_f c1 H
  refine W.pass 5 rfl (sb (dF c1)) rfl rfl (W.pass 5 rfl (sb (dF c1)) rfl rfl (W.r (X.pickF (sb (dF c1)) rfl) rfl (W.as rfl (W.nx (V.ret ?_)))))
  cases H
  exact At.ret1 rfl rfl ⟨_, rfl, rfl, HS⟩
mutual
def clock_Set_Start.j0 (a1 : Int) (x2 : clock_Set) : Option (Bool × clock_Set) := ((clock_has.f a1).bind fun t4 => some (t4, x2))
end
def clock_Set_Start.f (a0 : clock_Set) (a1 : Int) (a2 : Int) : Option (Bool × clock_Set) := ((clock_has.f a1).bind fun t6 => (if t6 = true then (if 0 ≤ a1 ∧ a1 < 32 then (clock_Set_Start.j0 a1 ({ now := a0.now, left := a0.left.set a1.toNat (imax (1) (imin a2 (1073741824))) } : clock_Set)) else none) else (clock_Set_Start.j0 a1 a0)))
theorem clock_Set_Start.calls {a0 : clock_Set} {a1 : Int} {a2 : Int} {R : As} {w0 w : World} {b0 : Nat} {r : Bool × clock_Set} (H : clock_Set_Start.f a0 a1 a2 = some r) (HS : Sep.St [clock_Set.at b0 a0, R] w0 w)  : Calls Tryz.prog 177 #[pt b0, vi a1, vi a2] w (Ret fun u w => u = vb r.1 ∧ Sep.St [clock_Set.at b0 r.2, R] w0 w) := by
 unfold clock_Set_Start.f at H
 refine calls_enter func177 rfl rfl ?_
 have H : _ = some r := H
 refine V.seq (V.region (W.as rfl (W.nx (V.meet (σ := clock_Set) (fun st w => match st with | x2 => Sep.St [clock_Set.at b0 x2, R] w0 w ∧ clock_Set_Start.j0 a1 x2 = some r) (fun st => match st with | x2 => [(1, vi a1)]) ?_ ?_))))
 ·refine V.seq (V.region (W.mv rfl ?_))
  obtain ⟨t6, A7, H⟩ := bind_s H
  refine W.e (Y.cl func231 (clock_has.calls A7 HS.j0)) rfl ?_
  rintro _ w ⟨rfl, HS⟩
  replace HS := HS.o0
  refine W.nx ?_
  by_cases c8 : t6 = true
  ·replace H := ite_t c8 H
   refine V.condT (sb c8) (V.region (W.mv rfl (W.mv rfl (W.mv rfl (W.r (X.min2 rfl rfl) rfl (W.r (X.max2 rfl rfl) rfl (W.nc rfl ?_)))))))
   obtain ⟨hi10, HS⟩ := clock_Set.open HS
   refine W.fa fo253_1 rfl ?_
   obtain ⟨c11, H⟩ := ite_n H
   refine W.r (X.indexAr underlying251 inf3 rfl rfl c11.1 c11.2) rfl (W.en (Y.storeArr 0 HS rfl rfl inf3 rfl rfl c11.1 c11.2 (by first | exact hi10 | (simp only [List.length_set]; exact hi10))) rfl ?_)
   rintro _ w HS
   refine W.nil ?_
   replace HS := clock_Set.close (by first | exact hi10 | (simp only [List.length_set]; exact hi10)) HS
   exact At.meet (({ now := a0.now, left := a0.left.set a1.toNat (imax (1) (imin a2 (1073741824))) } : clock_Set)) ⟨rfl, tv⟩ ⟨HS, H⟩
  ·replace H := ite_f c8 H
   refine V.condF (sb (b_f c8)) (V.skip ?_)
   exact At.meet a0 ⟨rfl, tv⟩ ⟨HS, H⟩
 ·rintro x2 w ⟨HS, H⟩
  unfold clock_Set_Start.j0 at H
  refine V.seq (V.region (W.mv rfl ?_))
  obtain ⟨t4, A5, H⟩ := bind_s H
  refine W.e (Y.cl func231 (clock_has.calls A5 HS.j0)) rfl ?_
  rintro _ w ⟨rfl, HS⟩
  replace HS := HS.o0
  refine W.as rfl (W.nx (V.ret ?_))
  cases H
  exact At.ret1 rfl rfl ⟨_, rfl, rfl, HS⟩
def arq_Arq_start.f (a0 : arq_Arq) : Option arq_Arq := ((clock_Set_Start.f a0.timers 0 a0.t1).bind fun t3 => some ({ a0 with timers := t3.2 } : arq_Arq))
theorem arq_Arq_start.calls {a0 : arq_Arq} {R : As} {w0 w : World} {b0 : Nat} {r : arq_Arq} (H : arq_Arq_start.f a0 = some r) (HS : Sep.St [arq_Arq.at b0 a0, R] w0 w)  : Calls Tryz.prog 114 #[pt b0] w (Ret fun u w => u = Value.tuple #[] ∧ Sep.St [arq_Arq.at b0 r, R] w0 w) := by
 unfold arq_Arq_start.f at H
 refine calls_enter func114 rfl rfl ?_
 have H : _ = some r := H
 obtain ⟨b8_1, b9_1, b10_1, a11_1, c11_1, d11_1, a12_1, c12_1, hi2, HS⟩ := arq_Arq.open HS
 refine V.dr [8] [] [(2, pt b0), (3, pt b0), (4, po b0 (0 + 10)), (5, pt b10_1), (6, pt b0), (7, pt b0), (8, po b0 (0 + 1)), (9, vi a0.t1)] mo HS ?_
 refine T.ev [(5, _), (9, _)] [] [0, 1, 2, 3, 4, 5, 6, 7] ⟨rfl, rfl, tv⟩ ⟨.mv 0, .nc 2, .fa 3 fo158_10, .ld 4 0 underlying156, .mv 0, .nc 6, .fa 7 fo158_1, .ld 8 0 underlying3, tv⟩ rfl (fun w HS => ?_)
 obtain ⟨t3, A4, H⟩ := bind_s H
 replace HS := HS.pm [3, 0, 1, 2, 4, 5, 6, 7]
 refine ⟨_, Y.cl func177 (clock_Set_Start.calls A4 HS.j1), ?_⟩
 rintro _ w ⟨rfl, HS⟩
 replace HS := HS.o1
 refine T.nw HS ?_
 refine T.fn [] tv tv (fun w HS => ?_)
 replace HS := HS.pm [1, 2, 3, 0, 4, 5, 6, 7]
 replace HS := arq_Arq.close tv HS
 cases H
 exact At.end0 rfl ⟨_, rfl, rfl, HS⟩
def arq_Arq_Connect.f (k : Nat) (a0 : arq_Arq) : Option (Int × arq_Arq) := (if a0.state = 0 then ((serial_Next.f a0.tag 65536).bind fun t5 => ((arq_Arq_tell.f k ({ a0 with state := 1, tag := t5, tries := 0 } : arq_Arq) ({ Kind := 3, Ns := 0, Nr := 0, Poll := true } : api_Ctl)).bind fun t7 => ((arq_Arq_start.f t7).bind fun t9 => some (0, t9)))) else some (8, a0))
theorem arq_Arq_Connect.calls {k : Nat} {a0 : arq_Arq} {R : As} {w0 w : World} {b0 : Nat} {r : Int × arq_Arq} (H : arq_Arq_Connect.f k a0 = some r) (HS : Sep.St [arq_Arq.at b0 a0, R] w0 w)  : Calls Tryz.prog 54 #[pt b0] w (Ret fun u w => u = vi r.1 ∧ Sep.St [arq_Arq.at b0 r.2, R] w0 w) := by
 unfold arq_Arq_Connect.f at H
 refine calls_enter func54 rfl rfl ?_
 have H : _ = some r := H
 refine V.seq (V.region (W.as rfl (W.nx (V.seq (V.seq (V.region (W.mv rfl (W.nc rfl ?_))))))))
 obtain ⟨b8_2, b9_2, b10_2, a11_2, c11_2, d11_2, a12_2, c12_2, hi3, HS⟩ := arq_Arq.open HS
 refine W.fa fo158_4 rfl (W.ld 0 HS underlying3 rfl rfl rfl rfl (W.r (X.cmp (!(decide (a0.state = 0))) rfl rfl rfl rfl) rfl (W.nx ?_)))
 by_cases c4 : a0.state = 0
 ·replace H := ite_t c4 H
  refine V.condF (sb (n_t (dT c4))) (V.skip (At.next (V.seq (V.region (W.mv rfl (W.mv rfl (W.nc rfl (W.fa fo158_5 rfl (W.ld 0 HS underlying3 rfl rfl rfl rfl ?_)))))))))
  obtain ⟨t5, A6, H⟩ := bind_s H
  refine W.e (Y.cl func112 (serial_Next.calls A6 HS.j0)) rfl ?_
  rintro _ w ⟨rfl, HS⟩
  replace HS := HS.o0
  refine W.nc rfl (W.fa fo158_5 rfl (W.st 0 5 HS inf3 rfl rfl rfl rfl rfl rfl fun w HS => ?_))
  refine W.nx (V.seq (V.region (W.mv rfl (W.mv rfl (W.nc rfl (W.fa fo158_4 rfl (W.st 0 4 HS inf3 rfl rfl rfl rfl rfl rfl fun w HS => ?_)))))))
  refine W.nc rfl (W.fa fo158_6 rfl (W.st 0 6 HS inf3 rfl rfl rfl rfl rfl rfl fun w HS => ?_))
  refine W.nx (V.seq (V.region (W.mv rfl (W.r (X.bd (Value.agg #[vi (3), vi (0), vi (0), vb true]) rfl (fun _ => by kernel_rfl)) rfl ?_))))
  replace HS := arq_Arq.close tv HS
  obtain ⟨t7, A8, H⟩ := bind_s H
  refine W.e (Y.cl func113 (arq_Arq_tell.calls A8 HS.j1)) rfl ?_
  rintro _ w ⟨rfl, HS⟩
  replace HS := HS.o1
  refine W.nx (V.seq (V.region (W.mv rfl ?_)))
  obtain ⟨t9, A10, H⟩ := bind_s H
  refine W.e (Y.cl func114 (arq_Arq_start.calls A10 HS.j1)) rfl ?_
  rintro _ w ⟨rfl, HS⟩
  replace HS := HS.o1
  refine W.nx (V.seq (V.region (W.as rfl (W.nx (V.ret ?_)))))
  cases H
  exact At.ret1 rfl rfl ⟨_, rfl, rfl, HS⟩
 ·replace H := ite_f c4 H
  refine V.condT (sb (n_f (dF c4))) (V.seq (V.region (W.as rfl (W.nx (V.ret (At.thenRet ?_))))))
  replace HS := arq_Arq.close tv HS
  cases H
  exact At.ret1 rfl rfl ⟨_, rfl, rfl, HS⟩
def station_Station_Connect.f (k : Nat) (a0 : station_Station) : Option (Int × station_Station) := ((arq_Arq_Connect.f k a0.arq).bind fun t3 => some (t3.1, ({ a0 with arq := t3.2 } : station_Station)))
theorem station_Station_Connect.calls {k : Nat} {a0 : station_Station} {R : As} {w0 w : World} {b0 : Nat} {r : Int × station_Station} (H : station_Station_Connect.f k a0 = some r) (HS : Sep.St [station_Station.at b0 a0, R] w0 w)  : Calls Tryz.prog 14 #[pt b0] w (Ret fun u w => u = vi r.1 ∧ Sep.St [station_Station.at b0 r.2, R] w0 w) := by
 unfold station_Station_Connect.f at H
 refine calls_enter func14 rfl rfl ?_
 have H : _ = some r := H
 refine V.seq (V.region (W.as rfl (W.nx (V.seq (V.region (W.mv rfl (W.nc rfl ?_)))))))
 obtain ⟨b16_1, b17_1, b18_1, b22_1, b23_1, b24_1, b32_1, b33_1, b34_1, hi2, HS⟩ := station_Station.open HS
 refine W.fa fo103_1 rfl (W.ld 0 HS underlying92 rfl rfl rfl rfl ?_)
 obtain ⟨t3, A4, H⟩ := bind_s H
 replace HS := HS.pm [1, 0, 2, 3, 4, 5, 6, 7, 8, 9, 10]
 refine W.e (Y.cl func54 (arq_Arq_Connect.calls A4 HS.j1)) rfl ?_
 rintro _ w ⟨rfl, HS⟩
 replace HS := HS.o1
 refine W.as rfl (W.nx (V.ret ?_))
 replace HS := HS.pm [1, 0, 2, 3, 4, 5, 6, 7, 8, 9, 10]
 replace HS := station_Station.close tv HS
 cases H
 exact At.ret1 rfl rfl ⟨_, rfl, rfl, HS⟩
def monitor_Monitor_Pass.f (a0 : monitor_Monitor) (a1 : Int) : Option (Int × monitor_Monitor) := ((monitor_cut.f a1 0 1073741824).bind fun t3 => (if (imin (w64 (a0.silence + t3)) (1073741824)) ≥ a0.silent then some (2, ({ a0 with row := 0, silence := imin (w64 (a0.silence + t3)) (1073741824), state := 2 } : monitor_Monitor)) else some (a0.state, ({ a0 with silence := imin (w64 (a0.silence + t3)) (1073741824) } : monitor_Monitor))))
theorem monitor_Monitor_Pass.calls {a0 : monitor_Monitor} {a1 : Int} {R : As} {w0 w : World} {b0 : Nat} {r : Int × monitor_Monitor} (H : monitor_Monitor_Pass.f a0 a1 = some r) (HS : Sep.St [monitor_Monitor.at b0 a0, R] w0 w)  : Calls Tryz.prog 115 #[pt b0, vi a1] w (Ret fun u w => u = vi r.1 ∧ Sep.St [monitor_Monitor.at b0 r.2, R] w0 w) := by
 unfold monitor_Monitor_Pass.f at H
 refine calls_enter func115 rfl rfl ?_
 have H : _ = some r := H
 refine V.seq (V.region (W.as rfl (W.nx (V.seq ?_))))
 obtain ⟨b3_1, hi2, HS⟩ := monitor_Monitor.open HS
 refine V.dr [6, 11] [7, 8, 9, 10] [(5, pt b0), (6, pt b0), (7, pt b0), (8, po b0 (0 + 5)), (9, vi a0.silence), (10, vi a1)] mo HS ?_
 refine T.ev [(10, _)] [] [5] ⟨rfl, tv⟩ ⟨.mv 0, .mv 0, .nc 6, .fa 7 fo171_5, .ld 8 0 underlying3, .mv 1, tv⟩ rfl (fun w HS => ?_)
 obtain ⟨t3, A4, H⟩ := bind_s H
 refine ⟨_, Y.cl func170 (monitor_cut.calls A4 HS.j0), ?_⟩
 rintro _ w ⟨rfl, HS⟩
 replace HS := HS.o0
 refine T.nm [(11, vi t3), (12, vi (w64 (a0.silence + t3))), (13, vi (imin (w64 (a0.silence + t3)) (1073741824))), (14, pt b0), (15, po b0 (0 + 5))] HS ⟨.inl ⟨rfl, rfl⟩, ⟨.inr ⟨by decide, rfl⟩, ⟨.inr ⟨by decide, rfl⟩, ⟨.inr ⟨by decide, rfl⟩, ⟨.inr ⟨by decide, rfl⟩, tv⟩⟩⟩⟩⟩ ?_
 refine T.ev [(13, _), (15, _)] [] [0, 1, 2, 3, 4, 7, 8, 9, 10] ⟨rfl, rfl, tv⟩ ⟨.mv 0, .mv 0, .nc 6, .fa 7 fo171_5, .ld 8 0 underlying3, .n2 9 11 rfl rfl rfl (fun w HS => X.add rfl rfl), .n1 12 rfl rfl (fun w HS => X.min2 rfl rfl), .nc 5, .fa 14 fo171_5, tv⟩ rfl (fun w HS => ?_)
 refine ⟨_, Y.sto 0 5 HS inf3 rfl rfl rfl rfl rfl rfl, ?_⟩
 rintro _ w HS
 refine T.nn HS ?_
 refine T.fn [(0, _)] ⟨rfl, tv⟩ tv (fun w HS => ?_)
 refine At.next (V.seq (V.seq (V.dr [] [] [(16, pt b0), (17, pt b0), (18, po b0 (0 + 5)), (19, vi (imin (w64 (a0.silence + t3)) (1073741824))), (20, pt b0), (21, pt b0), (22, po b0 (0 + 2)), (23, vi a0.silent), (24, vb (decide ((imin (w64 (a0.silence + t3)) (1073741824)) ≥ a0.silent)))] mo HS ?_)))
 refine T.fn [(0, _), (24, _)] ⟨rfl, rfl, tv⟩ ⟨.mv 0, .nc 16, .fa 17 fo171_5, .ld 18 0 underlying3, .mv 0, .nc 20, .fa 21 fo171_2, .ld 22 0 underlying3, .n2 19 23 rfl rfl rfl (fun w HS => X.cmp (decide ((imin (w64 (a0.silence + t3)) (1073741824)) ≥ a0.silent)) rfl rfl rfl rfl), tv⟩ (fun w HS => ?_)
 refine At.next ?_
 by_cases c5 : (imin (w64 (a0.silence + t3)) (1073741824)) ≥ a0.silent
 ·replace H := ite_t c5 H
  refine V.condT (sb (dT c5)) (V.region (W.mv rfl (W.mv rfl (W.nc rfl (W.fa fo171_6 rfl (W.st 0 6 HS inf3 rfl rfl rfl rfl rfl rfl fun w HS => ?_))))))
  refine W.nc rfl (W.fa fo171_4 rfl (W.st 0 4 HS inf3 rfl rfl rfl rfl rfl rfl fun w HS => ?_))
  refine W.nx (V.seq (V.region (W.mv rfl (W.nc rfl (W.fa fo171_6 rfl (W.ld 0 HS underlying3 rfl rfl rfl rfl (W.as rfl (W.nx (V.ret ?_)))))))))
  replace HS := monitor_Monitor.close tv HS
  cases H
  exact At.ret1 rfl rfl ⟨_, rfl, rfl, HS⟩
 ·replace H := ite_f c5 H
  refine V.condF (sb (dF c5)) (V.skip (At.next (V.seq (V.region (W.mv rfl (W.nc rfl (W.fa fo171_6 rfl (W.ld 0 HS underlying3 rfl rfl rfl rfl (W.as rfl (W.nx (V.ret ?_)))))))))))
  replace HS := monitor_Monitor.close tv HS
  cases H
  exact At.ret1 rfl rfl ⟨_, rfl, rfl, HS⟩
def aps_Aps_held.f (a0 : aps_Aps) (a1 : Int) : Option (Int × aps_Aps) := (if a1 = 0 then some (a1, ({ a0 with bad := 0 } : aps_Aps)) else (if (imin (w64 (a0.bad + 1)) (w64 (a0.hold + 1))) ≤ a0.hold then some (0, ({ a0 with bad := imin (w64 (a0.bad + 1)) (w64 (a0.hold + 1)) } : aps_Aps)) else some (a1, ({ a0 with bad := imin (w64 (a0.bad + 1)) (w64 (a0.hold + 1)) } : aps_Aps))))
theorem aps_Aps_held.calls {a0 : aps_Aps} {a1 : Int} {R : As} {w0 w : World} {b0 : Nat} {r : Int × aps_Aps} (H : aps_Aps_held.f a0 a1 = some r) (HS : Sep.St [aps_Aps.at b0 a0, R] w0 w)  : Calls Tryz.prog 179 #[pt b0, vi a1] w (Ret fun u w => u = vi r.1 ∧ Sep.St [aps_Aps.at b0 r.2, R] w0 w) := by
 unfold aps_Aps_held.f at H
 refine calls_enter func179 rfl rfl ?_
 have H : _ = some r := H
 refine V.seq (V.region (W.as rfl (W.nx (V.seq (V.seq (V.region (W.mv rfl (W.r (X.cmp (decide (a1 = 0)) rfl rfl rfl rfl) rfl (W.nx ?_)))))))))
 by_cases c2 : a1 = 0
 ·replace H := ite_t c2 H
  refine V.condT (sb (dT c2)) (V.seq (V.region (W.mv rfl (W.nc rfl ?_))))
  obtain ⟨hi4, HS⟩ := aps_Aps.open HS
  refine W.fa fo168_6 rfl (W.st 0 6 HS inf3 rfl rfl rfl rfl rfl rfl fun w HS => ?_)
  refine W.nx (V.seq (V.region (W.mv rfl (W.as rfl (W.nx (V.ret (At.thenRet ?_)))))))
  replace HS := aps_Aps.close tv HS
  cases H
  exact At.ret1 rfl rfl ⟨_, rfl, rfl, HS⟩
 ·replace H := ite_f c2 H
  refine V.condF (sb (dF c2)) (V.skip (At.next (V.seq ?_)))
  obtain ⟨hi6, HS⟩ := aps_Aps.open HS
  refine V.dr [14] [] [(11, pt b0), (12, pt b0), (13, pt b0), (14, po b0 (0 + 6)), (15, vi a0.bad), (16, vi (w64 (a0.bad + 1))), (17, pt b0), (18, pt b0), (19, po b0 (0 + 0)), (20, vi a0.hold), (21, vi (w64 (a0.hold + 1))), (22, vi (imin (w64 (a0.bad + 1)) (w64 (a0.hold + 1)))), (23, pt b0), (24, po b0 (0 + 6))] mo HS ?_
  refine T.ev [(22, _), (24, _)] [] [0, 1, 2, 3, 4, 5, 6, 7, 8, 9, 10, 11, 12, 13] ⟨rfl, rfl, tv⟩ ⟨.mv 0, .mv 0, .nc 12, .fa 13 fo168_6, .ld 14 0 underlying3, .n1 15 rfl rfl (fun w HS => X.add rfl rfl), .mv 0, .nc 17, .fa 18 fo168_0, .ld 19 0 underlying3, .n1 20 rfl rfl (fun w HS => X.add rfl rfl), .n2 16 21 rfl rfl rfl (fun w HS => X.min2 rfl rfl), .nc 11, .fa 23 fo168_6, tv⟩ rfl (fun w HS => ?_)
  refine ⟨_, Y.sto 0 6 HS inf3 rfl rfl rfl rfl rfl rfl, ?_⟩
  rintro _ w HS
  refine T.nn HS ?_
  refine T.fn [(0, _), (1, _)] ⟨rfl, rfl, tv⟩ tv (fun w HS => ?_)
  refine At.next (V.seq (V.seq (V.dr [] [] [(25, pt b0), (26, pt b0), (27, po b0 (0 + 6)), (28, vi (imin (w64 (a0.bad + 1)) (w64 (a0.hold + 1)))), (29, pt b0), (30, pt b0), (31, po b0 (0 + 0)), (32, vi a0.hold), (33, vb (decide ((imin (w64 (a0.bad + 1)) (w64 (a0.hold + 1))) ≤ a0.hold)))] mo HS ?_)))
  refine T.fn [(1, _), (33, _)] ⟨rfl, rfl, tv⟩ ⟨.mv 0, .nc 25, .fa 26 fo168_6, .ld 27 0 underlying3, .mv 0, .nc 29, .fa 30 fo168_0, .ld 31 0 underlying3, .n2 28 32 rfl rfl rfl (fun w HS => X.cmp (decide ((imin (w64 (a0.bad + 1)) (w64 (a0.hold + 1))) ≤ a0.hold)) rfl rfl rfl rfl), tv⟩ (fun w HS => ?_)
  refine At.next ?_
  by_cases c7 : (imin (w64 (a0.bad + 1)) (w64 (a0.hold + 1))) ≤ a0.hold
  ·replace H := ite_t c7 H
   refine V.condT (sb (dT c7)) (V.seq (V.region (W.as rfl (W.nx (V.ret (At.thenRet ?_))))))
   replace HS := aps_Aps.close tv HS
   cases H
   exact At.ret1 rfl rfl ⟨_, rfl, rfl, HS⟩
  ·replace H := ite_f c7 H
   refine V.condF (sb (dF c7)) (V.skip (At.next (V.seq (V.region (W.mv rfl (W.as rfl (W.nx (V.ret ?_))))))))
   replace HS := aps_Aps.close tv HS
   cases H
   exact At.ret1 rfl rfl ⟨_, rfl, rfl, HS⟩
def request_Local.f (a0 : Int) (a1 : Int) (a2 : Int) : Option Int := (if a0 = 3 then some (8) else (if a2 = 2 then some (7) else (if a0 = 2 then some (6) else (if a1 = 2 then some (5) else (if a1 = 1 then some (4) else (if a0 = 1 then some (3) else some (0)))))))
theorem request_Local.calls {a0 : Int} {a1 : Int} {a2 : Int} {R : As} {w0 w : World}  {r : Int} (H : request_Local.f a0 a1 a2 = some r) (HS : Sep.St [R] w0 w)  : Calls Tryz.prog 178 #[vi a0, vi a1, vi a2] w (Ret fun u w => u = vi r ∧ Sep.St [R] w0 w) := by
 unfold request_Local.f at H
 refine calls_enter func178 rfl rfl ?_
 have H : _ = some r := H
 refine V.seq (V.region (W.as rfl (W.nx (V.seq (V.block (V.seq (V.region (W.mv rfl (W.r (X.cmp (decide (a0 = 3)) rfl rfl rfl rfl) rfl (W.as rfl (W.nx ?_)))))))))))
 by_cases c1 : a0 = 3
 ·replace H := ite_t c1 H
  refine V.condT (sb (dT c1)) (V.seq (V.region (W.as rfl (W.nx (V.ret (At.blockRet (At.thenRet ?_)))))))
  cases H
  exact At.ret1 rfl rfl ⟨_, rfl, rfl, HS⟩
 ·replace H := ite_f c1 H
  refine V.condF (sb (dF c1)) (V.seq (V.region (W.mv rfl (W.r (X.cmp (decide (a2 = 2)) rfl rfl rfl rfl) rfl (W.as rfl (W.nx ?_))))))
  by_cases c2 : a2 = 2
  ·replace H := ite_t c2 H
   refine V.condT (sb (dT c2)) (V.seq (V.region (W.as rfl (W.nx (V.ret (At.blockRet (At.thenRet ?_)))))))
   cases H
   exact At.ret1 rfl rfl ⟨_, rfl, rfl, HS⟩
  ·replace H := ite_f c2 H
   refine V.condF (sb (dF c2)) (V.seq (V.region (W.mv rfl (W.r (X.cmp (decide (a0 = 2)) rfl rfl rfl rfl) rfl (W.as rfl (W.nx ?_))))))
   by_cases c3 : a0 = 2
   ·replace H := ite_t c3 H
    refine V.condT (sb (dT c3)) (V.seq (V.region (W.as rfl (W.nx (V.ret (At.blockRet (At.thenRet ?_)))))))
    cases H
    exact At.ret1 rfl rfl ⟨_, rfl, rfl, HS⟩
   ·replace H := ite_f c3 H
    refine V.condF (sb (dF c3)) (V.seq (V.region (W.mv rfl (W.r (X.cmp (decide (a1 = 2)) rfl rfl rfl rfl) rfl (W.as rfl (W.nx ?_))))))
    by_cases c4 : a1 = 2
    ·replace H := ite_t c4 H
     refine V.condT (sb (dT c4)) (V.seq (V.region (W.as rfl (W.nx (V.ret (At.blockRet (At.thenRet ?_)))))))
     cases H
     exact At.ret1 rfl rfl ⟨_, rfl, rfl, HS⟩
    ·replace H := ite_f c4 H
     refine V.condF (sb (dF c4)) (V.seq (V.region (W.mv rfl (W.r (X.cmp (decide (a1 = 1)) rfl rfl rfl rfl) rfl (W.as rfl (W.nx ?_))))))
     by_cases c5 : a1 = 1
     ·replace H := ite_t c5 H
      refine V.condT (sb (dT c5)) (V.seq (V.region (W.as rfl (W.nx (V.ret (At.blockRet (At.thenRet ?_)))))))
      cases H
      exact At.ret1 rfl rfl ⟨_, rfl, rfl, HS⟩
     ·replace H := ite_f c5 H
      refine V.condF (sb (dF c5)) (V.seq (V.region (W.mv rfl (W.r (X.cmp (decide (a0 = 1)) rfl rfl rfl rfl) rfl (W.as rfl (W.nx ?_))))))
      by_cases c6 : a0 = 1
      ·replace H := ite_t c6 H
       refine V.condT (sb (dT c6)) (V.seq (V.region (W.as rfl (W.nx (V.ret (At.blockRet (At.thenRet ?_)))))))
       cases H
       exact At.ret1 rfl rfl ⟨_, rfl, rfl, HS⟩
      ·replace H := ite_f c6 H
       refine V.condF (sb (dF c6)) (V.skip (At.blockEnd (At.next (V.seq (V.region (W.as rfl (W.nx (V.ret ?_))))))))
       cases H
       exact At.ret1 rfl rfl ⟨_, rfl, rfl, HS⟩
mutual
def aps_Aps_after.j0 (a0 : aps_Aps) (x4 : Bool) : Option (Int × aps_Aps) := (if x4 = true then (if a0.revert = true then some (2, ({ a0 with left := a0.wait } : aps_Aps)) else some (1, a0)) else (if a0.own = 2 then (if (w64 (a0.left - 1)) = 0 then some (0, ({ a0 with left := w64 (a0.left - 1) } : aps_Aps)) else some (2, ({ a0 with left := w64 (a0.left - 1) } : aps_Aps))) else (if a0.own = 1 then some (1, a0) else some (0, a0))))
end
def aps_Aps_after.f (a0 : aps_Aps) : Option (Int × aps_Aps) := (if a0.own = 4 then (aps_Aps_after.j0 a0 (decide (a0.own = 4))) else (aps_Aps_after.j0 a0 (decide (a0.own = 5))))
theorem aps_Aps_after.calls {a0 : aps_Aps} {R : As} {w0 w : World} {b0 : Nat} {r : Int × aps_Aps} (H : aps_Aps_after.f a0 = some r) (HS : Sep.St [aps_Aps.at b0 a0, R] w0 w)  : Calls Tryz.prog 180 #[pt b0] w (Ret fun u w => u = vi r.1 ∧ Sep.St [aps_Aps.at b0 r.2, R] w0 w) := by
 unfold aps_Aps_after.f at H
 refine calls_enter func180 rfl rfl ?_
 have H : _ = some r := H
 refine V.seq (V.region (W.as rfl (W.nx (V.seq (V.seq (V.region (W.mv rfl (W.nc rfl ?_))))))))
 obtain ⟨hi2, HS⟩ := aps_Aps.open HS
 refine W.fa fo168_5 rfl (W.ld 0 HS underlying3 rfl rfl rfl rfl (W.nx (V.block (V.meet (σ := Bool) (fun st w => match st with | x4 => Sep.St [aps_Aps.at b0 a0, R] w0 w ∧ aps_Aps_after.j0 a0 x4 = some r) (fun st => match st with | x4 => [(0, pt b0), (6, vi a0.own), (7, vb x4)]) ?_ ?_))))
 ·refine V.seq (V.region (W.r (X.cmp (decide (a0.own = 4)) rfl rfl rfl rfl) rfl (W.as rfl (W.nx ?_))))
  by_cases c15 : a0.own = 4
  ·replace H := ite_t c15 H
   refine V.condT (sb (dT c15)) (V.skip ?_)
   replace HS := aps_Aps.close tv HS
   exact At.meet (decide (a0.own = 4)) ⟨rfl, rfl, rfl, tv⟩ ⟨HS, H⟩
  ·replace H := ite_f c15 H
   refine V.condF (sb (dF c15)) (V.region (W.r (X.cmp (decide (a0.own = 5)) rfl rfl rfl rfl) rfl (W.as rfl (W.nil ?_))))
   replace HS := aps_Aps.close tv HS
   exact At.meet (decide (a0.own = 5)) ⟨rfl, rfl, rfl, tv⟩ ⟨HS, H⟩
 ·rintro x4 w ⟨HS, H⟩
  unfold aps_Aps_after.j0 at H
  by_cases c6 : x4 = true
  ·replace H := ite_t c6 H
   refine V.condT (sb c6) (V.seq (V.seq (V.region (W.mv rfl (W.nc rfl ?_)))))
   obtain ⟨hi8, HS⟩ := aps_Aps.open HS
   refine W.fa fo168_2 rfl (W.ld 0 HS underlying4 rfl rfl rfl rfl (W.r (X.not rfl) rfl (W.nx ?_)))
   by_cases c9 : a0.revert = true
   ·replace H := ite_t c9 H
    refine V.condF (sb (n_t c9)) (V.skip (At.next (V.seq (V.region (W.mv rfl (W.mv rfl (W.nc rfl (W.fa fo168_1 rfl (W.ld 0 HS underlying3 rfl rfl rfl rfl (W.nc rfl (W.fa fo168_7 rfl (W.st 0 7 HS inf3 rfl rfl rfl rfl rfl rfl fun w HS => ?_))))))))))))
    refine W.nx (V.seq (V.region (W.as rfl (W.nx (V.ret (At.blockRet (At.thenRet ?_)))))))
    replace HS := aps_Aps.close tv HS
    cases H
    exact At.ret1 rfl rfl ⟨_, rfl, rfl, HS⟩
   ·replace H := ite_f c9 H
    refine V.condT (sb (n_f (b_f c9))) (V.seq (V.region (W.as rfl (W.nx (V.ret (At.thenRet (At.blockRet (At.thenRet ?_))))))))
    replace HS := aps_Aps.close tv HS
    cases H
    exact At.ret1 rfl rfl ⟨_, rfl, rfl, HS⟩
  ·replace H := ite_f c6 H
   refine V.condF (sb (b_f c6)) (V.seq (V.region (W.r (X.cmp (decide (a0.own = 2)) rfl rfl rfl rfl) rfl (W.as rfl (W.nx ?_)))))
   by_cases c10 : a0.own = 2
   ·replace H := ite_t c10 H
    refine V.condT (sb (dT c10)) (V.seq (V.region (W.mv rfl (W.nc rfl ?_))))
    obtain ⟨hi12, HS⟩ := aps_Aps.open HS
    refine W.fa fo168_7 rfl (W.ld 0 HS underlying3 rfl rfl rfl rfl (W.r (X.sub rfl rfl) rfl (W.nc rfl (W.fa fo168_7 rfl (W.st 0 7 HS inf3 rfl rfl rfl rfl rfl rfl fun w HS => ?_)))))
    refine W.nx (V.seq (V.seq (V.region (W.mv rfl (W.nc rfl (W.fa fo168_7 rfl (W.ld 0 HS underlying3 rfl rfl rfl rfl (W.r (X.cmp (decide ((w64 (a0.left - 1)) = 0)) rfl rfl rfl rfl) rfl (W.nx ?_)))))))))
    by_cases c13 : (w64 (a0.left - 1)) = 0
    ·replace H := ite_t c13 H
     refine V.condT (sb (dT c13)) (V.seq (V.region (W.as rfl (W.nx (V.ret (At.thenRet (At.blockRet (At.thenRet ?_))))))))
     replace HS := aps_Aps.close tv HS
     cases H
     exact At.ret1 rfl rfl ⟨_, rfl, rfl, HS⟩
    ·replace H := ite_f c13 H
     refine V.condF (sb (dF c13)) (V.skip (At.next (V.seq (V.region (W.as rfl (W.nx (V.ret (At.blockRet (At.thenRet ?_)))))))))
     replace HS := aps_Aps.close tv HS
     cases H
     exact At.ret1 rfl rfl ⟨_, rfl, rfl, HS⟩
   ·replace H := ite_f c10 H
    refine V.condF (sb (dF c10)) (V.seq (V.region (W.r (X.cmp (decide (a0.own = 1)) rfl rfl rfl rfl) rfl (W.as rfl (W.nx ?_)))))
    by_cases c14 : a0.own = 1
    ·replace H := ite_t c14 H
     refine V.condT (sb (dT c14)) (V.seq (V.region (W.as rfl (W.nx (V.ret (At.blockRet (At.thenRet ?_)))))))
     cases H
     exact At.ret1 rfl rfl ⟨_, rfl, rfl, HS⟩
    ·replace H := ite_f c14 H
     refine V.condF (sb (dF c14)) (V.skip (At.blockEnd (At.next (V.seq (V.region (W.as rfl (W.nx (V.ret ?_))))))))
     cases H
     exact At.ret1 rfl rfl ⟨_, rfl, rfl, HS⟩
mutual
def request_Of.j0 (a0 : Int) (x1 : Bool) : Option Int := (if x1 = true then some (0) else some a0)
end
def request_Of.f (a0 : Int) : Option Int := (if a0 < 0 then (request_Of.j0 a0 true) else (request_Of.j0 a0 (decide (a0 > 8))))
theorem request_Of.calls {a0 : Int} {R : As} {w0 w : World}  {r : Int} (H : request_Of.f a0 = some r) (HS : Sep.St [R] w0 w)  : Calls Tryz.prog 190 #[vi a0] w (Ret fun u w => u = vi r ∧ Sep.St [R] w0 w) := by
 unfold request_Of.f at H
 refine calls_enter func190 rfl rfl ?_
 have H : _ = some r := H
 refine V.seq (V.region (W.as rfl (W.nx (V.seq (V.meet (σ := Bool) (fun st w => match st with | x1 => Sep.St [R] w0 w ∧ request_Of.j0 a0 x1 = some r) (fun st => match st with | x1 => [(0, vi a0), (8, vb x1)]) ?_ ?_)))))
 ·refine V.region (W.mv rfl (W.r (X.cmp (decide (a0 < 0)) rfl rfl rfl rfl) rfl (W.mv rfl ?_)))
  by_cases c4 : a0 < 0
  ·replace H := ite_t c4 H
   refine W.pass 5 rfl (sb (dT c4)) rfl rfl (W.pass 5 rfl (sb (dT c4)) rfl rfl (W.r (X.pickT (sb (dT c4)) rfl) rfl (W.nil ?_)))
   exact At.meet true ⟨rfl, rfl, tv⟩ ⟨HS, H⟩
  ·replace H := ite_f c4 H
   refine W.want 5 rfl (sb (dF c4)) (W.mv rfl (W.want 5 rfl (sb (dF c4)) (W.r (X.cmp (decide (a0 > 8)) rfl rfl rfl rfl) rfl (W.r (X.pickF (sb (dF c4)) rfl) rfl (W.nil ?_)))))
   exact At.meet (decide (a0 > 8)) ⟨rfl, rfl, tv⟩ ⟨HS, H⟩
 ·rintro x1 w ⟨HS, H⟩
  unfold request_Of.j0 at H
  by_cases c3 : x1 = true
  ·replace H := ite_t c3 H
   refine V.condT (sb c3) (V.seq (V.region (W.as rfl (W.nx (V.ret (At.thenRet ?_))))))
   cases H
   exact At.ret1 rfl rfl ⟨_, rfl, rfl, HS⟩
  ·replace H := ite_f c3 H
   refine V.condF (sb (b_f c3)) (V.skip (At.next (V.seq (V.region (W.mv rfl (W.as rfl (W.nx (V.ret ?_))))))))
   cases H
   exact At.ret1 rfl rfl ⟨_, rfl, rfl, HS⟩
def request_Wins.f (a0 : Int) (a1 : Int) : Option Int := ((request_Of.f a0).bind fun t1 => ((request_Of.f a1).bind fun t3 => some (imax t1 t3)))
theorem request_Wins.calls {a0 : Int} {a1 : Int} {R : As} {w0 w : World}  {r : Int} (H : request_Wins.f a0 a1 = some r) (HS : Sep.St [R] w0 w)  : Calls Tryz.prog 182 #[vi a0, vi a1] w (Ret fun u w => u = vi r ∧ Sep.St [R] w0 w) := by
 unfold request_Wins.f at H
 refine calls_enter func182 rfl rfl ?_
 have H : _ = some r := H
 refine V.seq (V.region (W.as rfl (W.nx (V.seq (V.region (W.mv rfl ?_))))))
 obtain ⟨t1, A2, H⟩ := bind_s H
 refine W.e (Y.cl func190 (request_Of.calls A2 HS.j0)) rfl ?_
 rintro _ w ⟨rfl, HS⟩
 replace HS := HS.o0
 refine W.mv rfl ?_
 obtain ⟨t3, A4, H⟩ := bind_s H
 refine W.e (Y.cl func190 (request_Of.calls A4 HS.j0)) rfl ?_
 rintro _ w ⟨rfl, HS⟩
 replace HS := HS.o0
 refine W.r (X.max2 rfl rfl) rfl (W.as rfl (W.nx (V.ret ?_)))
 cases H
 exact At.ret1 rfl rfl ⟨_, rfl, rfl, HS⟩
mutual
def request_Line.j0  (x1 : Bool) : Option Int := (if x1 = true then some (1) else some (0))
end
def request_Line.f (a0 : Int) : Option Int := (if a0 ≥ 1 then (request_Line.j0 (decide (a0 ≤ 6))) else (request_Line.j0 false))
theorem request_Line.calls {a0 : Int} {R : As} {w0 w : World}  {r : Int} (H : request_Line.f a0 = some r) (HS : Sep.St [R] w0 w)  : Calls Tryz.prog 181 #[vi a0] w (Ret fun u w => u = vi r ∧ Sep.St [R] w0 w) := by
 unfold request_Line.f at H
 refine calls_enter func181 rfl rfl ?_
 have H : _ = some r := H
 refine V.seq (V.region (W.as rfl (W.nx (V.seq (V.meet (σ := Bool) (fun st w => match st with | x1 => Sep.St [R] w0 w ∧ request_Line.j0 x1 = some r) (fun st => match st with | x1 => [(8, vb x1)]) ?_ ?_)))))
 ·refine V.region (W.mv rfl (W.r (X.cmp (decide (a0 ≥ 1)) rfl rfl rfl rfl) rfl (W.mv rfl ?_)))
  by_cases c4 : a0 ≥ 1
  ·replace H := ite_t c4 H
   refine W.want 5 rfl (sb (dT c4)) (W.mv rfl (W.want 5 rfl (sb (dT c4)) (W.r (X.cmp (decide (a0 ≤ 6)) rfl rfl rfl rfl) rfl (W.r (X.pickT (sb (dT c4)) rfl) rfl (W.nil ?_)))))
   exact At.meet (decide (a0 ≤ 6)) ⟨rfl, tv⟩ ⟨HS, H⟩
  ·replace H := ite_f c4 H
   refine W.pass 5 rfl (sb (dF c4)) rfl rfl (W.pass 5 rfl (sb (dF c4)) rfl rfl (W.r (X.pickF (sb (dF c4)) rfl) rfl (W.nil ?_)))
   exact At.meet false ⟨rfl, tv⟩ ⟨HS, H⟩
 ·rintro x1 w ⟨HS, H⟩
  unfold request_Line.j0 at H
  by_cases c3 : x1 = true
  ·replace H := ite_t c3 H
   refine V.condT (sb c3) (V.seq (V.region (W.as rfl (W.nx (V.ret (At.thenRet ?_))))))
   cases H
   exact At.ret1 rfl rfl ⟨_, rfl, rfl, HS⟩
  ·replace H := ite_f c3 H
   refine V.condF (sb (b_f c3)) (V.skip (At.next (V.seq (V.region (W.as rfl (W.nx (V.ret ?_)))))))
   cases H
   exact At.ret1 rfl rfl ⟨_, rfl, rfl, HS⟩
theorem aps_Aps_held.kp_command {a0 : _} {a1 : _} {t : _} (h : aps_Aps_held.f a0 a1 = some t) : t.2.command = a0.command := by
 unfold aps_Aps_held.f at h
 repeat' split at h
 all_goals first | (injection h with h; subst h; rfl) | (cases h)
mutual
def aps_Aps_Pass.j0  (x11 : aps_Aps) (x12 : Int) : Option (Int × aps_Aps) := ((request_Wins.f x12 x11.remote).bind fun t16 => ((request_Line.f t16).bind fun t18 => some (t18, ({ x11 with own := x12, line := t18 } : aps_Aps))))
end
def aps_Aps_Pass.f (a0 : aps_Aps) (a1 : Int) (a2 : Int) : Option (Int × aps_Aps) := ((aps_Aps_held.f a0 a1).bind fun t3 => ((request_Local.f a0.command t3.1 a2).bind fun t8 => (if t8 = 0 then ((aps_Aps_after.f t3.2).bind fun t21 => (aps_Aps_Pass.j0 t21.2 t21.1)) else (aps_Aps_Pass.j0 t3.2 t8))))
theorem aps_Aps_Pass.calls {a0 : aps_Aps} {a1 : Int} {a2 : Int} {R : As} {w0 w : World} {b0 : Nat} {r : Int × aps_Aps} (H : aps_Aps_Pass.f a0 a1 a2 = some r) (HS : Sep.St [aps_Aps.at b0 a0, R] w0 w)  : Calls Tryz.prog 116 #[pt b0, vi a1, vi a2] w (Ret fun u w => u = vi r.1 ∧ Sep.St [aps_Aps.at b0 r.2, R] w0 w) := by
 unfold aps_Aps_Pass.f at H
 refine calls_enter func116 rfl rfl ?_
 have H : _ = some r := H
 refine V.seq (V.region (W.as rfl (W.nx (V.seq ?_))))
 obtain ⟨hi2, HS⟩ := aps_Aps.open HS
 refine V.dr [6, 8] [9] [(8, pt b0), (9, pt b0), (10, po b0 (0 + 3)), (11, vi a0.command), (12, pt b0), (13, vi a1), (15, vi a2)] mo HS ?_
 refine T.ev [(12, _), (13, _)] [9] [4, 5] ⟨rfl, rfl, tv⟩ ⟨.mv 0, .nc 8, .fa 9 fo168_3, .ld 10 0 underlying3, .mv 0, .mv 1, .mv 2, tv⟩ rfl (fun w HS => ?_)
 replace HS := aps_Aps.close tv HS
 obtain ⟨t3, A4, H⟩ := bind_s H
 refine ⟨_, Y.cl func179 (aps_Aps_held.calls A4 HS.j1), ?_⟩
 rintro _ w ⟨rfl, HS⟩
 replace HS := HS.o1
 obtain ⟨hi6, HS⟩ := aps_Aps.open HS
 have hq7 : t3.2.command = a0.command := aps_Aps_held.kp_command A4
 refine T.nw HS ?_
 refine T.ev [(11, _), (14, _), (15, _)] [] [0, 1, 2, 3, 7] ⟨rfl, rfl, rfl, tv⟩ ⟨.mv 0, .nc 8, .fa 9 fo168_3, .n1 10 rfl rfl (fun w HS => Runs.to (congrArg (Value.int .i64) hq7) (X.loadAt 0 HS rfl underlying3 rfl rfl rfl)), .mv 2, tv⟩ rfl (fun w HS => ?_)
 obtain ⟨t8, A9, H⟩ := bind_s H
 refine ⟨_, Y.cl func178 (request_Local.calls A9 HS.j0), ?_⟩
 rintro _ w ⟨rfl, HS⟩
 replace HS := HS.o0
 refine T.nm [(16, vi t8), (7, vi t8)] HS ⟨.inl ⟨rfl, rfl⟩, ⟨.inr ⟨by decide, rfl⟩, tv⟩⟩ ?_
 refine T.fn [(0, _), (7, _)] ⟨rfl, rfl, tv⟩ ⟨.as 16, tv⟩ (fun w HS => ?_)
 refine At.next (V.meet (σ := aps_Aps × Int) (fun st w => match st with | (x11, x12) => Sep.St [aps_Aps.at b0 x11, R] w0 w ∧ aps_Aps_Pass.j0 x11 x12 = some r) (fun st => match st with | (x11, x12) => [(0, pt b0), (7, vi x12)]) ?_ ?_)
 ·refine V.seq (V.region (W.mv rfl (W.r (X.cmp (decide (t8 = 0)) rfl rfl rfl rfl) rfl (W.nx ?_))))
  by_cases c20 : t8 = 0
  ·replace H := ite_t c20 H
   refine V.condT (sb (dT c20)) (V.region (W.mv rfl ?_))
   replace HS := aps_Aps.close tv HS
   obtain ⟨t21, A22, H⟩ := bind_s H
   refine W.e (Y.cl func180 (aps_Aps_after.calls A22 HS.j1)) rfl ?_
   rintro _ w ⟨rfl, HS⟩
   replace HS := HS.o1
   refine W.as rfl (W.nil ?_)
   exact At.meet (t21.2, t21.1) ⟨rfl, rfl, tv⟩ ⟨HS, H⟩
  ·replace H := ite_f c20 H
   refine V.condF (sb (dF c20)) (V.skip ?_)
   replace HS := aps_Aps.close tv HS
   exact At.meet (t3.2, t8) ⟨rfl, rfl, tv⟩ ⟨HS, H⟩
 ·rintro ⟨x11, x12⟩ w ⟨HS, H⟩
  unfold aps_Aps_Pass.j0 at H
  refine V.seq (V.region (W.mv rfl (W.mv rfl (W.nc rfl ?_))))
  obtain ⟨hi15, HS⟩ := aps_Aps.open HS
  refine W.fa fo168_5 rfl (W.st 0 5 HS inf3 rfl rfl rfl rfl rfl rfl fun w HS => ?_)
  refine W.nx (V.seq (V.region (W.mv rfl (W.mv rfl (W.mv rfl (W.nc rfl (W.fa fo168_4 rfl (W.ld 0 HS underlying3 rfl rfl rfl rfl ?_))))))))
  obtain ⟨t16, A17, H⟩ := bind_s H
  refine W.e (Y.cl func182 (request_Wins.calls A17 HS.j0)) rfl ?_
  rintro _ w ⟨rfl, HS⟩
  replace HS := HS.o0
  obtain ⟨t18, A19, H⟩ := bind_s H
  refine W.e (Y.cl func181 (request_Line.calls A19 HS.j0)) rfl ?_
  rintro _ w ⟨rfl, HS⟩
  replace HS := HS.o0
  refine W.nc rfl (W.fa fo168_8 rfl (W.st 0 8 HS inf3 rfl rfl rfl rfl rfl rfl fun w HS => ?_))
  refine W.nx (V.seq (V.region (W.mv rfl (W.nc rfl (W.fa fo168_8 rfl (W.ld 0 HS underlying3 rfl rfl rfl rfl (W.as rfl (W.nx (V.ret ?_)))))))))
  replace HS := aps_Aps.close tv HS
  cases H
  exact At.ret1 rfl rfl ⟨_, rfl, rfl, HS⟩
def station_Station_twice.f (a0 : station_Station) : Option Bool := some (decide (a0.c.Mode = 0))
theorem station_Station_twice.calls {a0 : station_Station} {R : As} {w0 w : World} {b0 : Nat} {b16_p0 : Nat} {b17_p0 : Nat} {b18_p0 : Nat} {b22_p0 : Nat} {b23_p0 : Nat} {b24_p0 : Nat} {b32_p0 : Nat} {b33_p0 : Nat} {b34_p0 : Nat} {r : Bool} (H : station_Station_twice.f a0 = some r) (HS : Sep.St [blk b0 (#[vi a0.c.Mode, vi a0.c.Modulus, vi a0.c.Window, vi a0.c.T1, vi a0.c.N2, vi a0.c.Hold, vi a0.c.Wait, vi a0.c.Keep, vi a0.c.Queue, vi a0.c.Size, vi a0.c.Ring, vi a0.c.Rate, vi a0.c.Bad, vi a0.c.Good, vb a0.c.Revert, vb a0.c.Wide, pt b16_p0, pt b17_p0, pt b18_p0, Value.int .u32 a0.number, vi a0.steps, vi a0.line, pt b22_p0, pt b23_p0, pt b24_p0, vi a0.sides.1.counts.Good, vi a0.sides.1.counts.Bad, vi a0.sides.1.counts.Aborts, vi a0.sides.1.counts.Runts, vi a0.sides.1.counts.Giants, vi a0.sides.1.counts.Dropped, vi a0.sides.1.counts.Twins, pt b32_p0, pt b33_p0, pt b34_p0, vi a0.sides.2.counts.Good, vi a0.sides.2.counts.Bad, vi a0.sides.2.counts.Aborts, vi a0.sides.2.counts.Runts, vi a0.sides.2.counts.Giants, vi a0.sides.2.counts.Dropped, vi a0.sides.2.counts.Twins]) 103, arq_Arq.at b16_p0 a0.arq, aps_Aps.at b17_p0 a0.aps, twins_Table.at b18_p0 a0.twins, frame_Reader.at b22_p0 a0.sides.1.reader, monitor_Monitor.at b23_p0 a0.sides.1.monitor, ring_Ring.at b24_p0 a0.sides.1.ring, frame_Reader.at b32_p0 a0.sides.2.reader, monitor_Monitor.at b33_p0 a0.sides.2.monitor, ring_Ring.at b34_p0 a0.sides.2.ring, R] w0 w)  : Calls Tryz.prog 67 #[pt b0] w (Ret fun u w => u = vb r ∧ Sep.St [blk b0 (#[vi a0.c.Mode, vi a0.c.Modulus, vi a0.c.Window, vi a0.c.T1, vi a0.c.N2, vi a0.c.Hold, vi a0.c.Wait, vi a0.c.Keep, vi a0.c.Queue, vi a0.c.Size, vi a0.c.Ring, vi a0.c.Rate, vi a0.c.Bad, vi a0.c.Good, vb a0.c.Revert, vb a0.c.Wide, pt b16_p0, pt b17_p0, pt b18_p0, Value.int .u32 a0.number, vi a0.steps, vi a0.line, pt b22_p0, pt b23_p0, pt b24_p0, vi a0.sides.1.counts.Good, vi a0.sides.1.counts.Bad, vi a0.sides.1.counts.Aborts, vi a0.sides.1.counts.Runts, vi a0.sides.1.counts.Giants, vi a0.sides.1.counts.Dropped, vi a0.sides.1.counts.Twins, pt b32_p0, pt b33_p0, pt b34_p0, vi a0.sides.2.counts.Good, vi a0.sides.2.counts.Bad, vi a0.sides.2.counts.Aborts, vi a0.sides.2.counts.Runts, vi a0.sides.2.counts.Giants, vi a0.sides.2.counts.Dropped, vi a0.sides.2.counts.Twins]) 103, arq_Arq.at b16_p0 a0.arq, aps_Aps.at b17_p0 a0.aps, twins_Table.at b18_p0 a0.twins, frame_Reader.at b22_p0 a0.sides.1.reader, monitor_Monitor.at b23_p0 a0.sides.1.monitor, ring_Ring.at b24_p0 a0.sides.1.ring, frame_Reader.at b32_p0 a0.sides.2.reader, monitor_Monitor.at b33_p0 a0.sides.2.monitor, ring_Ring.at b34_p0 a0.sides.2.ring, R] w0 w) := by
 unfold station_Station_twice.f at H
 refine calls_enter func67 rfl rfl ?_
 have H : _ = some r := H
 refine V.seq (V.region (W.as rfl (W.nx (V.seq (V.region (W.mv rfl (W.nc rfl (W.fa fo103_0 rfl (W.fa fo23_0 rfl (W.ld 0 HS underlying3 rfl rfl rfl rfl (W.r (X.cmp (decide (a0.c.Mode = 0)) rfl rfl rfl rfl) rfl (W.as rfl (W.nx (V.ret ?_))))))))))))))
 cases H
 exact At.ret1 rfl rfl ⟨_, rfl, rfl, HS⟩
def backlog_Log_number.f (a0 : backlog_Log) (a1 : Int) : Option Int := (if ¬ (a0.m = 0) then some ((w64 (a0.first + a1)).tmod a0.m) else none)
theorem backlog_Log_number.calls {a0 : backlog_Log} {a1 : Int} {R : As} {w0 w : World} {b0 : Nat} {a5_p0 : Option Addr} {c5_p0 : Nat} {d5_p0 : List Value} {r : Int} (H : backlog_Log_number.f a0 a1 = some r) (HS : Sep.St [blk b0 (#[vi a0.m, vi a0.window, vi a0.queue, vi a0.first, vi a0.out, vs a5_p0 a0.l.length c5_p0]) 239, row 48 1 (.slice a5_p0 a0.l.length c5_p0) a0.l.length d5_p0, tie (El.sl (El.int .u8)) d5_p0 a0.l, R] w0 w)  : Calls Tryz.prog 262 #[pt b0, vi a1] w (Ret fun u w => u = vi r ∧ Sep.St [blk b0 (#[vi a0.m, vi a0.window, vi a0.queue, vi a0.first, vi a0.out, vs a5_p0 a0.l.length c5_p0]) 239, row 48 1 (.slice a5_p0 a0.l.length c5_p0) a0.l.length d5_p0, tie (El.sl (El.int .u8)) d5_p0 a0.l, R] w0 w) := by
 unfold backlog_Log_number.f at H
 refine calls_enter func262 rfl rfl ?_
 have H : _ = some r := H
 refine V.seq (V.region (W.as rfl (W.nx (V.seq ?_))))
 obtain ⟨c1, H⟩ := ite_n H
 refine V.dr [] [] [(5, pt b0), (6, pt b0), (7, po b0 (0 + 3)), (8, vi a0.first), (9, vi a1), (10, vi (w64 (a0.first + a1))), (11, pt b0), (12, pt b0), (13, po b0 (0 + 0)), (14, vi a0.m), (15, vi ((w64 (a0.first + a1)).tmod a0.m)), (4, vi ((w64 (a0.first + a1)).tmod a0.m))] mo HS ?_
 refine T.fn [(4, _)] ⟨rfl, tv⟩ ⟨.mv 0, .nc 5, .fa 6 fo239_3, .ld 7 0 underlying3, .mv 1, .n2 8 9 rfl rfl rfl (fun w HS => X.add rfl rfl), .mv 0, .nc 11, .fa 12 fo239_0, .ld 13 0 underlying3, .n2 10 14 rfl rfl rfl (fun w HS => X.rem rfl rfl c1), .as 15, tv⟩ (fun w HS => ?_)
 refine At.next (V.ret ?_)
 cases H
 exact At.ret1 rfl rfl ⟨_, rfl, rfl, HS⟩
mutual
def backlog_Log_Out.l0 : Nat → backlog_Log → Int → (List Int) → Option (List Int)
 | 0, _, _, _ => none
 | k + 1, a0, x5, x8 => (if x5 < a0.out then ((backlog_Log_number.f a0 x5).bind fun t12 => (if (x8.length : Int) + ([t12] : List Int).length ≤ 1099511627776 then (backlog_Log_Out.l0 k a0 (w64 (x5 + 1)) (x8 ++ ([t12] : List Int))) else none)) else some x8)
end
def backlog_Log_Out.f (k : Nat) (a0 : backlog_Log) : Option (List Int) := (backlog_Log_Out.l0 k a0 0 ([] : List Int))
theorem backlog_Log_Out.calls {k : Nat} {a0 : backlog_Log} {R : As} {w0 w : World} {b0 : Nat} {a5_p0 : Option Addr} {c5_p0 : Nat} {d5_p0 : List Value} {r : List Int} (H : backlog_Log_Out.f k a0 = some r) (HS : Sep.St [blk b0 (#[vi a0.m, vi a0.window, vi a0.queue, vi a0.first, vi a0.out, vs a5_p0 a0.l.length c5_p0]) 239, row 48 1 (.slice a5_p0 a0.l.length c5_p0) a0.l.length d5_p0, tie (El.sl (El.int .u8)) d5_p0 a0.l, R] w0 w)  : Calls Tryz.prog 232 #[pt b0] w (Ret fun u w => ∃ (aq0 : Option Addr) (cq0 : Nat), u = vs aq0 r.length cq0 ∧ Sep.St [row 3 1 (.slice aq0 r.length cq0) r.length (r.map (Value.int .i64)), blk b0 (#[vi a0.m, vi a0.window, vi a0.queue, vi a0.first, vi a0.out, vs a5_p0 a0.l.length c5_p0]) 239, row 48 1 (.slice a5_p0 a0.l.length c5_p0) a0.l.length d5_p0, tie (El.sl (El.int .u8)) d5_p0 a0.l, R] w0 w) := by
 unfold backlog_Log_Out.f at H
 refine calls_enter func232 rfl rfl ?_
 have H : _ = some r := H
 refine V.seq (V.region (W.as rfl (W.nx (V.seq (V.region (W.as rfl (W.nx (V.seq (V.seq (V.region (W.mv rfl (W.nc rfl (W.fa fo239_4 rfl (W.ld 0 HS underlying3 rfl rfl rfl rfl (W.mv rfl (W.nx (V.block ?_)))))))))))))))))
 replace HS := row_nilF (Value.int .i64) 3 1 HS
 refine V.loop (σ := Int × Option Addr × Nat × List Int) (fun kq (st : Int × Option Addr × Nat × List Int) w => match st with | (x5, ra6, rc7, x8) => Sep.St [row 3 1 (.slice ra6 x8.length rc7) x8.length (x8.map (Value.int .i64)), blk b0 (#[vi a0.m, vi a0.window, vi a0.queue, vi a0.first, vi a0.out, vs a5_p0 a0.l.length c5_p0]) 239, row 48 1 (.slice a5_p0 a0.l.length c5_p0) a0.l.length d5_p0, tie (El.sl (El.int .u8)) d5_p0 a0.l, R] w0 w ∧ backlog_Log_Out.l0 kq a0 x5 x8 = some r ∧ kq ≤ k) (fun st => match st with | (x5, ra6, rc7, x8) => [(0, pt b0), (3, vs ra6 x8.length rc7), (8, vi a0.out), (9, vi x5)]) k (0, none, 0, ([] : List Int)) ⟨rfl, rfl, rfl, rfl, tv⟩ ⟨HS, H, Nat.le_refl _⟩ ?_
 rintro kq9 ⟨x5, ra6, rc7, x8⟩ w ⟨HS, H, hk10⟩
 cases kq9 with
 | zero => exact absurd H (by simp [backlog_Log_Out.l0])
 | succ kq9 =>
  simp only [backlog_Log_Out.l0] at H
  refine V.seq (V.region (W.r (X.cmp (decide (x5 < a0.out)) rfl rfl rfl rfl) rfl (W.nx (V.seq ?_))))
  by_cases c11 : x5 < a0.out
  ·replace H := ite_t c11 H
   refine V.condT (sb (dT c11)) (V.skip (At.next (V.seq (V.block (V.seq (V.region (W.mv rfl (W.as rfl (W.nx (V.region (W.mv rfl (W.mv rfl (W.mv rfl ?_)))))))))))))
   obtain ⟨t12, A13, H⟩ := bind_s H
   replace HS := HS.pm [1, 2, 3, 0, 4]
   refine W.e (Y.cl func262 (backlog_Log_number.calls A13 HS.j3)) rfl ?_
   rintro _ w ⟨rfl, HS⟩
   replace HS := HS.o3
   refine W.e (Y.ls (e := 3) (Value.int .i64) ([t12] : List Int) HS rfl rfl (fun _ => by kernel_rfl)) rfl ?_
   rintro _ w ⟨lb16, rfl, HS⟩
   obtain ⟨c17, H⟩ := ite_n H
   refine W.e (Y.appF (Value.int .i64) (fun _ => rfl) 4 underlying141 ap3 rfl HS rfl rfl rfl (rdC.at 0 row_rd HS rfl) (by omega) (by omega)) rfl ?_
   rintro _ w ⟨ra18, rc19, rfl, HS⟩
   refine W.as rfl (W.nil (At.blockEnd (At.next (V.region (W.r (X.add rfl rfl) rfl (W.mv rfl (W.nil ?_)))))))
   replace HS := HS.pk [4, 1, 2, 3, 5] [0]
   exact At.round kq9 (by omega) (w64 (x5 + 1), ra18, rc19, x8 ++ ([t12] : List Int)) ⟨rfl, rfl, rfl, rfl, tv⟩ ⟨HS, H, by omega⟩
  ·replace H := ite_f c11 H
   refine V.condF (sb (dF c11)) (V.exit (At.thenExit (At.thenExit (At.blockExit (At.next (V.seq (V.region (W.mv rfl (W.as rfl (W.nx (V.ret ?_)))))))))))
   cases H
   exact At.ret1 rfl rfl ⟨_, rfl, ra6, rc7, rfl, HS⟩
def serial_Dist.f (a0 : Int) (a1 : Int) (a2 : Int) : Option Int := ((serial_round.f a0 a2).bind fun t1 => ((serial_round.f a1 a2).bind fun t3 => ((serial_round.f (w64 (t3.1 - t1.1)) t3.2).bind fun t5 => some t5.1)))
theorem serial_Dist.calls {a0 : Int} {a1 : Int} {a2 : Int} {R : As} {w0 w : World}  {r : Int} (H : serial_Dist.f a0 a1 a2 = some r) (HS : Sep.St [R] w0 w)  : Calls Tryz.prog 301 #[vi a0, vi a1, vi a2] w (Ret fun u w => u = vi r ∧ Sep.St [R] w0 w) := by
 unfold serial_Dist.f at H
 refine calls_enter func301 rfl rfl ?_
 have H : _ = some r := H
 refine V.seq (V.region (W.as rfl (W.nx (V.seq (V.region (W.mv rfl (W.mv rfl ?_)))))))
 obtain ⟨t1, A2, H⟩ := bind_s H
 refine W.e (Y.cl func175 (serial_round.calls A2 HS.j0)) rfl ?_
 rintro _ w ⟨rfl, HS⟩
 replace HS := HS.o0
 refine W.mv rfl (W.r (X.extract rfl rfl) rfl (W.r (X.extract rfl rfl) rfl (W.as rfl (W.nx (V.seq (V.region (W.mv rfl (W.mv rfl ?_))))))))
 obtain ⟨t3, A4, H⟩ := bind_s H
 refine W.e (Y.cl func175 (serial_round.calls A4 HS.j0)) rfl ?_
 rintro _ w ⟨rfl, HS⟩
 replace HS := HS.o0
 refine W.mv rfl (W.r (X.extract rfl rfl) rfl (W.r (X.extract rfl rfl) rfl (W.as rfl (W.as rfl (W.nx (V.seq (V.region (W.mv rfl (W.mv rfl (W.r (X.sub rfl rfl) rfl (W.mv rfl ?_)))))))))))
 obtain ⟨t5, A6, H⟩ := bind_s H
 refine W.e (Y.cl func175 (serial_round.calls A6 HS.j0)) rfl ?_
 rintro _ w ⟨rfl, HS⟩
 replace HS := HS.o0
 refine W.mv rfl (W.r (X.extract rfl rfl) rfl (W.r (X.extract rfl rfl) rfl (W.as rfl (W.as rfl (W.nx (V.seq (V.region (W.mv rfl (W.as rfl (W.nx (V.ret ?_)))))))))))
 cases H
 exact At.ret1 rfl rfl ⟨_, rfl, rfl, HS⟩
def slices_Clone_Sbytebyte.f (a0 : List Int) : Option (List Int) := (if (([] : List Int).length : Int) + a0.length ≤ 1099511627776 then some (([] : List Int) ++ a0) else none)
theorem slices_Clone_Sbytebyte.calls {a0 : List Int} {R : As} {w0 w : World} {sa0 : Option Addr} {sc0 : Nat} {r : List Int} (H : slices_Clone_Sbytebyte.f a0 = some r) (HS : Sep.St [R] w0 w) (hr0 : rdC R 1 (.slice sa0 a0.length sc0) a0.length (a0.map (Value.int .u8))) : Calls Tryz.prog 127 #[vs sa0 a0.length sc0] w (Ret fun u w => ∃ (aq0 : Option Addr) (cq0 : Nat), u = vs aq0 r.length cq0 ∧ Sep.St [row 5 1 (.slice aq0 r.length cq0) r.length (r.map (Value.int .u8)), R] w0 w) := by
 unfold slices_Clone_Sbytebyte.f at H
 refine calls_enter func127 rfl rfl ?_
 have H : _ = some r := H
 refine V.seq (V.region (W.as rfl (W.nx (V.seq (V.seq (V.region (W.mv rfl (W.r (X.eqSl underlying48 rfl rfl) rfl (W.nx ?_)))))))))
 by_cases cg1 : sa0.isNone = false
 ·refine V.condF (sb cg1) (V.skip (At.next (V.seq (V.region (W.e (Y.lit (e := 5) (sz := 1) (vs := #[]) [] HS (fun a ha => by simp only [List.map_toArray, List.map_cons, List.map_nil]; try rfl) rfl (by decide) (fun _ => by kernel_rfl)) rfl ?_)))))
  rintro _ w ⟨ra4, rc5, rfl, HS⟩
  have HS : Sep.St [row 5 1 (.slice ra4 ([] : List Int).length rc5) ([] : List Int).length (([] : List Int).map (Value.int .u8)), R] w0 w := HS
  refine W.mv rfl ?_
  obtain ⟨c7, H⟩ := ite_n H
  refine W.e (Y.appF (Value.int .u8) (fun _ => rfl) 0 underlying48 ap5 rfl HS rfl rfl rfl (rdC.at 1 hr0 HS rfl) (by omega) (by omega)) rfl ?_
  rintro _ w ⟨ra8, rc9, rfl, HS⟩
  refine W.as rfl (W.nx (V.ret ?_))
  cases H
  exact At.ret1 rfl rfl ⟨_, rfl, ra8, rc9, rfl, HS⟩
 ·have hN2 : sa0.isNone = true := by simpa using cg1
  have hz3 : a0 = [] := List.eq_nil_of_length_eq_zero ((rdC.at 0 hr0 HS rfl).nil (Option.isNone_iff_eq_none.1 hN2)).1
  have H : some ([] : List Int) = some r := by simpa [hz3] using H
  refine V.condT (sb hN2) (V.seq (V.region (W.as rfl (W.nx (V.ret (At.thenRet ?_))))))
  replace HS := row_nilF (Value.int .u8) 5 1 HS
  cases H
  exact At.ret1 rfl rfl ⟨_, rfl, none, 0, rfl, HS⟩
mutual
def backlog_Log_Body.j0 (a0 : backlog_Log) (t1 : Int) (x6 : Bool) : Option (List Int × Bool) := (if x6 = true then some (([] : List Int), false) else (if 0 ≤ t1 ∧ t1 < (a0.l.length : Int) then ((slices_Clone_Sbytebyte.f (a0.l.getD t1.toNat [])).bind fun t18 => some (t18, true)) else none))
end
def backlog_Log_Body.f (a0 : backlog_Log) (a1 : Int) : Option (List Int × Bool) := ((serial_Dist.f a0.first a1 a0.m).bind fun t1 => (if a1 < 0 then (backlog_Log_Body.j0 a0 t1 true) else (if a1 ≥ a0.m then (backlog_Log_Body.j0 a0 t1 true) else (backlog_Log_Body.j0 a0 t1 (decide (t1 ≥ a0.out))))))
theorem backlog_Log_Body.calls {a0 : backlog_Log} {a1 : Int} {R : As} {w0 w : World} {b0 : Nat} {a5_p0 : Option Addr} {c5_p0 : Nat} {d5_p0 : List Value} {r : List Int × Bool} (H : backlog_Log_Body.f a0 a1 = some r) (HS : Sep.St [blk b0 (#[vi a0.m, vi a0.window, vi a0.queue, vi a0.first, vi a0.out, vs a5_p0 a0.l.length c5_p0]) 239, row 48 1 (.slice a5_p0 a0.l.length c5_p0) a0.l.length d5_p0, tie (El.sl (El.int .u8)) d5_p0 a0.l, R] w0 w)  : Calls Tryz.prog 273 #[pt b0, vi a1] w (Ret fun u w => ∃ (aq0 : Option Addr) (cq0 : Nat), u = Value.tuple #[vs aq0 r.1.length cq0, vb r.2] ∧ Sep.St [row 5 1 (.slice aq0 r.1.length cq0) r.1.length (r.1.map (Value.int .u8)), blk b0 (#[vi a0.m, vi a0.window, vi a0.queue, vi a0.first, vi a0.out, vs a5_p0 a0.l.length c5_p0]) 239, row 48 1 (.slice a5_p0 a0.l.length c5_p0) a0.l.length d5_p0, tie (El.sl (El.int .u8)) d5_p0 a0.l, R] w0 w) := by
 unfold backlog_Log_Body.f at H
 refine calls_enter func273 rfl rfl ?_
 have H : _ = some r := H
 refine V.seq (V.region (W.as rfl (W.as rfl (W.nx (V.seq (V.dr [9] [10] [(7, pt b0), (8, pt b0), (9, po b0 (0 + 3)), (10, vi a0.first), (11, vi a1), (12, pt b0), (13, pt b0), (14, po b0 (0 + 0)), (15, vi a0.m)] mo HS ?_))))))
 refine T.ev [(10, _), (11, _), (15, _)] [] [0, 1, 2, 3, 4, 5, 6, 7, 8] ⟨rfl, rfl, rfl, tv⟩ ⟨.mv 0, .nc 7, .fa 8 fo239_3, .ld 9 0 underlying3, .mv 1, .mv 0, .nc 12, .fa 13 fo239_0, .ld 14 0 underlying3, tv⟩ rfl (fun w HS => ?_)
 obtain ⟨t1, A2, H⟩ := bind_s H
 refine ⟨_, Y.cl func301 (serial_Dist.calls A2 HS.j0), ?_⟩
 rintro _ w ⟨rfl, HS⟩
 replace HS := HS.o0
 refine T.nm [(16, vi t1), (6, vi t1)] HS ⟨.inl ⟨rfl, rfl⟩, ⟨.inr ⟨by decide, rfl⟩, tv⟩⟩ ?_
 refine T.fn [(0, _), (1, _), (6, _)] ⟨rfl, rfl, rfl, tv⟩ ⟨.as 16, tv⟩ (fun w HS => ?_)
 refine At.next (V.seq (V.meet (σ := Bool) (fun st w => match st with | x6 => Sep.St [blk b0 (#[vi a0.m, vi a0.window, vi a0.queue, vi a0.first, vi a0.out, vs a5_p0 a0.l.length c5_p0]) 239, row 48 1 (.slice a5_p0 a0.l.length c5_p0) a0.l.length d5_p0, tie (El.sl (El.int .u8)) d5_p0 a0.l, R] w0 w ∧ backlog_Log_Body.j0 a0 t1 x6 = some r) (fun st => match st with | x6 => [(0, pt b0), (6, vi t1), (34, vb x6)]) ?_ ?_))
 ·refine V.region (W.mv rfl (W.r (X.cmp (decide (a1 < 0)) rfl rfl rfl rfl) rfl (W.mv rfl ?_)))
  by_cases c20 : a1 < 0
  ·replace H := ite_t c20 H
   refine W.pass 19 rfl (sb (dT c20)) rfl rfl (W.pass 19 rfl (sb (dT c20)) rfl rfl (W.pass 19 rfl (sb (dT c20)) rfl rfl (W.pass 19 rfl (sb (dT c20)) rfl rfl (W.pass 19 rfl (sb (dT c20)) rfl rfl (W.pass 19 rfl (sb (dT c20)) rfl rfl (W.r (X.pickT (sb (dT c20)) rfl) rfl (W.mv rfl (W.pass 27 rfl rfl rfl rfl (W.pass 27 rfl rfl rfl rfl (W.pass 27 rfl rfl rfl rfl (W.pass 27 rfl rfl rfl rfl (W.pass 27 rfl rfl rfl rfl (W.pass 27 rfl rfl rfl rfl (W.r (X.pickT rfl rfl) rfl (W.nil ?_)))))))))))))))
   exact At.meet true ⟨rfl, rfl, rfl, tv⟩ ⟨HS, H⟩
  ·replace H := ite_f c20 H
   refine W.want 19 rfl (sb (dF c20)) (W.mv rfl (W.want 19 rfl (sb (dF c20)) (W.mv rfl (W.want 19 rfl (sb (dF c20)) (W.nc rfl (W.want 19 rfl (sb (dF c20)) (W.fa fo239_0 rfl (W.want 19 rfl (sb (dF c20)) (W.ld 0 HS underlying3 rfl rfl rfl rfl (W.want 19 rfl (sb (dF c20)) (W.r (X.cmp (decide (a1 ≥ a0.m)) rfl rfl rfl rfl) rfl (W.r (X.pickF (sb (dF c20)) rfl) rfl (W.mv rfl ?_)))))))))))))
   by_cases c21 : a1 ≥ a0.m
   ·replace H := ite_t c21 H
    refine W.pass 27 rfl (sb (dT c21)) rfl rfl (W.pass 27 rfl (sb (dT c21)) rfl rfl (W.pass 27 rfl (sb (dT c21)) rfl rfl (W.pass 27 rfl (sb (dT c21)) rfl rfl (W.pass 27 rfl (sb (dT c21)) rfl rfl (W.pass 27 rfl (sb (dT c21)) rfl rfl (W.r (X.pickT (sb (dT c21)) rfl) rfl (W.nil ?_)))))))
    exact At.meet true ⟨rfl, rfl, rfl, tv⟩ ⟨HS, H⟩
   ·replace H := ite_f c21 H
    refine W.want 27 rfl (sb (dF c21)) (W.mv rfl (W.want 27 rfl (sb (dF c21)) (W.mv rfl (W.want 27 rfl (sb (dF c21)) (W.nc rfl (W.want 27 rfl (sb (dF c21)) (W.fa fo239_4 rfl (W.want 27 rfl (sb (dF c21)) (W.ld 0 HS underlying3 rfl rfl rfl rfl (W.want 27 rfl (sb (dF c21)) (W.r (X.cmp (decide (t1 ≥ a0.out)) rfl rfl rfl rfl) rfl (W.r (X.pickF (sb (dF c21)) rfl) rfl (W.nil ?_)))))))))))))
    exact At.meet (decide (t1 ≥ a0.out)) ⟨rfl, rfl, rfl, tv⟩ ⟨HS, H⟩
 ·rintro x6 w ⟨HS, H⟩
  unfold backlog_Log_Body.j0 at H
  by_cases c8 : x6 = true
  ·replace H := ite_t c8 H
   refine V.condT (sb c8) (V.seq (V.region (W.as rfl (W.as rfl (W.nx (V.ret (At.thenRet ?_)))))))
   replace HS := row_nilF (Value.int .u8) 5 1 HS
   cases H
   exact At.ret2 rfl rfl rfl ⟨_, rfl, none, 0, rfl, HS⟩
  ·replace H := ite_f c8 H
   refine V.condF (sb (b_f c8)) (V.skip (At.next (V.seq (V.region (W.mv rfl (W.nc rfl (W.fa fo239_5 rfl (W.ld 0 HS underlying35 rfl rfl rfl rfl (W.mv rfl ?_)))))))))
   obtain ⟨c9, H⟩ := ite_n H
   obtain ⟨eb10, eo11, hh⟩ := (rdC.at 1 row_rd HS rfl).some (by decide) c9.1 c9.2; subst hh
   refine W.r (X.indexSl underlying35 inf48 rfl rfl c9.1 c9.2) rfl ?_
   obtain ⟨ec12, hc13, HS⟩ := St.tie_at 2 HS rfl ([]) c9.1 c9.2
   obtain ⟨ea14, em15, he17, HN⟩ := St.sl_openF (Value.int .u8) (fun t => tie_int t) HS; clear HS; subst he17; have HS := HN
   refine W.r (X.load underlying48 rfl rfl ((rdC.at 2 row_rd HS rfl).cellEl0 (hc13 0 _ rfl))) rfl ?_
   obtain ⟨t18, A19, H⟩ := bind_s H
   refine W.e (Y.cl func127 (slices_Clone_Sbytebyte.calls A19 HS.j0 (rdC.part 0 fsl.rd rfl))) rfl ?_
   rintro _ w ⟨at18_0, ct18_0, rfl, HS⟩
   replace HS := HS.o1
   refine W.as rfl (W.as rfl (W.nx (V.ret ?_)))
   replace HS := HS.pk [0, 2, 3, 4, 5] [1]
   cases H
   exact At.ret2 rfl rfl rfl ⟨_, rfl, at18_0, ct18_0, rfl, HS⟩
def reorder_Order_Next.f (a0 : reorder_Order) : Option Int := some a0.next
theorem reorder_Order_Next.calls {a0 : reorder_Order} {R : As} {w0 w : World} {b0 : Nat} {b3_p0 : Nat} {k3_p0 : List (Int × Value)} {a4_p0 : Option Addr} {c4_p0 : Nat} {d4_p0 : List Value} {r : Int} (H : reorder_Order_Next.f a0 = some r) (HS : Sep.St [blk b0 (#[vi a0.m, vi a0.window, vi a0.next, Value.map (some b3_p0), vs a4_p0 a0.ready.length c4_p0]) 248, mblk b3_p0 k3_p0, tieM (El.sl (El.int .u8)) k3_p0 a0.kept, row 48 1 (.slice a4_p0 a0.ready.length c4_p0) a0.ready.length d4_p0, tie (El.sl (El.int .u8)) d4_p0 a0.ready, R] w0 w)  : Calls Tryz.prog 263 #[pt b0] w (Ret fun u w => u = vi r ∧ Sep.St [blk b0 (#[vi a0.m, vi a0.window, vi a0.next, Value.map (some b3_p0), vs a4_p0 a0.ready.length c4_p0]) 248, mblk b3_p0 k3_p0, tieM (El.sl (El.int .u8)) k3_p0 a0.kept, row 48 1 (.slice a4_p0 a0.ready.length c4_p0) a0.ready.length d4_p0, tie (El.sl (El.int .u8)) d4_p0 a0.ready, R] w0 w) := by
 unfold reorder_Order_Next.f at H
 refine calls_enter func263 rfl rfl ?_
 have H : _ = some r := H
 refine V.seq (V.region (W.as rfl (W.nx (V.seq (V.region (W.mv rfl (W.nc rfl (W.fa fo248_2 rfl (W.ld 0 HS underlying3 rfl rfl rfl rfl (W.as rfl (W.nx (V.ret ?_))))))))))))
 cases H
 exact At.ret1 rfl rfl ⟨_, rfl, rfl, HS⟩
def arq_Arq_message.f (k : Nat) (a0 : arq_Arq) (a1 : Int) (a2 : List Int) (a3 : Bool) : Option arq_Arq := ((reorder_Order_Next.f a0.order).bind fun t5 => ((arq_Arq_put.f k a0 a0.tag ({ Kind := 0, Ns := a1, Nr := t5, Poll := a3 } : api_Ctl) a2).bind fun t7 => some t7))
theorem arq_Arq_message.calls {k : Nat} {a0 : arq_Arq} {a1 : Int} {a2 : List Int} {a3 : Bool} {R : As} {w0 w : World} {b0 : Nat} {sa2 : Option Addr} {sc2 : Nat} {r : arq_Arq} (H : arq_Arq_message.f k a0 a1 a2 a3 = some r) (HS : Sep.St [arq_Arq.at b0 a0, fsl 1 (.slice sa2 a2.length sc2) a2.length (a2.map (Value.int .u8)), R] w0 w)  : Calls Tryz.prog 223 #[pt b0, vi a1, vs sa2 a2.length sc2, vb a3] w (Ret fun u w => u = Value.tuple #[] ∧ Sep.St [arq_Arq.at b0 r, R] w0 w) := by
 unfold arq_Arq_message.f at H
 refine calls_enter func223 rfl rfl ?_
 have H : _ = some r := H
 obtain ⟨b8_1, b9_1, b10_1, a11_1, c11_1, d11_1, a12_1, c12_1, hi2, HS⟩ := arq_Arq.open HS
 refine V.dr [10, 14] [12] [(8, pt b0), (9, pt b0), (10, pt b0), (11, po b0 (0 + 5)), (12, vi a0.tag), (13, vi a1), (14, pt b0), (15, pt b0), (16, po b0 (0 + 9)), (17, pt b9_1), (19, vb a3), (21, vs sa2 a2.length sc2)] mo HS ?_
 refine T.ev [(17, _)] [] [6, 7, 8, 9] ⟨rfl, tv⟩ ⟨.mv 0, .mv 0, .nc 9, .fa 10 fo158_5, .ld 11 0 underlying3, .mv 1, .mv 0, .nc 14, .fa 15 fo158_9, .ld 16 0 underlying155, .mv 3, .mv 2, tv⟩ rfl (fun w HS => ?_)
 replace HS := HS.fr 2
 obtain ⟨b3_3, k3_3, a4_3, c4_3, d4_3, hi4, HS⟩ := reorder_Order.open HS
 obtain ⟨t5, A6, H⟩ := bind_s H
 refine ⟨_, Y.cl func263 (reorder_Order_Next.calls A6 HS.j5), ?_⟩
 rintro _ w ⟨rfl, HS⟩
 replace HS := HS.o5
 refine T.nm [(18, vi t5), (20, Value.agg #[vi (0), vi a1, vi t5, vb a3])] HS ⟨.inl ⟨rfl, rfl⟩, ⟨.inr ⟨by decide, rfl⟩, tv⟩⟩ ?_
 refine T.ev [(8, _), (12, _), (20, _), (21, _)] [] [0, 1, 2, 3, 4, 5, 11, 12, 13] ⟨rfl, rfl, rfl, rfl, tv⟩ ⟨.mv 0, .mv 0, .nc 9, .fa 10 fo158_5, .ld 11 5 underlying3, .mv 1, .mv 3, .ns [(13, _), (18, _), (19, _)] ⟨rfl, rfl, rfl, tv⟩ rfl (fun w HS => X.bd (Value.agg #[vi (0), vi a1, vi t5, vb a3]) rfl (fun _ => by kernel_rfl)), .mv 2, tv⟩ rfl (fun w HS => ?_)
 replace HS := reorder_Order.close tv HS
 replace HS := HS.pm [1, 2, 0, 3, 4, 5, 6, 7, 8]
 replace HS := arq_Arq.close tv HS
 replace HS := HS.more 1 rfl (fun _ t => t) fsl.pers
 obtain ⟨t7, A8, H⟩ := bind_s H
 replace HS := HS.pm [1, 0, 2, 3]
 refine ⟨_, Y.cl func176 (arq_Arq_put.calls A8 HS.j2), ?_⟩
 rintro _ w ⟨rfl, HS⟩
 replace HS := HS.o1
 refine T.nw HS ?_
 refine T.fn [] tv tv (fun w HS => ?_)
 replace HS := HS.pk [0, 2] [1]
 cases H
 exact At.end0 rfl ⟨_, rfl, rfl, HS⟩
def arq_Arq_repeat.f (k : Nat) (a0 : arq_Arq) (a1 : Int) (a2 : Bool) : Option arq_Arq := ((backlog_Log_Body.f a0.log a1).bind fun t5 => ((arq_Arq_message.f k a0 a1 t5.1 a2).bind fun t7 => some t7))
theorem arq_Arq_repeat.calls {k : Nat} {a0 : arq_Arq} {a1 : Int} {a2 : Bool} {R : As} {w0 w : World} {b0 : Nat} {r : arq_Arq} (H : arq_Arq_repeat.f k a0 a1 a2 = some r) (HS : Sep.St [arq_Arq.at b0 a0, R] w0 w)  : Calls Tryz.prog 233 #[pt b0, vi a1, vb a2] w (Ret fun u w => u = Value.tuple #[] ∧ Sep.St [arq_Arq.at b0 r, R] w0 w) := by
 unfold arq_Arq_repeat.f at H
 refine calls_enter func233 rfl rfl ?_
 have H : _ = some r := H
 refine V.seq (V.region (W.mv rfl (W.nc rfl ?_)))
 obtain ⟨b8_1, b9_1, b10_1, a11_1, c11_1, d11_1, a12_1, c12_1, hi2, HS⟩ := arq_Arq.open HS
 refine W.fa fo158_8 rfl (W.ld 0 HS underlying154 rfl rfl rfl rfl (W.mv rfl ?_))
 replace HS := HS.fr 1
 obtain ⟨a5_3, c5_3, d5_3, hi4, HS⟩ := backlog_Log.open HS
 obtain ⟨t5, A6, H⟩ := bind_s H
 refine W.e (Y.cl func273 (backlog_Log_Body.calls A6 HS.j3)) rfl ?_
 rintro _ w ⟨at5_0, ct5_0, rfl, HS⟩
 replace HS := HS.o4
 refine W.mv rfl (W.r (X.extract rfl rfl) rfl (W.r (X.extract rfl rfl) rfl (W.as rfl (W.as rfl (W.nx (V.region (W.mv rfl (W.mv rfl (W.mv rfl (W.mv rfl ?_))))))))))
 replace HS := HS.pm [1, 2, 3, 0, 4, 5, 6, 7, 8, 9, 10]
 replace HS := backlog_Log.close tv HS
 replace HS := HS.pm [2, 0, 3, 4, 5, 6, 7, 1, 8]
 replace HS := arq_Arq.close tv HS
 replace HS := HS.fr 1
 replace HS := St.row_freeze HS
 replace HS := HS.more 0 rfl (fun _ t => t) fsl.pers
 obtain ⟨t7, A8, H⟩ := bind_s H
 replace HS := HS.pm [2, 0, 1, 3]
 refine W.e (Y.cl func223 (arq_Arq_message.calls A8 HS.j2)) rfl ?_
 rintro _ w ⟨rfl, HS⟩
 replace HS := HS.o1
 refine W.nil ?_
 replace HS := HS.pk [0, 2] [1]
 cases H
 exact At.end0 rfl ⟨_, rfl, rfl, HS⟩
mutual
def arq_Arq_resend.l0 : Nat → (List Int) → Int → arq_Arq → Option arq_Arq
 | 0, _, _, _ => none
 | k + 1, t5, x17, x18 => (if x17 < (t5.length : Int) then (if 0 ≤ x17 ∧ x17 < (t5.length : Int) then ((arq_Arq_repeat.f k x18 (t5.getD x17.toNat 0) false).bind fun t25 => (arq_Arq_resend.l0 k t5 (w64 (x17 + 1)) t25)) else none) else (if (t5.length : Int) > 0 then ((arq_Arq_start.f x18).bind fun t28 => some t28) else some x18))
end
def arq_Arq_resend.f (k : Nat) (a0 : arq_Arq) : Option arq_Arq := ((backlog_Log_Out.f k a0.log).bind fun t5 => (arq_Arq_resend.l0 k t5 0 a0))
theorem arq_Arq_resend.calls {k : Nat} {a0 : arq_Arq} {R : As} {w0 w : World} {b0 : Nat} {r : arq_Arq} (H : arq_Arq_resend.f k a0 = some r) (HS : Sep.St [arq_Arq.at b0 a0, R] w0 w)  : Calls Tryz.prog 183 #[pt b0] w (Ret fun u w => u = Value.tuple #[] ∧ Sep.St [arq_Arq.at b0 r, R] w0 w) := by
 unfold arq_Arq_resend.f at H
 refine calls_enter func183 rfl rfl ?_
 have H : _ = some r := H
 refine V.seq (V.region (W.mv rfl (W.nc rfl ?_)))
 obtain ⟨b8_1, b9_1, b10_1, a11_1, c11_1, d11_1, a12_1, c12_1, hi2, HS⟩ := arq_Arq.open HS
 refine W.fa fo158_8 rfl (W.ld 0 HS underlying154 rfl rfl rfl rfl ?_)
 replace HS := HS.fr 1
 obtain ⟨a5_3, c5_3, d5_3, hi4, HS⟩ := backlog_Log.open HS
 obtain ⟨t5, A6, H⟩ := bind_s H
 refine W.e (Y.cl func232 (backlog_Log_Out.calls A6 HS.j3)) rfl ?_
 rintro _ w ⟨at5_0, ct5_0, rfl, HS⟩
 replace HS := HS.o4
 refine W.as rfl (W.nx (V.seq (V.seq (V.region (W.mv rfl (W.r (X.lenSl underlying141 rfl) rfl (W.mv rfl (W.nx (V.block ?_)))))))))
 replace HS := HS.pm [1, 2, 3, 0, 4, 5, 6, 7, 8, 9, 10]
 replace HS := backlog_Log.close tv HS
 replace HS := HS.pm [2, 0, 3, 4, 5, 6, 7, 1, 8]
 replace HS := arq_Arq.close tv HS
 refine V.loop (σ := Int × arq_Arq) (fun kq (st : Int × arq_Arq) w => match st with | (x17, x18) => Sep.St [arq_Arq.at b0 x18, row 3 1 (.slice at5_0 t5.length ct5_0) t5.length (t5.map (Value.int .i64)), R] w0 w ∧ arq_Arq_resend.l0 kq t5 x17 x18 = some r ∧ kq ≤ k) (fun st => match st with | (x17, x18) => [(0, pt b0), (2, vs at5_0 t5.length ct5_0), (10, vs at5_0 t5.length ct5_0), (11, vi (t5.length : Int)), (12, vi x17)]) k (0, a0) ⟨rfl, rfl, rfl, rfl, rfl, tv⟩ ⟨HS, H, Nat.le_refl _⟩ ?_
 rintro kq19 ⟨x17, x18⟩ w ⟨HS, H, hk20⟩
 cases kq19 with
 | zero => exact absurd H (by simp [arq_Arq_resend.l0])
 | succ kq19 =>
  simp only [arq_Arq_resend.l0] at H
  refine V.seq (V.region (W.r (X.cmp (decide (x17 < (t5.length : Int))) rfl rfl rfl rfl) rfl (W.nx (V.seq ?_))))
  by_cases c21 : x17 < (t5.length : Int)
  ·replace H := ite_t c21 H
   refine V.condT (sb (dT c21)) (V.skip (At.next (V.seq (V.block (V.seq (V.region ?_))))))
   obtain ⟨c22, H⟩ := ite_n H
   obtain ⟨eb23, eo24, hh⟩ := (rdC.at 1 row_rd HS rfl).some (by decide) c22.1 c22.2; subst hh
   refine W.r (X.indexSl underlying141 inf3 rfl rfl c22.1 c22.2) rfl (W.r (X.load underlying3 rfl rfl ((rdC.at 1 row_rd HS rfl).cellI c22.1 c22.2)) rfl (W.as rfl (W.nx (V.region (W.mv rfl (W.mv rfl ?_))))))
   obtain ⟨t25, A26, H⟩ := bind_s H
   refine W.e (Y.cl func233 (arq_Arq_repeat.calls A26 HS.j1)) rfl ?_
   rintro _ w ⟨rfl, HS⟩
   replace HS := HS.o1
   refine W.nil (At.blockEnd (At.next (V.region (W.r (X.add rfl rfl) rfl (W.mv rfl (W.nil ?_))))))
   exact At.round kq19 (by omega) (w64 (x17 + 1), t25) ⟨rfl, rfl, rfl, rfl, rfl, tv⟩ ⟨HS, H, by omega⟩
  ·replace H := ite_f c21 H
   refine V.condF (sb (dF c21)) (V.exit (At.thenExit (At.thenExit (At.blockExit (At.next (V.seq (V.region (W.mv rfl (W.r (X.lenSl underlying141 rfl) rfl (W.r (X.cmp (decide ((t5.length : Int) > 0)) rfl rfl rfl rfl) rfl (W.nx ?_)))))))))))
   by_cases c27 : (t5.length : Int) > 0
   ·replace H := ite_t c27 H
    refine V.condT (sb (dT c27)) (V.region (W.mv rfl ?_))
    obtain ⟨t28, A29, H⟩ := bind_s H
    refine W.e (Y.cl func114 (arq_Arq_start.calls A29 HS.j1)) rfl ?_
    rintro _ w ⟨rfl, HS⟩
    replace HS := HS.o1
    refine W.nil ?_
    replace HS := HS.pk [0, 2] [1]
    cases H
    exact At.end0 rfl ⟨_, rfl, rfl, HS⟩
   ·replace H := ite_f c27 H
    refine V.condF (sb (dF c27)) (V.skip ?_)
    replace HS := HS.pk [0, 2] [1]
    cases H
    exact At.end0 rfl ⟨_, rfl, rfl, HS⟩
def arq_Arq_Again.f (k : Nat) (a0 : arq_Arq) : Option arq_Arq := (if a0.state = 2 then ((arq_Arq_resend.f k a0).bind fun t4 => some t4) else some a0)
theorem arq_Arq_Again.calls {k : Nat} {a0 : arq_Arq} {R : As} {w0 w : World} {b0 : Nat} {r : arq_Arq} (H : arq_Arq_Again.f k a0 = some r) (HS : Sep.St [arq_Arq.at b0 a0, R] w0 w)  : Calls Tryz.prog 117 #[pt b0] w (Ret fun u w => u = Value.tuple #[] ∧ Sep.St [arq_Arq.at b0 r, R] w0 w) := by
 unfold arq_Arq_Again.f at H
 refine calls_enter func117 rfl rfl ?_
 have H : _ = some r := H
 refine V.seq (V.region (W.mv rfl (W.nc rfl ?_)))
 obtain ⟨b8_1, b9_1, b10_1, a11_1, c11_1, d11_1, a12_1, c12_1, hi2, HS⟩ := arq_Arq.open HS
 refine W.fa fo158_4 rfl (W.ld 0 HS underlying3 rfl rfl rfl rfl (W.r (X.cmp (decide (a0.state = 2)) rfl rfl rfl rfl) rfl (W.nx ?_)))
 by_cases c3 : a0.state = 2
 ·replace H := ite_t c3 H
  refine V.condT (sb (dT c3)) (V.region (W.mv rfl ?_))
  replace HS := arq_Arq.close tv HS
  obtain ⟨t4, A5, H⟩ := bind_s H
  refine W.e (Y.cl func183 (arq_Arq_resend.calls A5 HS.j1)) rfl ?_
  rintro _ w ⟨rfl, HS⟩
  replace HS := HS.o1
  refine W.nil ?_
  cases H
  exact At.end0 rfl ⟨_, rfl, rfl, HS⟩
 ·replace H := ite_f c3 H
  refine V.condF (sb (dF c3)) (V.skip ?_)
  replace HS := arq_Arq.close tv HS
  cases H
  exact At.end0 rfl ⟨_, rfl, rfl, HS⟩
def clock_Set_Left.f (a0 : clock_Set) (a1 : Int) : Option (Int × Bool) := ((clock_has.f a1).bind fun t1 => (if t1 = true then (if 0 ≤ a1 ∧ a1 < 32 then some (a0.left.getD a1.toNat 0, decide ((a0.left.getD a1.toNat 0) > 0)) else none) else some (0, false)))
theorem clock_Set_Left.calls {a0 : clock_Set} {a1 : Int} {R : As} {w0 w : World} {b0 : Nat} {r : Int × Bool} (H : clock_Set_Left.f a0 a1 = some r) (HS : Sep.St [blk b0 (([Value.int .u32 a0.now] ++ a0.left.map (Value.int .i64)).toArray) 253, R] w0 w) (hv0 : a0.left.length = 32) : Calls Tryz.prog 184 #[pt b0, vi a1] w (Ret fun u w => u = Value.tuple #[vi r.1, vb r.2] ∧ Sep.St [blk b0 (([Value.int .u32 a0.now] ++ a0.left.map (Value.int .i64)).toArray) 253, R] w0 w) := by
 unfold clock_Set_Left.f at H
 refine calls_enter func184 rfl rfl ?_
 have H : _ = some r := H
 refine V.seq (V.region (W.as rfl (W.as rfl (W.nx (V.seq (V.seq (V.region (W.mv rfl ?_))))))))
 obtain ⟨t1, A2, H⟩ := bind_s H
 refine W.e (Y.cl func231 (clock_has.calls A2 HS.j0)) rfl ?_
 rintro _ w ⟨rfl, HS⟩
 replace HS := HS.o0
 refine W.r (X.not rfl) rfl (W.nx ?_)
 by_cases c3 : t1 = true
 ·replace H := ite_t c3 H
  refine V.condF (sb (n_t c3)) (V.skip (At.next (V.seq ?_)))
  obtain ⟨c4, H⟩ := ite_n H
  refine V.dr [] [] [(9, pt b0), (10, vi a1), (11, pt b0), (12, po b0 (0 + 1)), (13, po b0 (0 + 1 + a1.toNat * 1)), (14, vi (a0.left.getD a1.toNat 0)), (15, pt b0), (16, vi a1), (17, pt b0), (18, po b0 (0 + 1)), (19, po b0 (0 + 1 + a1.toNat * 1)), (20, vi (a0.left.getD a1.toNat 0)), (21, vb (decide ((a0.left.getD a1.toNat 0) > 0))), (4, vi (a0.left.getD a1.toNat 0)), (5, vb (decide ((a0.left.getD a1.toNat 0) > 0)))] mo HS ?_
  refine T.fn [(4, _), (5, _)] ⟨rfl, rfl, tv⟩ ⟨.mv 0, .mv 1, .nc 9, .fa 11 fo253_1, .n2 10 12 rfl rfl rfl (fun w HS => X.indexAr underlying251 inf3 rfl rfl c4.1 c4.2), .n1 13 rfl rfl (fun w HS => X.load underlying3 rfl rfl (cellArr 0 HS rfl rfl c4.1 c4.2 (by first | exact hv0 | (simp only [List.length_set]; exact hv0)))), .mv 0, .mv 1, .nc 15, .fa 17 fo253_1, .n2 16 18 rfl rfl rfl (fun w HS => X.indexAr underlying251 inf3 rfl rfl c4.1 c4.2), .n1 19 rfl rfl (fun w HS => X.load underlying3 rfl rfl (cellArr 0 HS rfl rfl c4.1 c4.2 (by first | exact hv0 | (simp only [List.length_set]; exact hv0)))), .n1 20 rfl rfl (fun w HS => X.cmp (decide ((a0.left.getD a1.toNat 0) > 0)) rfl rfl rfl rfl), .as 14, .as 21, tv⟩ (fun w HS => ?_)
  refine At.next (V.ret ?_)
  cases H
  exact At.ret2 rfl rfl rfl ⟨_, rfl, rfl, HS⟩
 ·replace H := ite_f c3 H
  refine V.condT (sb (n_f (b_f c3))) (V.seq (V.region (W.as rfl (W.as rfl (W.nx (V.ret (At.thenRet ?_)))))))
  cases H
  exact At.ret2 rfl rfl rfl ⟨_, rfl, rfl, HS⟩
mutual
def clock_Set_soonest.l0 : Nat → clock_Set → Int → Bool → Int → Option (Int × Bool)
 | 0, _, _, _, _ => none
 | k + 1, a0, x2, x3, x4 => (if x4 < 32 then (if 0 ≤ x4 ∧ x4 < 32 then (if (a0.left.getD x4.toNat 0) > 0 then (clock_Set_soonest.j1 a0 x2 x3 x4 (clock_Set_soonest.l0 k a0) (decide ((a0.left.getD x4.toNat 0) ≤ x2))) else (clock_Set_soonest.j1 a0 x2 x3 x4 (clock_Set_soonest.l0 k a0) false)) else none) else some (x2, x3))
def clock_Set_soonest.j1 (a0 : clock_Set) (x2 : Int) (x3 : Bool) (x4 : Int) (Lq11 : Int → Bool → Int → Option (Int × Bool)) (x9 : Bool) : Option (Int × Bool) := (if x9 = true then (Lq11 (a0.left.getD x4.toNat 0) true (w64 (x4 + 1))) else (Lq11 x2 x3 (w64 (x4 + 1))))
end
def clock_Set_soonest.f (k : Nat) (a0 : clock_Set) (a1 : Int) : Option (Int × Bool) := (clock_Set_soonest.l0 k a0 a1 false 0)
theorem clock_Set_soonest.calls {k : Nat} {a0 : clock_Set} {a1 : Int} {R : As} {w0 w : World} {b0 : Nat} {r : Int × Bool} (H : clock_Set_soonest.f k a0 a1 = some r) (HS : Sep.St [blk b0 (([Value.int .u32 a0.now] ++ a0.left.map (Value.int .i64)).toArray) 253, R] w0 w) (hv0 : a0.left.length = 32) : Calls Tryz.prog 234 #[pt b0, vi a1] w (Ret fun u w => u = Value.tuple #[vi r.1, vb r.2] ∧ Sep.St [blk b0 (([Value.int .u32 a0.now] ++ a0.left.map (Value.int .i64)).toArray) 253, R] w0 w) := by
 unfold clock_Set_soonest.f at H
 refine calls_enter func234 rfl rfl ?_
 have H : _ = some r := H
 refine V.seq (V.region (W.as rfl (W.as rfl (W.nx (V.seq (V.region (W.as rfl (W.nx (V.seq (V.seq (V.region (W.mv rfl (W.nc rfl (W.fa fo253_1 rfl (W.r (X.loadArr 0 HS rfl rfl underlying251 rfl inf251 (by first | exact hv0 | (simp only [List.length_set]; exact hv0)) rfl) rfl (W.mv rfl (W.nx (V.block (V.loop (σ := Int × Bool × Int) (fun kq (st : Int × Bool × Int) w => match st with | (x2, x3, x4) => Sep.St [blk b0 (([Value.int .u32 a0.now] ++ a0.left.map (Value.int .i64)).toArray) 253, R] w0 w ∧ clock_Set_soonest.l0 kq a0 x2 x3 x4 = some r ∧ kq ≤ k) (fun st => match st with | (x2, x3, x4) => [(1, vi x2), (6, vb x3), (12, Value.agg (a0.left.map (Value.int .i64)).toArray), (13, vi x4)]) k (a1, false, 0) ⟨rfl, rfl, rfl, rfl, tv⟩ ⟨HS, H, Nat.le_refl _⟩ ?_)))))))))))))))))))
 rintro kq5 ⟨x2, x3, x4⟩ w ⟨HS, H, hk6⟩
 cases kq5 with
 | zero => exact absurd H (by simp [clock_Set_soonest.l0])
 | succ kq5 =>
  simp only [clock_Set_soonest.l0] at H
  refine V.seq (V.region (W.r (X.cmp (decide (x4 < 32)) rfl rfl rfl rfl) rfl (W.nx (V.seq ?_))))
  by_cases c7 : x4 < 32
  ·replace H := ite_t c7 H
   refine V.condT (sb (dT c7)) (V.skip (At.next (V.seq (V.block (V.seq (V.region ?_))))))
   obtain ⟨c8, H⟩ := ite_n H
   refine W.r (X.indexArr underlying251 underlying3 rfl inf3 rfl rfl c8.1 c8.2 (by first | exact hv0 | (simp only [List.length_set]; exact hv0))) rfl (W.as rfl (W.nx (V.meet (σ := Bool) (fun st w => match st with | x9 => Sep.St [blk b0 (([Value.int .u32 a0.now] ++ a0.left.map (Value.int .i64)).toArray) 253, R] w0 w ∧ ∃ kl12, kl12 ≤ kq5 ∧ clock_Set_soonest.j1 a0 x2 x3 x4 (clock_Set_soonest.l0 kl12 a0) x9 = some r) (fun st => match st with | x9 => [(1, vi x2), (6, vb x3), (8, vi (a0.left.getD x4.toNat 0)), (12, Value.agg (a0.left.map (Value.int .i64)).toArray), (13, vi x4), (22, vb x9)]) ?_ ?_)))
   ·refine V.region (W.mv rfl (W.r (X.cmp (decide ((a0.left.getD x4.toNat 0) > 0)) rfl rfl rfl rfl) rfl (W.mv rfl ?_)))
    by_cases c14 : (a0.left.getD x4.toNat 0) > 0
    ·replace H := ite_t c14 H
     refine W.want 18 rfl (sb (dT c14)) (W.mv rfl (W.want 18 rfl (sb (dT c14)) (W.mv rfl (W.want 18 rfl (sb (dT c14)) (W.r (X.cmp (decide ((a0.left.getD x4.toNat 0) ≤ x2)) rfl rfl rfl rfl) rfl (W.r (X.pickT (sb (dT c14)) rfl) rfl (W.nil ?_)))))))
     exact At.meet (decide ((a0.left.getD x4.toNat 0) ≤ x2)) ⟨rfl, rfl, rfl, rfl, rfl, rfl, tv⟩ ⟨HS, kq5, by omega, H⟩
    ·replace H := ite_f c14 H
     refine W.pass 18 rfl (sb (dF c14)) rfl rfl (W.pass 18 rfl (sb (dF c14)) rfl rfl (W.pass 18 rfl (sb (dF c14)) rfl rfl (W.r (X.pickF (sb (dF c14)) rfl) rfl (W.nil ?_))))
     exact At.meet false ⟨rfl, rfl, rfl, rfl, rfl, rfl, tv⟩ ⟨HS, kq5, by omega, H⟩
   ·rintro x9 w ⟨HS, kl12, hkkl12, H⟩
    unfold clock_Set_soonest.j1 at H
    by_cases c13 : x9 = true
    ·replace H := ite_t c13 H
     refine V.condT (sb c13) (V.region (W.mv rfl (W.as rfl (W.as rfl (W.nil (At.blockEnd (At.next (V.region (W.r (X.add rfl rfl) rfl (W.mv rfl (W.nil ?_)))))))))))
     exact At.round kl12 (by omega) (a0.left.getD x4.toNat 0, true, w64 (x4 + 1)) ⟨rfl, rfl, rfl, rfl, tv⟩ ⟨HS, H, by omega⟩
    ·replace H := ite_f c13 H
     refine V.condF (sb (b_f c13)) (V.skip (At.blockEnd (At.next (V.region (W.r (X.add rfl rfl) rfl (W.mv rfl (W.nil ?_)))))))
     exact At.round kl12 (by omega) (x2, x3, w64 (x4 + 1)) ⟨rfl, rfl, rfl, rfl, tv⟩ ⟨HS, H, by omega⟩
  ·replace H := ite_f c7 H
   refine V.condF (sb (dF c7)) (V.exit (At.thenExit (At.thenExit (At.blockExit (At.next (V.seq (V.region (W.mv rfl (W.mv rfl (W.as rfl (W.as rfl (W.nx (V.ret ?_)))))))))))))
   cases H
   exact At.ret2 rfl rfl rfl ⟨_, rfl, rfl, HS⟩
mutual
def clock_Set_pass.l0 : Nat → clock_Set → Int → Int → clock_Set → (List Int) → Option (List Int × clock_Set)
 | 0, _, _, _, _, _ => none
 | k + 1, a0, a1, x5, x6, x9 => (if x5 < 32 then (if 0 ≤ x5 ∧ x5 < 32 then (if (a0.left.getD x5.toNat 0) = 0 then (clock_Set_pass.l0 k a0 a1 (w64 (x5 + 1)) x6 x9) else (if (a0.left.getD x5.toNat 0) = a1 then (if (x9.length : Int) + ([x5] : List Int).length ≤ 1099511627776 then (clock_Set_pass.l0 k a0 a1 (w64 (x5 + 1)) ({ now := x6.now, left := x6.left.set x5.toNat (w64 ((a0.left.getD x5.toNat 0) - a1)) } : clock_Set) (x9 ++ ([x5] : List Int))) else none) else (clock_Set_pass.l0 k a0 a1 (w64 (x5 + 1)) ({ now := x6.now, left := x6.left.set x5.toNat (w64 ((a0.left.getD x5.toNat 0) - a1)) } : clock_Set) x9))) else none) else some (x9, x6))
end
def clock_Set_pass.f (k : Nat) (a0 : clock_Set) (a1 : Int) : Option (List Int × clock_Set) := (clock_Set_pass.l0 k a0 a1 0 a0 ([] : List Int))
theorem clock_Set_pass.calls {k : Nat} {a0 : clock_Set} {a1 : Int} {R : As} {w0 w : World} {b0 : Nat} {r : List Int × clock_Set} (H : clock_Set_pass.f k a0 a1 = some r) (HS : Sep.St [clock_Set.at b0 a0, R] w0 w)  : Calls Tryz.prog 235 #[pt b0, vi a1] w (Ret fun u w => ∃ (aq0 : Option Addr) (cq0 : Nat), u = vs aq0 r.1.length cq0 ∧ Sep.St [row 3 1 (.slice aq0 r.1.length cq0) r.1.length (r.1.map (Value.int .i64)), clock_Set.at b0 r.2, R] w0 w) := by
 unfold clock_Set_pass.f at H
 refine calls_enter func235 rfl rfl ?_
 have H : _ = some r := H
 refine V.seq (V.region (W.as rfl (W.nx (V.seq (V.region (W.as rfl (W.nx (V.seq (V.seq (V.region (W.mv rfl (W.nc rfl ?_))))))))))))
 obtain ⟨hi2, HS⟩ := clock_Set.open HS
 refine W.fa fo253_1 rfl (W.r (X.loadArr 0 HS rfl rfl underlying251 rfl inf251 (by first | exact hi2 | (simp only [List.length_set]; exact hi2)) rfl) rfl (W.mv rfl (W.nx (V.block ?_))))
 replace HS := row_nilF (Value.int .i64) 3 1 HS
 replace HS := HS.pm [1, 0, 2]
 replace HS := clock_Set.close (by first | exact hi2 | (simp only [List.length_set]; exact hi2)) HS
 refine V.loop (σ := Int × clock_Set × Option Addr × Nat × List Int) (fun kq (st : Int × clock_Set × Option Addr × Nat × List Int) w => match st with | (x5, x6, ra7, rc8, x9) => Sep.St [clock_Set.at b0 x6, row 3 1 (.slice ra7 x9.length rc8) x9.length (x9.map (Value.int .i64)), R] w0 w ∧ clock_Set_pass.l0 kq a0 a1 x5 x6 x9 = some r ∧ kq ≤ k) (fun st => match st with | (x5, x6, ra7, rc8, x9) => [(0, pt b0), (1, vi a1), (5, vs ra7 x9.length rc8), (11, Value.agg (a0.left.map (Value.int .i64)).toArray), (12, vi x5)]) k (0, a0, none, 0, ([] : List Int)) ⟨rfl, rfl, rfl, rfl, rfl, tv⟩ ⟨HS, H, Nat.le_refl _⟩ ?_
 rintro kq10 ⟨x5, x6, ra7, rc8, x9⟩ w ⟨HS, H, hk11⟩
 cases kq10 with
 | zero => exact absurd H (by simp [clock_Set_pass.l0])
 | succ kq10 =>
  simp only [clock_Set_pass.l0] at H
  refine V.seq (V.region (W.r (X.cmp (decide (x5 < 32)) rfl rfl rfl rfl) rfl (W.nx (V.seq ?_))))
  by_cases c12 : x5 < 32
  ·replace H := ite_t c12 H
   refine V.condT (sb (dT c12)) (V.skip (At.next (V.seq (V.block (V.seq (V.region (W.mv rfl ?_)))))))
   obtain ⟨c13, H⟩ := ite_n H
   refine W.r (X.indexArr underlying251 underlying3 rfl inf3 rfl rfl c13.1 c13.2 (by first | exact hi2 | (simp only [List.length_set]; exact hi2))) rfl (W.as rfl (W.as rfl (W.nx (V.seq (V.seq (V.region (W.mv rfl (W.r (X.cmp (decide ((a0.left.getD x5.toNat 0) = 0)) rfl rfl rfl rfl) rfl (W.nx ?_)))))))))
   by_cases c14 : (a0.left.getD x5.toNat 0) = 0
   ·replace H := ite_t c14 H
    refine V.condT (sb (dT c14)) (V.exit (At.thenExit (At.blockExit (At.next (V.region (W.r (X.add rfl rfl) rfl (W.mv rfl (W.nil ?_))))))))
    exact At.round kq10 (by omega) (w64 (x5 + 1), x6, ra7, rc8, x9) ⟨rfl, rfl, rfl, rfl, rfl, tv⟩ ⟨HS, H, by omega⟩
   ·replace H := ite_f c14 H
    refine V.condF (sb (dF c14)) (V.skip (At.next (V.seq (V.region (W.mv rfl (W.mv rfl (W.mv rfl (W.mv rfl (W.r (X.sub rfl rfl) rfl (W.nc rfl ?_))))))))))
    obtain ⟨hi16, HS⟩ := clock_Set.open HS
    refine W.fa fo253_1 rfl (W.r (X.indexAr underlying251 inf3 rfl rfl c13.1 c13.2) rfl (W.en (Y.storeArr 0 HS rfl rfl inf3 rfl rfl c13.1 c13.2 (by first | exact hi16 | (simp only [List.length_set]; exact hi16))) rfl ?_))
    rintro _ w HS
    refine W.nx (V.seq (V.region (W.mv rfl (W.mv rfl (W.r (X.cmp (decide ((a0.left.getD x5.toNat 0) = a1)) rfl rfl rfl rfl) rfl (W.nx ?_))))))
    by_cases c17 : (a0.left.getD x5.toNat 0) = a1
    ·replace H := ite_t c17 H
     refine V.condT (sb (dT c17)) (V.region (W.mv rfl (W.mv rfl (W.e (Y.ls (e := 3) (Value.int .i64) ([x5] : List Int) HS rfl rfl (fun _ => by kernel_rfl)) rfl ?_))))
     rintro _ w ⟨lb20, rfl, HS⟩
     obtain ⟨c21, H⟩ := ite_n H
     refine W.e (Y.appF (Value.int .i64) (fun _ => rfl) 2 underlying141 ap3 rfl HS rfl rfl rfl (rdC.at 0 row_rd HS rfl) (by omega) (by omega)) rfl ?_
     rintro _ w ⟨ra22, rc23, rfl, HS⟩
     refine W.as rfl (W.nil (At.blockEnd (At.next (V.region (W.r (X.add rfl rfl) rfl (W.mv rfl (W.nil ?_)))))))
     replace HS := HS.pm [1, 0, 2, 3]
     replace HS := clock_Set.close (by first | exact hi16 | (simp only [List.length_set]; exact hi16)) HS
     replace HS := HS.pk [0, 2, 3] [1]
     exact At.round kq10 (by omega) (w64 (x5 + 1), ({ now := x6.now, left := x6.left.set x5.toNat (w64 ((a0.left.getD x5.toNat 0) - a1)) } : clock_Set), ra22, rc23, x9 ++ ([x5] : List Int)) ⟨rfl, rfl, rfl, rfl, rfl, tv⟩ ⟨HS, H, by omega⟩
    ·replace H := ite_f c17 H
     refine V.condF (sb (dF c17)) (V.skip (At.blockEnd (At.next (V.region (W.r (X.add rfl rfl) rfl (W.mv rfl (W.nil ?_)))))))
     replace HS := clock_Set.close (by first | exact hi16 | (simp only [List.length_set]; exact hi16)) HS
     exact At.round kq10 (by omega) (w64 (x5 + 1), ({ now := x6.now, left := x6.left.set x5.toNat (w64 ((a0.left.getD x5.toNat 0) - a1)) } : clock_Set), ra7, rc8, x9) ⟨rfl, rfl, rfl, rfl, rfl, tv⟩ ⟨HS, H, by omega⟩
  ·replace H := ite_f c12 H
   refine V.condF (sb (dF c12)) (V.exit (At.thenExit (At.thenExit (At.blockExit (At.next (V.seq (V.region (W.mv rfl (W.as rfl (W.nx (V.ret ?_)))))))))))
   replace HS := HS.pk [1, 0, 2] []
   cases H
   exact At.ret1 rfl rfl ⟨_, rfl, ra7, rc8, rfl, HS⟩
mutual
def clock_Set_Pass.l0 : Nat → Int → Int → Bool → clock_Set → (List Int) → Option (List Int × clock_Set)
 | 0, _, _, _, _, _ => none
 | k + 1, x7, x8, x9, x10, x13 => (if x9 = true then ((clock_Set_pass.f k x10 x8).bind fun t17 => (if (x13.length : Int) + t17.1.length ≤ 1099511627776 then ((clock_Set_soonest.f k t17.2 (w64 (x7 - x8))).bind fun t24 => (clock_Set_Pass.l0 k (w64 (x7 - x8)) t24.1 t24.2 t17.2 (x13 ++ t17.1))) else none)) else ((clock_Set_pass.f k x10 x7).bind fun t26 => some (x13, t26.2)))
end
def clock_Set_Pass.f (k : Nat) (a0 : clock_Set) (a1 : Int) : Option (List Int × clock_Set) := ((clock_Set_soonest.f k ({ now := IntKind.u32.wrap (a0.now + (IntKind.u32.wrap (imax (0) (imin a1 (1073741824))))), left := a0.left } : clock_Set) (imax (0) (imin a1 (1073741824)))).bind fun t4 => (clock_Set_Pass.l0 k (imax (0) (imin a1 (1073741824))) t4.1 t4.2 ({ now := IntKind.u32.wrap (a0.now + (IntKind.u32.wrap (imax (0) (imin a1 (1073741824))))), left := a0.left } : clock_Set) ([] : List Int)))
theorem clock_Set_Pass.calls {k : Nat} {a0 : clock_Set} {a1 : Int} {R : As} {w0 w : World} {b0 : Nat} {r : List Int × clock_Set} (H : clock_Set_Pass.f k a0 a1 = some r) (HS : Sep.St [clock_Set.at b0 a0, R] w0 w)  : Calls Tryz.prog 185 #[pt b0, vi a1] w (Ret fun u w => ∃ (aq0 : Option Addr) (cq0 : Nat), u = vs aq0 r.1.length cq0 ∧ Sep.St [row 3 1 (.slice aq0 r.1.length cq0) r.1.length (r.1.map (Value.int .i64)), clock_Set.at b0 r.2, R] w0 w) := by
 unfold clock_Set_Pass.f at H
 refine calls_enter func185 rfl rfl ?_
 have H : _ = some r := H
 refine V.seq (V.region (W.as rfl (W.nx (V.seq (V.region (W.mv rfl (W.r (X.min2 rfl rfl) rfl (W.r (X.max2 rfl rfl) rfl (W.as rfl (W.nx (V.seq (V.region (W.mv rfl (W.nc rfl ?_))))))))))))))
 obtain ⟨hi2, HS⟩ := clock_Set.open HS
 refine W.fa fo253_0 rfl (W.ld 0 HS underlying95 rfl rfl rfl rfl (W.mv rfl (W.r (X.conv underlying3 underlying95 rfl) rfl (W.r (X.add rfl rfl) rfl (W.nc rfl (W.fa fo253_0 rfl (W.st 0 0 HS inf95 rfl rfl rfl rfl rfl rfl fun w HS => ?_)))))))
 refine W.nx (V.seq (V.region (W.as rfl (W.nx (V.seq (V.seq (V.region (W.mv rfl (W.mv rfl ?_)))))))))
 obtain ⟨t4, A5, H⟩ := bind_s H
 refine W.e (Y.cl func234 (clock_Set_soonest.calls A5 HS.j1 (by first | exact hi2 | (simp only [List.length_set]; exact hi2)))) rfl ?_
 rintro _ w ⟨rfl, HS⟩
 replace HS := HS.o1
 refine W.mv rfl (W.r (X.extract rfl rfl) rfl (W.r (X.extract rfl rfl) rfl (W.as rfl (W.as rfl (W.nx (V.block ?_))))))
 replace HS := row_nilF (Value.int .i64) 3 1 HS
 replace HS := HS.pm [1, 0, 2]
 replace HS := clock_Set.close (by first | exact hi2 | (simp only [List.length_set]; exact hi2)) HS
 refine V.loop (σ := Int × Int × Bool × clock_Set × Option Addr × Nat × List Int) (fun kq (st : Int × Int × Bool × clock_Set × Option Addr × Nat × List Int) w => match st with | (x7, x8, x9, x10, ra11, rc12, x13) => Sep.St [clock_Set.at b0 x10, row 3 1 (.slice ra11 x13.length rc12) x13.length (x13.map (Value.int .i64)), R] w0 w ∧ clock_Set_Pass.l0 kq x7 x8 x9 x10 x13 = some r ∧ kq ≤ k) (fun st => match st with | (x7, x8, x9, x10, ra11, rc12, x13) => [(0, pt b0), (1, vi x7), (5, vs ra11 x13.length rc12), (6, vi x8), (7, vb x9)]) k (imax (0) (imin a1 (1073741824)), t4.1, t4.2, ({ now := IntKind.u32.wrap (a0.now + (IntKind.u32.wrap (imax (0) (imin a1 (1073741824))))), left := a0.left } : clock_Set), none, 0, ([] : List Int)) ⟨rfl, rfl, rfl, rfl, rfl, tv⟩ ⟨HS, H, Nat.le_refl _⟩ ?_
 rintro kq14 ⟨x7, x8, x9, x10, ra11, rc12, x13⟩ w ⟨HS, H, hk15⟩
 cases kq14 with
 | zero => exact absurd H (by simp [clock_Set_Pass.l0])
 | succ kq14 =>
  simp only [clock_Set_Pass.l0] at H
  refine V.seq (V.seq (V.region (W.mv rfl (W.nx ?_))))
  by_cases c16 : x9 = true
  ·replace H := ite_t c16 H
   refine V.condT (sb c16) (V.skip (At.next (V.seq (V.block (V.seq (V.region (W.mv rfl (W.mv rfl (W.mv rfl ?_)))))))))
   obtain ⟨t17, A18, H⟩ := bind_s H
   refine W.e (Y.cl func235 (clock_Set_pass.calls A18 HS.j1)) rfl ?_
   rintro _ w ⟨at17_0, ct17_0, rfl, HS⟩
   replace HS := HS.o2
   obtain ⟨c19, H⟩ := ite_n H
   refine W.e (Y.appF (Value.int .i64) (fun _ => rfl) 2 underlying141 ap3 rfl HS rfl rfl rfl (rdC.at 0 row_rd HS rfl) (by omega) (by omega)) rfl ?_
   rintro _ w ⟨ra20, rc21, rfl, HS⟩
   refine W.as rfl (W.nx (V.region (W.mv rfl (W.mv rfl (W.r (X.sub rfl rfl) rfl (W.as rfl (W.nil (At.blockEnd (At.next (V.region (W.mv rfl (W.mv rfl ?_))))))))))))
   replace HS := HS.fr 1
   obtain ⟨hi23, HS⟩ := clock_Set.open HS
   obtain ⟨t24, A25, H⟩ := bind_s H
   refine W.e (Y.cl func234 (clock_Set_soonest.calls A25 HS.j1 (by first | exact hi23 | (simp only [List.length_set]; exact hi23)))) rfl ?_
   rintro _ w ⟨rfl, HS⟩
   replace HS := HS.o1
   refine W.mv rfl (W.r (X.extract rfl rfl) rfl (W.r (X.extract rfl rfl) rfl (W.as rfl (W.as rfl (W.nil ?_)))))
   replace HS := clock_Set.close (by first | exact hi23 | (simp only [List.length_set]; exact hi23)) HS
   replace HS := HS.pk [0, 2, 3] [1]
   exact At.round kq14 (by omega) (w64 (x7 - x8), t24.1, t24.2, t17.2, ra20, rc21, x13 ++ t17.1) ⟨rfl, rfl, rfl, rfl, rfl, tv⟩ ⟨HS, H, by omega⟩
  ·replace H := ite_f c16 H
   refine V.condF (sb (b_f c16)) (V.exit (At.thenExit (At.thenExit (At.blockExit (At.next (V.seq (V.region (W.mv rfl (W.mv rfl ?_)))))))))
   obtain ⟨t26, A27, H⟩ := bind_s H
   refine W.e (Y.cl func235 (clock_Set_pass.calls A27 HS.j1)) rfl ?_
   rintro _ w ⟨at26_0, ct26_0, rfl, HS⟩
   replace HS := HS.o2
   refine W.nx (V.seq (V.region (W.mv rfl (W.as rfl (W.nx (V.ret ?_))))))
   replace HS := HS.pk [2, 1, 3] [0]
   cases H
   exact At.ret1 rfl rfl ⟨_, rfl, ra11, rc12, rfl, HS⟩
def backlog_Log_Clear.f (a0 : backlog_Log) : Option (Int × backlog_Log) := some ((a0.l.length : Int), ({ a0 with first := 0, out := 0, l := ([] : List (List Int)) } : backlog_Log))
theorem backlog_Log_Clear.calls {a0 : backlog_Log} {R : As} {w0 w : World} {b0 : Nat} {r : Int × backlog_Log} (H : backlog_Log_Clear.f a0 = some r) (HS : Sep.St [backlog_Log.at b0 a0, R] w0 w)  : Calls Tryz.prog 217 #[pt b0] w (Ret fun u w => u = vi r.1 ∧ Sep.St [backlog_Log.at b0 r.2, R] w0 w) := by
 unfold backlog_Log_Clear.f at H
 refine calls_enter func217 rfl rfl ?_
 have H : _ = some r := H
 refine V.seq (V.region (W.as rfl (W.nx (V.seq (V.region (W.mv rfl (W.nc rfl ?_)))))))
 obtain ⟨a5_1, c5_1, d5_1, hi2, HS⟩ := backlog_Log.open HS
 refine W.fa fo239_5 rfl (W.ld 0 HS underlying35 rfl rfl rfl rfl (W.r (X.lenSl underlying35 rfl) rfl (W.as rfl (W.nx (V.seq (V.region (W.mv rfl (W.mv rfl (W.mv rfl (W.nc rfl (W.fa fo239_5 rfl (W.st 0 5 HS inf35 rfl rfl rfl rfl rfl rfl fun w HS => ?_))))))))))))
 refine W.nc rfl (W.fa fo239_4 rfl (W.st 0 4 HS inf3 rfl rfl rfl rfl rfl rfl fun w HS => ?_))
 refine W.nc rfl (W.fa fo239_3 rfl (W.st 0 3 HS inf3 rfl rfl rfl rfl rfl rfl fun w HS => ?_))
 refine W.nx (V.seq (V.region (W.mv rfl (W.as rfl (W.nx (V.ret ?_))))))
 replace HS := row_nilE (El.sl (El.int .u8)) 48 1 HS
 replace HS := HS.pm [2, 0, 1, 3, 4, 5]
 replace HS := backlog_Log.close (l5 := ([] : List (List Int))) tv HS
 replace HS := HS.pk [0, 3] [1, 2]
 cases H
 exact At.ret1 rfl rfl ⟨_, rfl, rfl, HS⟩
def reorder_Order_Clear.f (a0 : reorder_Order) : Option reorder_Order := some (({ a0 with next := 0, kept := ([] : List (Int × (List Int))) } : reorder_Order))
theorem reorder_Order_Clear.calls {a0 : reorder_Order} {R : As} {w0 w : World} {b0 : Nat} {r : reorder_Order} (H : reorder_Order_Clear.f a0 = some r) (HS : Sep.St [reorder_Order.at b0 a0, R] w0 w)  : Calls Tryz.prog 218 #[pt b0] w (Ret fun u w => u = Value.tuple #[] ∧ Sep.St [reorder_Order.at b0 r, R] w0 w) := by
 unfold reorder_Order_Clear.f at H
 refine calls_enter func218 rfl rfl ?_
 have H : _ = some r := H
 refine V.seq (V.region (W.mv rfl (W.nc rfl ?_)))
 obtain ⟨b3_1, k3_1, a4_1, c4_1, d4_1, hi2, HS⟩ := reorder_Order.open HS
 refine W.fa fo248_3 rfl (W.ld 0 HS underlying246 rfl rfl rfl rfl ?_)
 replace HS := HS.fr 2
 replace HS := HS.mono (B := tieM (El.sl (El.int .u8)) [] ([] : List (Int × (List Int)))) fun _ _ => tv
 refine W.en (Y.clearMap 2 underlying246 HS rfl rfl) rfl ?_
 rintro _ w HS
 refine W.nx (V.region (W.mv rfl (W.nc rfl (W.fa fo248_2 rfl (W.st 1 2 HS inf3 rfl rfl rfl rfl rfl rfl fun w HS => ?_)))))
 refine W.nil ?_
 replace HS := HS.pm [1, 2, 0, 3, 4, 5]
 replace HS := reorder_Order.close tv HS
 cases H
 exact At.end0 rfl ⟨_, rfl, rfl, HS⟩
def clock_Set_Stop.f (a0 : clock_Set) (a1 : Int) : Option (Bool × clock_Set) := ((clock_Set_Left.f a0 a1).bind fun t3 => (if t3.2 = true then (if 0 ≤ a1 ∧ a1 < 32 then some (t3.2, ({ now := a0.now, left := a0.left.set a1.toNat (0) } : clock_Set)) else none) else some (t3.2, a0)))
theorem clock_Set_Stop.calls {a0 : clock_Set} {a1 : Int} {R : As} {w0 w : World} {b0 : Nat} {r : Bool × clock_Set} (H : clock_Set_Stop.f a0 a1 = some r) (HS : Sep.St [clock_Set.at b0 a0, R] w0 w)  : Calls Tryz.prog 219 #[pt b0, vi a1] w (Ret fun u w => u = vb r.1 ∧ Sep.St [clock_Set.at b0 r.2, R] w0 w) := by
 unfold clock_Set_Stop.f at H
 refine calls_enter func219 rfl rfl ?_
 have H : _ = some r := H
 refine V.seq (V.region (W.as rfl (W.nx (V.seq (V.region (W.mv rfl (W.mv rfl ?_)))))))
 obtain ⟨hi2, HS⟩ := clock_Set.open HS
 obtain ⟨t3, A4, H⟩ := bind_s H
 refine W.e (Y.cl func184 (clock_Set_Left.calls A4 HS.j1 (by first | exact hi2 | (simp only [List.length_set]; exact hi2)))) rfl ?_
 rintro _ w ⟨rfl, HS⟩
 replace HS := HS.o1
 refine W.mv rfl (W.r (X.extract rfl rfl) rfl (W.r (X.extract rfl rfl) rfl (W.as rfl (W.as rfl (W.nx (V.seq (V.seq (V.region (W.mv rfl (W.nx ?_))))))))))
 by_cases c5 : t3.2 = true
 ·replace H := ite_t c5 H
  refine V.condT (sb c5) (V.region (W.mv rfl (W.mv rfl (W.nc rfl (W.fa fo253_1 rfl ?_)))))
  obtain ⟨c6, H⟩ := ite_n H
  refine W.r (X.indexAr underlying251 inf3 rfl rfl c6.1 c6.2) rfl (W.en (Y.storeArr 0 HS rfl rfl inf3 rfl rfl c6.1 c6.2 (by first | exact hi2 | (simp only [List.length_set]; exact hi2))) rfl ?_)
  rintro _ w HS
  refine W.nx (V.seq (V.region (W.mv rfl (W.as rfl (W.nx (V.ret ?_))))))
  replace HS := clock_Set.close (by first | exact hi2 | (simp only [List.length_set]; exact hi2)) HS
  cases H
  exact At.ret1 rfl rfl ⟨_, rfl, rfl, HS⟩
 ·replace H := ite_f c5 H
  refine V.condF (sb (b_f c5)) (V.skip (At.next (V.seq (V.region (W.mv rfl (W.as rfl (W.nx (V.ret ?_))))))))
  replace HS := clock_Set.close (by first | exact hi2 | (simp only [List.length_set]; exact hi2)) HS
  cases H
  exact At.ret1 rfl rfl ⟨_, rfl, rfl, HS⟩
def arq_Arq_fresh.f (a0 : arq_Arq) (a1 : Int) : Option arq_Arq := ((backlog_Log_Clear.f a0.log).bind fun t3 => ((reorder_Order_Clear.f a0.order).bind fun t5 => ((clock_Set_Stop.f a0.timers 0).bind fun t7 => some (({ a0 with state := a1, tries := 0, rejected := false, log := t3.2, order := t5, timers := t7.2, lost := w64 (a0.lost + t3.1) } : arq_Arq)))))
theorem arq_Arq_fresh.calls {a0 : arq_Arq} {a1 : Int} {R : As} {w0 w : World} {b0 : Nat} {r : arq_Arq} (H : arq_Arq_fresh.f a0 a1 = some r) (HS : Sep.St [arq_Arq.at b0 a0, R] w0 w)  : Calls Tryz.prog 149 #[pt b0, vi a1] w (Ret fun u w => u = Value.tuple #[] ∧ Sep.St [arq_Arq.at b0 r, R] w0 w) := by
 unfold arq_Arq_fresh.f at H
 refine calls_enter func149 rfl rfl ?_
 have H : _ = some r := H
 refine V.seq (V.region (W.mv rfl (W.mv rfl (W.mv rfl (W.mv rfl (W.nc rfl ?_))))))
 obtain ⟨b8_1, b9_1, b10_1, a11_1, c11_1, d11_1, a12_1, c12_1, hi2, HS⟩ := arq_Arq.open HS
 refine W.fa fo158_4 rfl (W.st 0 4 HS inf3 rfl rfl rfl rfl rfl rfl fun w HS => ?_)
 refine W.nc rfl (W.fa fo158_6 rfl (W.st 0 6 HS inf3 rfl rfl rfl rfl rfl rfl fun w HS => ?_))
 refine W.nc rfl (W.fa fo158_7 rfl (W.st 0 7 HS inf4 rfl rfl rfl rfl rfl rfl fun w HS => ?_))
 refine W.nx (V.seq (V.dr [8, 12] [9, 10, 11] [(14, pt b0), (15, pt b0), (16, po b0 (0 + 15)), (17, vi a0.lost), (18, pt b0), (19, pt b0), (20, po b0 (0 + 8)), (21, pt b8_1)] mo HS ?_))
 refine T.ev [(21, _)] [] [4, 5, 6, 7] ⟨rfl, tv⟩ ⟨.mv 0, .nc 14, .fa 15 fo158_15, .ld 16 0 underlying3, .mv 0, .nc 18, .fa 19 fo158_8, .ld 20 0 underlying154, tv⟩ rfl (fun w HS => ?_)
 obtain ⟨t3, A4, H⟩ := bind_s H
 replace HS := HS.pm [1, 0, 2, 3, 4, 5, 6, 7]
 refine ⟨_, Y.cl func217 (backlog_Log_Clear.calls A4 HS.j1), ?_⟩
 rintro _ w ⟨rfl, HS⟩
 replace HS := HS.o1
 refine T.nm [(22, vi t3.1), (23, vi (w64 (a0.lost + t3.1))), (24, pt b0), (25, po b0 (0 + 15))] HS ⟨.inl ⟨rfl, rfl⟩, ⟨.inr ⟨by decide, rfl⟩, ⟨.inr ⟨by decide, rfl⟩, ⟨.inr ⟨by decide, rfl⟩, tv⟩⟩⟩⟩ ?_
 refine T.ev [(23, _), (25, _)] [] [0, 1, 2, 3, 9, 10, 11] ⟨rfl, rfl, tv⟩ ⟨.mv 0, .nc 14, .fa 15 fo158_15, .ld 16 1 underlying3, .n2 17 22 rfl rfl rfl (fun w HS => X.add rfl rfl), .nc 14, .fa 24 fo158_15, tv⟩ rfl (fun w HS => ?_)
 refine ⟨_, Y.sto 1 15 HS inf3 rfl rfl rfl rfl rfl rfl, ?_⟩
 rintro _ w HS
 refine T.nn HS ?_
 refine T.fn [(0, _)] ⟨rfl, tv⟩ tv (fun w HS => ?_)
 refine At.next (V.seq (V.region (W.mv rfl (W.nc rfl (W.fa fo158_9 rfl (W.ld 1 HS underlying155 rfl rfl rfl rfl ?_))))))
 obtain ⟨t5, A6, H⟩ := bind_s H
 replace HS := HS.pm [2, 0, 1, 3, 4, 5, 6, 7]
 refine W.e (Y.cl func218 (reorder_Order_Clear.calls A6 HS.j1)) rfl ?_
 rintro _ w ⟨rfl, HS⟩
 replace HS := HS.o1
 refine W.nx (V.region (W.mv rfl (W.nc rfl (W.fa fo158_10 rfl (W.ld 2 HS underlying156 rfl rfl rfl rfl ?_)))))
 obtain ⟨t7, A8, H⟩ := bind_s H
 replace HS := HS.pm [3, 0, 1, 2, 4, 5, 6, 7]
 refine W.e (Y.cl func219 (clock_Set_Stop.calls A8 HS.j1)) rfl ?_
 rintro _ w ⟨rfl, HS⟩
 replace HS := HS.o1
 refine W.nil ?_
 replace HS := HS.pm [3, 2, 1, 0, 4, 5, 6, 7]
 replace HS := arq_Arq.close tv HS
 cases H
 exact At.end0 rfl ⟨_, rfl, rfl, HS⟩
def arq_Arq_end.f (a0 : arq_Arq) : Option arq_Arq := ((arq_Arq_fresh.f a0 0).bind fun t1 => (if (t1.inds.length : Int) + ([2] : List Int).length ≤ 1099511627776 then some (({ t1 with inds := t1.inds ++ ([2] : List Int) } : arq_Arq)) else none))
theorem arq_Arq_end.calls {a0 : arq_Arq} {R : As} {w0 w : World} {b0 : Nat} {r : arq_Arq} (H : arq_Arq_end.f a0 = some r) (HS : Sep.St [arq_Arq.at b0 a0, R] w0 w)  : Calls Tryz.prog 236 #[pt b0] w (Ret fun u w => u = Value.tuple #[] ∧ Sep.St [arq_Arq.at b0 r, R] w0 w) := by
 unfold arq_Arq_end.f at H
 refine calls_enter func236 rfl rfl ?_
 have H : _ = some r := H
 refine V.seq (V.region (W.mv rfl ?_))
 obtain ⟨t1, A2, H⟩ := bind_s H
 refine W.e (Y.cl func149 (arq_Arq_fresh.calls A2 HS.j1)) rfl ?_
 rintro _ w ⟨rfl, HS⟩
 replace HS := HS.o1
 refine W.nx (V.region (W.mv rfl (W.mv rfl (W.nc rfl ?_))))
 obtain ⟨b8_3, b9_3, b10_3, a11_3, c11_3, d11_3, a12_3, c12_3, hi4, HS⟩ := arq_Arq.open HS
 refine W.fa fo158_12 rfl (W.ld 0 HS underlying141 rfl rfl rfl rfl (W.e (Y.ls (e := 3) (Value.int .i64) ([2] : List Int) HS rfl rfl (fun _ => by kernel_rfl)) rfl ?_))
 rintro _ w ⟨lb7, rfl, HS⟩
 obtain ⟨c8, H⟩ := ite_n H
 refine W.e (Y.appF (Value.int .i64) (fun _ => rfl) 7 underlying141 ap3 rfl HS rfl rfl rfl (rdC.at 0 row_rd HS rfl) (by omega) (by omega)) rfl ?_
 rintro _ w ⟨ra9, rc10, rfl, HS⟩
 refine W.nc rfl (W.fa fo158_12 rfl (W.st 1 12 HS inf141 rfl rfl rfl rfl rfl rfl fun w HS => ?_))
 refine W.nil ?_
 replace HS := HS.pm [1, 2, 3, 4, 5, 6, 7, 0, 8]
 replace HS := arq_Arq.close tv HS
 replace HS := HS.pk [0, 2] [1]
 cases H
 exact At.end0 rfl ⟨_, rfl, rfl, HS⟩
def arq_Arq_late.f (k : Nat) (a0 : arq_Arq) : Option arq_Arq := (if (w64 (a0.tries + 1)) > a0.n2 then ((arq_Arq_end.f ({ a0 with tries := w64 (a0.tries + 1) } : arq_Arq)).bind fun t11 => some t11) else ((arq_Arq_start.f ({ a0 with tries := w64 (a0.tries + 1) } : arq_Arq)).bind fun t13 => (if t13.state = 1 then ((arq_Arq_tell.f k t13 ({ Kind := 3, Ns := 0, Nr := 0, Poll := true } : api_Ctl)).bind fun t18 => some t18) else (if t13.state = 3 then ((arq_Arq_tell.f k t13 ({ Kind := 5, Ns := 0, Nr := 0, Poll := true } : api_Ctl)).bind fun t21 => some t21) else (if t13.state = 2 then ((backlog_Log_Out.f k t13.log).bind fun t26 => (if (t26.length : Int) > 0 then (if 0 ≤ (0 : Int) ∧ (0 : Int) < (t26.length : Int) then ((arq_Arq_repeat.f k t13 (t26.getD (0 : Int).toNat 0) true).bind fun t32 => some t32) else none) else some t13)) else some t13)))))
theorem arq_Arq_late.calls {k : Nat} {a0 : arq_Arq} {R : As} {w0 w : World} {b0 : Nat} {r : arq_Arq} (H : arq_Arq_late.f k a0 = some r) (HS : Sep.St [arq_Arq.at b0 a0, R] w0 w)  : Calls Tryz.prog 186 #[pt b0] w (Ret fun u w => u = Value.tuple #[] ∧ Sep.St [arq_Arq.at b0 r, R] w0 w) := by
 unfold arq_Arq_late.f at H
 refine calls_enter func186 rfl rfl ?_
 have H : _ = some r := H
 refine V.seq (V.region (W.mv rfl (W.nc rfl ?_)))
 obtain ⟨b8_1, b9_1, b10_1, a11_1, c11_1, d11_1, a12_1, c12_1, hi2, HS⟩ := arq_Arq.open HS
 refine W.fa fo158_6 rfl (W.ld 0 HS underlying3 rfl rfl rfl rfl (W.r (X.add rfl rfl) rfl (W.nc rfl (W.fa fo158_6 rfl (W.st 0 6 HS inf3 rfl rfl rfl rfl rfl rfl fun w HS => ?_)))))
 refine W.nx (V.seq (V.seq (V.dr [] [] [(10, pt b0), (11, pt b0), (12, po b0 (0 + 6)), (13, vi (w64 (a0.tries + 1))), (14, pt b0), (15, pt b0), (16, po b0 (0 + 2)), (17, vi a0.n2), (18, vb (decide ((w64 (a0.tries + 1)) > a0.n2)))] mo HS ?_)))
 refine T.fn [(0, _), (18, _)] ⟨rfl, rfl, tv⟩ ⟨.mv 0, .nc 10, .fa 11 fo158_6, .ld 12 0 underlying3, .mv 0, .nc 14, .fa 15 fo158_2, .ld 16 0 underlying3, .n2 13 17 rfl rfl rfl (fun w HS => X.cmp (decide ((w64 (a0.tries + 1)) > a0.n2)) rfl rfl rfl rfl), tv⟩ (fun w HS => ?_)
 refine At.next ?_
 by_cases c10 : (w64 (a0.tries + 1)) > a0.n2
 ·replace H := ite_t c10 H
  refine V.condT (sb (dT c10)) (V.seq (V.region (W.mv rfl ?_)))
  replace HS := arq_Arq.close tv HS
  obtain ⟨t11, A12, H⟩ := bind_s H
  refine W.e (Y.cl func236 (arq_Arq_end.calls A12 HS.j1)) rfl ?_
  rintro _ w ⟨rfl, HS⟩
  replace HS := HS.o1
  refine W.nx (V.ret (At.thenRet ?_))
  cases H
  exact At.ret0 rfl ⟨_, rfl, rfl, HS⟩
 ·replace H := ite_f c10 H
  refine V.condF (sb (dF c10)) (V.skip (At.next (V.seq (V.region (W.mv rfl ?_)))))
  replace HS := arq_Arq.close tv HS
  obtain ⟨t13, A14, H⟩ := bind_s H
  refine W.e (Y.cl func114 (arq_Arq_start.calls A14 HS.j1)) rfl ?_
  rintro _ w ⟨rfl, HS⟩
  replace HS := HS.o1
  refine W.nx (V.seq (V.region (W.mv rfl (W.nc rfl ?_))))
  obtain ⟨b8_15, b9_15, b10_15, a11_15, c11_15, d11_15, a12_15, c12_15, hi16, HS⟩ := arq_Arq.open HS
  refine W.fa fo158_4 rfl (W.ld 0 HS underlying3 rfl rfl rfl rfl (W.nx (V.block (V.seq (V.region (W.r (X.cmp (decide (t13.state = 1)) rfl rfl rfl rfl) rfl (W.as rfl (W.nx ?_))))))))
  by_cases c17 : t13.state = 1
  ·replace H := ite_t c17 H
   refine V.condT (sb (dT c17)) (V.region (W.mv rfl (W.r (X.bd (Value.agg #[vi (3), vi (0), vi (0), vb true]) rfl (fun _ => by kernel_rfl)) rfl ?_)))
   replace HS := arq_Arq.close tv HS
   obtain ⟨t18, A19, H⟩ := bind_s H
   refine W.e (Y.cl func113 (arq_Arq_tell.calls A19 HS.j1)) rfl ?_
   rintro _ w ⟨rfl, HS⟩
   replace HS := HS.o1
   refine W.nil (At.blockEnd ?_)
   cases H
   exact At.end0 rfl ⟨_, rfl, rfl, HS⟩
  ·replace H := ite_f c17 H
   refine V.condF (sb (dF c17)) (V.seq (V.region (W.r (X.cmp (decide (t13.state = 3)) rfl rfl rfl rfl) rfl (W.as rfl (W.nx ?_)))))
   by_cases c20 : t13.state = 3
   ·replace H := ite_t c20 H
    refine V.condT (sb (dT c20)) (V.region (W.mv rfl (W.r (X.bd (Value.agg #[vi (5), vi (0), vi (0), vb true]) rfl (fun _ => by kernel_rfl)) rfl ?_)))
    replace HS := arq_Arq.close tv HS
    obtain ⟨t21, A22, H⟩ := bind_s H
    refine W.e (Y.cl func113 (arq_Arq_tell.calls A22 HS.j1)) rfl ?_
    rintro _ w ⟨rfl, HS⟩
    replace HS := HS.o1
    refine W.nil (At.blockEnd ?_)
    cases H
    exact At.end0 rfl ⟨_, rfl, rfl, HS⟩
   ·replace H := ite_f c20 H
    refine V.condF (sb (dF c20)) (V.seq (V.region (W.r (X.cmp (decide (t13.state = 2)) rfl rfl rfl rfl) rfl (W.as rfl (W.nx ?_)))))
    by_cases c23 : t13.state = 2
    ·replace H := ite_t c23 H
     refine V.condT (sb (dT c23)) (V.seq (V.region (W.mv rfl (W.nc rfl (W.fa fo158_8 rfl (W.ld 0 HS underlying154 rfl rfl rfl rfl ?_))))))
     replace HS := HS.fr 1
     obtain ⟨a5_24, c5_24, d5_24, hi25, HS⟩ := backlog_Log.open HS
     obtain ⟨t26, A27, H⟩ := bind_s H
     refine W.e (Y.cl func232 (backlog_Log_Out.calls A27 HS.j3)) rfl ?_
     rintro _ w ⟨at26_0, ct26_0, rfl, HS⟩
     replace HS := HS.o4
     refine W.as rfl (W.nx (V.seq (V.region (W.mv rfl (W.r (X.lenSl underlying141 rfl) rfl (W.r (X.cmp (decide ((t26.length : Int) > 0)) rfl rfl rfl rfl) rfl (W.nx ?_)))))))
     by_cases c28 : (t26.length : Int) > 0
     ·replace H := ite_t c28 H
      refine V.condT (sb (dT c28)) (V.region (W.mv rfl (W.mv rfl ?_)))
      obtain ⟨c29, H⟩ := ite_n H
      obtain ⟨eb30, eo31, hh⟩ := (rdC.at 0 row_rd HS rfl).some (by decide) c29.1 c29.2; subst hh
      refine W.r (X.indexSl underlying141 inf3 rfl rfl c29.1 c29.2) rfl (W.r (X.load underlying3 rfl rfl ((rdC.at 0 row_rd HS rfl).cellI c29.1 c29.2)) rfl ?_)
      replace HS := HS.pm [1, 2, 3, 0, 4, 5, 6, 7, 8, 9, 10]
      replace HS := backlog_Log.close tv HS
      replace HS := HS.pm [2, 0, 3, 4, 5, 6, 7, 1, 8]
      replace HS := arq_Arq.close tv HS
      obtain ⟨t32, A33, H⟩ := bind_s H
      refine W.e (Y.cl func233 (arq_Arq_repeat.calls A33 HS.j1)) rfl ?_
      rintro _ w ⟨rfl, HS⟩
      replace HS := HS.o1
      refine W.nil (At.blockEnd ?_)
      replace HS := HS.pk [0, 2] [1]
      cases H
      exact At.end0 rfl ⟨_, rfl, rfl, HS⟩
     ·replace H := ite_f c28 H
      refine V.condF (sb (dF c28)) (V.skip (At.blockEnd ?_))
      replace HS := HS.pm [1, 2, 3, 0, 4, 5, 6, 7, 8, 9, 10]
      replace HS := backlog_Log.close tv HS
      replace HS := HS.pm [2, 0, 3, 4, 5, 6, 7, 1, 8]
      replace HS := arq_Arq.close tv HS
      replace HS := HS.pk [0, 2] [1]
      cases H
      exact At.end0 rfl ⟨_, rfl, rfl, HS⟩
    ·replace H := ite_f c23 H
     refine V.condF (sb (dF c23)) (V.skip (At.blockEnd ?_))
     replace HS := arq_Arq.close tv HS
     cases H
     exact At.end0 rfl ⟨_, rfl, rfl, HS⟩
mutual
def arq_Arq_Pass.l0 : Nat → Int → Int → Int → Bool → arq_Arq → Option arq_Arq
 | 0, _, _, _, _, _ => none
 | k + 1, t1, x16, x17, x18, x19 => (if x18 = true then (arq_Arq_Pass.j1 k t1 x16 x17 x19 (arq_Arq_Pass.l0 k t1) (decide (x17 ≤ x16))) else (arq_Arq_Pass.j1 k t1 x16 x17 x19 (arq_Arq_Pass.l0 k t1) false))
def arq_Arq_Pass.j1 (k : Nat) (t1 : Int) (x16 : Int) (x17 : Int) (x19 : arq_Arq) (Lq24 : Int → Int → Bool → arq_Arq → Option arq_Arq) (x22 : Bool) : Option arq_Arq := (if x22 = true then ((clock_Set_Pass.f k x19.timers x17).bind fun t29 => ((arq_Arq_late.f k ({ x19 with timers := t29.2 } : arq_Arq)).bind fun t31 => ((clock_Set_Left.f t31.timers 0).bind fun t37 => (Lq24 (w64 (x16 - x17)) t37.1 t37.2 t31)))) else ((clock_Set_Pass.f k x19.timers x16).bind fun t41 => some ({ x19 with timers := t41.2 } : arq_Arq)))
end
def arq_Arq_Pass.f (k : Nat) (a0 : arq_Arq) (a1 : Int) : Option arq_Arq := ((arq_cut.f a1 0 1048576).bind fun t1 => ((clock_Set_Left.f a0.timers 0).bind fun t8 => (arq_Arq_Pass.l0 k t1 t1 t8.1 t8.2 a0)))
theorem arq_Arq_Pass.calls {k : Nat} {a0 : arq_Arq} {a1 : Int} {R : As} {w0 w : World} {b0 : Nat} {r : arq_Arq} (H : arq_Arq_Pass.f k a0 a1 = some r) (HS : Sep.St [arq_Arq.at b0 a0, R] w0 w)  : Calls Tryz.prog 118 #[pt b0, vi a1] w (Ret fun u w => u = Value.tuple #[] ∧ Sep.St [arq_Arq.at b0 r, R] w0 w) := by
 unfold arq_Arq_Pass.f at H
 refine calls_enter func118 rfl rfl ?_
 have H : _ = some r := H
 refine V.seq (V.region (W.mv rfl ?_))
 obtain ⟨t1, A2, H⟩ := bind_s H
 refine W.e (Y.cl func165 (arq_cut.calls A2 HS.j0)) rfl ?_
 rintro _ w ⟨rfl, HS⟩
 replace HS := HS.o0
 refine W.as rfl (W.nx (V.seq (V.seq (V.region (W.mv rfl (W.nc rfl ?_))))))
 obtain ⟨b8_4, b9_4, b10_4, a11_4, c11_4, d11_4, a12_4, c12_4, hi5, HS⟩ := arq_Arq.open HS
 refine W.fa fo158_10 rfl (W.ld 0 HS underlying156 rfl rfl rfl rfl ?_)
 replace HS := HS.fr 3
 obtain ⟨hi7, HS⟩ := clock_Set.open HS
 obtain ⟨t8, A9, H⟩ := bind_s H
 refine W.e (Y.cl func184 (clock_Set_Left.calls A9 HS.j1 (by first | exact hi7 | (simp only [List.length_set]; exact hi7)))) rfl ?_
 rintro _ w ⟨rfl, HS⟩
 replace HS := HS.o1
 refine W.mv rfl (W.r (X.extract rfl rfl) rfl (W.r (X.extract rfl rfl) rfl (W.as rfl (W.as rfl (W.nx (V.block ?_))))))
 replace HS := clock_Set.close (by first | exact hi7 | (simp only [List.length_set]; exact hi7)) HS
 replace HS := HS.pm [1, 2, 3, 0, 4, 5, 6, 7]
 replace HS := arq_Arq.close tv HS
 refine V.loop (σ := Int × Int × Bool × arq_Arq) (fun kq (st : Int × Int × Bool × arq_Arq) w => match st with | (x16, x17, x18, x19) => Sep.St [arq_Arq.at b0 x19, R] w0 w ∧ arq_Arq_Pass.l0 kq t1 x16 x17 x18 x19 = some r ∧ kq ≤ k) (fun st => match st with | (x16, x17, x18, x19) => [(0, pt b0), (1, vi x16), (4, vi x17), (5, vb x18)]) k (t1, t8.1, t8.2, a0) ⟨rfl, rfl, rfl, rfl, tv⟩ ⟨HS, H, Nat.le_refl _⟩ ?_
 rintro kq20 ⟨x16, x17, x18, x19⟩ w ⟨HS, H, hk21⟩
 cases kq20 with
 | zero => exact absurd H (by simp [arq_Arq_Pass.l0])
 | succ kq20 =>
  simp only [arq_Arq_Pass.l0] at H
  refine V.seq (V.meet (σ := Bool) (fun st w => match st with | x22 => Sep.St [arq_Arq.at b0 x19, R] w0 w ∧ ∃ kf23 kl25, kf23 ≤ kq20 ∧ kl25 ≤ kq20 ∧ arq_Arq_Pass.j1 kf23 t1 x16 x17 x19 (arq_Arq_Pass.l0 kl25 t1) x22 = some r) (fun st => match st with | x22 => [(0, pt b0), (1, vi x16), (4, vi x17), (21, vb x22)]) ?_ ?_)
  ·refine V.region (W.mv rfl (W.mv rfl ?_))
   by_cases c43 : x18 = true
   ·replace H := ite_t c43 H
    refine W.want 17 rfl (sb c43) (W.mv rfl (W.want 17 rfl (sb c43) (W.mv rfl (W.want 17 rfl (sb c43) (W.r (X.cmp (decide (x17 ≤ x16)) rfl rfl rfl rfl) rfl (W.r (X.pickT (sb c43) rfl) rfl (W.nil ?_)))))))
    exact At.meet (decide (x17 ≤ x16)) ⟨rfl, rfl, rfl, rfl, tv⟩ ⟨HS, kq20, kq20, by omega, by omega, H⟩
   ·replace H := ite_f c43 H
    refine W.pass 17 rfl (sb (b_f c43)) rfl rfl (W.pass 17 rfl (sb (b_f c43)) rfl rfl (W.pass 17 rfl (sb (b_f c43)) rfl rfl (W.r (X.pickF (sb (b_f c43)) rfl) rfl (W.nil ?_))))
    exact At.meet false ⟨rfl, rfl, rfl, rfl, tv⟩ ⟨HS, kq20, kq20, by omega, by omega, H⟩
  ·rintro x22 w ⟨HS, kf23, kl25, hkkf23, hkkl25, H⟩
   unfold arq_Arq_Pass.j1 at H
   by_cases c26 : x22 = true
   ·replace H := ite_t c26 H
    refine V.condT (sb c26) (V.skip (At.next (V.seq (V.block (V.seq (V.region (W.mv rfl (W.nc rfl ?_))))))))
    obtain ⟨b8_27, b9_27, b10_27, a11_27, c11_27, d11_27, a12_27, c12_27, hi28, HS⟩ := arq_Arq.open HS
    refine W.fa fo158_10 rfl (W.ld 0 HS underlying156 rfl rfl rfl rfl (W.mv rfl ?_))
    obtain ⟨t29, A30, H⟩ := bind_s H
    replace HS := HS.pm [3, 0, 1, 2, 4, 5, 6, 7]
    refine W.e (Y.cl func185 (clock_Set_Pass.calls A30 HS.j1)) rfl ?_
    rintro _ w ⟨at29_0, ct29_0, rfl, HS⟩
    replace HS := HS.o2
    refine W.nx (V.seq (V.region (W.mv rfl (W.mv rfl (W.r (X.sub rfl rfl) rfl (W.as rfl (W.nx (V.region (W.mv rfl ?_)))))))))
    replace HS := HS.pm [2, 3, 4, 1, 5, 6, 7, 0, 8]
    replace HS := arq_Arq.close tv HS
    obtain ⟨t31, A32, H⟩ := bind_s H
    refine W.e (Y.cl func186 (arq_Arq_late.calls A32 HS.j1)) rfl ?_
    rintro _ w ⟨rfl, HS⟩
    replace HS := HS.o1
    refine W.nil (At.blockEnd (At.next (V.region (W.mv rfl (W.nc rfl ?_)))))
    obtain ⟨b8_33, b9_33, b10_33, a11_33, c11_33, d11_33, a12_33, c12_33, hi34, HS⟩ := arq_Arq.open HS
    refine W.fa fo158_10 rfl (W.ld 0 HS underlying156 rfl rfl rfl rfl ?_)
    replace HS := HS.fr 3
    obtain ⟨hi36, HS⟩ := clock_Set.open HS
    obtain ⟨t37, A38, H⟩ := bind_s H
    refine W.e (Y.cl func184 (clock_Set_Left.calls A38 HS.j1 (by first | exact hi36 | (simp only [List.length_set]; exact hi36)))) rfl ?_
    rintro _ w ⟨rfl, HS⟩
    replace HS := HS.o1
    refine W.mv rfl (W.r (X.extract rfl rfl) rfl (W.r (X.extract rfl rfl) rfl (W.as rfl (W.as rfl (W.nil ?_)))))
    replace HS := clock_Set.close (by first | exact hi36 | (simp only [List.length_set]; exact hi36)) HS
    replace HS := HS.pm [1, 2, 3, 0, 4, 5, 6, 7, 8]
    replace HS := arq_Arq.close tv HS
    replace HS := HS.pk [0, 2] [1]
    exact At.round kl25 (by omega) (w64 (x16 - x17), t37.1, t37.2, t31) ⟨rfl, rfl, rfl, rfl, tv⟩ ⟨HS, H, by omega⟩
   ·replace H := ite_f c26 H
    refine V.condF (sb (b_f c26)) (V.exit (At.thenExit (At.thenExit (At.blockExit (At.next (V.region (W.mv rfl (W.nc rfl ?_))))))))
    obtain ⟨b8_39, b9_39, b10_39, a11_39, c11_39, d11_39, a12_39, c12_39, hi40, HS⟩ := arq_Arq.open HS
    refine W.fa fo158_10 rfl (W.ld 0 HS underlying156 rfl rfl rfl rfl (W.mv rfl ?_))
    obtain ⟨t41, A42, H⟩ := bind_s H
    replace HS := HS.pm [3, 0, 1, 2, 4, 5, 6, 7]
    refine W.e (Y.cl func185 (clock_Set_Pass.calls A42 HS.j1)) rfl ?_
    rintro _ w ⟨at41_0, ct41_0, rfl, HS⟩
    replace HS := HS.o2
    refine W.nil ?_
    replace HS := HS.pm [2, 3, 4, 1, 5, 6, 7, 0, 8]
    replace HS := arq_Arq.close tv HS
    replace HS := HS.pk [0, 2] [1]
    cases H
    exact At.end0 rfl ⟨_, rfl, rfl, HS⟩
def arq_Arq_Output.f (a0 : arq_Arq) : Option (List (List Int) × arq_Arq) := some (a0.out, ({ a0 with out := ([] : List (List Int)) } : arq_Arq))
theorem arq_Arq_Output.calls {a0 : arq_Arq} {R : As} {w0 w : World} {b0 : Nat} {r : List (List Int) × arq_Arq} (H : arq_Arq_Output.f a0 = some r) (HS : Sep.St [arq_Arq.at b0 a0, R] w0 w)  : Calls Tryz.prog 119 #[pt b0] w (Ret fun u w => ∃ (aq0 : Option Addr) (cq0 : Nat) (dq0 : List Value), u = vs aq0 r.1.length cq0 ∧ Sep.St [row 48 1 (.slice aq0 r.1.length cq0) r.1.length dq0, tie (El.sl (El.int .u8)) dq0 r.1, arq_Arq.at b0 r.2, R] w0 w) := by
 unfold arq_Arq_Output.f at H
 refine calls_enter func119 rfl rfl ?_
 have H : _ = some r := H
 refine V.seq (V.region (W.as rfl (W.nx (V.seq (V.region (W.mv rfl (W.nc rfl ?_)))))))
 obtain ⟨b8_1, b9_1, b10_1, a11_1, c11_1, d11_1, a12_1, c12_1, hi2, HS⟩ := arq_Arq.open HS
 refine W.fa fo158_11 rfl (W.ld 0 HS underlying35 rfl rfl rfl rfl (W.as rfl (W.nx (V.seq (V.region (W.mv rfl (W.nc rfl (W.fa fo158_11 rfl (W.st 0 11 HS inf35 rfl rfl rfl rfl rfl rfl fun w HS => ?_)))))))))
 refine W.nx (V.seq (V.region (W.mv rfl (W.as rfl (W.nx (V.ret ?_))))))
 replace HS := row_nilE (El.sl (El.int .u8)) 48 1 HS
 replace HS := HS.pm [2, 3, 4, 5, 0, 1, 8, 6, 7, 9]
 replace HS := arq_Arq.close (l11 := ([] : List (List Int))) tv HS
 replace HS := HS.pk [1, 2, 0, 3] []
 cases H
 exact At.ret1 rfl rfl ⟨_, rfl, a11_1, c11_1, d11_1, rfl, HS⟩
def station_Station_piece.f (k : Nat) (a0 : station_Station) (a1 : List Int) : Option (List Int × station_Station) := ((slices_Concat_Sbytebyte.f k ([([0, IntKind.u8.wrap (a0.number.fdiv (2 ^ (min (24 : Int).toNat IntKind.u32.bits))), IntKind.u8.wrap (a0.number.fdiv (2 ^ (min (16 : Int).toNat IntKind.u32.bits))), IntKind.u8.wrap (a0.number.fdiv (2 ^ (min (8 : Int).toNat IntKind.u32.bits))), IntKind.u8.wrap a0.number] : List Int), a1] : List (List Int))).bind fun t9 => some (t9, ({ a0 with number := IntKind.u32.wrap (a0.number + 1) } : station_Station)))
theorem station_Station_piece.calls {k : Nat} {a0 : station_Station} {a1 : List Int} {R : As} {w0 w : World} {b0 : Nat} {sa1 : Option Addr} {sc1 : Nat} {r : List Int × station_Station} (H : station_Station_piece.f k a0 a1 = some r) (HS : Sep.St [station_Station.at b0 a0, fsl 1 (.slice sa1 a1.length sc1) a1.length (a1.map (Value.int .u8)), R] w0 w)  : Calls Tryz.prog 120 #[pt b0, vs sa1 a1.length sc1] w (Ret fun u w => ∃ (aq0 : Option Addr) (cq0 : Nat), u = vs aq0 r.1.length cq0 ∧ Sep.St [row 5 1 (.slice aq0 r.1.length cq0) r.1.length (r.1.map (Value.int .u8)), station_Station.at b0 r.2, R] w0 w) := by
 unfold station_Station_piece.f at H
 refine calls_enter func120 rfl rfl ?_
 have H : _ = some r := H
 refine V.seq (V.region (W.as rfl (W.nx (V.seq (V.region (W.mv rfl (W.nc rfl ?_)))))))
 obtain ⟨b16_1, b17_1, b18_1, b22_1, b23_1, b24_1, b32_1, b33_1, b34_1, hi2, HS⟩ := station_Station.open HS
 refine W.fa fo103_4 rfl (W.ld 0 HS underlying95 rfl rfl rfl rfl (W.as rfl (W.nx (V.seq (V.region (W.mv rfl (W.nc rfl (W.fa fo103_4 rfl (W.ld 0 HS underlying95 rfl rfl rfl rfl (W.r (X.add rfl rfl) rfl (W.nc rfl (W.fa fo103_4 rfl (W.st 0 19 HS inf95 rfl rfl rfl rfl rfl rfl fun w HS => ?_)))))))))))))
 refine W.nx (V.seq (V.region (W.mv rfl (W.r (X.shr rfl rfl (by decide)) rfl (W.r (X.conv underlying95 underlying5 rfl) rfl (W.mv rfl (W.r (X.shr rfl rfl (by decide)) rfl (W.r (X.conv underlying95 underlying5 rfl) rfl (W.mv rfl (W.r (X.shr rfl rfl (by decide)) rfl (W.r (X.conv underlying95 underlying5 rfl) rfl (W.mv rfl (W.r (X.conv underlying95 underlying5 rfl) rfl (W.e (Y.ls (e := 5) (Value.int .u8) ([0, IntKind.u8.wrap (a0.number.fdiv (2 ^ (min (24 : Int).toNat IntKind.u32.bits))), IntKind.u8.wrap (a0.number.fdiv (2 ^ (min (16 : Int).toNat IntKind.u32.bits))), IntKind.u8.wrap (a0.number.fdiv (2 ^ (min (8 : Int).toNat IntKind.u32.bits))), IntKind.u8.wrap a0.number] : List Int) HS rfl rfl (fun _ => by kernel_rfl)) rfl ?_))))))))))))))
 rintro _ w ⟨lb5, rfl, HS⟩
 refine W.mv rfl ?_
 replace HS := St.row_freeze HS
 refine W.e (Y.lc (e := 48) (sz := 1) [vs (some ⟨lb5, 0, none⟩) (([0, IntKind.u8.wrap (a0.number.fdiv (2 ^ (min (24 : Int).toNat IntKind.u32.bits))), IntKind.u8.wrap (a0.number.fdiv (2 ^ (min (16 : Int).toNat IntKind.u32.bits))), IntKind.u8.wrap (a0.number.fdiv (2 ^ (min (8 : Int).toNat IntKind.u32.bits))), IntKind.u8.wrap a0.number] : List Int)).length 5, vs sa1 a1.length sc1] HS rfl rfl (fun _ => by kernel_rfl)) rfl ?_
 rintro _ w ⟨lb6, rfl, HS⟩
 replace HS := St.put (A := tie (El.sl (El.int .u8)) ([]) (([] : List (List Int)))) (fun _ => tie.nil) HS
 replace HS := HS.more 13 rfl (fun _ t => t) fsl.pers
 replace HS := St.put (A := tie (El.int .u8) (a1.map (Value.int .u8)) a1) (fun _ => int_tie) HS
 replace HS := St.swap HS
 replace HS := St.sl_close (E := (El.int .u8)) HS
 replace HS := HS.fr 1
 replace HS := HS.fr 1
 replace HS := St.tie_cons HS
 replace HS := HS.more 2 rfl (fun _ t => t) fsl.pers
 replace HS := St.put (A := tie (El.int .u8) ((([0, IntKind.u8.wrap (a0.number.fdiv (2 ^ (min (24 : Int).toNat IntKind.u32.bits))), IntKind.u8.wrap (a0.number.fdiv (2 ^ (min (16 : Int).toNat IntKind.u32.bits))), IntKind.u8.wrap (a0.number.fdiv (2 ^ (min (8 : Int).toNat IntKind.u32.bits))), IntKind.u8.wrap a0.number] : List Int)).map (Value.int .u8)) (([0, IntKind.u8.wrap (a0.number.fdiv (2 ^ (min (24 : Int).toNat IntKind.u32.bits))), IntKind.u8.wrap (a0.number.fdiv (2 ^ (min (16 : Int).toNat IntKind.u32.bits))), IntKind.u8.wrap (a0.number.fdiv (2 ^ (min (8 : Int).toNat IntKind.u32.bits))), IntKind.u8.wrap a0.number] : List Int))) (fun _ => int_tie) HS
 replace HS := St.swap HS
 replace HS := St.sl_close (E := (El.int .u8)) HS
 replace HS := HS.fr 1
 replace HS := HS.fr 1
 replace HS := St.tie_cons HS
 obtain ⟨t9, A10, H⟩ := bind_s H
 refine W.e (Y.cl func187 (slices_Concat_Sbytebyte.calls A10 HS.j0 (rdC.part 1 row_rd rfl) (fun h hh => let ⟨_, l, t⟩ := Sp.has 0 hh rfl; tie.mono t l))) rfl ?_
 rintro _ w ⟨at9_0, ct9_0, rfl, HS⟩
 replace HS := HS.o1
 refine W.as rfl (W.nx (V.ret ?_))
 replace HS := HS.pm [4, 5, 6, 7, 8, 9, 10, 11, 12, 13, 0, 1, 2, 3, 14, 15]
 replace HS := station_Station.close tv HS
 replace HS := HS.pk [1, 0, 6] [2, 3, 4, 5]
 cases H
 exact At.ret1 rfl rfl ⟨_, rfl, at9_0, ct9_0, rfl, HS⟩
mutual
def octets_Stuff.l0 : Nat → (List Int) → Int → (List Int) → Option (List Int)
 | 0, _, _, _ => none
 | k + 1, a0, x2, x5 => (if x2 < (a0.length : Int) then (if 0 ≤ x2 ∧ x2 < (a0.length : Int) then (if (a0.getD x2.toNat 0) = 126 then (octets_Stuff.j2 a0 x2 x5 (octets_Stuff.l0 k a0) true) else (octets_Stuff.j2 a0 x2 x5 (octets_Stuff.l0 k a0) (decide ((a0.getD x2.toNat 0) = 125)))) else none) else some x5)
def octets_Stuff.j1 (x2 : Int) (Lq17 : Int → (List Int) → Option (List Int)) (x14 : List Int) (x15 : Int) : Option (List Int) := (if (x14.length : Int) + ([x15] : List Int).length ≤ 1099511627776 then (Lq17 (w64 (x2 + 1)) (x14 ++ ([x15] : List Int))) else none)
def octets_Stuff.j2 (a0 : List Int) (x2 : Int) (x5 : List Int) (Lq27 : Int → (List Int) → Option (List Int)) (x25 : Bool) : Option (List Int) := (if x25 = true then (if (x5.length : Int) + ([125] : List Int).length ≤ 1099511627776 then (octets_Stuff.j1 x2 Lq27 (x5 ++ ([125] : List Int)) (ixor .u8 (a0.getD x2.toNat 0) (32))) else none) else (octets_Stuff.j1 x2 Lq27 x5 (a0.getD x2.toNat 0)))
end
def octets_Stuff.f (k : Nat) (a0 : List Int) : Option (List Int) := (octets_Stuff.l0 k a0 0 ([] : List Int))
theorem octets_Stuff.calls {k : Nat} {a0 : List Int} {R : As} {w0 w : World} {sa0 : Option Addr} {sc0 : Nat} {r : List Int} (H : octets_Stuff.f k a0 = some r) (HS : Sep.St [R] w0 w) (hr0 : rdC R 1 (.slice sa0 a0.length sc0) a0.length (a0.map (Value.int .u8))) : Calls Tryz.prog 238 #[vs sa0 a0.length sc0] w (Ret fun u w => ∃ (aq0 : Option Addr) (cq0 : Nat), u = vs aq0 r.length cq0 ∧ Sep.St [row 5 1 (.slice aq0 r.length cq0) r.length (r.map (Value.int .u8)), R] w0 w) := by
 unfold octets_Stuff.f at H
 refine calls_enter func238 rfl rfl ?_
 have H : _ = some r := H
 refine V.seq (V.region (W.as rfl (W.nx (V.seq (V.region (W.as rfl (W.nx (V.seq (V.seq (V.region (W.mv rfl (W.r (X.lenSl underlying48 rfl) rfl (W.mv rfl (W.nx (V.block ?_)))))))))))))))
 replace HS := row_nilF (Value.int .u8) 5 1 HS
 refine V.loop (σ := Int × Option Addr × Nat × List Int) (fun kq (st : Int × Option Addr × Nat × List Int) w => match st with | (x2, ra3, rc4, x5) => Sep.St [row 5 1 (.slice ra3 x5.length rc4) x5.length (x5.map (Value.int .u8)), R] w0 w ∧ octets_Stuff.l0 kq a0 x2 x5 = some r ∧ kq ≤ k) (fun st => match st with | (x2, ra3, rc4, x5) => [(3, vs ra3 x5.length rc4), (6, vs sa0 a0.length sc0), (7, vi (a0.length : Int)), (8, vi x2)]) k (0, none, 0, ([] : List Int)) ⟨rfl, rfl, rfl, rfl, tv⟩ ⟨HS, H, Nat.le_refl _⟩ ?_
 rintro kq6 ⟨x2, ra3, rc4, x5⟩ w ⟨HS, H, hk7⟩
 cases kq6 with
 | zero => exact absurd H (by simp [octets_Stuff.l0])
 | succ kq6 =>
  simp only [octets_Stuff.l0] at H
  refine V.seq (V.region (W.r (X.cmp (decide (x2 < (a0.length : Int))) rfl rfl rfl rfl) rfl (W.nx (V.seq ?_))))
  by_cases c8 : x2 < (a0.length : Int)
  ·replace H := ite_t c8 H
   refine V.condT (sb (dT c8)) (V.skip (At.next (V.seq (V.block (V.seq (V.region ?_))))))
   obtain ⟨c9, H⟩ := ite_n H
   obtain ⟨eb10, eo11, hh⟩ := (rdC.at 1 hr0 HS rfl).some (by decide) c9.1 c9.2; subst hh
   refine W.r (X.indexSl underlying48 inf5 rfl rfl c9.1 c9.2) rfl (W.r (X.load underlying5 rfl rfl ((rdC.at 1 hr0 HS rfl).cellI c9.1 c9.2)) rfl (W.as rfl (W.nx (V.meet (σ := Option Addr × Nat × List Int × Int) (fun st w => match st with | (ra12, rc13, x14, x15) => Sep.St [row 5 1 (.slice ra12 x14.length rc13) x14.length (x14.map (Value.int .u8)), R] w0 w ∧ ∃ kl18, kl18 ≤ kq6 ∧ octets_Stuff.j1 x2 (octets_Stuff.l0 kl18 a0) x14 x15 = some r) (fun st => match st with | (ra12, rc13, x14, x15) => [(3, vs ra12 x14.length rc13), (5, Value.int .u8 x15), (6, vs (some ⟨eb10, eo11, none⟩) a0.length sc0), (7, vi (a0.length : Int)), (8, vi x2)]) ?_ ?_))))
   ·refine V.meet (σ := Bool) (fun st w => match st with | x25 => Sep.St [row 5 1 (.slice ra3 x5.length rc4) x5.length (x5.map (Value.int .u8)), R] w0 w ∧ ∃ kl28, kl28 ≤ kq6 ∧ octets_Stuff.j2 a0 x2 x5 (octets_Stuff.l0 kl28 a0) x25 = some r) (fun st => match st with | x25 => [(3, vs ra3 x5.length rc4), (5, Value.int .u8 (a0.getD x2.toNat 0)), (6, vs (some ⟨eb10, eo11, none⟩) a0.length sc0), (7, vi (a0.length : Int)), (8, vi x2), (17, vb x25)]) ?_ ?_
    ·refine V.region (W.mv rfl (W.r (X.cmp (decide ((a0.getD x2.toNat 0) = 126)) rfl rfl rfl rfl) rfl (W.mv rfl ?_)))
     by_cases c36 : (a0.getD x2.toNat 0) = 126
     ·replace H := ite_t c36 H
      refine W.pass 14 rfl (sb (dT c36)) rfl rfl (W.pass 14 rfl (sb (dT c36)) rfl rfl (W.r (X.pickT (sb (dT c36)) rfl) rfl (W.nil ?_)))
      exact At.meet true ⟨rfl, rfl, rfl, rfl, rfl, rfl, tv⟩ ⟨HS, kq6, by omega, H⟩
     ·replace H := ite_f c36 H
      refine W.want 14 rfl (sb (dF c36)) (W.mv rfl (W.want 14 rfl (sb (dF c36)) (W.r (X.cmp (decide ((a0.getD x2.toNat 0) = 125)) rfl rfl rfl rfl) rfl (W.r (X.pickF (sb (dF c36)) rfl) rfl (W.nil ?_)))))
      exact At.meet (decide ((a0.getD x2.toNat 0) = 125)) ⟨rfl, rfl, rfl, rfl, rfl, rfl, tv⟩ ⟨HS, kq6, by omega, H⟩
    ·rintro x25 w ⟨HS, kl28, hkkl28, H⟩
     unfold octets_Stuff.j2 at H
     by_cases c29 : x25 = true
     ·replace H := ite_t c29 H
      refine V.condT (sb c29) (V.seq (V.region (W.mv rfl (W.e (Y.ls (e := 5) (Value.int .u8) ([125] : List Int) HS rfl rfl (fun _ => by kernel_rfl)) rfl ?_))))
      rintro _ w ⟨lb32, rfl, HS⟩
      obtain ⟨c33, H⟩ := ite_n H
      refine W.e (Y.appF (Value.int .u8) (fun _ => rfl) 1 underlying48 ap5 rfl HS rfl rfl rfl (rdC.at 0 row_rd HS rfl) (by omega) (by omega)) rfl ?_
      rintro _ w ⟨ra34, rc35, rfl, HS⟩
      refine W.as rfl (W.nx (V.region (W.mv rfl (W.r (X.xor rfl rfl) rfl (W.as rfl (W.nil ?_))))))
      replace HS := HS.pk [1, 2] [0]
      exact At.meet (ra34, rc35, x5 ++ ([125] : List Int), ixor .u8 (a0.getD x2.toNat 0) (32)) ⟨rfl, rfl, rfl, rfl, rfl, tv⟩ ⟨HS, kl28, by omega, H⟩
     ·replace H := ite_f c29 H
      refine V.condF (sb (b_f c29)) (V.skip ?_)
      exact At.meet (ra3, rc4, x5, a0.getD x2.toNat 0) ⟨rfl, rfl, rfl, rfl, rfl, tv⟩ ⟨HS, kl28, by omega, H⟩
   ·rintro ⟨ra12, rc13, x14, x15⟩ w ⟨HS, kl18, hkkl18, H⟩
    unfold octets_Stuff.j1 at H
    refine V.region (W.mv rfl (W.mv rfl (W.e (Y.ls (e := 5) (Value.int .u8) ([x15] : List Int) HS rfl rfl (fun _ => by kernel_rfl)) rfl ?_)))
    rintro _ w ⟨lb21, rfl, HS⟩
    obtain ⟨c22, H⟩ := ite_n H
    refine W.e (Y.appF (Value.int .u8) (fun _ => rfl) 1 underlying48 ap5 rfl HS rfl rfl rfl (rdC.at 0 row_rd HS rfl) (by omega) (by omega)) rfl ?_
    rintro _ w ⟨ra23, rc24, rfl, HS⟩
    refine W.as rfl (W.nil (At.blockEnd (At.next (V.region (W.r (X.add rfl rfl) rfl (W.mv rfl (W.nil ?_)))))))
    replace HS := HS.pk [1, 2] [0]
    exact At.round kl18 (by omega) (w64 (x2 + 1), ra23, rc24, x14 ++ ([x15] : List Int)) ⟨rfl, rfl, rfl, rfl, tv⟩ ⟨HS, H, by omega⟩
  ·replace H := ite_f c8 H
   refine V.condF (sb (dF c8)) (V.exit (At.thenExit (At.thenExit (At.blockExit (At.next (V.seq (V.region (W.mv rfl (W.as rfl (W.nx (V.ret ?_)))))))))))
   cases H
   exact At.ret1 rfl rfl ⟨_, rfl, ra3, rc4, rfl, HS⟩
def frame_Put.f (k : Nat) (a0 : List Int) (a1 : Bool) : Option (List Int) := ((fcs_Put.f k a0 a1).bind fun t4 => ((octets_Stuff.f k t4).bind fun t6 => ((slices_Concat_Sbytebyte.f k ([([126] : List Int), t6, ([126] : List Int)] : List (List Int))).bind fun t14 => some t14)))
theorem frame_Put.calls {k : Nat} {a0 : List Int} {a1 : Bool} {R : As} {w0 w : World} {sa0 : Option Addr} {sc0 : Nat} {r : List Int} (H : frame_Put.f k a0 a1 = some r) (HS : Sep.St [fsl 1 (.slice sa0 a0.length sc0) a0.length (a0.map (Value.int .u8)), R] w0 w)  : Calls Tryz.prog 189 #[vs sa0 a0.length sc0, vb a1] w (Ret fun u w => ∃ (aq0 : Option Addr) (cq0 : Nat), u = vs aq0 r.length cq0 ∧ Sep.St [row 5 1 (.slice aq0 r.length cq0) r.length (r.map (Value.int .u8)), R] w0 w) := by
 unfold frame_Put.f at H
 refine calls_enter func189 rfl rfl ?_
 have H : _ = some r := H
 refine V.seq (V.region (W.as rfl (W.nx (V.seq (V.region (W.e (Y.ls (e := 5) (Value.int .u8) ([126] : List Int) HS rfl rfl (fun _ => by kernel_rfl)) rfl ?_))))))
 rintro _ w ⟨lb3, rfl, HS⟩
 refine W.mv rfl (W.mv rfl ?_)
 replace HS := HS.more 1 rfl (fun _ t => t) fsl.pers
 obtain ⟨t4, A5, H⟩ := bind_s H
 refine W.e (Y.cl func227 (fcs_Put.calls A5 HS.j1)) rfl ?_
 rintro _ w ⟨at4_0, ct4_0, rfl, HS⟩
 replace HS := HS.o1
 obtain ⟨t6, A7, H⟩ := bind_s H
 refine W.e (Y.cl func238 (octets_Stuff.calls A7 HS.j0 (rdC.part 0 row_rd rfl))) rfl ?_
 rintro _ w ⟨at6_0, ct6_0, rfl, HS⟩
 replace HS := HS.o1
 refine W.e (Y.ls (e := 5) (Value.int .u8) ([126] : List Int) HS rfl rfl (fun _ => by kernel_rfl)) rfl ?_
 rintro _ w ⟨lb10, rfl, HS⟩
 replace HS := HS.fr 3
 replace HS := St.row_freeze HS
 replace HS := HS.fr 2
 replace HS := St.row_freeze HS
 replace HS := HS.fr 2
 replace HS := St.row_freeze HS
 refine W.e (Y.lc (e := 48) (sz := 1) [vs (some ⟨lb3, 0, none⟩) ([126] : List Int).length 1, vs at6_0 t6.length ct6_0, vs (some ⟨lb10, 0, none⟩) ([126] : List Int).length 1] HS rfl rfl (fun _ => by kernel_rfl)) rfl ?_
 rintro _ w ⟨lb11, rfl, HS⟩
 replace HS := St.put (A := tie (El.sl (El.int .u8)) ([]) (([] : List (List Int)))) (fun _ => tie.nil) HS
 replace HS := HS.more 2 rfl (fun _ t => t) fsl.pers
 replace HS := St.put (A := tie (El.int .u8) (([126] : List Int).map (Value.int .u8)) ([126] : List Int)) (fun _ => int_tie) HS
 replace HS := St.swap HS
 replace HS := St.sl_close (E := (El.int .u8)) HS
 replace HS := HS.fr 1
 replace HS := HS.fr 1
 replace HS := St.tie_cons HS
 replace HS := HS.more 3 rfl (fun _ t => t) fsl.pers
 replace HS := St.put (A := tie (El.int .u8) (t6.map (Value.int .u8)) t6) (fun _ => int_tie) HS
 replace HS := St.swap HS
 replace HS := St.sl_close (E := (El.int .u8)) HS
 replace HS := HS.fr 1
 replace HS := HS.fr 1
 replace HS := St.tie_cons HS
 replace HS := HS.more 4 rfl (fun _ t => t) fsl.pers
 replace HS := St.put (A := tie (El.int .u8) (([126] : List Int).map (Value.int .u8)) ([126] : List Int)) (fun _ => int_tie) HS
 replace HS := St.swap HS
 replace HS := St.sl_close (E := (El.int .u8)) HS
 replace HS := HS.fr 1
 replace HS := HS.fr 1
 replace HS := St.tie_cons HS
 obtain ⟨t14, A15, H⟩ := bind_s H
 refine W.e (Y.cl func187 (slices_Concat_Sbytebyte.calls A15 HS.j0 (rdC.part 1 row_rd rfl) (fun h hh => let ⟨_, l, t⟩ := Sp.has 0 hh rfl; tie.mono t l))) rfl ?_
 rintro _ w ⟨at14_0, ct14_0, rfl, HS⟩
 replace HS := HS.o1
 refine W.as rfl (W.nx (V.ret ?_))
 replace HS := HS.pk [0, 8] [1, 2, 3, 4, 5, 6, 7]
 cases H
 exact At.ret1 rfl rfl ⟨_, rfl, at14_0, ct14_0, rfl, HS⟩
def ring_Ring_Add.f (a0 : ring_Ring) (a1 : List Int) : Option (Bool × ring_Ring) := (if (a1.length : Int) > (w64 (a0.room - (a0.b.length : Int))) then some (false, ({ a0 with dropped := imin (w64 (a0.dropped + 1)) (4294967295) } : ring_Ring)) else (if (a0.b.length : Int) + a1.length ≤ 1099511627776 then (if (a0.pieces.length : Int) + (([(a1.length : Int)] : List Int)).length ≤ 1099511627776 then some (true, ({ a0 with b := a0.b ++ a1, pieces := a0.pieces ++ ([(a1.length : Int)] : List Int) } : ring_Ring)) else none) else none))
theorem ring_Ring_Add.calls {a0 : ring_Ring} {a1 : List Int} {R : As} {w0 w : World} {b0 : Nat} {sa1 : Option Addr} {sc1 : Nat} {r : Bool × ring_Ring} (H : ring_Ring_Add.f a0 a1 = some r) (HS : Sep.St [ring_Ring.at b0 a0, R] w0 w) (hr1 : rdC R 1 (.slice sa1 a1.length sc1) a1.length (a1.map (Value.int .u8))) : Calls Tryz.prog 188 #[pt b0, vs sa1 a1.length sc1] w (Ret fun u w => u = vb r.1 ∧ Sep.St [ring_Ring.at b0 r.2, R] w0 w) := by
 unfold ring_Ring_Add.f at H
 refine calls_enter func188 rfl rfl ?_
 have H : _ = some r := H
 refine V.seq (V.region (W.as rfl (W.nx (V.seq (V.seq ?_)))))
 obtain ⟨a1_2, c1_2, a3_2, c3_2, hi3, HS⟩ := ring_Ring.open HS
 refine V.dr [] [] [(5, vs sa1 a1.length sc1), (6, vi (a1.length : Int)), (7, pt b0), (8, pt b0), (9, po b0 (0 + 0)), (10, vi a0.room), (11, pt b0), (12, pt b0), (13, po b0 (0 + 1)), (14, vs a1_2 a0.b.length c1_2), (15, vi (a0.b.length : Int)), (16, vi (w64 (a0.room - (a0.b.length : Int)))), (17, vb (decide ((a1.length : Int) > (w64 (a0.room - (a0.b.length : Int))))))] mo HS ?_
 refine T.fn [(0, _), (1, _), (17, _)] ⟨rfl, rfl, rfl, tv⟩ ⟨.mv 1, .n1 5 rfl rfl (fun w HS => X.lenSl underlying48 rfl), .mv 0, .nc 7, .fa 8 fo195_0, .ld 9 0 underlying3, .mv 0, .nc 11, .fa 12 fo195_1, .ld 13 0 underlying48, .n1 14 rfl rfl (fun w HS => X.lenSl underlying48 rfl), .n2 10 15 rfl rfl rfl (fun w HS => X.sub rfl rfl), .n2 6 16 rfl rfl rfl (fun w HS => X.cmp (decide ((a1.length : Int) > (w64 (a0.room - (a0.b.length : Int))))) rfl rfl rfl rfl), tv⟩ (fun w HS => ?_)
 refine At.next ?_
 by_cases c4 : (a1.length : Int) > (w64 (a0.room - (a0.b.length : Int)))
 ·replace H := ite_t c4 H
  refine V.condT (sb (dT c4)) (V.seq (V.region (W.mv rfl (W.mv rfl (W.nc rfl (W.fa fo195_4 rfl (W.ld 0 HS underlying3 rfl rfl rfl rfl (W.r (X.add rfl rfl) rfl (W.r (X.min2 rfl rfl) rfl (W.nc rfl (W.fa fo195_4 rfl (W.st 0 4 HS inf3 rfl rfl rfl rfl rfl rfl fun w HS => ?_))))))))))))
  refine W.nx (V.seq (V.region (W.as rfl (W.nx (V.ret (At.thenRet ?_))))))
  replace HS := ring_Ring.close tv HS
  cases H
  exact At.ret1 rfl rfl ⟨_, rfl, rfl, HS⟩
 ·replace H := ite_f c4 H
  refine V.condF (sb (dF c4)) (V.skip (At.next (V.seq (V.region (W.mv rfl (W.mv rfl (W.nc rfl (W.fa fo195_1 rfl (W.ld 0 HS underlying48 rfl rfl rfl rfl (W.mv rfl ?_))))))))))
  obtain ⟨c5, H⟩ := ite_n H
  refine W.e (Y.appF (Value.int .u8) (fun _ => rfl) 1 underlying48 ap5 rfl HS rfl rfl rfl (rdC.at 3 hr1 HS rfl) (by omega) (by omega)) rfl ?_
  rintro _ w ⟨ra6, rc7, rfl, HS⟩
  refine W.nc rfl (W.fa fo195_1 rfl (W.st 0 1 HS inf48 rfl rfl rfl rfl rfl rfl fun w HS => ?_))
  refine W.nx (V.seq (V.region (W.mv rfl (W.mv rfl (W.nc rfl (W.fa fo195_3 rfl (W.ld 0 HS underlying141 rfl rfl rfl rfl (W.mv rfl (W.r (X.lenSl underlying48 rfl) rfl (W.e (Y.ls (e := 3) (Value.int .i64) ([(a1.length : Int)] : List Int) HS rfl rfl (fun _ => by kernel_rfl)) rfl ?_))))))))))
  rintro _ w ⟨lb10, rfl, HS⟩
  obtain ⟨c11, H⟩ := ite_n H
  refine W.e (Y.appF (Value.int .i64) (fun _ => rfl) 3 underlying141 ap3 rfl HS rfl rfl rfl (rdC.at 0 row_rd HS rfl) (by omega) (by omega)) rfl ?_
  rintro _ w ⟨ra12, rc13, rfl, HS⟩
  refine W.nc rfl (W.fa fo195_3 rfl (W.st 1 3 HS inf141 rfl rfl rfl rfl rfl rfl fun w HS => ?_))
  refine W.nx (V.seq (V.region (W.as rfl (W.nx (V.ret ?_)))))
  replace HS := HS.pm [1, 2, 3, 0, 4]
  replace HS := ring_Ring.close tv HS
  replace HS := HS.pk [0, 2] [1]
  cases H
  exact At.ret1 rfl rfl ⟨_, rfl, rfl, HS⟩
def V55.at (b : Nat) (x : (List (List Int) × List (List Int))) : As := fun h => True ∧ ∃ a0 : Option Addr, ∃ c0 : Nat, ∃ d0 : List Value, ∃ a1 : Option Addr, ∃ c1 : Nat, ∃ d1 : List Value, Sp [blk b (#[vs a0 x.1.length c0, vs a1 x.2.length c1]) 55, row 48 1 (.slice a0 x.1.length c0) x.1.length d0, tie (El.sl (El.int .u8)) d0 x.1, row 48 1 (.slice a1 x.2.length c1) x.2.length d1, tie (El.sl (El.int .u8)) d1 x.2] h
theorem V55.open {b : Nat} {x : (List (List Int) × List (List Int))} {L : List As} {w0 w : World} (hs : Sep.St (V55.at b x :: L) w0 w) : ∃ a0 : Option Addr, ∃ c0 : Nat, ∃ d0 : List Value, ∃ a1 : Option Addr, ∃ c1 : Nat, ∃ d1 : List Value, True ∧ Sep.St (blk b (#[vs a0 x.1.length c0, vs a1 x.2.length c1]) 55 :: row 48 1 (.slice a0 x.1.length c0) x.1.length d0 :: tie (El.sl (El.int .u8)) d0 x.1 :: row 48 1 (.slice a1 x.2.length c1) x.2.length d1 :: tie (El.sl (El.int .u8)) d1 x.2 :: L) w0 w := by
 obtain ⟨ho, ht, hu, h, hon, h1, h2, hd, e1, e2, ⟨hi, a0, c0, d0, a1, c1, d1, hA⟩, hl⟩ := hs
 exact ⟨a0, c0, d0, a1, c1, d1, hi, St.open (m := [blk b (#[vs a0 x.1.length c0, vs a1 x.2.length c1]) 55, row 48 1 (.slice a0 x.1.length c0) x.1.length d0, tie (El.sl (El.int .u8)) d0 x.1, row 48 1 (.slice a1 x.2.length c1) x.2.length d1, tie (El.sl (El.int .u8)) d1 x.2]) ⟨ho, ht, hu, h, hon, h1, h2, hd, e1, e2, hA, hl⟩⟩
theorem V55.close {b : Nat} {l0 : List (List Int)} {l1 : List (List Int)} {a0 : Option Addr} {c0 : Nat} {d0 : List Value} {a1 : Option Addr} {c1 : Nat} {d1 : List Value} {L : List As} {w0 w : World} (hi : True) (hs : Sep.St (blk b (#[vs a0 l0.length c0, vs a1 l1.length c1]) 55 :: row 48 1 (.slice a0 l0.length c0) l0.length d0 :: tie (El.sl (El.int .u8)) d0 l0 :: row 48 1 (.slice a1 l1.length c1) l1.length d1 :: tie (El.sl (El.int .u8)) d1 l1 :: L) w0 w) : Sep.St (V55.at b (l0, l1) :: L) w0 w := by
 have h2 := St.join (m := [blk b (#[vs a0 l0.length c0, vs a1 l1.length c1]) 55, row 48 1 (.slice a0 l0.length c0) l0.length d0, tie (El.sl (El.int .u8)) d0 l0, row 48 1 (.slice a1 l1.length c1) l1.length d1, tie (El.sl (El.int .u8)) d1 l1]) hs
 exact h2.mono fun h hh => ⟨hi, _, _, _, _, _, _, hh⟩
mutual
def station_Station_put.j0 (a1 : (List (List Int) × List (List Int))) (a2 : Int) (a3 : List Int) (x4 : station_Station) (x5 : Bool) : Option (station_Station × (List (List Int) × List (List Int))) := (if x5 = true then (if 0 ≤ a2 ∧ a2 < 2 then (if a2 = 0 then ((slices_Clone_Sbytebyte.f a3).bind fun t12 => (if (a1.1.length : Int) + (([t12] : List (List Int))).length ≤ 1099511627776 then some (x4, (a1.1 ++ ([t12] : List (List Int)), a1.2)) else none)) else ((slices_Clone_Sbytebyte.f a3).bind fun t21 => (if (a1.2.length : Int) + (([t21] : List (List Int))).length ≤ 1099511627776 then some (x4, (a1.1, a1.2 ++ ([t21] : List (List Int)))) else none))) else none) else some (x4, a1))
end
def station_Station_put.f (k : Nat) (a0 : station_Station) (a1 : (List (List Int) × List (List Int))) (a2 : Int) (a3 : List Int) : Option (station_Station × (List (List Int) × List (List Int))) := (if 0 ≤ a2 ∧ a2 < 2 then (if a2 = 0 then ((frame_Put.f k a3 a0.c.Wide).bind fun t33 => ((ring_Ring_Add.f a0.sides.1.ring t33).bind fun t35 => (station_Station_put.j0 a1 a2 a3 ({ a0 with sides := (({ a0.sides.1 with ring := t35.2 } : station_side), a0.sides.2) } : station_Station) t35.1))) else ((frame_Put.f k a3 a0.c.Wide).bind fun t38 => ((ring_Ring_Add.f a0.sides.2.ring t38).bind fun t40 => (station_Station_put.j0 a1 a2 a3 ({ a0 with sides := (a0.sides.1, ({ a0.sides.2 with ring := t40.2 } : station_side)) } : station_Station) t40.1)))) else none)
theorem station_Station_put.calls {k : Nat} {a0 : station_Station} {a1 : (List (List Int) × List (List Int))} {a2 : Int} {a3 : List Int} {R : As} {w0 w : World} {b0 : Nat} {b1 : Nat} {sa3 : Option Addr} {sc3 : Nat} {r : station_Station × (List (List Int) × List (List Int))} (H : station_Station_put.f k a0 a1 a2 a3 = some r) (HS : Sep.St [station_Station.at b0 a0, V55.at b1 a1, fsl 1 (.slice sa3 a3.length sc3) a3.length (a3.map (Value.int .u8)), R] w0 w)  : Calls Tryz.prog 121 #[pt b0, pt b1, vi a2, vs sa3 a3.length sc3] w (Ret fun u w => u = Value.tuple #[] ∧ Sep.St [station_Station.at b0 r.1, V55.at b1 r.2, R] w0 w) := by
 unfold station_Station_put.f at H
 refine calls_enter func121 rfl rfl ?_
 have H : _ = some r := H
 refine V.meet (σ := station_Station × Bool) (fun st w => match st with | (x4, x5) => Sep.St [station_Station.at b0 x4, V55.at b1 a1, fsl 1 (.slice sa3 a3.length sc3) a3.length (a3.map (Value.int .u8)), R] w0 w ∧ station_Station_put.j0 a1 a2 a3 x4 x5 = some r) (fun st => match st with | (x4, x5) => [(1, pt b1), (2, vi a2), (3, vs sa3 a3.length sc3), (22, vb x5)]) ?_ ?_
 ·obtain ⟨b16_29, b17_29, b18_29, b22_29, b23_29, b24_29, b32_29, b33_29, b34_29, hi30, HS⟩ := station_Station.open HS
  obtain ⟨c31, H⟩ := ite_n H
  by_cases c32 : a2 = 0
  ·replace H := ite_t c32 H
   refine V.dr [13, 14] [] [(8, pt b0), (9, vi a2), (10, pt b0), (11, po b0 (0 + 22)), (12, po b0 (0 + 22 + 0 * 10)), (13, po b0 (0 + 22 + 0 * 10 + 2)), (14, pt b24_29), (15, vs sa3 a3.length sc3), (16, pt b0), (17, pt b0), (18, po b0 (0 + 0)), (19, po b0 (0 + 0 + 15)), (20, vb a0.c.Wide)] mo HS ?_
   refine T.ev [(15, _), (20, _)] [] [7, 8, 9, 10, 11, 12] ⟨rfl, rfl, tv⟩ ⟨.mv 0, .mv 2, .nc 8, .fa 10 fo103_7, .n2 9 11 rfl rfl rfl (fun w HS => X.indexArK 0 c32 underlying101 inf100 rfl rfl c31.1 c31.2), .fa 12 fo100_2, .ld 13 0 underlying98, .mv 3, .mv 0, .nc 16, .fa 17 fo103_0, .fa 18 fo23_15, .ld 19 0 underlying4, tv⟩ rfl (fun w HS => ?_)
   replace HS := HS.more 11 rfl (fun _ t => t) fsl.pers
   obtain ⟨t33, A34, H⟩ := bind_s H
   refine ⟨_, Y.cl func189 (frame_Put.calls A34 HS.j1), ?_⟩
   rintro _ w ⟨at33_0, ct33_0, rfl, HS⟩
   replace HS := HS.o1
   refine T.nw HS ?_
   refine T.ev [(14, _), (21, _)] [] [0, 1, 2, 3, 4, 5, 6] ⟨rfl, rfl, tv⟩ ⟨.mv 0, .mv 2, .nc 8, .fa 10 fo103_7, .n2 9 11 rfl rfl rfl (fun w HS => X.indexArK 0 c32 underlying101 inf100 rfl rfl c31.1 c31.2), .fa 12 fo100_2, .ld 13 1 underlying98, tv⟩ rfl (fun w HS => ?_)
   obtain ⟨t35, A36, H⟩ := bind_s H
   replace HS := HS.pm [7, 0, 1, 2, 3, 4, 5, 6, 8, 9, 10, 11, 12, 13]
   refine ⟨_, Y.cl func188 (ring_Ring_Add.calls A36 HS.j1 (rdC.part 0 row_rd rfl)), ?_⟩
   rintro _ w ⟨rfl, HS⟩
   replace HS := HS.o1
   refine T.nw HS ?_
   refine T.fn [(1, _), (2, _), (3, _), (22, _)] ⟨rfl, rfl, rfl, rfl, tv⟩ tv (fun w HS => ?_)
   replace HS := HS.pm [2, 3, 4, 5, 6, 7, 0, 8, 9, 10, 1, 11, 12, 13]
   replace HS := station_Station.close tv HS
   replace HS := HS.pk [0, 2, 3, 4] [1]
   exact At.meet (({ a0 with sides := (({ a0.sides.1 with ring := t35.2 } : station_side), a0.sides.2) } : station_Station), t35.1) ⟨rfl, rfl, rfl, rfl, tv⟩ ⟨HS, H⟩
  ·replace H := ite_f c32 H
   have hk37 : a2 = 1 := by omega
   refine V.dr [13, 14] [] [(8, pt b0), (9, vi a2), (10, pt b0), (11, po b0 (0 + 22)), (12, po b0 (0 + 22 + 1 * 10)), (13, po b0 (0 + 22 + 1 * 10 + 2)), (14, pt b34_29), (15, vs sa3 a3.length sc3), (16, pt b0), (17, pt b0), (18, po b0 (0 + 0)), (19, po b0 (0 + 0 + 15)), (20, vb a0.c.Wide)] mo HS ?_
   refine T.ev [(15, _), (20, _)] [] [7, 8, 9, 10, 11, 12] ⟨rfl, rfl, tv⟩ ⟨.mv 0, .mv 2, .nc 8, .fa 10 fo103_7, .n2 9 11 rfl rfl rfl (fun w HS => X.indexArK 1 hk37 underlying101 inf100 rfl rfl c31.1 c31.2), .fa 12 fo100_2, .ld 13 0 underlying98, .mv 3, .mv 0, .nc 16, .fa 17 fo103_0, .fa 18 fo23_15, .ld 19 0 underlying4, tv⟩ rfl (fun w HS => ?_)
   replace HS := HS.more 11 rfl (fun _ t => t) fsl.pers
   obtain ⟨t38, A39, H⟩ := bind_s H
   refine ⟨_, Y.cl func189 (frame_Put.calls A39 HS.j1), ?_⟩
   rintro _ w ⟨at38_0, ct38_0, rfl, HS⟩
   replace HS := HS.o1
   refine T.nw HS ?_
   refine T.ev [(14, _), (21, _)] [] [0, 1, 2, 3, 4, 5, 6] ⟨rfl, rfl, tv⟩ ⟨.mv 0, .mv 2, .nc 8, .fa 10 fo103_7, .n2 9 11 rfl rfl rfl (fun w HS => X.indexArK 1 hk37 underlying101 inf100 rfl rfl c31.1 c31.2), .fa 12 fo100_2, .ld 13 1 underlying98, tv⟩ rfl (fun w HS => ?_)
   obtain ⟨t40, A41, H⟩ := bind_s H
   replace HS := HS.pm [10, 0, 1, 2, 3, 4, 5, 6, 7, 8, 9, 11, 12, 13]
   refine ⟨_, Y.cl func188 (ring_Ring_Add.calls A41 HS.j1 (rdC.part 0 row_rd rfl)), ?_⟩
   rintro _ w ⟨rfl, HS⟩
   replace HS := HS.o1
   refine T.nw HS ?_
   refine T.fn [(1, _), (2, _), (3, _), (22, _)] ⟨rfl, rfl, rfl, rfl, tv⟩ tv (fun w HS => ?_)
   replace HS := HS.pm [2, 3, 4, 5, 6, 7, 8, 9, 10, 0, 1, 11, 12, 13]
   replace HS := station_Station.close tv HS
   replace HS := HS.pk [0, 2, 3, 4] [1]
   exact At.meet (({ a0 with sides := (a0.sides.1, ({ a0.sides.2 with ring := t40.2 } : station_side)) } : station_Station), t40.1) ⟨rfl, rfl, rfl, rfl, tv⟩ ⟨HS, H⟩
 ·rintro ⟨x4, x5⟩ w ⟨HS, H⟩
  unfold station_Station_put.j0 at H
  by_cases c7 : x5 = true
  ·replace H := ite_t c7 H
   refine V.condT (sb c7) ?_
   obtain ⟨c8, H⟩ := ite_n H
   replace HS := HS.fr 1
   obtain ⟨a0_9, c0_9, d0_9, a1_9, c1_9, d1_9, hi10, HS⟩ := V55.open HS
   by_cases c11 : a2 = 0
   ·replace H := ite_t c11 H
    refine V.dr [8, 9, 10, 13] [12] [(23, pt b1), (24, vi a2), (25, pt b1), (26, vi a2), (27, pt b1), (28, po b1 (0 + 0 * 1)), (29, vs a0_9 a1.1.length c0_9), (30, vs sa3 a3.length sc3), (34, pt b1)] mo HS ?_
    refine T.ev [(30, _)] [12] [7] ⟨rfl, tv⟩ ⟨.mv 1, .mv 2, .mv 1, .mv 2, .nc 25, .n2 26 27 rfl rfl rfl (fun w HS => X.indexArK 0 c11 underlying55 inf35 rfl rfl c8.1 c8.2), .ld 28 0 underlying35, .mv 3, .nc 23, tv⟩ rfl (fun w HS => ?_)
    obtain ⟨t12, A13, H⟩ := bind_s H
    refine ⟨_, Y.cl func127 (slices_Clone_Sbytebyte.calls A13 HS.j0 (rdC.part 6 fsl.rd rfl)), ?_⟩
    rintro _ w ⟨at12_0, ct12_0, rfl, HS⟩
    replace HS := HS.o1
    refine T.nw HS ?_
    refine T.ev [(31, _)] [12] [] ⟨rfl, tv⟩ ⟨.mv 1, .mv 2, .mv 1, .mv 2, .nc 25, .n2 26 27 rfl rfl rfl (fun w HS => X.indexArK 0 c11 underlying55 inf35 rfl rfl c8.1 c8.2), .ld 28 1 underlying35, .nc 23, tv⟩ rfl (fun w HS => ?_)
    replace HS := St.row_freeze HS
    refine ⟨_, Y.lc (e := 48) (sz := 1) [vs at12_0 t12.length ct12_0] HS rfl rfl (fun _ => by kernel_rfl), ?_⟩
    rintro _ w ⟨lb14, rfl, HS⟩
    replace HS := St.put (A := tie (El.sl (El.int .u8)) ([]) (([] : List (List Int)))) (fun _ => tie.nil) HS
    replace HS := HS.more 2 rfl (fun _ t => t) fsl.pers
    replace HS := St.put (A := tie (El.int .u8) (t12.map (Value.int .u8)) t12) (fun _ => int_tie) HS
    replace HS := St.swap HS
    replace HS := St.sl_close (E := (El.int .u8)) HS
    replace HS := HS.fr 1
    replace HS := HS.fr 1
    replace HS := St.tie_cons HS
    refine T.nw HS ?_
    refine T.ev [(29, _), (32, _)] [] [2, 3, 4, 5, 6] ⟨rfl, rfl, tv⟩ ⟨.mv 1, .mv 2, .mv 1, .mv 2, .nc 25, .n2 26 27 rfl rfl rfl (fun w HS => X.indexArK 0 c11 underlying55 inf35 rfl rfl c8.1 c8.2), .ld 28 3 underlying35, .nc 23, tv⟩ rfl (fun w HS => ?_)
    obtain ⟨c17, H⟩ := ite_n H
    refine ⟨_, Y.app (xs := a1.1) (ys := ([t12] : List (List Int))) 4 underlying35 ap48 rfl (by decide) HS rfl rfl rfl (rdC.at 1 row_rd HS rfl) (St.tie_one 0 HS rfl) (by omega) (by omega), ?_⟩
    rintro _ w ⟨ra18, rc19, rfl, HS⟩
    replace HS := HS.fr 5
    replace HS := St.tie_app 1 HS rfl
    refine T.nm [(33, vs ra18 (a1.1 ++ ([t12] : List (List Int))).length rc19), (35, po b1 (0 + 0 * 1))] HS ⟨.inl ⟨rfl, rfl⟩, ⟨.inr ⟨by decide, rfl⟩, tv⟩⟩ ?_
    refine T.ev [(33, _), (35, _)] [] [0, 1, 11, 12] ⟨rfl, rfl, tv⟩ ⟨.mv 1, .mv 2, .nc 23, .n2 24 34 rfl rfl rfl (fun w HS => X.indexArK 0 c11 underlying55 inf35 rfl rfl c8.1 c8.2), tv⟩ rfl (fun w HS => ?_)
    refine ⟨_, Y.sto 4 0 HS inf35 rfl rfl rfl rfl rfl rfl, ?_⟩
    rintro _ w HS
    refine T.nn HS ?_
    refine T.fn [] tv tv (fun w HS => ?_)
    replace HS := HS.pm [4, 5, 0, 6, 7, 1, 2, 3, 8, 9, 10]
    replace HS := V55.close tv HS
    replace HS := HS.pk [4, 0, 6] [1, 2, 3, 5]
    cases H
    exact At.end0 rfl ⟨_, rfl, rfl, HS⟩
   ·replace H := ite_f c11 H
    have hk20 : a2 = 1 := by omega
    refine V.dr [8, 9, 10, 13] [12] [(23, pt b1), (24, vi a2), (25, pt b1), (26, vi a2), (27, pt b1), (28, po b1 (0 + 1 * 1)), (29, vs a1_9 a1.2.length c1_9), (30, vs sa3 a3.length sc3), (34, pt b1)] mo HS ?_
    refine T.ev [(30, _)] [12] [7] ⟨rfl, tv⟩ ⟨.mv 1, .mv 2, .mv 1, .mv 2, .nc 25, .n2 26 27 rfl rfl rfl (fun w HS => X.indexArK 1 hk20 underlying55 inf35 rfl rfl c8.1 c8.2), .ld 28 0 underlying35, .mv 3, .nc 23, tv⟩ rfl (fun w HS => ?_)
    obtain ⟨t21, A22, H⟩ := bind_s H
    refine ⟨_, Y.cl func127 (slices_Clone_Sbytebyte.calls A22 HS.j0 (rdC.part 6 fsl.rd rfl)), ?_⟩
    rintro _ w ⟨at21_0, ct21_0, rfl, HS⟩
    replace HS := HS.o1
    refine T.nw HS ?_
    refine T.ev [(31, _)] [12] [] ⟨rfl, tv⟩ ⟨.mv 1, .mv 2, .mv 1, .mv 2, .nc 25, .n2 26 27 rfl rfl rfl (fun w HS => X.indexArK 1 hk20 underlying55 inf35 rfl rfl c8.1 c8.2), .ld 28 1 underlying35, .nc 23, tv⟩ rfl (fun w HS => ?_)
    replace HS := St.row_freeze HS
    refine ⟨_, Y.lc (e := 48) (sz := 1) [vs at21_0 t21.length ct21_0] HS rfl rfl (fun _ => by kernel_rfl), ?_⟩
    rintro _ w ⟨lb23, rfl, HS⟩
    replace HS := St.put (A := tie (El.sl (El.int .u8)) ([]) (([] : List (List Int)))) (fun _ => tie.nil) HS
    replace HS := HS.more 2 rfl (fun _ t => t) fsl.pers
    replace HS := St.put (A := tie (El.int .u8) (t21.map (Value.int .u8)) t21) (fun _ => int_tie) HS
    replace HS := St.swap HS
    replace HS := St.sl_close (E := (El.int .u8)) HS
    replace HS := HS.fr 1
    replace HS := HS.fr 1
    replace HS := St.tie_cons HS
    refine T.nw HS ?_
    refine T.ev [(29, _), (32, _)] [] [2, 3, 4, 5, 6] ⟨rfl, rfl, tv⟩ ⟨.mv 1, .mv 2, .mv 1, .mv 2, .nc 25, .n2 26 27 rfl rfl rfl (fun w HS => X.indexArK 1 hk20 underlying55 inf35 rfl rfl c8.1 c8.2), .ld 28 3 underlying35, .nc 23, tv⟩ rfl (fun w HS => ?_)
    obtain ⟨c26, H⟩ := ite_n H
    refine ⟨_, Y.app (xs := a1.2) (ys := ([t21] : List (List Int))) 6 underlying35 ap48 rfl (by decide) HS rfl rfl rfl (rdC.at 1 row_rd HS rfl) (St.tie_one 0 HS rfl) (by omega) (by omega), ?_⟩
    rintro _ w ⟨ra27, rc28, rfl, HS⟩
    replace HS := HS.fr 7
    replace HS := St.tie_app 1 HS rfl
    refine T.nm [(33, vs ra27 (a1.2 ++ ([t21] : List (List Int))).length rc28), (35, po b1 (0 + 1 * 1))] HS ⟨.inl ⟨rfl, rfl⟩, ⟨.inr ⟨by decide, rfl⟩, tv⟩⟩ ?_
    refine T.ev [(33, _), (35, _)] [] [0, 1, 11, 12] ⟨rfl, rfl, tv⟩ ⟨.mv 1, .mv 2, .nc 23, .n2 24 34 rfl rfl rfl (fun w HS => X.indexArK 1 hk20 underlying55 inf35 rfl rfl c8.1 c8.2), tv⟩ rfl (fun w HS => ?_)
    refine ⟨_, Y.sto 4 1 HS inf35 rfl rfl rfl rfl rfl rfl, ?_⟩
    rintro _ w HS
    refine T.nn HS ?_
    refine T.fn [] tv tv (fun w HS => ?_)
    replace HS := HS.pm [4, 5, 6, 7, 0, 1, 2, 3, 8, 9, 10]
    replace HS := V55.close tv HS
    replace HS := HS.pk [4, 0, 6] [1, 2, 3, 5]
    cases H
    exact At.end0 rfl ⟨_, rfl, rfl, HS⟩
  ·replace H := ite_f c7 H
   refine V.condF (sb (b_f c7)) (V.skip ?_)
   replace HS := HS.pk [0, 1, 3] [2]
   cases H
   exact At.end0 rfl ⟨_, rfl, rfl, HS⟩
def aps_Aps_Request.f (a0 : aps_Aps) : Option Int := some a0.own
theorem aps_Aps_Request.calls {a0 : aps_Aps} {R : As} {w0 w : World} {b0 : Nat} {r : Int} (H : aps_Aps_Request.f a0 = some r) (HS : Sep.St [blk b0 (#[vi a0.hold, vi a0.wait, vb a0.revert, vi a0.command, vi a0.remote, vi a0.own, vi a0.bad, vi a0.left, vi a0.line]) 168, R] w0 w)  : Calls Tryz.prog 123 #[pt b0] w (Ret fun u w => u = vi r ∧ Sep.St [blk b0 (#[vi a0.hold, vi a0.wait, vb a0.revert, vi a0.command, vi a0.remote, vi a0.own, vi a0.bad, vi a0.left, vi a0.line]) 168, R] w0 w) := by
 unfold aps_Aps_Request.f at H
 refine calls_enter func123 rfl rfl ?_
 have H : _ = some r := H
 refine V.seq (V.region (W.as rfl (W.nx (V.seq (V.region (W.mv rfl (W.nc rfl (W.fa fo168_5 rfl (W.ld 0 HS underlying3 rfl rfl rfl rfl (W.as rfl (W.nx (V.ret ?_))))))))))))
 cases H
 exact At.ret1 rfl rfl ⟨_, rfl, rfl, HS⟩
mutual
def kcode_Put.j0  (x3 : Int) : Option (List Int) := some ([x3, icom .u8 x3] : List Int)
end
def kcode_Put.f (a0 : Int) (a1 : Int) : Option (List Int) := ((request_Of.f a0).bind fun t1 => (if a1 = 1 then (kcode_Put.j0 (IntKind.u8.wrap ((IntKind.u8.wrap (w64 (t1 * 16))) + 1))) else (kcode_Put.j0 (IntKind.u8.wrap (w64 (t1 * 16))))))
theorem kcode_Put.calls {a0 : Int} {a1 : Int} {R : As} {w0 w : World}  {r : List Int} (H : kcode_Put.f a0 a1 = some r) (HS : Sep.St [R] w0 w)  : Calls Tryz.prog 122 #[vi a0, vi a1] w (Ret fun u w => ∃ (aq0 : Option Addr) (cq0 : Nat), u = vs aq0 r.length cq0 ∧ Sep.St [row 5 1 (.slice aq0 r.length cq0) r.length (r.map (Value.int .u8)), R] w0 w) := by
 unfold kcode_Put.f at H
 refine calls_enter func122 rfl rfl ?_
 have H : _ = some r := H
 refine V.seq (V.region (W.as rfl (W.nx (V.seq (V.region (W.mv rfl ?_))))))
 obtain ⟨t1, A2, H⟩ := bind_s H
 refine W.e (Y.cl func190 (request_Of.calls A2 HS.j0)) rfl ?_
 rintro _ w ⟨rfl, HS⟩
 replace HS := HS.o0
 refine W.r (X.mul rfl rfl) rfl (W.r (X.conv underlying3 underlying5 rfl) rfl (W.as rfl (W.nx (V.meet (σ := Int) (fun st w => match st with | x3 => Sep.St [R] w0 w ∧ kcode_Put.j0 x3 = some r) (fun st => match st with | x3 => [(5, Value.int .u8 x3)]) ?_ ?_))))
 ·refine V.seq (V.region (W.mv rfl (W.r (X.cmp (decide (a1 = 1)) rfl rfl rfl rfl) rfl (W.nx ?_))))
  by_cases c8 : a1 = 1
  ·replace H := ite_t c8 H
   refine V.condT (sb (dT c8)) (V.region (W.mv rfl (W.r (X.add rfl rfl) rfl (W.as rfl (W.nil ?_)))))
   exact At.meet (IntKind.u8.wrap ((IntKind.u8.wrap (w64 (t1 * 16))) + 1)) ⟨rfl, tv⟩ ⟨HS, H⟩
  ·replace H := ite_f c8 H
   refine V.condF (sb (dF c8)) (V.skip ?_)
   exact At.meet (IntKind.u8.wrap (w64 (t1 * 16))) ⟨rfl, tv⟩ ⟨HS, H⟩
 ·rintro x3 w ⟨HS, H⟩
  unfold kcode_Put.j0 at H
  refine V.seq (V.region (W.mv rfl (W.mv rfl (W.r (X.com rfl) rfl (W.e (Y.ls (e := 5) (Value.int .u8) ([x3, icom .u8 x3] : List Int) HS rfl rfl (fun _ => by kernel_rfl)) rfl ?_)))))
  rintro _ w ⟨lb7, rfl, HS⟩
  refine W.as rfl (W.nx (V.ret ?_))
  cases H
  exact At.ret1 rfl rfl ⟨_, rfl, (some ⟨lb7, 0, none⟩), 2, rfl, HS⟩
mutual
def station_Station_Step.l1 : Nat → (Int × aps_Aps) → (List (List Int) × arq_Arq) → Int → station_Station → (List (List Int) × List (List Int)) → Option ((List (List Int) × List (List Int)) × station_Station)
 | 0, _, _, _, _, _ => none
 | k + 1, t21, t38, x42, x43, x44 => (if x42 < (t38.1.length : Int) then (if 0 ≤ x42 ∧ x42 < (t38.1.length : Int) then ((station_Station_piece.f k x43 (t38.1.getD x42.toNat [])).bind fun t57 => ((station_Station_twice.f t57.2).bind fun t96 => (if t96 = true then (station_Station_Step.j2 k t21 x42 x44 t57 (station_Station_Step.l1 k t21 t38) true) else (station_Station_Step.j2 k t21 x42 x44 t57 (station_Station_Step.l1 k t21 t38) (decide (0 = t21.1)))))) else none) else (if ¬ (x43.c.Keep = 0) then (if ((w64 (x43.steps + 1)).tmod x43.c.Keep) = 0 then ((aps_Aps_Request.f x43.aps).bind fun t108 => ((kcode_Put.f t108 t21.1).bind fun t110 => (if (([1] : List Int).length : Int) + t110.length ≤ 1099511627776 then ((station_Station_put.f k ({ x43 with steps := w64 (x43.steps + 1) } : station_Station) x44 0 (([1] : List Int) ++ t110)).bind fun t126 => ((station_Station_put.f k t126.1 t126.2 1 (([1] : List Int) ++ t110)).bind fun t129 => some (t129.2, t129.1))) else none))) else some (x44, ({ x43 with steps := w64 (x43.steps + 1) } : station_Station))) else none))
def station_Station_Step.j3 (k : Nat) (x42 : Int) (t57 : List Int × station_Station) (t66 : station_Station × (List (List Int) × List (List Int))) (Lq71 : Int → station_Station → (List (List Int) × List (List Int)) → Option ((List (List Int) × List (List Int)) × station_Station)) (x69 : Bool) : Option ((List (List Int) × List (List Int)) × station_Station) := (if x69 = true then ((station_Station_put.f k t66.1 t66.2 1 t57.1).bind fun t74 => (Lq71 (w64 (x42 + 1)) t74.1 t74.2)) else (Lq71 (w64 (x42 + 1)) t66.1 t66.2))
def station_Station_Step.j4 (k : Nat) (x42 : Int) (x44 : (List (List Int) × List (List Int))) (t57 : List Int × station_Station) (Lq83 : Int → station_Station → (List (List Int) × List (List Int)) → Option ((List (List Int) × List (List Int)) × station_Station)) (x81 : Bool) : Option ((List (List Int) × List (List Int)) × station_Station) := (if x81 = true then ((station_Station_put.f k t57.2 x44 1 t57.1).bind fun t86 => (Lq83 (w64 (x42 + 1)) t86.1 t86.2)) else (Lq83 (w64 (x42 + 1)) t57.2 x44))
def station_Station_Step.j2 (k : Nat) (t21 : Int × aps_Aps) (x42 : Int) (x44 : (List (List Int) × List (List Int))) (t57 : List Int × station_Station) (Lq63 : Int → station_Station → (List (List Int) × List (List Int)) → Option ((List (List Int) × List (List Int)) × station_Station)) (x61 : Bool) : Option ((List (List Int) × List (List Int)) × station_Station) := (if x61 = true then ((station_Station_put.f k t57.2 x44 0 t57.1).bind fun t66 => ((station_Station_twice.f t66.1).bind fun t78 => (if t78 = true then (station_Station_Step.j3 k x42 t57 t66 Lq63 true) else (station_Station_Step.j3 k x42 t57 t66 Lq63 (decide (1 = t21.1)))))) else ((station_Station_twice.f t57.2).bind fun t91 => (if t91 = true then (station_Station_Step.j4 k x42 x44 t57 Lq63 true) else (station_Station_Step.j4 k x42 x44 t57 Lq63 (decide (1 = t21.1))))))
def station_Station_Step.j0 (k : Nat) (t21 : Int × aps_Aps) (x23 : station_Station) : Option ((List (List Int) × List (List Int)) × station_Station) := ((arq_Arq_Pass.f k x23.arq 1).bind fun t27 => ((arq_Arq_Output.f t27).bind fun t38 => (station_Station_Step.l1 k t21 t38 0 ({ x23 with arq := t38.2, line := t21.1 } : station_Station) (([] : List (List Int)), ([] : List (List Int))))))
def station_Station_Step.j5 (k : Nat) (a0 : station_Station) (t8 : Int × monitor_Monitor) (t19 : Int × monitor_Monitor) (t21 : Int × aps_Aps) (x141 : Bool) : Option ((List (List Int) × List (List Int)) × station_Station) := (if x141 = true then ((arq_Arq_Again.f k ((({ a0 with aps := t21.2, sides := (({ a0.sides.1 with monitor := t8.2 } : station_side), ({ a0.sides.2 with monitor := t19.2 } : station_side)) } : station_Station)).arq)).bind fun t146 => (station_Station_Step.j0 k t21 ({ c := ({ Mode := (({ a0 with aps := t21.2, sides := (({ a0.sides.1 with monitor := t8.2 } : station_side), ({ a0.sides.2 with monitor := t19.2 } : station_side)) } : station_Station)).c.Mode, Modulus := (({ a0 with aps := t21.2, sides := (({ a0.sides.1 with monitor := t8.2 } : station_side), ({ a0.sides.2 with monitor := t19.2 } : station_side)) } : station_Station)).c.Modulus, Window := (({ a0 with aps := t21.2, sides := (({ a0.sides.1 with monitor := t8.2 } : station_side), ({ a0.sides.2 with monitor := t19.2 } : station_side)) } : station_Station)).c.Window, T1 := (({ a0 with aps := t21.2, sides := (({ a0.sides.1 with monitor := t8.2 } : station_side), ({ a0.sides.2 with monitor := t19.2 } : station_side)) } : station_Station)).c.T1, N2 := (({ a0 with aps := t21.2, sides := (({ a0.sides.1 with monitor := t8.2 } : station_side), ({ a0.sides.2 with monitor := t19.2 } : station_side)) } : station_Station)).c.N2, Hold := (({ a0 with aps := t21.2, sides := (({ a0.sides.1 with monitor := t8.2 } : station_side), ({ a0.sides.2 with monitor := t19.2 } : station_side)) } : station_Station)).c.Hold, Wait := (({ a0 with aps := t21.2, sides := (({ a0.sides.1 with monitor := t8.2 } : station_side), ({ a0.sides.2 with monitor := t19.2 } : station_side)) } : station_Station)).c.Wait, Keep := (({ a0 with aps := t21.2, sides := (({ a0.sides.1 with monitor := t8.2 } : station_side), ({ a0.sides.2 with monitor := t19.2 } : station_side)) } : station_Station)).c.Keep, Queue := (({ a0 with aps := t21.2, sides := (({ a0.sides.1 with monitor := t8.2 } : station_side), ({ a0.sides.2 with monitor := t19.2 } : station_side)) } : station_Station)).c.Queue, Size := (({ a0 with aps := t21.2, sides := (({ a0.sides.1 with monitor := t8.2 } : station_side), ({ a0.sides.2 with monitor := t19.2 } : station_side)) } : station_Station)).c.Size, Ring := (({ a0 with aps := t21.2, sides := (({ a0.sides.1 with monitor := t8.2 } : station_side), ({ a0.sides.2 with monitor := t19.2 } : station_side)) } : station_Station)).c.Ring, Rate := (({ a0 with aps := t21.2, sides := (({ a0.sides.1 with monitor := t8.2 } : station_side), ({ a0.sides.2 with monitor := t19.2 } : station_side)) } : station_Station)).c.Rate, Bad := (({ a0 with aps := t21.2, sides := (({ a0.sides.1 with monitor := t8.2 } : station_side), ({ a0.sides.2 with monitor := t19.2 } : station_side)) } : station_Station)).c.Bad, Good := (({ a0 with aps := t21.2, sides := (({ a0.sides.1 with monitor := t8.2 } : station_side), ({ a0.sides.2 with monitor := t19.2 } : station_side)) } : station_Station)).c.Good, Revert := (({ a0 with aps := t21.2, sides := (({ a0.sides.1 with monitor := t8.2 } : station_side), ({ a0.sides.2 with monitor := t19.2 } : station_side)) } : station_Station)).c.Revert, Wide := (({ a0 with aps := t21.2, sides := (({ a0.sides.1 with monitor := t8.2 } : station_side), ({ a0.sides.2 with monitor := t19.2 } : station_side)) } : station_Station)).c.Wide } : api_Config), arq := t146, aps := (({ a0 with aps := t21.2, sides := (({ a0.sides.1 with monitor := t8.2 } : station_side), ({ a0.sides.2 with monitor := t19.2 } : station_side)) } : station_Station)).aps, twins := (({ a0 with aps := t21.2, sides := (({ a0.sides.1 with monitor := t8.2 } : station_side), ({ a0.sides.2 with monitor := t19.2 } : station_side)) } : station_Station)).twins, number := (({ a0 with aps := t21.2, sides := (({ a0.sides.1 with monitor := t8.2 } : station_side), ({ a0.sides.2 with monitor := t19.2 } : station_side)) } : station_Station)).number, steps := (({ a0 with aps := t21.2, sides := (({ a0.sides.1 with monitor := t8.2 } : station_side), ({ a0.sides.2 with monitor := t19.2 } : station_side)) } : station_Station)).steps, line := (({ a0 with aps := t21.2, sides := (({ a0.sides.1 with monitor := t8.2 } : station_side), ({ a0.sides.2 with monitor := t19.2 } : station_side)) } : station_Station)).line, sides := (({ reader := (({ a0 with aps := t21.2, sides := (({ a0.sides.1 with monitor := t8.2 } : station_side), ({ a0.sides.2 with monitor := t19.2 } : station_side)) } : station_Station)).sides.1.reader, monitor := (({ a0 with aps := t21.2, sides := (({ a0.sides.1 with monitor := t8.2 } : station_side), ({ a0.sides.2 with monitor := t19.2 } : station_side)) } : station_Station)).sides.1.monitor, ring := (({ a0 with aps := t21.2, sides := (({ a0.sides.1 with monitor := t8.2 } : station_side), ({ a0.sides.2 with monitor := t19.2 } : station_side)) } : station_Station)).sides.1.ring, counts := ({ Good := (({ a0 with aps := t21.2, sides := (({ a0.sides.1 with monitor := t8.2 } : station_side), ({ a0.sides.2 with monitor := t19.2 } : station_side)) } : station_Station)).sides.1.counts.Good, Bad := (({ a0 with aps := t21.2, sides := (({ a0.sides.1 with monitor := t8.2 } : station_side), ({ a0.sides.2 with monitor := t19.2 } : station_side)) } : station_Station)).sides.1.counts.Bad, Aborts := (({ a0 with aps := t21.2, sides := (({ a0.sides.1 with monitor := t8.2 } : station_side), ({ a0.sides.2 with monitor := t19.2 } : station_side)) } : station_Station)).sides.1.counts.Aborts, Runts := (({ a0 with aps := t21.2, sides := (({ a0.sides.1 with monitor := t8.2 } : station_side), ({ a0.sides.2 with monitor := t19.2 } : station_side)) } : station_Station)).sides.1.counts.Runts, Giants := (({ a0 with aps := t21.2, sides := (({ a0.sides.1 with monitor := t8.2 } : station_side), ({ a0.sides.2 with monitor := t19.2 } : station_side)) } : station_Station)).sides.1.counts.Giants, Dropped := (({ a0 with aps := t21.2, sides := (({ a0.sides.1 with monitor := t8.2 } : station_side), ({ a0.sides.2 with monitor := t19.2 } : station_side)) } : station_Station)).sides.1.counts.Dropped, Twins := (({ a0 with aps := t21.2, sides := (({ a0.sides.1 with monitor := t8.2 } : station_side), ({ a0.sides.2 with monitor := t19.2 } : station_side)) } : station_Station)).sides.1.counts.Twins } : api_Counts) } : station_side), ({ reader := (({ a0 with aps := t21.2, sides := (({ a0.sides.1 with monitor := t8.2 } : station_side), ({ a0.sides.2 with monitor := t19.2 } : station_side)) } : station_Station)).sides.2.reader, monitor := (({ a0 with aps := t21.2, sides := (({ a0.sides.1 with monitor := t8.2 } : station_side), ({ a0.sides.2 with monitor := t19.2 } : station_side)) } : station_Station)).sides.2.monitor, ring := (({ a0 with aps := t21.2, sides := (({ a0.sides.1 with monitor := t8.2 } : station_side), ({ a0.sides.2 with monitor := t19.2 } : station_side)) } : station_Station)).sides.2.ring, counts := ({ Good := (({ a0 with aps := t21.2, sides := (({ a0.sides.1 with monitor := t8.2 } : station_side), ({ a0.sides.2 with monitor := t19.2 } : station_side)) } : station_Station)).sides.2.counts.Good, Bad := (({ a0 with aps := t21.2, sides := (({ a0.sides.1 with monitor := t8.2 } : station_side), ({ a0.sides.2 with monitor := t19.2 } : station_side)) } : station_Station)).sides.2.counts.Bad, Aborts := (({ a0 with aps := t21.2, sides := (({ a0.sides.1 with monitor := t8.2 } : station_side), ({ a0.sides.2 with monitor := t19.2 } : station_side)) } : station_Station)).sides.2.counts.Aborts, Runts := (({ a0 with aps := t21.2, sides := (({ a0.sides.1 with monitor := t8.2 } : station_side), ({ a0.sides.2 with monitor := t19.2 } : station_side)) } : station_Station)).sides.2.counts.Runts, Giants := (({ a0 with aps := t21.2, sides := (({ a0.sides.1 with monitor := t8.2 } : station_side), ({ a0.sides.2 with monitor := t19.2 } : station_side)) } : station_Station)).sides.2.counts.Giants, Dropped := (({ a0 with aps := t21.2, sides := (({ a0.sides.1 with monitor := t8.2 } : station_side), ({ a0.sides.2 with monitor := t19.2 } : station_side)) } : station_Station)).sides.2.counts.Dropped, Twins := (({ a0 with aps := t21.2, sides := (({ a0.sides.1 with monitor := t8.2 } : station_side), ({ a0.sides.2 with monitor := t19.2 } : station_side)) } : station_Station)).sides.2.counts.Twins } : api_Counts) } : station_side)) } : station_Station))) else (station_Station_Step.j0 k t21 ({ a0 with aps := t21.2, sides := (({ a0.sides.1 with monitor := t8.2 } : station_side), ({ a0.sides.2 with monitor := t19.2 } : station_side)) } : station_Station)))
end
def station_Station_Step.f (k : Nat) (a0 : station_Station) : Option ((List (List Int) × List (List Int)) × station_Station) := ((monitor_Monitor_Pass.f a0.sides.1.monitor 1).bind fun t8 => ((monitor_Monitor_Pass.f a0.sides.2.monitor 1).bind fun t19 => ((aps_Aps_Pass.f a0.aps t8.1 t19.1).bind fun t21 => ((station_Station_twice.f ({ a0 with aps := t21.2, sides := (({ a0.sides.1 with monitor := t8.2 } : station_side), ({ a0.sides.2 with monitor := t19.2 } : station_side)) } : station_Station)).bind fun t148 => (if t148 = true then (station_Station_Step.j5 k a0 t8 t19 t21 false) else (station_Station_Step.j5 k a0 t8 t19 t21 (!(decide (t21.1 = a0.line)))))))))
theorem station_Station_Step.calls {k : Nat} {a0 : station_Station} {R : As} {w0 w : World} {b0 : Nat} {r : (List (List Int) × List (List Int)) × station_Station} (H : station_Station_Step.f k a0 = some r) (HS : Sep.St [station_Station.at b0 a0, R] w0 w)  : Calls Tryz.prog 55 #[pt b0] w (Ret fun u w => ∃ (aq0_0 : Option Addr) (cq0_0 : Nat) (dq0_0 : List Value) (aq0_1 : Option Addr) (cq0_1 : Nat) (dq0_1 : List Value), u = Value.agg #[vs aq0_0 r.1.1.length cq0_0, vs aq0_1 r.1.2.length cq0_1] ∧ Sep.St [row 48 1 (.slice aq0_0 r.1.1.length cq0_0) r.1.1.length dq0_0, tie (El.sl (El.int .u8)) dq0_0 r.1.1, row 48 1 (.slice aq0_1 r.1.2.length cq0_1) r.1.2.length dq0_1, tie (El.sl (El.int .u8)) dq0_1 r.1.2, station_Station.at b0 r.2, R] w0 w) := by
 unfold station_Station_Step.f at H
 refine calls_enter func55 rfl rfl ?_
 have H : _ = some r := H
 refine V.seq (V.region (W.e (Y.alloc (z := Value.agg (#[vs none 0 0, vs none 0 0])) HS ze55) rfl ?_))
 rintro _ w ⟨nb1, rfl, HS⟩
 refine W.nx (V.seq (V.region (W.e (Y.alloc (z := Value.agg (#[vs none 0 0, vs none 0 0])) HS ze55) rfl ?_)))
 rintro _ w ⟨nb2, rfl, HS⟩
 refine W.nx (V.seq (V.region (W.mv rfl (W.nc rfl ?_))))
 replace HS := HS.fr 2
 obtain ⟨b16_6, b17_6, b18_6, b22_6, b23_6, b24_6, b32_6, b33_6, b34_6, hi7, HS⟩ := station_Station.open HS
 refine W.fa fo103_7 rfl (W.r (X.indexArK 0 rfl underlying101 inf100 rfl rfl (by decide) (by decide)) rfl (W.fa fo100_1 rfl (W.ld 0 HS underlying97 rfl rfl rfl rfl ?_)))
 obtain ⟨t8, A9, H⟩ := bind_s H
 replace HS := HS.pm [5, 0, 1, 2, 3, 4, 6, 7, 8, 9, 10, 11, 12]
 refine W.e (Y.cl func115 (monitor_Monitor_Pass.calls A9 HS.j1)) rfl ?_
 rintro _ w ⟨rfl, HS⟩
 replace HS := HS.o1
 refine W.as rfl (W.nx (V.seq (V.dr [11, 12] [13] [(19, pt b0), (20, pt b0), (21, po b0 (0 + 17)), (22, pt b17_6), (23, vi t8.1), (24, pt b0), (25, pt b0), (26, po b0 (0 + 22)), (27, po b0 (0 + 22 + 1 * 10)), (28, po b0 (0 + 22 + 1 * 10 + 1)), (29, pt b33_6)] mo HS ?_)))
 refine T.ev [(29, _)] [13] [5, 6, 7, 8, 9, 10] ⟨rfl, tv⟩ ⟨.mv 0, .nc 19, .fa 20 fo103_2, .ld 21 1 underlying93, .mv 4, .mv 0, .nc 24, .fa 25 fo103_7, .n1 26 rfl rfl (fun w HS => X.indexArK 1 rfl underlying101 inf100 rfl rfl (by decide) (by decide)), .fa 27 fo100_1, .ld 28 1 underlying97, tv⟩ rfl (fun w HS => ?_)
 obtain ⟨t19, A20, H⟩ := bind_s H
 replace HS := HS.pm [8, 0, 1, 2, 3, 4, 5, 6, 7, 9, 10, 11, 12]
 refine ⟨_, Y.cl func115 (monitor_Monitor_Pass.calls A20 HS.j1), ?_⟩
 rintro _ w ⟨rfl, HS⟩
 replace HS := HS.o1
 refine T.nw HS ?_
 refine T.ev [(22, _), (23, _), (30, _)] [] [0, 1, 2, 3, 4] ⟨rfl, rfl, rfl, tv⟩ ⟨.mv 0, .nc 19, .fa 20 fo103_2, .ld 21 2 underlying93, .mv 4, tv⟩ rfl (fun w HS => ?_)
 obtain ⟨t21, A22, H⟩ := bind_s H
 replace HS := HS.pm [4, 0, 1, 2, 3, 5, 6, 7, 8, 9, 10, 11, 12]
 refine ⟨_, Y.cl func116 (aps_Aps_Pass.calls A22 HS.j1), ?_⟩
 rintro _ w ⟨rfl, HS⟩
 replace HS := HS.o1
 refine T.nm [(31, vi t21.1), (5, vi t21.1)] HS ⟨.inl ⟨rfl, rfl⟩, ⟨.inr ⟨by decide, rfl⟩, tv⟩⟩ ?_
 refine T.fn [(0, _), (2, _), (3, _), (5, _)] ⟨rfl, rfl, rfl, rfl, tv⟩ ⟨.as 31, tv⟩ (fun w HS => ?_)
 refine At.next (V.meet (σ := station_Station) (fun st w => match st with | x23 => Sep.St [V55.at nb1 ((([] : List (List Int)), ([] : List (List Int)))), V55.at nb2 ((([] : List (List Int)), ([] : List (List Int)))), station_Station.at b0 x23, R] w0 w ∧ ∃ kf24, kf24 ≤ k ∧ station_Station_Step.j0 kf24 t21 x23 = some r) (fun st => match st with | x23 => [(0, pt b0), (2, pt nb1), (3, pt nb2), (5, vi t21.1)]) ?_ ?_)
 ·refine V.meet (σ := Bool) (fun st w => match st with | x141 => Sep.St [V55.at nb1 ((([] : List (List Int)), ([] : List (List Int)))), V55.at nb2 ((([] : List (List Int)), ([] : List (List Int)))), station_Station.at b0 (({ a0 with aps := t21.2, sides := (({ a0.sides.1 with monitor := t8.2 } : station_side), ({ a0.sides.2 with monitor := t19.2 } : station_side)) } : station_Station)), R] w0 w ∧ ∃ kf142, kf142 ≤ k ∧ station_Station_Step.j5 kf142 a0 t8 t19 t21 x141 = some r) (fun st => match st with | x141 => [(0, pt b0), (2, pt nb1), (3, pt nb2), (5, vi t21.1), (42, vb x141)]) ?_ ?_
  ·refine V.region (W.mv rfl ?_)
   obtain ⟨t148, A149, H⟩ := bind_s H
   replace HS := HS.pm [3, 4, 0, 5, 6, 2, 7, 8, 1, 9, 10, 11, 12]
   refine W.e (Y.cl func67 (station_Station_twice.calls A149 HS.j10)) rfl ?_
   rintro _ w ⟨rfl, HS⟩
   replace HS := HS.o10
   refine W.r (X.not rfl) rfl (W.mv rfl ?_)
   by_cases c150 : t148 = true
   ·replace H := ite_t c150 H
    refine W.pass 35 rfl (sb (n_t c150)) rfl rfl (W.pass 35 rfl (sb (n_t c150)) rfl rfl (W.pass 35 rfl (sb (n_t c150)) rfl rfl (W.pass 35 rfl (sb (n_t c150)) rfl rfl (W.pass 35 rfl (sb (n_t c150)) rfl rfl (W.pass 35 rfl (sb (n_t c150)) rfl rfl (W.r (X.pickF (sb (n_t c150)) rfl) rfl (W.nil ?_)))))))
    replace HS := row_nilE (El.sl (El.int .u8)) 48 1 HS
    replace HS := row_nilE (El.sl (El.int .u8)) 48 1 HS
    replace HS := HS.pm [15, 2, 3, 0, 1, 4, 5, 6, 7, 8, 9, 10, 11, 12, 13, 14, 16]
    replace HS := V55.close (l0 := ([] : List (List Int))) (l1 := ([] : List (List Int))) tv HS
    replace HS := row_nilE (El.sl (El.int .u8)) 48 1 HS
    replace HS := row_nilE (El.sl (El.int .u8)) 48 1 HS
    replace HS := HS.pm [15, 2, 3, 0, 1, 4, 5, 6, 7, 8, 9, 10, 11, 12, 13, 14, 16]
    replace HS := V55.close (l0 := ([] : List (List Int))) (l1 := ([] : List (List Int))) tv HS
    replace HS := HS.pm [2, 3, 4, 5, 6, 7, 8, 9, 10, 11, 0, 1, 12]
    replace HS := station_Station.close tv HS
    replace HS := HS.pk [2, 1, 0, 3] []
    exact At.meet false ⟨rfl, rfl, rfl, rfl, rfl, tv⟩ ⟨HS, k, by omega, H⟩
   ·replace H := ite_f c150 H
    refine W.want 35 rfl (sb (n_f (b_f c150))) (W.mv rfl (W.want 35 rfl (sb (n_f (b_f c150))) (W.mv rfl (W.want 35 rfl (sb (n_f (b_f c150))) (W.nc rfl (W.want 35 rfl (sb (n_f (b_f c150))) (W.fa fo103_6 rfl (W.want 35 rfl (sb (n_f (b_f c150))) (W.ld 0 HS underlying3 rfl rfl rfl rfl (W.want 35 rfl (sb (n_f (b_f c150))) (W.r (X.cmp (!(decide (t21.1 = a0.line))) rfl rfl rfl rfl) rfl (W.r (X.pickT (sb (n_f (b_f c150))) rfl) rfl (W.nil ?_)))))))))))))
    replace HS := row_nilE (El.sl (El.int .u8)) 48 1 HS
    replace HS := row_nilE (El.sl (El.int .u8)) 48 1 HS
    replace HS := HS.pm [15, 2, 3, 0, 1, 4, 5, 6, 7, 8, 9, 10, 11, 12, 13, 14, 16]
    replace HS := V55.close (l0 := ([] : List (List Int))) (l1 := ([] : List (List Int))) tv HS
    replace HS := row_nilE (El.sl (El.int .u8)) 48 1 HS
    replace HS := row_nilE (El.sl (El.int .u8)) 48 1 HS
    replace HS := HS.pm [15, 2, 3, 0, 1, 4, 5, 6, 7, 8, 9, 10, 11, 12, 13, 14, 16]
    replace HS := V55.close (l0 := ([] : List (List Int))) (l1 := ([] : List (List Int))) tv HS
    replace HS := HS.pm [2, 3, 4, 5, 6, 7, 8, 9, 10, 11, 0, 1, 12]
    replace HS := station_Station.close tv HS
    replace HS := HS.pk [2, 1, 0, 3] []
    exact At.meet (!(decide (t21.1 = a0.line))) ⟨rfl, rfl, rfl, rfl, rfl, tv⟩ ⟨HS, k, by omega, H⟩
  ·rintro x141 w ⟨HS, kf142, hkkf142, H⟩
   unfold station_Station_Step.j5 at H
   by_cases c143 : x141 = true
   ·replace H := ite_t c143 H
    refine V.condT (sb c143) (V.region (W.mv rfl (W.nc rfl ?_)))
    replace HS := HS.fr 2
    obtain ⟨b16_144, b17_144, b18_144, b22_144, b23_144, b24_144, b32_144, b33_144, b34_144, hi145, HS⟩ := station_Station.open HS
    refine W.fa fo103_1 rfl (W.ld 0 HS underlying92 rfl rfl rfl rfl ?_)
    obtain ⟨t146, A147, H⟩ := bind_s H
    replace HS := HS.pm [1, 0, 2, 3, 4, 5, 6, 7, 8, 9, 10, 11, 12]
    refine W.e (Y.cl func117 (arq_Arq_Again.calls A147 HS.j1)) rfl ?_
    rintro _ w ⟨rfl, HS⟩
    replace HS := HS.o1
    refine W.nil ?_
    replace HS := HS.pm [1, 0, 2, 3, 4, 5, 6, 7, 8, 9, 10, 11, 12]
    replace HS := station_Station.close tv HS
    replace HS := HS.pk [1, 2, 0, 3] []
    exact At.meet (({ c := ({ Mode := (({ a0 with aps := t21.2, sides := (({ a0.sides.1 with monitor := t8.2 } : station_side), ({ a0.sides.2 with monitor := t19.2 } : station_side)) } : station_Station)).c.Mode, Modulus := (({ a0 with aps := t21.2, sides := (({ a0.sides.1 with monitor := t8.2 } : station_side), ({ a0.sides.2 with monitor := t19.2 } : station_side)) } : station_Station)).c.Modulus, Window := (({ a0 with aps := t21.2, sides := (({ a0.sides.1 with monitor := t8.2 } : station_side), ({ a0.sides.2 with monitor := t19.2 } : station_side)) } : station_Station)).c.Window, T1 := (({ a0 with aps := t21.2, sides := (({ a0.sides.1 with monitor := t8.2 } : station_side), ({ a0.sides.2 with monitor := t19.2 } : station_side)) } : station_Station)).c.T1, N2 := (({ a0 with aps := t21.2, sides := (({ a0.sides.1 with monitor := t8.2 } : station_side), ({ a0.sides.2 with monitor := t19.2 } : station_side)) } : station_Station)).c.N2, Hold := (({ a0 with aps := t21.2, sides := (({ a0.sides.1 with monitor := t8.2 } : station_side), ({ a0.sides.2 with monitor := t19.2 } : station_side)) } : station_Station)).c.Hold, Wait := (({ a0 with aps := t21.2, sides := (({ a0.sides.1 with monitor := t8.2 } : station_side), ({ a0.sides.2 with monitor := t19.2 } : station_side)) } : station_Station)).c.Wait, Keep := (({ a0 with aps := t21.2, sides := (({ a0.sides.1 with monitor := t8.2 } : station_side), ({ a0.sides.2 with monitor := t19.2 } : station_side)) } : station_Station)).c.Keep, Queue := (({ a0 with aps := t21.2, sides := (({ a0.sides.1 with monitor := t8.2 } : station_side), ({ a0.sides.2 with monitor := t19.2 } : station_side)) } : station_Station)).c.Queue, Size := (({ a0 with aps := t21.2, sides := (({ a0.sides.1 with monitor := t8.2 } : station_side), ({ a0.sides.2 with monitor := t19.2 } : station_side)) } : station_Station)).c.Size, Ring := (({ a0 with aps := t21.2, sides := (({ a0.sides.1 with monitor := t8.2 } : station_side), ({ a0.sides.2 with monitor := t19.2 } : station_side)) } : station_Station)).c.Ring, Rate := (({ a0 with aps := t21.2, sides := (({ a0.sides.1 with monitor := t8.2 } : station_side), ({ a0.sides.2 with monitor := t19.2 } : station_side)) } : station_Station)).c.Rate, Bad := (({ a0 with aps := t21.2, sides := (({ a0.sides.1 with monitor := t8.2 } : station_side), ({ a0.sides.2 with monitor := t19.2 } : station_side)) } : station_Station)).c.Bad, Good := (({ a0 with aps := t21.2, sides := (({ a0.sides.1 with monitor := t8.2 } : station_side), ({ a0.sides.2 with monitor := t19.2 } : station_side)) } : station_Station)).c.Good, Revert := (({ a0 with aps := t21.2, sides := (({ a0.sides.1 with monitor := t8.2 } : station_side), ({ a0.sides.2 with monitor := t19.2 } : station_side)) } : station_Station)).c.Revert, Wide := (({ a0 with aps := t21.2, sides := (({ a0.sides.1 with monitor := t8.2 } : station_side), ({ a0.sides.2 with monitor := t19.2 } : station_side)) } : station_Station)).c.Wide } : api_Config), arq := t146, aps := (({ a0 with aps := t21.2, sides := (({ a0.sides.1 with monitor := t8.2 } : station_side), ({ a0.sides.2 with monitor := t19.2 } : station_side)) } : station_Station)).aps, twins := (({ a0 with aps := t21.2, sides := (({ a0.sides.1 with monitor := t8.2 } : station_side), ({ a0.sides.2 with monitor := t19.2 } : station_side)) } : station_Station)).twins, number := (({ a0 with aps := t21.2, sides := (({ a0.sides.1 with monitor := t8.2 } : station_side), ({ a0.sides.2 with monitor := t19.2 } : station_side)) } : station_Station)).number, steps := (({ a0 with aps := t21.2, sides := (({ a0.sides.1 with monitor := t8.2 } : station_side), ({ a0.sides.2 with monitor := t19.2 } : station_side)) } : station_Station)).steps, line := (({ a0 with aps := t21.2, sides := (({ a0.sides.1 with monitor := t8.2 } : station_side), ({ a0.sides.2 with monitor := t19.2 } : station_side)) } : station_Station)).line, sides := (({ reader := (({ a0 with aps := t21.2, sides := (({ a0.sides.1 with monitor := t8.2 } : station_side), ({ a0.sides.2 with monitor := t19.2 } : station_side)) } : station_Station)).sides.1.reader, monitor := (({ a0 with aps := t21.2, sides := (({ a0.sides.1 with monitor := t8.2 } : station_side), ({ a0.sides.2 with monitor := t19.2 } : station_side)) } : station_Station)).sides.1.monitor, ring := (({ a0 with aps := t21.2, sides := (({ a0.sides.1 with monitor := t8.2 } : station_side), ({ a0.sides.2 with monitor := t19.2 } : station_side)) } : station_Station)).sides.1.ring, counts := ({ Good := (({ a0 with aps := t21.2, sides := (({ a0.sides.1 with monitor := t8.2 } : station_side), ({ a0.sides.2 with monitor := t19.2 } : station_side)) } : station_Station)).sides.1.counts.Good, Bad := (({ a0 with aps := t21.2, sides := (({ a0.sides.1 with monitor := t8.2 } : station_side), ({ a0.sides.2 with monitor := t19.2 } : station_side)) } : station_Station)).sides.1.counts.Bad, Aborts := (({ a0 with aps := t21.2, sides := (({ a0.sides.1 with monitor := t8.2 } : station_side), ({ a0.sides.2 with monitor := t19.2 } : station_side)) } : station_Station)).sides.1.counts.Aborts, Runts := (({ a0 with aps := t21.2, sides := (({ a0.sides.1 with monitor := t8.2 } : station_side), ({ a0.sides.2 with monitor := t19.2 } : station_side)) } : station_Station)).sides.1.counts.Runts, Giants := (({ a0 with aps := t21.2, sides := (({ a0.sides.1 with monitor := t8.2 } : station_side), ({ a0.sides.2 with monitor := t19.2 } : station_side)) } : station_Station)).sides.1.counts.Giants, Dropped := (({ a0 with aps := t21.2, sides := (({ a0.sides.1 with monitor := t8.2 } : station_side), ({ a0.sides.2 with monitor := t19.2 } : station_side)) } : station_Station)).sides.1.counts.Dropped, Twins := (({ a0 with aps := t21.2, sides := (({ a0.sides.1 with monitor := t8.2 } : station_side), ({ a0.sides.2 with monitor := t19.2 } : station_side)) } : station_Station)).sides.1.counts.Twins } : api_Counts) } : station_side), ({ reader := (({ a0 with aps := t21.2, sides := (({ a0.sides.1 with monitor := t8.2 } : station_side), ({ a0.sides.2 with monitor := t19.2 } : station_side)) } : station_Station)).sides.2.reader, monitor := (({ a0 with aps := t21.2, sides := (({ a0.sides.1 with monitor := t8.2 } : station_side), ({ a0.sides.2 with monitor := t19.2 } : station_side)) } : station_Station)).sides.2.monitor, ring := (({ a0 with aps := t21.2, sides := (({ a0.sides.1 with monitor := t8.2 } : station_side), ({ a0.sides.2 with monitor := t19.2 } : station_side)) } : station_Station)).sides.2.ring, counts := ({ Good := (({ a0 with aps := t21.2, sides := (({ a0.sides.1 with monitor := t8.2 } : station_side), ({ a0.sides.2 with monitor := t19.2 } : station_side)) } : station_Station)).sides.2.counts.Good, Bad := (({ a0 with aps := t21.2, sides := (({ a0.sides.1 with monitor := t8.2 } : station_side), ({ a0.sides.2 with monitor := t19.2 } : station_side)) } : station_Station)).sides.2.counts.Bad, Aborts := (({ a0 with aps := t21.2, sides := (({ a0.sides.1 with monitor := t8.2 } : station_side), ({ a0.sides.2 with monitor := t19.2 } : station_side)) } : station_Station)).sides.2.counts.Aborts, Runts := (({ a0 with aps := t21.2, sides := (({ a0.sides.1 with monitor := t8.2 } : station_side), ({ a0.sides.2 with monitor := t19.2 } : station_side)) } : station_Station)).sides.2.counts.Runts, Giants := (({ a0 with aps := t21.2, sides := (({ a0.sides.1 with monitor := t8.2 } : station_side), ({ a0.sides.2 with monitor := t19.2 } : station_side)) } : station_Station)).sides.2.counts.Giants, Dropped := (({ a0 with aps := t21.2, sides := (({ a0.sides.1 with monitor := t8.2 } : station_side), ({ a0.sides.2 with monitor := t19.2 } : station_side)) } : station_Station)).sides.2.counts.Dropped, Twins := (({ a0 with aps := t21.2, sides := (({ a0.sides.1 with monitor := t8.2 } : station_side), ({ a0.sides.2 with monitor := t19.2 } : station_side)) } : station_Station)).sides.2.counts.Twins } : api_Counts) } : station_side)) } : station_Station)) ⟨rfl, rfl, rfl, rfl, tv⟩ ⟨HS, kf142, by omega, H⟩
   ·replace H := ite_f c143 H
    refine V.condF (sb (b_f c143)) (V.skip ?_)
    exact At.meet (({ a0 with aps := t21.2, sides := (({ a0.sides.1 with monitor := t8.2 } : station_side), ({ a0.sides.2 with monitor := t19.2 } : station_side)) } : station_Station)) ⟨rfl, rfl, rfl, rfl, tv⟩ ⟨HS, kf142, by omega, H⟩
 ·rintro x23 w ⟨HS, kf24, hkkf24, H⟩
  unfold station_Station_Step.j0 at H
  refine V.seq (V.region (W.mv rfl (W.mv rfl (W.nc rfl ?_))))
  replace HS := HS.fr 2
  obtain ⟨b16_25, b17_25, b18_25, b22_25, b23_25, b24_25, b32_25, b33_25, b34_25, hi26, HS⟩ := station_Station.open HS
  refine W.fa fo103_6 rfl (W.st 0 21 HS inf3 rfl rfl rfl rfl rfl rfl fun w HS => ?_)
  refine W.nx (V.seq (V.region (W.mv rfl (W.nc rfl (W.fa fo103_1 rfl (W.ld 0 HS underlying92 rfl rfl rfl rfl ?_))))))
  obtain ⟨t27, A28, H⟩ := bind_s H
  replace HS := HS.pm [1, 0, 2, 3, 4, 5, 6, 7, 8, 9, 10, 11, 12]
  refine W.e (Y.cl func118 (arq_Arq_Pass.calls A28 HS.j1)) rfl ?_
  rintro _ w ⟨rfl, HS⟩
  replace HS := HS.o1
  refine W.nx (V.seq (V.seq (V.region (W.mv rfl (W.nc rfl (W.fa fo103_1 rfl (W.ld 1 HS underlying92 rfl rfl rfl rfl ?_)))))))
  obtain ⟨t38, A39, H⟩ := bind_s H
  refine W.e (Y.cl func119 (arq_Arq_Output.calls A39 HS.j1)) rfl ?_
  rintro _ w ⟨at38_0, ct38_0, dt38_0, rfl, HS⟩
  replace HS := HS.o3
  refine W.r (X.lenSl underlying35 rfl) rfl (W.mv rfl (W.nx (V.block ?_)))
  replace HS := HS.pm [3, 2, 4, 5, 6, 7, 8, 9, 10, 11, 0, 1, 12, 13, 14]
  replace HS := station_Station.close tv HS
  refine V.loop (σ := Int × station_Station × (List (List Int) × List (List Int))) (fun kq (st : Int × station_Station × (List (List Int) × List (List Int))) w => match st with | (x42, x43, x44) => Sep.St [station_Station.at b0 x43, row 48 1 (.slice at38_0 t38.1.length ct38_0) t38.1.length dt38_0, tie (El.sl (El.int .u8)) dt38_0 t38.1, V55.at nb1 ((([] : List (List Int)), ([] : List (List Int)))), V55.at nb2 x44, R] w0 w ∧ station_Station_Step.l1 kq t21 t38 x42 x43 x44 = some r ∧ kq ≤ kf24) (fun st => match st with | (x42, x43, x44) => [(0, pt b0), (2, pt nb1), (3, pt nb2), (5, vi t21.1), (61, vs at38_0 t38.1.length ct38_0), (62, vi (t38.1.length : Int)), (63, vi x42)]) kf24 (0, ({ x23 with arq := t38.2, line := t21.1 } : station_Station), (([] : List (List Int)), ([] : List (List Int)))) ⟨rfl, rfl, rfl, rfl, rfl, rfl, rfl, tv⟩ ⟨HS, H, Nat.le_refl _⟩ ?_
  rintro kq45 ⟨x42, x43, x44⟩ w ⟨HS, H, hk46⟩
  cases kq45 with
  | zero => exact absurd H (by simp [station_Station_Step.l1])
  | succ kq45 =>
   simp only [station_Station_Step.l1] at H
   refine V.seq (V.region (W.r (X.cmp (decide (x42 < (t38.1.length : Int))) rfl rfl rfl rfl) rfl (W.nx (V.seq ?_))))
   by_cases c47 : x42 < (t38.1.length : Int)
   ·replace H := ite_t c47 H
    refine V.condT (sb (dT c47)) (V.skip (At.next (V.seq (V.block (V.seq (V.region ?_))))))
    obtain ⟨c48, H⟩ := ite_n H
    obtain ⟨eb49, eo50, hh⟩ := (rdC.at 1 row_rd HS rfl).some (by decide) c48.1 c48.2; subst hh
    refine W.r (X.indexSl underlying35 inf48 rfl rfl c48.1 c48.2) rfl ?_
    obtain ⟨ec51, hc52, HS⟩ := St.tie_at 2 HS rfl ([]) c48.1 c48.2
    obtain ⟨ea53, em54, he56, HN⟩ := St.sl_openF (Value.int .u8) (fun t => tie_int t) HS; clear HS; subst he56; have HS := HN
    refine W.r (X.load underlying48 rfl rfl ((rdC.at 2 row_rd HS rfl).cellEl0 (hc52 0 _ rfl))) rfl (W.as rfl (W.nx (V.seq (V.region (W.mv rfl (W.mv rfl ?_))))))
    replace HS := HS.more 0 rfl (fun _ t => t) fsl.pers
    obtain ⟨t57, A58, H⟩ := bind_s H
    replace HS := HS.pm [2, 0, 1, 3, 4, 5, 6, 7]
    refine W.e (Y.cl func120 (station_Station_piece.calls A58 HS.j2)) rfl ?_
    rintro _ w ⟨at57_0, ct57_0, rfl, HS⟩
    replace HS := HS.o2
    refine W.as rfl (W.nx (V.seq (V.region (W.mv rfl (W.nx (V.block (V.rounds 2 [(0, pt b0), (2, pt nb1), (3, pt nb2), (5, vi t21.1), (8, vs at57_0 t57.1.length ct57_0), (61, vs (some ⟨eb49, eo50, none⟩) t38.1.length ct38_0), (62, vi (t38.1.length : Int)), (63, vi x42), (70, vi (0))] ⟨rfl, rfl, rfl, rfl, rfl, rfl, rfl, rfl, rfl, tv⟩ ?_)))))))
    refine V.seq (V.region (W.r (X.cmp true (by decide) rfl rfl rfl) rfl (W.nx (V.seq (V.condT rfl (V.skip (At.next (V.seq (V.block (V.seq (V.region (W.mv rfl (W.as rfl (W.nx (V.meet (σ := Bool) (fun st w => match st with | x61 => Sep.St [row 5 1 (.slice at57_0 t57.1.length ct57_0) t57.1.length (t57.1.map (Value.int .u8)), station_Station.at b0 t57.2, fsl 1 (.slice ea53 (t38.1.getD x42.toNat []).length em54) (t38.1.getD x42.toNat []).length ((t38.1.getD x42.toNat []).map (Value.int .u8)), row 48 1 (.slice (some ⟨eb49, eo50, none⟩) t38.1.length ct38_0) t38.1.length dt38_0, tie (El.sl (El.int .u8)) dt38_0 t38.1, V55.at nb1 ((([] : List (List Int)), ([] : List (List Int)))), V55.at nb2 x44, R] w0 w ∧ ∃ kf62 kl64, kf62 ≤ kq45 ∧ kl64 ≤ kq45 ∧ station_Station_Step.j2 kf62 t21 x42 x44 t57 (station_Station_Step.l1 kl64 t21 t38) x61 = some r) (fun st => match st with | x61 => [(0, pt b0), (2, pt nb1), (3, pt nb2), (5, vi t21.1), (8, vs at57_0 t57.1.length ct57_0), (9, vi (0)), (61, vs (some ⟨eb49, eo50, none⟩) t38.1.length ct38_0), (62, vi (t38.1.length : Int)), (63, vi x42), (70, vi (0)), (79, vb x61)]) ?_ ?_)))))))))))))))
    ·refine V.region (W.mv rfl ?_)
     replace HS := HS.fr 1
     obtain ⟨b16_94, b17_94, b18_94, b22_94, b23_94, b24_94, b32_94, b33_94, b34_94, hi95, HS⟩ := station_Station.open HS
     obtain ⟨t96, A97, H⟩ := bind_s H
     refine W.e (Y.cl func67 (station_Station_twice.calls A97 HS.j10)) rfl ?_
     rintro _ w ⟨rfl, HS⟩
     replace HS := HS.o10
     refine W.mv rfl ?_
     by_cases c98 : t96 = true
     ·replace H := ite_t c98 H
      refine W.pass 75 rfl (sb c98) rfl rfl (W.pass 75 rfl (sb c98) rfl rfl (W.pass 75 rfl (sb c98) rfl rfl (W.r (X.pickT (sb c98) rfl) rfl (W.nil ?_))))
      replace HS := station_Station.close tv HS
      replace HS := HS.pk [1, 0, 2, 3, 4, 5, 6, 7] []
      exact At.meet true ⟨rfl, rfl, rfl, rfl, rfl, rfl, rfl, rfl, rfl, rfl, rfl, tv⟩ ⟨HS, kq45, kq45, by omega, by omega, H⟩
     ·replace H := ite_f c98 H
      refine W.want 75 rfl (sb (b_f c98)) (W.mv rfl (W.want 75 rfl (sb (b_f c98)) (W.mv rfl (W.want 75 rfl (sb (b_f c98)) (W.r (X.cmp (decide (0 = t21.1)) rfl rfl rfl rfl) rfl (W.r (X.pickF (sb (b_f c98)) rfl) rfl (W.nil ?_)))))))
      replace HS := station_Station.close tv HS
      replace HS := HS.pk [1, 0, 2, 3, 4, 5, 6, 7] []
      exact At.meet (decide (0 = t21.1)) ⟨rfl, rfl, rfl, rfl, rfl, rfl, rfl, rfl, rfl, rfl, rfl, tv⟩ ⟨HS, kq45, kq45, by omega, by omega, H⟩
    ·rintro x61 w ⟨HS, kf62, kl64, hkkf62, hkkl64, H⟩
     unfold station_Station_Step.j2 at H
     by_cases c65 : x61 = true
     ·replace H := ite_t c65 H
      refine V.condT (sb c65) (V.region (W.mv rfl (W.mv rfl (W.mv rfl ?_))))
      replace HS := St.row_freeze HS
      replace HS := HS.more 0 rfl (fun _ t => t) fsl.pers
      obtain ⟨t66, A67, H⟩ := bind_s H
      replace HS := HS.pm [2, 7, 0, 1, 3, 4, 5, 6, 8]
      refine W.e (Y.cl func121 (station_Station_put.calls A67 HS.j3)) rfl ?_
      rintro _ w ⟨rfl, HS⟩
      replace HS := HS.o2
      refine W.nil (At.blockEnd (At.next (V.region (W.r (X.add rfl rfl) rfl (W.mv rfl (W.nil (At.onward [(0, pt b0), (2, pt nb1), (3, pt nb2), (5, vi t21.1), (8, vs at57_0 t57.1.length ct57_0), (61, vs (some ⟨eb49, eo50, none⟩) t38.1.length ct38_0), (62, vi (t38.1.length : Int)), (63, vi x42), (70, vi (1))] ⟨rfl, rfl, rfl, rfl, rfl, rfl, rfl, rfl, rfl, tv⟩ ?_)))))))
      refine V.seq (V.region (W.r (X.cmp true (by decide) rfl rfl rfl) rfl (W.nx (V.seq (V.condT rfl (V.skip (At.next (V.seq (V.block (V.seq (V.region (W.mv rfl (W.as rfl (W.nx (V.meet (σ := Bool) (fun st w => match st with | x69 => Sep.St [station_Station.at b0 t66.1, V55.at nb2 t66.2, fsl 1 (.slice at57_0 t57.1.length ct57_0) t57.1.length (t57.1.map (Value.int .u8)), fsl 1 (.slice ea53 (t38.1.getD x42.toNat []).length em54) (t38.1.getD x42.toNat []).length ((t38.1.getD x42.toNat []).map (Value.int .u8)), row 48 1 (.slice (some ⟨eb49, eo50, none⟩) t38.1.length ct38_0) t38.1.length dt38_0, tie (El.sl (El.int .u8)) dt38_0 t38.1, V55.at nb1 ((([] : List (List Int)), ([] : List (List Int)))), R] w0 w ∧ ∃ kf70 kl72, kf70 ≤ kf62 ∧ kl72 ≤ kl64 ∧ station_Station_Step.j3 kf70 x42 t57 t66 (station_Station_Step.l1 kl72 t21 t38) x69 = some r) (fun st => match st with | x69 => [(0, pt b0), (2, pt nb1), (3, pt nb2), (5, vi t21.1), (8, vs at57_0 t57.1.length ct57_0), (9, vi (1)), (61, vs (some ⟨eb49, eo50, none⟩) t38.1.length ct38_0), (62, vi (t38.1.length : Int)), (63, vi x42), (70, vi (1)), (79, vb x69)]) ?_ ?_)))))))))))))))
      ·refine V.region (W.mv rfl ?_)
       obtain ⟨b16_76, b17_76, b18_76, b22_76, b23_76, b24_76, b32_76, b33_76, b34_76, hi77, HS⟩ := station_Station.open HS
       obtain ⟨t78, A79, H⟩ := bind_s H
       refine W.e (Y.cl func67 (station_Station_twice.calls A79 HS.j10)) rfl ?_
       rintro _ w ⟨rfl, HS⟩
       replace HS := HS.o10
       refine W.mv rfl ?_
       by_cases c80 : t78 = true
       ·replace H := ite_t c80 H
        refine W.pass 75 rfl (sb c80) rfl rfl (W.pass 75 rfl (sb c80) rfl rfl (W.pass 75 rfl (sb c80) rfl rfl (W.r (X.pickT (sb c80) rfl) rfl (W.nil ?_))))
        replace HS := station_Station.close tv HS
        exact At.meet true ⟨rfl, rfl, rfl, rfl, rfl, rfl, rfl, rfl, rfl, rfl, rfl, tv⟩ ⟨HS, kf62, kl64, by omega, by omega, H⟩
       ·replace H := ite_f c80 H
        refine W.want 75 rfl (sb (b_f c80)) (W.mv rfl (W.want 75 rfl (sb (b_f c80)) (W.mv rfl (W.want 75 rfl (sb (b_f c80)) (W.r (X.cmp (decide (1 = t21.1)) rfl rfl rfl rfl) rfl (W.r (X.pickF (sb (b_f c80)) rfl) rfl (W.nil ?_)))))))
        replace HS := station_Station.close tv HS
        exact At.meet (decide (1 = t21.1)) ⟨rfl, rfl, rfl, rfl, rfl, rfl, rfl, rfl, rfl, rfl, rfl, tv⟩ ⟨HS, kf62, kl64, by omega, by omega, H⟩
      ·rintro x69 w ⟨HS, kf70, kl72, hkkf70, hkkl72, H⟩
       unfold station_Station_Step.j3 at H
       by_cases c73 : x69 = true
       ·replace H := ite_t c73 H
        refine V.condT (sb c73) (V.region (W.mv rfl (W.mv rfl (W.mv rfl ?_))))
        replace HS := HS.more 2 rfl (fun _ t => t) fsl.pers
        obtain ⟨t74, A75, H⟩ := bind_s H
        replace HS := HS.pm [1, 2, 0, 3, 4, 5, 6, 7, 8]
        refine W.e (Y.cl func121 (station_Station_put.calls A75 HS.j3)) rfl ?_
        rintro _ w ⟨rfl, HS⟩
        replace HS := HS.o2
        refine W.nil (At.blockEnd (At.next (V.region (W.r (X.add rfl rfl) rfl (W.mv rfl (W.nil (At.onward [(0, pt b0), (2, pt nb1), (3, pt nb2), (5, vi t21.1), (8, vs at57_0 t57.1.length ct57_0), (61, vs (some ⟨eb49, eo50, none⟩) t38.1.length ct38_0), (62, vi (t38.1.length : Int)), (63, vi x42), (70, vi (2))] ⟨rfl, rfl, rfl, rfl, rfl, rfl, rfl, rfl, rfl, tv⟩ ?_)))))))
        refine V.seq (V.region (W.r (X.cmp false (by decide) rfl rfl rfl) rfl (W.nx (V.seq (V.condF rfl (V.exit (At.thenExit (At.thenExit (At.blockExit (At.blockEnd (At.next (V.region (W.r (X.add rfl rfl) rfl (W.mv rfl (W.nil ?_)))))))))))))))
        replace HS := HS.pk [0, 4, 5, 6, 1, 7] [2, 3]
        exact At.round kl72 (by omega) (w64 (x42 + 1), t74.1, t74.2) ⟨rfl, rfl, rfl, rfl, rfl, rfl, rfl, tv⟩ ⟨HS, H, by omega⟩
       ·replace H := ite_f c73 H
        refine V.condF (sb (b_f c73)) (V.skip (At.blockEnd (At.next (V.region (W.r (X.add rfl rfl) rfl (W.mv rfl (W.nil (At.onward [(0, pt b0), (2, pt nb1), (3, pt nb2), (5, vi t21.1), (8, vs at57_0 t57.1.length ct57_0), (61, vs (some ⟨eb49, eo50, none⟩) t38.1.length ct38_0), (62, vi (t38.1.length : Int)), (63, vi x42), (70, vi (2))] ⟨rfl, rfl, rfl, rfl, rfl, rfl, rfl, rfl, rfl, tv⟩ ?_))))))))
        refine V.seq (V.region (W.r (X.cmp false (by decide) rfl rfl rfl) rfl (W.nx (V.seq (V.condF rfl (V.exit (At.thenExit (At.thenExit (At.blockExit (At.blockEnd (At.next (V.region (W.r (X.add rfl rfl) rfl (W.mv rfl (W.nil ?_)))))))))))))))
        replace HS := HS.pk [0, 4, 5, 6, 1, 7] [2, 3]
        exact At.round kl72 (by omega) (w64 (x42 + 1), t66.1, t66.2) ⟨rfl, rfl, rfl, rfl, rfl, rfl, rfl, tv⟩ ⟨HS, H, by omega⟩
     ·replace H := ite_f c65 H
      refine V.condF (sb (b_f c65)) (V.skip (At.blockEnd (At.next (V.region (W.r (X.add rfl rfl) rfl (W.mv rfl (W.nil (At.onward [(0, pt b0), (2, pt nb1), (3, pt nb2), (5, vi t21.1), (8, vs at57_0 t57.1.length ct57_0), (61, vs (some ⟨eb49, eo50, none⟩) t38.1.length ct38_0), (62, vi (t38.1.length : Int)), (63, vi x42), (70, vi (1))] ⟨rfl, rfl, rfl, rfl, rfl, rfl, rfl, rfl, rfl, tv⟩ ?_))))))))
      refine V.seq (V.region (W.r (X.cmp true (by decide) rfl rfl rfl) rfl (W.nx (V.seq (V.condT rfl (V.skip (At.next (V.seq (V.block (V.seq (V.region (W.mv rfl (W.as rfl (W.nx (V.meet (σ := Bool) (fun st w => match st with | x81 => Sep.St [row 5 1 (.slice at57_0 t57.1.length ct57_0) t57.1.length (t57.1.map (Value.int .u8)), station_Station.at b0 t57.2, fsl 1 (.slice ea53 (t38.1.getD x42.toNat []).length em54) (t38.1.getD x42.toNat []).length ((t38.1.getD x42.toNat []).map (Value.int .u8)), row 48 1 (.slice (some ⟨eb49, eo50, none⟩) t38.1.length ct38_0) t38.1.length dt38_0, tie (El.sl (El.int .u8)) dt38_0 t38.1, V55.at nb1 ((([] : List (List Int)), ([] : List (List Int)))), V55.at nb2 x44, R] w0 w ∧ ∃ kf82 kl84, kf82 ≤ kf62 ∧ kl84 ≤ kl64 ∧ station_Station_Step.j4 kf82 x42 x44 t57 (station_Station_Step.l1 kl84 t21 t38) x81 = some r) (fun st => match st with | x81 => [(0, pt b0), (2, pt nb1), (3, pt nb2), (5, vi t21.1), (8, vs at57_0 t57.1.length ct57_0), (9, vi (1)), (61, vs (some ⟨eb49, eo50, none⟩) t38.1.length ct38_0), (62, vi (t38.1.length : Int)), (63, vi x42), (70, vi (1)), (79, vb x81)]) ?_ ?_)))))))))))))))
      ·refine V.region (W.mv rfl ?_)
       replace HS := HS.fr 1
       obtain ⟨b16_89, b17_89, b18_89, b22_89, b23_89, b24_89, b32_89, b33_89, b34_89, hi90, HS⟩ := station_Station.open HS
       obtain ⟨t91, A92, H⟩ := bind_s H
       refine W.e (Y.cl func67 (station_Station_twice.calls A92 HS.j10)) rfl ?_
       rintro _ w ⟨rfl, HS⟩
       replace HS := HS.o10
       refine W.mv rfl ?_
       by_cases c93 : t91 = true
       ·replace H := ite_t c93 H
        refine W.pass 75 rfl (sb c93) rfl rfl (W.pass 75 rfl (sb c93) rfl rfl (W.pass 75 rfl (sb c93) rfl rfl (W.r (X.pickT (sb c93) rfl) rfl (W.nil ?_))))
        replace HS := station_Station.close tv HS
        replace HS := HS.pk [1, 0, 2, 3, 4, 5, 6, 7] []
        exact At.meet true ⟨rfl, rfl, rfl, rfl, rfl, rfl, rfl, rfl, rfl, rfl, rfl, tv⟩ ⟨HS, kf62, kl64, by omega, by omega, H⟩
       ·replace H := ite_f c93 H
        refine W.want 75 rfl (sb (b_f c93)) (W.mv rfl (W.want 75 rfl (sb (b_f c93)) (W.mv rfl (W.want 75 rfl (sb (b_f c93)) (W.r (X.cmp (decide (1 = t21.1)) rfl rfl rfl rfl) rfl (W.r (X.pickF (sb (b_f c93)) rfl) rfl (W.nil ?_)))))))
        replace HS := station_Station.close tv HS
        replace HS := HS.pk [1, 0, 2, 3, 4, 5, 6, 7] []
        exact At.meet (decide (1 = t21.1)) ⟨rfl, rfl, rfl, rfl, rfl, rfl, rfl, rfl, rfl, rfl, rfl, tv⟩ ⟨HS, kf62, kl64, by omega, by omega, H⟩
      ·rintro x81 w ⟨HS, kf82, kl84, hkkf82, hkkl84, H⟩
       unfold station_Station_Step.j4 at H
       by_cases c85 : x81 = true
       ·replace H := ite_t c85 H
        refine V.condT (sb c85) (V.region (W.mv rfl (W.mv rfl (W.mv rfl ?_))))
        replace HS := St.row_freeze HS
        replace HS := HS.more 0 rfl (fun _ t => t) fsl.pers
        obtain ⟨t86, A87, H⟩ := bind_s H
        replace HS := HS.pm [2, 7, 0, 1, 3, 4, 5, 6, 8]
        refine W.e (Y.cl func121 (station_Station_put.calls A87 HS.j3)) rfl ?_
        rintro _ w ⟨rfl, HS⟩
        replace HS := HS.o2
        refine W.nil (At.blockEnd (At.next (V.region (W.r (X.add rfl rfl) rfl (W.mv rfl (W.nil (At.onward [(0, pt b0), (2, pt nb1), (3, pt nb2), (5, vi t21.1), (8, vs at57_0 t57.1.length ct57_0), (61, vs (some ⟨eb49, eo50, none⟩) t38.1.length ct38_0), (62, vi (t38.1.length : Int)), (63, vi x42), (70, vi (2))] ⟨rfl, rfl, rfl, rfl, rfl, rfl, rfl, rfl, rfl, tv⟩ ?_)))))))
        refine V.seq (V.region (W.r (X.cmp false (by decide) rfl rfl rfl) rfl (W.nx (V.seq (V.condF rfl (V.exit (At.thenExit (At.thenExit (At.blockExit (At.blockEnd (At.next (V.region (W.r (X.add rfl rfl) rfl (W.mv rfl (W.nil ?_)))))))))))))))
        replace HS := HS.pk [0, 4, 5, 6, 1, 7] [2, 3]
        exact At.round kl84 (by omega) (w64 (x42 + 1), t86.1, t86.2) ⟨rfl, rfl, rfl, rfl, rfl, rfl, rfl, tv⟩ ⟨HS, H, by omega⟩
       ·replace H := ite_f c85 H
        refine V.condF (sb (b_f c85)) (V.skip (At.blockEnd (At.next (V.region (W.r (X.add rfl rfl) rfl (W.mv rfl (W.nil (At.onward [(0, pt b0), (2, pt nb1), (3, pt nb2), (5, vi t21.1), (8, vs at57_0 t57.1.length ct57_0), (61, vs (some ⟨eb49, eo50, none⟩) t38.1.length ct38_0), (62, vi (t38.1.length : Int)), (63, vi x42), (70, vi (2))] ⟨rfl, rfl, rfl, rfl, rfl, rfl, rfl, rfl, rfl, tv⟩ ?_))))))))
        refine V.seq (V.region (W.r (X.cmp false (by decide) rfl rfl rfl) rfl (W.nx (V.seq (V.condF rfl (V.exit (At.thenExit (At.thenExit (At.blockExit (At.blockEnd (At.next (V.region (W.r (X.add rfl rfl) rfl (W.mv rfl (W.nil ?_)))))))))))))))
        replace HS := HS.pk [1, 3, 4, 5, 6, 7] [0, 2]
        exact At.round kl84 (by omega) (w64 (x42 + 1), t57.2, x44) ⟨rfl, rfl, rfl, rfl, rfl, rfl, rfl, tv⟩ ⟨HS, H, by omega⟩
   ·replace H := ite_f c47 H
    refine V.condF (sb (dF c47)) (V.exit (At.thenExit (At.thenExit (At.blockExit (At.next (V.seq (V.region (W.mv rfl (W.nc rfl ?_)))))))))
    obtain ⟨b16_99, b17_99, b18_99, b22_99, b23_99, b24_99, b32_99, b33_99, b34_99, hi100, HS⟩ := station_Station.open HS
    refine W.fa fo103_5 rfl (W.ld 0 HS underlying3 rfl rfl rfl rfl (W.r (X.add rfl rfl) rfl (W.nc rfl (W.fa fo103_5 rfl (W.st 0 20 HS inf3 rfl rfl rfl rfl rfl rfl fun w HS => ?_)))))
    refine W.nx (V.seq (V.seq ?_))
    obtain ⟨c101, H⟩ := ite_n H
    refine V.dr [] [] [(93, pt b0), (94, pt b0), (95, po b0 (0 + 20)), (96, vi (w64 (x43.steps + 1))), (97, pt b0), (98, pt b0), (99, po b0 (0 + 0)), (100, po b0 (0 + 0 + 7)), (101, vi x43.c.Keep), (102, vi ((w64 (x43.steps + 1)).tmod x43.c.Keep)), (103, vb (decide (((w64 (x43.steps + 1)).tmod x43.c.Keep) = 0)))] mo HS ?_
    refine T.fn [(0, _), (2, _), (3, _), (5, _), (103, _)] ⟨rfl, rfl, rfl, rfl, rfl, tv⟩ ⟨.mv 0, .nc 93, .fa 94 fo103_5, .ld 95 0 underlying3, .mv 0, .nc 97, .fa 98 fo103_0, .fa 99 fo23_7, .ld 100 0 underlying3, .n2 96 101 rfl rfl rfl (fun w HS => X.rem rfl rfl c101), .n1 102 rfl rfl (fun w HS => X.cmp (decide (((w64 (x43.steps + 1)).tmod x43.c.Keep) = 0)) rfl rfl rfl rfl), tv⟩ (fun w HS => ?_)
    refine At.next ?_
    by_cases c102 : ((w64 (x43.steps + 1)).tmod x43.c.Keep) = 0
    ·replace H := ite_t c102 H
     refine V.condT (sb (dT c102)) (V.seq (V.region (W.e (Y.ls (e := 5) (Value.int .u8) ([1] : List Int) HS rfl rfl (fun _ => by kernel_rfl)) rfl ?_)))
     rintro _ w ⟨lb105, rfl, HS⟩
     refine W.mv rfl (W.nc rfl (W.fa fo103_2 rfl (W.ld 1 HS underlying93 rfl rfl rfl rfl ?_)))
     replace HS := HS.fr 3
     obtain ⟨hi107, HS⟩ := aps_Aps.open HS
     obtain ⟨t108, A109, H⟩ := bind_s H
     refine W.e (Y.cl func123 (aps_Aps_Request.calls A109 HS.j1)) rfl ?_
     rintro _ w ⟨rfl, HS⟩
     replace HS := HS.o1
     refine W.mv rfl ?_
     obtain ⟨t110, A111, H⟩ := bind_s H
     refine W.e (Y.cl func122 (kcode_Put.calls A111 HS.j0)) rfl ?_
     rintro _ w ⟨at110_0, ct110_0, rfl, HS⟩
     replace HS := HS.o1
     obtain ⟨c112, H⟩ := ite_n H
     refine W.e (Y.appF (Value.int .u8) (fun _ => rfl) 2 underlying48 ap5 rfl HS rfl rfl rfl (rdC.at 0 row_rd HS rfl) (by omega) (by omega)) rfl ?_
     rintro _ w ⟨ra113, rc114, rfl, HS⟩
     refine W.as rfl (W.nx (V.seq (V.region (W.mv rfl (W.nx (V.block (V.rounds 2 [(0, pt b0), (2, pt nb1), (3, pt nb2), (10, vs ra113 (([1] : List Int) ++ t110).length rc114), (113, vi (0))] ⟨rfl, rfl, rfl, rfl, rfl, tv⟩ ?_)))))))
     refine V.seq (V.region (W.r (X.cmp true (by decide) rfl rfl rfl) rfl (W.nx (V.seq (V.condT rfl (V.skip (At.next (V.seq (V.block (V.seq (V.region (W.mv rfl (W.as rfl (W.nx (V.region (W.mv rfl (W.mv rfl (W.mv rfl ?_))))))))))))))))))
     replace HS := HS.pm [1, 0, 2, 3, 4, 5, 6, 7, 8, 9, 10, 11, 12, 13, 14, 15, 16]
     replace HS := aps_Aps.close tv HS
     replace HS := HS.pm [3, 4, 0, 5, 6, 7, 8, 9, 10, 11, 1, 2, 12, 13, 14, 15, 16]
     replace HS := station_Station.close tv HS
     replace HS := HS.fr 2
     replace HS := St.row_freeze HS
     replace HS := HS.more 0 rfl (fun _ t => t) fsl.pers
     obtain ⟨t126, A127, H⟩ := bind_s H
     replace HS := HS.pm [2, 7, 0, 1, 3, 4, 5, 6, 8]
     refine W.e (Y.cl func121 (station_Station_put.calls A127 HS.j3)) rfl ?_
     rintro _ w ⟨rfl, HS⟩
     replace HS := HS.o2
     refine W.nil (At.blockEnd (At.next (V.region (W.r (X.add rfl rfl) rfl (W.mv rfl (W.nil (At.onward [(0, pt b0), (2, pt nb1), (3, pt nb2), (10, vs ra113 (([1] : List Int) ++ t110).length rc114), (113, vi (1))] ⟨rfl, rfl, rfl, rfl, rfl, tv⟩ ?_)))))))
     refine V.seq (V.region (W.r (X.cmp true (by decide) rfl rfl rfl) rfl (W.nx (V.seq (V.condT rfl (V.skip (At.next (V.seq (V.block (V.seq (V.region (W.mv rfl (W.as rfl (W.nx (V.region (W.mv rfl (W.mv rfl (W.mv rfl ?_))))))))))))))))))
     replace HS := HS.more 2 rfl (fun _ t => t) fsl.pers
     obtain ⟨t129, A130, H⟩ := bind_s H
     replace HS := HS.pm [1, 2, 0, 3, 4, 5, 6, 7, 8]
     refine W.e (Y.cl func121 (station_Station_put.calls A130 HS.j3)) rfl ?_
     rintro _ w ⟨rfl, HS⟩
     replace HS := HS.o2
     refine W.nil (At.blockEnd (At.next (V.region (W.r (X.add rfl rfl) rfl (W.mv rfl (W.nil (At.onward [(0, pt b0), (2, pt nb1), (3, pt nb2), (10, vs ra113 (([1] : List Int) ++ t110).length rc114), (113, vi (2))] ⟨rfl, rfl, rfl, rfl, rfl, tv⟩ ?_)))))))
     refine V.seq (V.region (W.r (X.cmp false (by decide) rfl rfl rfl) rfl (W.nx (V.seq (V.condF rfl (V.exit (At.thenExit (At.thenExit (At.blockExit (At.next (V.seq (V.region ?_))))))))))))
     replace HS := HS.fr 1
     obtain ⟨a0_131, c0_131, d0_131, a1_131, c1_131, d1_131, hi132, HS⟩ := V55.open HS
     refine W.r (X.loadSt 0 [vs a0_131 t129.2.1.length c0_131, vs a1_131 t129.2.2.length c1_131] HS rfl underlying55 rfl inf55 rfl rfl) rfl ?_
     replace HS := HS.fr 10
     obtain ⟨a0_133, c0_133, d0_133, a1_133, c1_133, d1_133, hi134, HS⟩ := V55.open HS
     refine W.en (Y.storeSt (c' := #[vs a0_131 t129.2.1.length c0_131, vs a1_131 t129.2.2.length c1_131]) 0 [vs a0_131 t129.2.1.length c0_131, vs a1_131 t129.2.2.length c1_131] HS rfl inf55 rfl rfl rfl rfl rfl rfl) rfl ?_
     rintro _ w HS
     refine W.nx (V.ret ?_)
     have hv135 := run_loadSt (P := Tryz.prog) (p := 0) 0 [vs a0_131 t129.2.1.length c0_131, vs a1_131 t129.2.2.length c1_131] HS rfl underlying55 rfl inf55 rfl
     replace HS := HS.pk [6, 7, 8, 9, 10, 15] [0, 1, 2, 3, 4, 5, 11, 12, 13, 14]
     cases H
     exact At.retv1 rfl ⟨_, rfl, hv135⟩ ⟨_, rfl, a0_131, c0_131, d0_131, a1_131, c1_131, d1_131, rfl, HS⟩
    ·replace H := ite_f c102 H
     refine V.condF (sb (dF c102)) (V.skip (At.next (V.seq (V.region ?_))))
     replace HS := HS.fr 13
     obtain ⟨a0_136, c0_136, d0_136, a1_136, c1_136, d1_136, hi137, HS⟩ := V55.open HS
     refine W.r (X.loadSt 0 [vs a0_136 x44.1.length c0_136, vs a1_136 x44.2.length c1_136] HS rfl underlying55 rfl inf55 rfl rfl) rfl ?_
     replace HS := HS.fr 17
     obtain ⟨a0_138, c0_138, d0_138, a1_138, c1_138, d1_138, hi139, HS⟩ := V55.open HS
     refine W.en (Y.storeSt (c' := #[vs a0_136 x44.1.length c0_136, vs a1_136 x44.2.length c1_136]) 0 [vs a0_136 x44.1.length c0_136, vs a1_136 x44.2.length c1_136] HS rfl inf55 rfl rfl rfl rfl rfl rfl) rfl ?_
     rintro _ w HS
     refine W.nx (V.ret ?_)
     have hv140 := run_loadSt (P := Tryz.prog) (p := 0) 0 [vs a0_136 x44.1.length c0_136, vs a1_136 x44.2.length c1_136] HS rfl underlying55 rfl inf55 rfl
     replace HS := HS.pm [10, 11, 12, 13, 14, 15, 16, 17, 18, 19, 0, 1, 2, 3, 4, 5, 6, 7, 8, 9, 20, 21, 22]
     replace HS := station_Station.close tv HS
     replace HS := HS.pk [7, 8, 9, 10, 0, 13] [1, 2, 3, 4, 5, 6, 11, 12]
     cases H
     exact At.retv1 rfl ⟨_, rfl, hv140⟩ ⟨_, rfl, a0_136, c0_136, d0_136, a1_136, c1_136, d1_136, rfl, HS⟩
def pipe_Pipe_Cut.f (a0 : pipe_Pipe) : Option Bool := some a0.cut
theorem pipe_Pipe_Cut.calls {a0 : pipe_Pipe} {R : As} {w0 w : World} {b0 : Nat} {a1_p0 : Option Addr} {c1_p0 : Nat} {r : Bool} (H : pipe_Pipe_Cut.f a0 = some r) (HS : Sep.St [blk b0 (#[vi a0.room, vs a1_p0 a0.b.length c1_p0, vb a0.cut, vb a0.stall]) 151, row 5 1 (.slice a1_p0 a0.b.length c1_p0) a0.b.length (a0.b.map (Value.int .u8)), R] w0 w)  : Calls Tryz.prog 125 #[pt b0] w (Ret fun u w => u = vb r ∧ Sep.St [blk b0 (#[vi a0.room, vs a1_p0 a0.b.length c1_p0, vb a0.cut, vb a0.stall]) 151, row 5 1 (.slice a1_p0 a0.b.length c1_p0) a0.b.length (a0.b.map (Value.int .u8)), R] w0 w) := by
 unfold pipe_Pipe_Cut.f at H
 refine calls_enter func125 rfl rfl ?_
 have H : _ = some r := H
 refine V.seq (V.region (W.as rfl (W.nx (V.seq (V.region (W.mv rfl (W.nc rfl (W.fa fo151_2 rfl (W.ld 0 HS underlying4 rfl rfl rfl rfl (W.as rfl (W.nx (V.ret ?_))))))))))))
 cases H
 exact At.ret1 rfl rfl ⟨_, rfl, rfl, HS⟩
def pipe_Pipe_Room.f (a0 : pipe_Pipe) : Option Int := some (w64 (a0.room - (a0.b.length : Int)))
theorem pipe_Pipe_Room.calls {a0 : pipe_Pipe} {R : As} {w0 w : World} {b0 : Nat} {a1_p0 : Option Addr} {c1_p0 : Nat} {r : Int} (H : pipe_Pipe_Room.f a0 = some r) (HS : Sep.St [blk b0 (#[vi a0.room, vs a1_p0 a0.b.length c1_p0, vb a0.cut, vb a0.stall]) 151, row 5 1 (.slice a1_p0 a0.b.length c1_p0) a0.b.length (a0.b.map (Value.int .u8)), R] w0 w)  : Calls Tryz.prog 110 #[pt b0] w (Ret fun u w => u = vi r ∧ Sep.St [blk b0 (#[vi a0.room, vs a1_p0 a0.b.length c1_p0, vb a0.cut, vb a0.stall]) 151, row 5 1 (.slice a1_p0 a0.b.length c1_p0) a0.b.length (a0.b.map (Value.int .u8)), R] w0 w) := by
 unfold pipe_Pipe_Room.f at H
 refine calls_enter func110 rfl rfl ?_
 have H : _ = some r := H
 refine V.seq (V.region (W.as rfl (W.nx (V.seq (V.dr [] [] [(3, pt b0), (4, pt b0), (5, po b0 (0 + 0)), (6, vi a0.room), (7, pt b0), (8, pt b0), (9, po b0 (0 + 1)), (10, vs a1_p0 a0.b.length c1_p0), (11, vi (a0.b.length : Int)), (12, vi (w64 (a0.room - (a0.b.length : Int)))), (2, vi (w64 (a0.room - (a0.b.length : Int))))] mo HS ?_)))))
 refine T.fn [(2, _)] ⟨rfl, tv⟩ ⟨.mv 0, .nc 3, .fa 4 fo151_0, .ld 5 0 underlying3, .mv 0, .nc 7, .fa 8 fo151_1, .ld 9 0 underlying48, .n1 10 rfl rfl (fun w HS => X.lenSl underlying48 rfl), .n2 6 11 rfl rfl rfl (fun w HS => X.sub rfl rfl), .as 12, tv⟩ (fun w HS => ?_)
 refine At.next (V.ret ?_)
 cases H
 exact At.ret1 rfl rfl ⟨_, rfl, rfl, HS⟩
def station_has.f (a0 : Int) : Option Bool := (if a0 ≥ 0 then some (decide (a0 < 2)) else some false)
theorem station_has.calls {a0 : Int} {R : As} {w0 w : World}  {r : Bool} (H : station_has.f a0 = some r) (HS : Sep.St [R] w0 w)  : Calls Tryz.prog 99 #[vi a0] w (Ret fun u w => u = vb r ∧ Sep.St [R] w0 w) := by
 unfold station_has.f at H
 refine calls_enter func99 rfl rfl ?_
 have H : _ = some r := H
 refine V.seq (V.region (W.as rfl (W.nx (V.seq (V.region (W.mv rfl (W.r (X.cmp (decide (a0 ≥ 0)) rfl rfl rfl rfl) rfl (W.mv rfl ?_))))))))
 by_cases c1 : a0 ≥ 0
 ·replace H := ite_t c1 H
  refine W.want 5 rfl (sb (dT c1)) (W.mv rfl (W.want 5 rfl (sb (dT c1)) (W.r (X.cmp (decide (a0 < 2)) rfl rfl rfl rfl) rfl (W.r (X.pickT (sb (dT c1)) rfl) rfl (W.as rfl (W.nx (V.ret ?_)))))))
  cases H
  exact At.ret1 rfl rfl ⟨_, rfl, rfl, HS⟩
 ·replace H := ite_f c1 H
  refine W.pass 5 rfl (sb (dF c1)) rfl rfl (W.pass 5 rfl (sb (dF c1)) rfl rfl (W.r (X.pickF (sb (dF c1)) rfl) rfl (W.as rfl (W.nx (V.ret ?_)))))
  cases H
  exact At.ret1 rfl rfl ⟨_, rfl, rfl, HS⟩
end Go.Proofs.YtaejcbpijdacmaaGreat

/- ArqRejects: the functions that its law reaches, as plain functions, and that the machine's calls come to what these say. Conditions: those that stand at each. -/
import Derived.Test.YtnlcafmkmfnobaaRunArqRejectsP2
set_option linter.all false
set_option maxRecDepth 100000
set_option maxHeartbeats 4000000
set_option synthInstance.maxSize 100000
set_option synthInstance.maxHeartbeats 1000000
namespace Go.Proofs.Ytnlcafmkmfnobaa
open Go.RowKit Go.Proofs.Ytnlcafmkmfnobaa.Sep Go.Proofs.Ytnlcafmkmfnobaa.Walk
/-! ### (*signalman/signalmanref6.Order).Put: function 27 -/
mutual
def signalmanref6_Order_Put.l0 : Nat → Int → signalmanref6_Order → Option (Int × signalmanref6_Order)
  | 0, _, _ => none
  | k + 1, x28, x29 => ((signalmanref6_Order_find.f k x29 x29.next).bind fun t34 => (if t34 ≥ 0 then ((signalmanref6_Order_find.f k x29 x29.next).bind fun t37 => (if 0 ≤ t37 ∧ t37 < (x29.kept.length : Int) then (if (x29.ready.length : Int) + (([(x29.kept.getD t37.toNat default).b] : List (List Int))).length ≤ 1099511627776 then (if 0 ≤ (0 : Int) ∧ (0 : Int) ≤ t37 ∧ t37 ≤ (x29.kept.length : Int) then (if 0 ≤ w64 (t37 + 1) ∧ w64 (t37 + 1) ≤ (x29.kept.length : Int) ∧ (x29.kept.length : Int) ≤ (x29.kept.length : Int) then (if (([] : List signalmanref6_message).length : Int) + (cut x29.kept (0 : Int) t37).length ≤ 1099511627776 then (if ((([] : List signalmanref6_message) ++ (cut x29.kept (0 : Int) t37)).length : Int) + (cut x29.kept (w64 (t37 + 1)) (x29.kept.length : Int)).length ≤ 1099511627776 then ((signalmanref1_Next.f x29.next x29.m).bind fun t61 => (signalmanref6_Order_Put.l0 k (w64 (x28 + 1)) ({ m := x29.m, window := x29.window, next := t61, kept := (([] : List signalmanref6_message) ++ (cut x29.kept (0 : Int) t37)) ++ (cut x29.kept (w64 (t37 + 1)) (x29.kept.length : Int)), ready := x29.ready ++ ([(x29.kept.getD t37.toNat default).b] : List (List Int)) } : signalmanref6_Order))) else none) else none) else none) else none) else none) else none)) else some (x28, x29)))
end
def signalmanref6_Order_Put.f (k : Nat) (a0 : signalmanref6_Order) (a1 : Int) (a2 : List Int) : Option (Int × signalmanref6_Order) := ((signalmanref1_Mod.f a1 a0.m).bind fun t3 => ((signalmanref1_Dist.f a0.next t3 a0.m).bind fun t10 => (if t10 ≥ a0.window then some ((-1), a0) else ((signalmanref6_Order_find.f k a0 t3).bind fun t13 => (if t13 ≥ 0 then some (0, a0) else (if (([] : List Int).length : Int) + a2.length ≤ 1099511627776 then (if (a0.kept.length : Int) + (([({ n := t3, b := ([] : List Int) ++ a2 } : signalmanref6_message)] : List signalmanref6_message)).length ≤ 1099511627776 then (signalmanref6_Order_Put.l0 k 0 ({ a0 with kept := a0.kept ++ ([({ n := t3, b := ([] : List Int) ++ a2 } : signalmanref6_message)] : List signalmanref6_message) } : signalmanref6_Order)) else none) else none))))))
theorem signalmanref6_Order_Put.calls {k : Nat} {a0 : signalmanref6_Order} {a1 : Int} {a2 : List Int} {R : As} {w0 w : World} {b0 : Nat} {sa2 : Option Addr} {sc2 : Nat} {r : Int × signalmanref6_Order} (H : signalmanref6_Order_Put.f k a0 a1 a2 = some r) (HS : Sep.St [signalmanref6_Order.at b0 a0, R] w0 w) (hr2 : rdC R 1 (.slice sa2 a2.length sc2) a2.length (a2.map (Value.int .u8))) : Calls Try.prog 27 #[Value.pointer (some ⟨b0, 0, none⟩), Value.int .i64 a1, Value.slice sa2 a2.length sc2] w (Ret fun u w => u = Value.int .i64 r.1 ∧ Sep.St [signalmanref6_Order.at b0 r.2, R] w0 w) := by
  unfold signalmanref6_Order_Put.f at H
  refine calls_enter Try.func27 rfl rfl ?_
  have H : _ = some r := H
  refine V.seq (V.region (W.as rfl (W.nx (V.seq (V.region (W.mv rfl (W.mv rfl (W.nc rfl ?_))))))))
  obtain ⟨a3_1, c3_1, d3_1, a4_1, c4_1, d4_1, hi2, HS⟩ := signalmanref6_Order.open HS
  refine W.fa fo99_0 rfl (W.ld 0 HS Try.underlying3 rfl rfl rfl rfl ?_)
  obtain ⟨t3, A4, H⟩ := bind_s H
  refine W.e (Y.cl Try.func64 (signalmanref1_Mod.calls A4 HS.j0)) rfl ?_
  rintro _ w ⟨rfl, HS⟩
  replace HS := HS.o0
  refine W.as rfl (W.nx (V.seq (V.seq (V.dr [9] [14] [(15, Value.pointer (some ⟨b0, 0, none⟩)), (16, Value.pointer (some ⟨b0, 0, none⟩)), (17, Value.pointer (some ⟨b0, 0 + 2, none⟩)), (18, Value.int .i64 a0.next), (19, Value.int .i64 t3), (20, Value.pointer (some ⟨b0, 0, none⟩)), (21, Value.pointer (some ⟨b0, 0, none⟩)), (22, Value.pointer (some ⟨b0, 0 + 0, none⟩)), (23, Value.int .i64 a0.m), (25, Value.pointer (some ⟨b0, 0, none⟩)), (26, Value.pointer (some ⟨b0, 0, none⟩)), (27, Value.pointer (some ⟨b0, 0 + 1, none⟩)), (28, Value.int .i64 a0.window)] mo HS ?_))))
  refine T.ev [(18, _), (19, _), (23, _)] [] [0, 1, 2, 3, 4, 5, 6, 7, 8] ⟨rfl, rfl, rfl, trivial⟩ ⟨.mv 0, .nc 15, .fa 16 fo99_2, .ld 17 0 Try.underlying3, .mv 1, .mv 0, .nc 20, .fa 21 fo99_0, .ld 22 0 Try.underlying3, .mv 0, .nc 25, .fa 26 fo99_1, .ld 27 0 Try.underlying3, trivial⟩ rfl (fun w HS => ?_)
  obtain ⟨t10, A11, H⟩ := bind_s H
  refine ⟨_, Y.cl Try.func65 (signalmanref1_Dist.calls A11 HS.j0), ?_⟩
  rintro _ w ⟨rfl, HS⟩
  replace HS := HS.o0
  refine T.nm [(24, Value.int .i64 t10), (29, Value.bool (decide (t10 ≥ a0.window)))] HS ⟨.inl ⟨rfl, rfl⟩, ⟨.inr ⟨by decide, rfl⟩, trivial⟩⟩ ?_
  refine T.fn [(0, _), (1, _), (2, _), (29, _)] ⟨rfl, rfl, rfl, rfl, trivial⟩ ⟨.mv 0, .nc 25, .fa 26 fo99_1, .ld 27 0 Try.underlying3, .n2 24 28 rfl rfl rfl (fun w HS => X.cmp (decide (t10 ≥ a0.window)) rfl rfl rfl rfl), trivial⟩ (fun w HS => ?_)
  refine At.next ?_
  by_cases c12 : t10 ≥ a0.window
  · replace H := ite_t c12 H
    refine V.condT (sb (decide_eq_true c12)) (V.seq (V.region (W.as rfl (W.nx (V.ret (At.thenRet ?_))))))
    replace HS := signalmanref6_Order.close trivial HS
    cases H
    exact At.ret1 rfl rfl ⟨_, rfl, rfl, HS⟩
  · replace H := ite_f c12 H
    refine V.condF (sb (decide_eq_false c12)) (V.skip (At.next (V.seq (V.seq (V.region (W.mv rfl (W.mv rfl ?_)))))))
    obtain ⟨t13, A14, H⟩ := bind_s H
    refine W.e (Y.cl Try.func66 (signalmanref6_Order_find.calls A14 HS.j5)) rfl ?_
    rintro _ w ⟨rfl, HS⟩
    replace HS := HS.o5
    refine W.r (X.cmp (decide (t13 ≥ 0)) rfl rfl rfl rfl) rfl (W.nx ?_)
    by_cases c15 : t13 ≥ 0
    · replace H := ite_t c15 H
      refine V.condT (sb (decide_eq_true c15)) (V.seq (V.region (W.as rfl (W.nx (V.ret (At.thenRet ?_))))))
      replace HS := signalmanref6_Order.close trivial HS
      cases H
      exact At.ret1 rfl rfl ⟨_, rfl, rfl, HS⟩
    · replace H := ite_f c15 H
      refine V.condF (sb (decide_eq_false c15)) (V.skip (At.next (V.seq (V.dr [7, 9, 10, 13] [8, 11, 12] [(34, Value.pointer (some ⟨b0, 0, none⟩)), (35, Value.pointer (some ⟨b0, 0, none⟩)), (36, Value.pointer (some ⟨b0, 0, none⟩)), (37, Value.pointer (some ⟨b0, 0 + 3, none⟩)), (38, Value.slice a3_1 a0.kept.length c3_1), (39, Value.int .i64 t3), (40, Value.slice sa2 a2.length sc2)] mo HS ?_))))
      refine T.ev [(40, _)] [11, 12] [6] ⟨rfl, trivial⟩ ⟨.mv 0, .mv 0, .nc 35, .fa 36 fo99_3, .ld 37 0 Try.underlying97, .mv 1, .mv 2, trivial⟩ rfl (fun w HS => ?_)
      obtain ⟨c16, H⟩ := ite_n H
      replace HS := row_nilF (Value.int .u8) 5 1 HS
      have HS : Sep.St [row 5 1 (.slice none ([] : List Int).length 0) ([] : List Int).length (([] : List Int).map (Value.int .u8)), blk b0 (#[Value.int .i64 a0.m, Value.int .i64 a0.window, Value.int .i64 a0.next, Value.slice a3_1 a0.kept.length c3_1, Value.slice a4_1 a0.ready.length c4_1]) 99, row 101 2 (.slice a3_1 a0.kept.length c3_1) a0.kept.length d3_1, tie signalmanref6_message.El d3_1 a0.kept, row 39 1 (.slice a4_1 a0.ready.length c4_1) a0.ready.length d4_1, tie (El.sl (El.int .u8)) d4_1 a0.ready, R] w0 w := HS
      refine ⟨_, Y.appF (Value.int .u8) (fun _ => rfl) 0 Try.underlying39 ap5 rfl HS rfl rfl rfl (rdC.at 6 hr2 HS rfl) (by omega) (by omega), ?_⟩
      rintro _ w ⟨ra17, rc18, rfl, HS⟩
      refine T.nm [(41, Value.slice ra17 (([] : List Int) ++ a2).length rc18), (42, Value.agg #[Value.int .i64 t3, Value.slice ra17 (([] : List Int) ++ a2).length rc18])] HS ⟨.inl ⟨rfl, rfl⟩, ⟨.inr ⟨by decide, rfl⟩, trivial⟩⟩ ?_
      refine T.ev [(42, _)] [11, 12] [5, 8] ⟨rfl, trivial⟩ ⟨.mv 0, .mv 0, .nc 35, .fa 36 fo99_3, .ld 37 1 Try.underlying97, .mv 1, .n2 39 41 rfl rfl rfl (fun w HS => X.bd (Value.agg #[Value.int .i64 t3, Value.slice ra17 (([] : List Int) ++ a2).length rc18]) rfl (fun _ => by kernel_rfl)), trivial⟩ rfl (fun w HS => ?_)
      replace HS := St.row_freeze HS
      refine ⟨_, Y.lc (e := 101) (sz := 2) [Value.int .i64 t3, Value.slice ra17 (([] : List Int) ++ a2).length rc18] HS rfl rfl (fun _ => by kernel_rfl), ?_⟩
      rintro _ w ⟨lb19, rfl, HS⟩
      replace HS := St.put (A := tie signalmanref6_message.El ([]) ([] : List signalmanref6_message)) (fun _ => tie.nil) HS
      replace HS := HS.more 2 rfl (fun _ t => t) fsl.pers
      replace HS := signalmanref6_message.pack (x := ({ n := t3, b := ([] : List Int) ++ a2 } : signalmanref6_message)) HS
      replace HS := HS.fr 1
      replace HS := HS.fr 1
      replace HS := St.tie_cons HS
      refine T.nw HS ?_
      refine T.ev [(38, _), (43, _)] [] [1, 2, 3, 4] ⟨rfl, rfl, trivial⟩ ⟨.mv 0, .mv 0, .nc 35, .fa 36 fo99_3, .ld 37 3 Try.underlying97, trivial⟩ rfl (fun w HS => ?_)
      obtain ⟨c22, H⟩ := ite_n H
      refine ⟨_, Y.app (xs := a0.kept) (ys := ([({ n := t3, b := ([] : List Int) ++ a2 } : signalmanref6_message)] : List signalmanref6_message)) 4 Try.underlying97 ap101 rfl (by decide) HS rfl rfl rfl (rdC.at 1 row_rd HS rfl) (St.tie_one 0 HS rfl) (by omega) (by omega), ?_⟩
      rintro _ w ⟨ra23, rc24, rfl, HS⟩
      replace HS := HS.fr 5
      replace HS := St.tie_app 1 HS rfl
      refine T.nm [(44, Value.slice ra23 (a0.kept ++ ([({ n := t3, b := ([] : List Int) ++ a2 } : signalmanref6_message)] : List signalmanref6_message)).length rc24), (45, Value.pointer (some ⟨b0, 0, none⟩)), (46, Value.pointer (some ⟨b0, 0 + 3, none⟩))] HS ⟨.inl ⟨rfl, rfl⟩, ⟨.inr ⟨by decide, rfl⟩, ⟨.inr ⟨by decide, rfl⟩, trivial⟩⟩⟩ ?_
      refine T.ev [(44, _), (46, _)] [] [0, 11, 12] ⟨rfl, rfl, trivial⟩ ⟨.mv 0, .nc 34, .fa 45 fo99_3, trivial⟩ rfl (fun w HS => ?_)
      refine ⟨_, Y.sto 4 3 HS inf97 rfl rfl rfl rfl rfl rfl, ?_⟩
      rintro _ w HS
      refine T.nn HS ?_
      refine T.fn [(0, _)] ⟨rfl, trivial⟩ trivial (fun w HS => ?_)
      refine At.next (V.seq (V.region (W.as rfl (W.nx (V.seq (V.block ?_))))))
      replace HS := HS.pm [4, 5, 0, 6, 7, 1, 2, 3, 8]
      replace HS := signalmanref6_Order.close trivial HS
      refine V.loop (σ := Int × signalmanref6_Order) (fun kq (st : Int × signalmanref6_Order) w => match st with | (x28, x29) => Sep.St [signalmanref6_Order.at b0 x29, tie signalmanref6_message.El ([Value.int .i64 t3, Value.slice ra17 (([] : List Int) ++ a2).length rc18]) (([({ n := t3, b := ([] : List Int) ++ a2 } : signalmanref6_message)] : List signalmanref6_message)), row 101 2 (.slice (some ⟨lb19, 0, none⟩) (([({ n := t3, b := ([] : List Int) ++ a2 } : signalmanref6_message)] : List signalmanref6_message)).length 1) (([({ n := t3, b := ([] : List Int) ++ a2 } : signalmanref6_message)] : List signalmanref6_message)).length ([Value.int .i64 t3, Value.slice ra17 (([] : List Int) ++ a2).length rc18]), fsl 1 (.slice ra17 (([] : List Int) ++ a2).length rc18) (([] : List Int) ++ a2).length ((([] : List Int) ++ a2).map (Value.int .u8)), R] w0 w ∧ signalmanref6_Order_Put.l0 kq x28 x29 = some r ∧ kq ≤ k) (fun st => match st with | (x28, x29) => [(0, Value.pointer (some ⟨b0, 0, none⟩)), (7, Value.int .i64 x28)]) k (0, ({ a0 with kept := a0.kept ++ ([({ n := t3, b := ([] : List Int) ++ a2 } : signalmanref6_message)] : List signalmanref6_message) } : signalmanref6_Order)) ⟨rfl, rfl, trivial⟩ ⟨HS, H, Nat.le_refl _⟩ ?_
      rintro kq30 ⟨x28, x29⟩ w ⟨HS, H, hk31⟩
      cases kq30 with
      | zero => exact absurd H (by simp [signalmanref6_Order_Put.l0])
      | succ kq30 =>
        simp only [signalmanref6_Order_Put.l0] at H
        refine V.seq (V.seq (V.region (W.mv rfl (W.mv rfl (W.nc rfl ?_)))))
        obtain ⟨a3_32, c3_32, d3_32, a4_32, c4_32, d4_32, hi33, HS⟩ := signalmanref6_Order.open HS
        refine W.fa fo99_2 rfl (W.ld 0 HS Try.underlying3 rfl rfl rfl rfl ?_)
        obtain ⟨t34, A35, H⟩ := bind_s H
        refine W.e (Y.cl Try.func66 (signalmanref6_Order_find.calls A35 HS.j5)) rfl ?_
        rintro _ w ⟨rfl, HS⟩
        replace HS := HS.o5
        refine W.r (X.cmp (decide (t34 ≥ 0)) rfl rfl rfl rfl) rfl (W.nx ?_)
        by_cases c36 : t34 ≥ 0
        · replace H := ite_t c36 H
          refine V.condT (sb (decide_eq_true c36)) (V.skip (At.next (V.block (V.seq (V.region (W.mv rfl (W.mv rfl (W.nc rfl (W.fa fo99_2 rfl (W.ld 0 HS Try.underlying3 rfl rfl rfl rfl ?_))))))))))
          obtain ⟨t37, A38, H⟩ := bind_s H
          refine W.e (Y.cl Try.func66 (signalmanref6_Order_find.calls A38 HS.j5)) rfl ?_
          rintro _ w ⟨rfl, HS⟩
          replace HS := HS.o5
          refine W.as rfl (W.nx (V.seq ?_))
          obtain ⟨c39, H⟩ := ite_n H
          obtain ⟨eb40, eo41, hh⟩ := (rdC.at 1 row_rd HS rfl).some (by decide) c39.1 c39.2; subst hh
          obtain ⟨ec42, hc43, HS⟩ := St.tie_at 2 HS rfl default c39.1 c39.2
          obtain ⟨ea44, em45, he46, HN⟩ := signalmanref6_message.unpack HS; clear HS; subst he46; have HS := HN
          refine V.dr [13, 14, 17] [15, 16] [(60, Value.pointer (some ⟨b0, 0, none⟩)), (61, Value.pointer (some ⟨b0, 0, none⟩)), (62, Value.pointer (some ⟨b0, 0, none⟩)), (63, Value.pointer (some ⟨b0, 0 + 4, none⟩)), (64, Value.slice a4_32 x29.ready.length c4_32), (65, Value.pointer (some ⟨b0, 0, none⟩)), (66, Value.pointer (some ⟨b0, 0, none⟩)), (67, Value.pointer (some ⟨b0, 0 + 3, none⟩)), (68, Value.slice (some ⟨eb40, eo41, none⟩) x29.kept.length c3_32), (69, Value.int .i64 t37), (70, Value.pointer (some ⟨eb40, eo41 + t37.toNat * 2, none⟩)), (71, Value.pointer (some ⟨eb40, eo41 + t37.toNat * 2 + 1, none⟩)), (72, Value.slice ea44 ((x29.kept.getD t37.toNat default).b).length em45)] mo HS ?_
          refine T.ev [(72, _)] [15, 16] [5, 6, 7, 8, 9, 10, 11, 12] ⟨rfl, trivial⟩ ⟨.mv 0, .mv 0, .nc 61, .fa 62 fo99_4, .ld 63 1 Try.underlying30, .mv 0, .nc 65, .fa 66 fo99_3, .ld 67 1 Try.underlying97, .mv 8, .n2 68 69 rfl rfl rfl (fun w HS => X.indexSl Try.underlying97 inf101 rfl rfl c39.1 c39.2), .fa 70 fo101_1, .n1 71 rfl rfl (fun w HS => X.load Try.underlying39 rfl rfl ((rdC.at 2 row_rd HS rfl).cellEl (hc43 1 _ rfl))), trivial⟩ rfl (fun w HS => ?_)
          refine ⟨_, Y.lc (e := 39) (sz := 1) [Value.slice ea44 ((x29.kept.getD t37.toNat default).b).length em45] HS rfl rfl (fun _ => by kernel_rfl), ?_⟩
          rintro _ w ⟨lb47, rfl, HS⟩
          replace HS := St.put (A := tie (El.sl (El.int .u8)) ([]) (([] : List (List Int)))) (fun _ => tie.nil) HS
          replace HS := HS.more 2 rfl (fun _ t => t) fsl.pers
          replace HS := St.put (A := tie (El.int .u8) (((x29.kept.getD t37.toNat default).b).map (Value.int .u8)) ((x29.kept.getD t37.toNat default).b)) (fun _ => int_tie) HS
          replace HS := St.swap HS
          replace HS := St.sl_close (E := (El.int .u8)) HS
          replace HS := HS.fr 1
          replace HS := HS.fr 1
          replace HS := St.tie_cons HS
          refine T.nw HS ?_
          refine T.ev [(64, _), (73, _)] [] [1, 2, 3, 4] ⟨rfl, rfl, trivial⟩ ⟨.mv 0, .mv 0, .nc 61, .fa 62 fo99_4, .ld 63 3 Try.underlying30, trivial⟩ rfl (fun w HS => ?_)
          obtain ⟨c50, H⟩ := ite_n H
          refine ⟨_, Y.app (xs := x29.ready) (ys := ([(x29.kept.getD t37.toNat default).b] : List (List Int))) 6 Try.underlying30 ap39 rfl (by decide) HS rfl rfl rfl (rdC.at 1 row_rd HS rfl) (St.tie_one 0 HS rfl) (by omega) (by omega), ?_⟩
          rintro _ w ⟨ra51, rc52, rfl, HS⟩
          replace HS := HS.fr 7
          replace HS := St.tie_app 1 HS rfl
          refine T.nm [(74, Value.slice ra51 (x29.ready ++ ([(x29.kept.getD t37.toNat default).b] : List (List Int))).length rc52), (75, Value.pointer (some ⟨b0, 0, none⟩)), (76, Value.pointer (some ⟨b0, 0 + 4, none⟩))] HS ⟨.inl ⟨rfl, rfl⟩, ⟨.inr ⟨by decide, rfl⟩, ⟨.inr ⟨by decide, rfl⟩, trivial⟩⟩⟩ ?_
          refine T.ev [(74, _), (76, _)] [] [0, 15, 16] ⟨rfl, rfl, trivial⟩ ⟨.mv 0, .nc 60, .fa 75 fo99_4, trivial⟩ rfl (fun w HS => ?_)
          refine ⟨_, Y.sto 4 4 HS inf30 rfl rfl rfl rfl rfl rfl, ?_⟩
          rintro _ w HS
          refine T.nn HS ?_
          refine T.fn [(0, _), (7, _), (8, _)] ⟨rfl, rfl, rfl, trivial⟩ trivial (fun w HS => ?_)
          refine At.next (V.seq ?_)
          obtain ⟨c53, H⟩ := ite_n H
          obtain ⟨c54, H⟩ := ite_n H
          refine V.dr [7, 15, 18] [16, 17] [(77, Value.pointer (some ⟨b0, 0, none⟩)), (78, Value.pointer (some ⟨b0, 0, none⟩)), (79, Value.pointer (some ⟨b0, 0, none⟩)), (80, Value.pointer (some ⟨b0, 0 + 3, none⟩)), (81, Value.slice (some ⟨eb40, eo41, none⟩) x29.kept.length c3_32), (82, Value.int .i64 t37), (83, Value.slice (vaddr (some ⟨eb40, eo41, none⟩) c3_32 (0 : Int).toNat 2) (cut x29.kept (0 : Int) t37).length (c3_32 - (0 : Int).toNat)), (85, Value.pointer (some ⟨b0, 0, none⟩)), (86, Value.pointer (some ⟨b0, 0, none⟩)), (87, Value.pointer (some ⟨b0, 0 + 3, none⟩)), (88, Value.slice (some ⟨eb40, eo41, none⟩) x29.kept.length c3_32), (89, Value.int .i64 t37), (90, Value.int .i64 (w64 (t37 + 1))), (91, Value.slice (vaddr (some ⟨eb40, eo41, none⟩) c3_32 (w64 (t37 + 1)).toNat 2) (cut x29.kept (w64 (t37 + 1)) (x29.kept.length : Int)).length (c3_32 - (w64 (t37 + 1)).toNat))] mo HS ?_
          refine T.ev [(83, _)] [16, 17] [1, 2, 3, 4, 5, 6] ⟨rfl, trivial⟩ ⟨.mv 0, .mv 0, .nc 78, .fa 79 fo99_3, .ld 80 4 Try.underlying97, .mv 8, .n2 81 82 rfl rfl rfl (fun w HS => X.slH Try.underlying97 inf101 rfl rfl c53 (rdC.at 5 row_rd HS rfl).cap), .mv 0, .nc 85, .fa 86 fo99_3, .ld 87 4 Try.underlying97, .mv 8, .n1 89 rfl rfl (fun w HS => X.add rfl rfl), .n2 88 90 rfl rfl rfl (fun w HS => X.slL Try.underlying97 inf101 rfl rfl c54), trivial⟩ rfl (fun w HS => ?_)
          obtain ⟨c55, H⟩ := ite_n H
          replace HS := row_nilE signalmanref6_message.El 101 2 HS
          replace HS := St.tie_cut2 8 (0 : Int) t37 HS rfl
          have HS : Sep.St [tie signalmanref6_message.El (cutC 2 d3_32 (0 : Int) t37) (cut x29.kept (0 : Int) t37), row 101 2 (.slice none ([] : List signalmanref6_message).length 0) ([] : List signalmanref6_message).length ([]), tie signalmanref6_message.El ([]) ([] : List signalmanref6_message), tie (El.sl (El.int .u8)) (d4_32 ++ ([Value.slice ea44 ((x29.kept.getD t37.toNat default).b).length em45])) (x29.ready ++ ([(x29.kept.getD t37.toNat default).b] : List (List Int))), tie (El.sl (El.int .u8)) ([Value.slice ea44 ((x29.kept.getD t37.toNat default).b).length em45]) (([(x29.kept.getD t37.toNat default).b] : List (List Int))), row 39 1 (.slice (some ⟨lb47, 0, none⟩) (([(x29.kept.getD t37.toNat default).b] : List (List Int))).length 1) (([(x29.kept.getD t37.toNat default).b] : List (List Int))).length ([Value.slice ea44 ((x29.kept.getD t37.toNat default).b).length em45]), fsl 1 (.slice ea44 ((x29.kept.getD t37.toNat default).b).length em45) ((x29.kept.getD t37.toNat default).b).length (((x29.kept.getD t37.toNat default).b).map (Value.int .u8)), blk b0 (#[Value.int .i64 x29.m, Value.int .i64 x29.window, Value.int .i64 x29.next, Value.slice (some ⟨eb40, eo41, none⟩) x29.kept.length c3_32, Value.slice ra51 (x29.ready ++ ([(x29.kept.getD t37.toNat default).b] : List (List Int))).length rc52]) 99, row 101 2 (.slice (some ⟨eb40, eo41, none⟩) x29.kept.length c3_32) x29.kept.length d3_32, tie signalmanref6_message.El d3_32 x29.kept, row 39 1 (.slice ra51 (x29.ready ++ ([(x29.kept.getD t37.toNat default).b] : List (List Int))).length rc52) (x29.ready ++ ([(x29.kept.getD t37.toNat default).b] : List (List Int))).length (d4_32 ++ ([Value.slice ea44 ((x29.kept.getD t37.toNat default).b).length em45])), tie signalmanref6_message.El ([Value.int .i64 t3, Value.slice ra17 (([] : List Int) ++ a2).length rc18]) (([({ n := t3, b := ([] : List Int) ++ a2 } : signalmanref6_message)] : List signalmanref6_message)), row 101 2 (.slice (some ⟨lb19, 0, none⟩) (([({ n := t3, b := ([] : List Int) ++ a2 } : signalmanref6_message)] : List signalmanref6_message)).length 1) (([({ n := t3, b := ([] : List Int) ++ a2 } : signalmanref6_message)] : List signalmanref6_message)).length ([Value.int .i64 t3, Value.slice ra17 (([] : List Int) ++ a2).length rc18]), fsl 1 (.slice ra17 (([] : List Int) ++ a2).length rc18) (([] : List Int) ++ a2).length ((([] : List Int) ++ a2).map (Value.int .u8)), R] w0 w := HS
          refine ⟨_, Y.app (xs := ([] : List signalmanref6_message)) (ys := cut x29.kept (0 : Int) t37) 1 Try.underlying97 ap101 rfl (by decide) HS rfl rfl rfl (rdC.at 8 (rdC.sub row_rd c53) HS rfl) (St.tie_one 0 HS rfl) (by omega) (by omega), ?_⟩
          rintro _ w ⟨ra56, rc57, rfl, HS⟩
          replace HS := HS.fr 2
          replace HS := St.tie_app 1 HS rfl
          refine T.nw HS ?_
          refine T.ev [(84, _), (91, _)] [] [8, 9, 10, 11, 12, 13, 14] ⟨rfl, rfl, trivial⟩ ⟨.mv 0, .mv 0, .nc 85, .fa 86 fo99_3, .ld 87 7 Try.underlying97, .mv 8, .n1 89 rfl rfl (fun w HS => X.add rfl rfl), .n2 88 90 rfl rfl rfl (fun w HS => X.slL Try.underlying97 inf101 rfl rfl c54), trivial⟩ rfl (fun w HS => ?_)
          obtain ⟨c58, H⟩ := ite_n H
          replace HS := St.tie_cut2 9 (w64 (t37 + 1)) (x29.kept.length : Int) HS rfl
          have HS : Sep.St [tie signalmanref6_message.El (cutC 2 d3_32 (w64 (t37 + 1)) (x29.kept.length : Int)) (cut x29.kept (w64 (t37 + 1)) (x29.kept.length : Int)), tie signalmanref6_message.El (([]) ++ (cutC 2 d3_32 (0 : Int) t37)) (([] : List signalmanref6_message) ++ (cut x29.kept (0 : Int) t37)), tie signalmanref6_message.El (cutC 2 d3_32 (0 : Int) t37) (cut x29.kept (0 : Int) t37), row 101 2 (.slice ra56 (([] : List signalmanref6_message) ++ (cut x29.kept (0 : Int) t37)).length rc57) (([] : List signalmanref6_message) ++ (cut x29.kept (0 : Int) t37)).length (([]) ++ (cutC 2 d3_32 (0 : Int) t37)), tie (El.sl (El.int .u8)) (d4_32 ++ ([Value.slice ea44 ((x29.kept.getD t37.toNat default).b).length em45])) (x29.ready ++ ([(x29.kept.getD t37.toNat default).b] : List (List Int))), tie (El.sl (El.int .u8)) ([Value.slice ea44 ((x29.kept.getD t37.toNat default).b).length em45]) (([(x29.kept.getD t37.toNat default).b] : List (List Int))), row 39 1 (.slice (some ⟨lb47, 0, none⟩) (([(x29.kept.getD t37.toNat default).b] : List (List Int))).length 1) (([(x29.kept.getD t37.toNat default).b] : List (List Int))).length ([Value.slice ea44 ((x29.kept.getD t37.toNat default).b).length em45]), fsl 1 (.slice ea44 ((x29.kept.getD t37.toNat default).b).length em45) ((x29.kept.getD t37.toNat default).b).length (((x29.kept.getD t37.toNat default).b).map (Value.int .u8)), blk b0 (#[Value.int .i64 x29.m, Value.int .i64 x29.window, Value.int .i64 x29.next, Value.slice (some ⟨eb40, eo41, none⟩) x29.kept.length c3_32, Value.slice ra51 (x29.ready ++ ([(x29.kept.getD t37.toNat default).b] : List (List Int))).length rc52]) 99, row 101 2 (.slice (some ⟨eb40, eo41, none⟩) x29.kept.length c3_32) x29.kept.length d3_32, tie signalmanref6_message.El d3_32 x29.kept, row 39 1 (.slice ra51 (x29.ready ++ ([(x29.kept.getD t37.toNat default).b] : List (List Int))).length rc52) (x29.ready ++ ([(x29.kept.getD t37.toNat default).b] : List (List Int))).length (d4_32 ++ ([Value.slice ea44 ((x29.kept.getD t37.toNat default).b).length em45])), tie signalmanref6_message.El ([Value.int .i64 t3, Value.slice ra17 (([] : List Int) ++ a2).length rc18]) (([({ n := t3, b := ([] : List Int) ++ a2 } : signalmanref6_message)] : List signalmanref6_message)), row 101 2 (.slice (some ⟨lb19, 0, none⟩) (([({ n := t3, b := ([] : List Int) ++ a2 } : signalmanref6_message)] : List signalmanref6_message)).length 1) (([({ n := t3, b := ([] : List Int) ++ a2 } : signalmanref6_message)] : List signalmanref6_message)).length ([Value.int .i64 t3, Value.slice ra17 (([] : List Int) ++ a2).length rc18]), fsl 1 (.slice ra17 (([] : List Int) ++ a2).length rc18) (([] : List Int) ++ a2).length ((([] : List Int) ++ a2).map (Value.int .u8)), R] w0 w := HS
          refine ⟨_, Y.app (xs := ([] : List signalmanref6_message) ++ (cut x29.kept (0 : Int) t37)) (ys := cut x29.kept (w64 (t37 + 1)) (x29.kept.length : Int)) 3 Try.underlying97 ap101 rfl (by decide) HS rfl rfl rfl (rdC.at 9 (rdC.sub row_rd c54) HS rfl) (St.tie_one 0 HS rfl) (by omega) (by omega), ?_⟩
          rintro _ w ⟨ra59, rc60, rfl, HS⟩
          replace HS := HS.fr 1
          replace HS := St.tie_app 1 HS rfl
          refine T.nm [(92, Value.slice ra59 ((([] : List signalmanref6_message) ++ (cut x29.kept (0 : Int) t37)) ++ (cut x29.kept (w64 (t37 + 1)) (x29.kept.length : Int))).length rc60), (93, Value.pointer (some ⟨b0, 0, none⟩)), (94, Value.pointer (some ⟨b0, 0 + 3, none⟩))] HS ⟨.inl ⟨rfl, rfl⟩, ⟨.inr ⟨by decide, rfl⟩, ⟨.inr ⟨by decide, rfl⟩, trivial⟩⟩⟩ ?_
          refine T.ev [(92, _), (94, _)] [] [0, 16, 17] ⟨rfl, rfl, trivial⟩ ⟨.mv 0, .nc 77, .fa 93 fo99_3, trivial⟩ rfl (fun w HS => ?_)
          refine ⟨_, Y.sto 8 3 HS inf97 rfl rfl rfl rfl rfl rfl, ?_⟩
          rintro _ w HS
          refine T.nn HS ?_
          refine T.fn [(0, _), (7, _)] ⟨rfl, rfl, trivial⟩ trivial (fun w HS => ?_)
          refine At.next (V.seq (V.dr [9, 12] [10, 11] [(95, Value.pointer (some ⟨b0, 0, none⟩)), (96, Value.pointer (some ⟨b0, 0, none⟩)), (97, Value.pointer (some ⟨b0, 0, none⟩)), (98, Value.pointer (some ⟨b0, 0 + 2, none⟩)), (99, Value.int .i64 x29.next), (100, Value.pointer (some ⟨b0, 0, none⟩)), (101, Value.pointer (some ⟨b0, 0, none⟩)), (102, Value.pointer (some ⟨b0, 0 + 0, none⟩)), (103, Value.int .i64 x29.m)] mo HS ?_))
          refine T.ev [(99, _), (103, _)] [] [1, 2, 3, 4, 5, 6, 7, 8] ⟨rfl, rfl, trivial⟩ ⟨.mv 0, .mv 0, .nc 96, .fa 97 fo99_2, .ld 98 8 Try.underlying3, .mv 0, .nc 100, .fa 101 fo99_0, .ld 102 8 Try.underlying3, trivial⟩ rfl (fun w HS => ?_)
          obtain ⟨t61, A62, H⟩ := bind_s H
          refine ⟨_, Y.cl Try.func67 (signalmanref1_Next.calls A62 HS.j0), ?_⟩
          rintro _ w ⟨rfl, HS⟩
          replace HS := HS.o0
          refine T.nm [(104, Value.int .i64 t61), (105, Value.pointer (some ⟨b0, 0, none⟩)), (106, Value.pointer (some ⟨b0, 0 + 2, none⟩))] HS ⟨.inl ⟨rfl, rfl⟩, ⟨.inr ⟨by decide, rfl⟩, ⟨.inr ⟨by decide, rfl⟩, trivial⟩⟩⟩ ?_
          refine T.ev [(104, _), (106, _)] [] [0, 10, 11] ⟨rfl, rfl, trivial⟩ ⟨.mv 0, .nc 95, .fa 105 fo99_2, trivial⟩ rfl (fun w HS => ?_)
          refine ⟨_, Y.sto 8 2 HS inf3 rfl rfl rfl rfl rfl rfl, ?_⟩
          rintro _ w HS
          refine T.nn HS ?_
          refine T.fn [(0, _), (7, _)] ⟨rfl, rfl, trivial⟩ trivial (fun w HS => ?_)
          refine At.next (V.region (W.mv rfl (W.r (X.add rfl rfl) rfl (W.as rfl (W.nil (At.blockEnd ?_))))))
          replace HS := HS.pm [8, 3, 0, 11, 4, 1, 2, 5, 6, 7, 9, 10, 12, 13, 14, 15]
          replace HS := signalmanref6_Order.close trivial HS
          replace HS := HS.pk [0, 8, 9, 10, 11] [1, 2, 3, 4, 5, 6, 7]
          exact At.round kq30 (by omega) (w64 (x28 + 1), ({ m := x29.m, window := x29.window, next := t61, kept := (([] : List signalmanref6_message) ++ (cut x29.kept (0 : Int) t37)) ++ (cut x29.kept (w64 (t37 + 1)) (x29.kept.length : Int)), ready := x29.ready ++ ([(x29.kept.getD t37.toNat default).b] : List (List Int)) } : signalmanref6_Order)) ⟨rfl, rfl, trivial⟩ ⟨HS, H, by omega⟩
        · replace H := ite_f c36 H
          refine V.condF (sb (decide_eq_false c36)) (V.exit (At.thenExit (At.thenExit (At.blockExit (At.next (V.seq (V.region (W.mv rfl (W.as rfl (W.nx (V.ret ?_)))))))))))
          replace HS := signalmanref6_Order.close trivial HS
          replace HS := HS.pk [0, 4] [1, 2, 3]
          cases H
          exact At.ret1 rfl rfl ⟨_, rfl, rfl, HS⟩

/-! ### (*signalman/signalmanref6.Order).Gap: function 28 -/
def signalmanref6_Order_Gap.f (a0 : signalmanref6_Order) : Option Bool := some (decide ((a0.kept.length : Int) > 0))
theorem signalmanref6_Order_Gap.calls {a0 : signalmanref6_Order} {R : As} {w0 w : World} {b0 : Nat} {a3_p0 : Option Addr} {c3_p0 : Nat} {d3_p0 : List Value} {a4_p0 : Option Addr} {c4_p0 : Nat} {d4_p0 : List Value} {r : Bool} (H : signalmanref6_Order_Gap.f a0 = some r) (HS : Sep.St [blk b0 (#[Value.int .i64 a0.m, Value.int .i64 a0.window, Value.int .i64 a0.next, Value.slice a3_p0 a0.kept.length c3_p0, Value.slice a4_p0 a0.ready.length c4_p0]) 99, row 101 2 (.slice a3_p0 a0.kept.length c3_p0) a0.kept.length d3_p0, tie signalmanref6_message.El d3_p0 a0.kept, row 39 1 (.slice a4_p0 a0.ready.length c4_p0) a0.ready.length d4_p0, tie (El.sl (El.int .u8)) d4_p0 a0.ready, R] w0 w)  : Calls Try.prog 28 #[Value.pointer (some ⟨b0, 0, none⟩)] w (Ret fun u w => u = Value.bool r ∧ Sep.St [blk b0 (#[Value.int .i64 a0.m, Value.int .i64 a0.window, Value.int .i64 a0.next, Value.slice a3_p0 a0.kept.length c3_p0, Value.slice a4_p0 a0.ready.length c4_p0]) 99, row 101 2 (.slice a3_p0 a0.kept.length c3_p0) a0.kept.length d3_p0, tie signalmanref6_message.El d3_p0 a0.kept, row 39 1 (.slice a4_p0 a0.ready.length c4_p0) a0.ready.length d4_p0, tie (El.sl (El.int .u8)) d4_p0 a0.ready, R] w0 w) := by
  unfold signalmanref6_Order_Gap.f at H
  refine calls_enter Try.func28 rfl rfl ?_
  have H : _ = some r := H
  refine V.seq (V.region (W.as rfl (W.nx (V.seq (V.region (W.mv rfl (W.nc rfl (W.fa fo99_3 rfl (W.ld 0 HS Try.underlying97 rfl rfl rfl rfl (W.r (X.lenSl Try.underlying97 rfl) rfl (W.r (X.cmp (decide ((a0.kept.length : Int) > 0)) rfl rfl rfl rfl) rfl (W.as rfl (W.nx (V.ret ?_))))))))))))))
  cases H
  exact At.ret1 rfl rfl ⟨_, rfl, rfl, HS⟩

/-! ### (*signalman/signalmanref6.Order).Next: function 29 -/
def signalmanref6_Order_Next.f (a0 : signalmanref6_Order) : Option Int := some a0.next
theorem signalmanref6_Order_Next.calls {a0 : signalmanref6_Order} {R : As} {w0 w : World} {b0 : Nat} {a3_p0 : Option Addr} {c3_p0 : Nat} {d3_p0 : List Value} {a4_p0 : Option Addr} {c4_p0 : Nat} {d4_p0 : List Value} {r : Int} (H : signalmanref6_Order_Next.f a0 = some r) (HS : Sep.St [blk b0 (#[Value.int .i64 a0.m, Value.int .i64 a0.window, Value.int .i64 a0.next, Value.slice a3_p0 a0.kept.length c3_p0, Value.slice a4_p0 a0.ready.length c4_p0]) 99, row 101 2 (.slice a3_p0 a0.kept.length c3_p0) a0.kept.length d3_p0, tie signalmanref6_message.El d3_p0 a0.kept, row 39 1 (.slice a4_p0 a0.ready.length c4_p0) a0.ready.length d4_p0, tie (El.sl (El.int .u8)) d4_p0 a0.ready, R] w0 w)  : Calls Try.prog 29 #[Value.pointer (some ⟨b0, 0, none⟩)] w (Ret fun u w => u = Value.int .i64 r ∧ Sep.St [blk b0 (#[Value.int .i64 a0.m, Value.int .i64 a0.window, Value.int .i64 a0.next, Value.slice a3_p0 a0.kept.length c3_p0, Value.slice a4_p0 a0.ready.length c4_p0]) 99, row 101 2 (.slice a3_p0 a0.kept.length c3_p0) a0.kept.length d3_p0, tie signalmanref6_message.El d3_p0 a0.kept, row 39 1 (.slice a4_p0 a0.ready.length c4_p0) a0.ready.length d4_p0, tie (El.sl (El.int .u8)) d4_p0 a0.ready, R] w0 w) := by
  unfold signalmanref6_Order_Next.f at H
  refine calls_enter Try.func29 rfl rfl ?_
  have H : _ = some r := H
  refine V.seq (V.region (W.as rfl (W.nx (V.seq (V.region (W.mv rfl (W.nc rfl (W.fa fo99_2 rfl (W.ld 0 HS Try.underlying3 rfl rfl rfl rfl (W.as rfl (W.nx (V.ret ?_))))))))))))
  cases H
  exact At.ret1 rfl rfl ⟨_, rfl, rfl, HS⟩

/-! ### (*signalman/signalmanref6.Order).Take: function 30 -/
def signalmanref6_Order_Take.f (a0 : signalmanref6_Order) : Option (List Int × Bool × signalmanref6_Order) := (if (a0.ready.length : Int) = 0 then some (([] : List Int), false, a0) else (if 0 ≤ (0 : Int) ∧ (0 : Int) < (a0.ready.length : Int) then (if 0 ≤ (1 : Int) ∧ (1 : Int) ≤ (a0.ready.length : Int) ∧ (a0.ready.length : Int) ≤ (a0.ready.length : Int) then (if ((([] : List (List Int))).length : Int) + (cut a0.ready (1 : Int) (a0.ready.length : Int)).length ≤ 1099511627776 then some (a0.ready.getD (0 : Int).toNat [], true, ({ a0 with ready := ([] : List (List Int)) ++ (cut a0.ready (1 : Int) (a0.ready.length : Int)) } : signalmanref6_Order)) else none) else none) else none))
theorem signalmanref6_Order_Take.calls {a0 : signalmanref6_Order} {R : As} {w0 w : World} {b0 : Nat} {r : List Int × Bool × signalmanref6_Order} (H : signalmanref6_Order_Take.f a0 = some r) (HS : Sep.St [signalmanref6_Order.at b0 a0, R] w0 w)  : Calls Try.prog 30 #[Value.pointer (some ⟨b0, 0, none⟩)] w (Ret fun u w => ∃ (aq0 : Option Addr) (cq0 : Nat), u = Value.tuple #[Value.slice aq0 r.1.length cq0, Value.bool r.2.1] ∧ Sep.St [fsl 1 (.slice aq0 r.1.length cq0) r.1.length (r.1.map (Value.int .u8)), signalmanref6_Order.at b0 r.2.2, R] w0 w) := by
  unfold signalmanref6_Order_Take.f at H
  refine calls_enter Try.func30 rfl rfl ?_
  have H : _ = some r := H
  refine V.seq (V.region (W.as rfl (W.as rfl (W.nx (V.seq (V.seq (V.region (W.mv rfl (W.nc rfl ?_)))))))))
  obtain ⟨a3_2, c3_2, d3_2, a4_2, c4_2, d4_2, hi3, HS⟩ := signalmanref6_Order.open HS
  refine W.fa fo99_4 rfl (W.ld 0 HS Try.underlying30 rfl rfl rfl rfl (W.r (X.lenSl Try.underlying30 rfl) rfl (W.r (X.cmp (decide ((a0.ready.length : Int) = 0)) rfl rfl rfl rfl) rfl (W.nx ?_))))
  by_cases c4 : (a0.ready.length : Int) = 0
  · replace H := ite_t c4 H
    refine V.condT (sb (decide_eq_true c4)) (V.seq (V.region (W.as rfl (W.as rfl (W.nx (V.ret (At.thenRet ?_)))))))
    replace HS := row_nilF (Value.int .u8) 5 1 HS
    replace HS := St.row_freeze HS
    replace HS := HS.pm [1, 2, 3, 4, 5, 0, 6]
    replace HS := signalmanref6_Order.close trivial HS
    replace HS := HS.pk [1, 0, 2] []
    cases H
    exact At.ret2 rfl rfl rfl ⟨_, rfl, none, 0, rfl, HS⟩
  · replace H := ite_f c4 H
    refine V.condF (sb (decide_eq_false c4)) (V.skip (At.next (V.seq (V.region (W.mv rfl (W.nc rfl (W.fa fo99_4 rfl (W.ld 0 HS Try.underlying30 rfl rfl rfl rfl ?_))))))))
    obtain ⟨c5, H⟩ := ite_n H
    obtain ⟨eb6, eo7, hh⟩ := (rdC.at 3 row_rd HS rfl).some (by decide) c5.1 c5.2; subst hh
    refine W.r (X.indexSl Try.underlying30 inf39 rfl rfl c5.1 c5.2) rfl ?_
    obtain ⟨ec8, hc9, HS⟩ := St.tie_at 4 HS rfl ([]) c5.1 c5.2
    obtain ⟨ea10, em11, he13, HN⟩ := St.sl_openF (Value.int .u8) (fun t => tie_int t) HS; clear HS; subst he13; have HS := HN
    refine W.r (X.load Try.underlying39 rfl rfl ((rdC.at 4 row_rd HS rfl).cellEl0 (hc9 0 _ rfl))) rfl (W.as rfl (W.nx (V.seq (V.region (W.mv rfl (W.mv rfl (W.nc rfl (W.fa fo99_4 rfl (W.ld 1 HS Try.underlying30 rfl rfl rfl rfl ?_)))))))))
    obtain ⟨c14, H⟩ := ite_n H
    refine W.r (X.slL Try.underlying30 inf39 rfl rfl c14) rfl ?_
    obtain ⟨c15, H⟩ := ite_n H
    replace HS := row_nilE (El.sl (El.int .u8)) 39 1 HS
    replace HS := St.tie_cut2 7 (1 : Int) (a0.ready.length : Int) HS rfl
    have HS : Sep.St [tie (El.sl (El.int .u8)) (cutC 1 d4_2 (1 : Int) (a0.ready.length : Int)) (cut a0.ready (1 : Int) (a0.ready.length : Int)), row 39 1 (.slice none (([] : List (List Int))).length 0) (([] : List (List Int))).length ([]), tie (El.sl (El.int .u8)) ([]) (([] : List (List Int))), fsl 1 (.slice ea10 (a0.ready.getD (0 : Int).toNat []).length em11) (a0.ready.getD (0 : Int).toNat []).length ((a0.ready.getD (0 : Int).toNat []).map (Value.int .u8)), blk b0 (#[Value.int .i64 a0.m, Value.int .i64 a0.window, Value.int .i64 a0.next, Value.slice a3_2 a0.kept.length c3_2, Value.slice (some ⟨eb6, eo7, none⟩) a0.ready.length c4_2]) 99, row 101 2 (.slice a3_2 a0.kept.length c3_2) a0.kept.length d3_2, tie signalmanref6_message.El d3_2 a0.kept, row 39 1 (.slice (some ⟨eb6, eo7, none⟩) a0.ready.length c4_2) a0.ready.length d4_2, tie (El.sl (El.int .u8)) d4_2 a0.ready, R] w0 w := HS
    refine W.e (Y.app (xs := ([] : List (List Int))) (ys := cut a0.ready (1 : Int) (a0.ready.length : Int)) 1 Try.underlying30 ap39 rfl (by decide) HS rfl rfl rfl (rdC.at 7 (rdC.sub row_rd c14) HS rfl) (St.tie_one 0 HS rfl) (by omega) (by omega)) rfl ?_
    rintro _ w ⟨ra16, rc17, rfl, HS⟩
    replace HS := HS.fr 2
    replace HS := St.tie_app 1 HS rfl
    refine W.nc rfl (W.fa fo99_4 rfl (W.st 4 4 HS inf30 rfl rfl rfl rfl rfl rfl fun w HS => ?_))
    refine W.nx (V.seq (V.region (W.mv rfl (W.as rfl (W.as rfl (W.nx (V.ret ?_)))))))
    replace HS := HS.pm [4, 5, 6, 2, 0, 1, 3, 7, 8, 9]
    replace HS := signalmanref6_Order.close trivial HS
    replace HS := HS.pk [2, 0, 5] [1, 3, 4]
    cases H
    exact At.ret2 rfl rfl rfl ⟨_, rfl, ea10, em11, rfl, HS⟩

structure signalmanlaw14_Act where
  Way : Int
  N : Int
  B : List Int
deriving DecidableEq, Inhabited

def signalmanlaw14_Act.El : El signalmanlaw14_Act := El.iso (El.prod (El.int .i64) (El.prod (El.int .i64) (El.prod (El.sl (El.int .u8)) El.unit))) (fun x => (x.Way, (x.N, (x.B, ()))))
theorem signalmanlaw14_Act.unpack {c : List Value} {x : signalmanlaw14_Act} {L : List As} {w0 w : World} (hs : Sep.St (signalmanlaw14_Act.El.p c x :: L) w0 w) : ∃ a2 : Option Addr, ∃ m2 : Nat, c = [Value.int .i64 x.Way, Value.int .i64 x.N, Value.slice a2 x.B.length m2] ∧ Sep.St (fsl 1 (.slice a2 x.B.length m2) x.B.length (x.B.map (Value.int .u8)) :: L) w0 w := by
  have hs : Sep.St ((El.prod (El.int .i64) (El.prod (El.int .i64) (El.prod (El.sl (El.int .u8)) El.unit))).p c (x.Way, (x.N, (x.B, ()))) :: L) w0 w := hs
  obtain ⟨c0, r0, e0, hs⟩ := St.prod_open hs
  have hs : Sep.St ((El.int .i64).p c0 x.Way :: (El.prod (El.int .i64) (El.prod (El.sl (El.int .u8)) El.unit)).p r0 (x.N, (x.B, ())) :: L) w0 w := hs
  obtain ⟨q0, hs⟩ := St.int_open hs
  have hs : Sep.St ((El.prod (El.int .i64) (El.prod (El.sl (El.int .u8)) El.unit)).p r0 (x.N, (x.B, ())) :: L) w0 w := hs
  obtain ⟨c1, r1, e1, hs⟩ := St.prod_open hs
  have hs : Sep.St ((El.int .i64).p c1 x.N :: (El.prod (El.sl (El.int .u8)) El.unit).p r1 (x.B, ()) :: L) w0 w := hs
  obtain ⟨q1, hs⟩ := St.int_open hs
  have hs : Sep.St ((El.prod (El.sl (El.int .u8)) El.unit).p r1 (x.B, ()) :: L) w0 w := hs
  obtain ⟨c2, r2, e2, hs⟩ := St.prod_open hs
  have hs : Sep.St ((El.sl (El.int .u8)).p c2 x.B :: El.unit.p r2 () :: L) w0 w := hs
  obtain ⟨a2, m2, q2, hs⟩ := St.sl_openF (Value.int .u8) (fun t => tie_int t) hs
  have hs : Sep.St (fsl 1 (.slice a2 x.B.length m2) x.B.length (x.B.map (Value.int .u8)) :: El.unit.p r2 () :: L) w0 w := hs
  replace hs := hs.front 1 rfl
  have hs : Sep.St (El.unit.p r2 () :: fsl 1 (.slice a2 x.B.length m2) x.B.length (x.B.map (Value.int .u8)) :: L) w0 w := hs
  obtain ⟨qu, hs⟩ := St.unit_open hs
  exact ⟨a2, m2, by rw [e0, q0, e1, q1, e2, q2, qu]; rfl, hs⟩
theorem signalmanlaw14_Act.pack {a2 : Option Addr} {m2 : Nat} {x : signalmanlaw14_Act} {L : List As} {w0 w : World} (hs : Sep.St (fsl 1 (.slice a2 x.B.length m2) x.B.length (x.B.map (Value.int .u8)) :: L) w0 w) : Sep.St (signalmanlaw14_Act.El.p [Value.int .i64 x.Way, Value.int .i64 x.N, Value.slice a2 x.B.length m2] x :: L) w0 w := by
  have h1 := St.join (m := [fsl 1 (.slice a2 x.B.length m2) x.B.length (x.B.map (Value.int .u8))]) hs
  exact h1.mono fun h hh => ⟨[Value.int .i64 x.Way], [Value.int .i64 x.N, Value.slice a2 x.B.length m2], rfl, rfl, ⟨[Value.int .i64 x.N], [Value.slice a2 x.B.length m2], rfl, rfl, ⟨[Value.slice a2 x.B.length m2], [], rfl, ⟨_, _, rfl, Sp.fsl 0 hh rfl, int_tie⟩, rfl⟩⟩⟩

/-! ### signalman/signalmanlaw15.ArqRejects: function 5 -/
mutual
def signalmanlaw15_ArqRejects.l1 : Nat → (List signalmanlaw14_Act) → Bool → Int → arq_Arq → signalmanref6_Order → Option Bool
  | 0, _, _, _, _, _ => none
  | k + 1, a1, x25, x26, x27, x28 => (if x26 < (a1.length : Int) then (if 0 ≤ x26 ∧ x26 < (a1.length : Int) then (if (((a1.getD x26.toNat default).B).length : Int) > 50 then some true else (if ((([0, 9, IntKind.u8.wrap (w64 (2 * (iand .i64 ((a1.getD x26.toNat default).N) (127)))), 0] : List Int)).length : Int) + ((a1.getD x26.toNat default).B).length ≤ 1099511627776 then ((arq_Arq_Input.f k x27 (([0, 9, IntKind.u8.wrap (w64 (2 * (iand .i64 ((a1.getD x26.toNat default).N) (127)))), 0] : List Int) ++ ((a1.getD x26.toNat default).B))).bind fun t48 => ((signalmanref6_Order_Put.f k x28 (iand .i64 ((a1.getD x26.toNat default).N) (127)) ((a1.getD x26.toNat default).B)).bind fun t97 => (if t97.1 > 0 then (signalmanlaw15_ArqRejects.j2 x26 t48 (signalmanlaw15_ArqRejects.l1 k a1) t97.2 false) else (signalmanlaw15_ArqRejects.j2 x26 t48 (signalmanlaw15_ArqRejects.l1 k a1) t97.2 x25)))) else none)) else none) else (signalmanlaw15_ArqRejects.l6 k x27 x28))
def signalmanlaw15_ArqRejects.j4 (x26 : Int) (x51 : signalmanref6_Order) (x56 : Bool) (t61 : List (List Int) × arq_Arq) (Lq67 : Bool → Int → arq_Arq → signalmanref6_Order → Option Bool) (x65 : Bool) : Option Bool := (if x65 = true then some false else (Lq67 x56 (w64 (x26 + 1)) t61.2 x51))
def signalmanlaw15_ArqRejects.j3 (x26 : Int) (t48 : arq_Arq) (x51 : signalmanref6_Order) (Lq59 : Bool → Int → arq_Arq → signalmanref6_Order → Option Bool) (x56 : Bool) (x57 : Int) : Option Bool := ((arq_Arq_Output.f t48).bind fun t61 => (if (t61.1.length : Int) = 1 then (if 0 ≤ (0 : Int) ∧ (0 : Int) < (t61.1.length : Int) then ((signalmanref6_Order_Next.f x51).bind fun t82 => (signalmanlaw15_ArqRejects.j4 x26 x51 x56 t61 Lq59 (!(sEq (t61.1.getD (0 : Int).toNat []) (([0, 9, x57, IntKind.u8.wrap (w64 (2 * t82))] : List Int)))))) else none) else (signalmanlaw15_ArqRejects.j4 x26 x51 x56 t61 Lq59 true)))
def signalmanlaw15_ArqRejects.j5 (x26 : Int) (t48 : arq_Arq) (x51 : signalmanref6_Order) (x52 : Bool) (Lq89 : Bool → Int → arq_Arq → signalmanref6_Order → Option Bool) (x87 : Bool) : Option Bool := (if x87 = true then (signalmanlaw15_ArqRejects.j3 x26 t48 x51 Lq89 true 9) else (signalmanlaw15_ArqRejects.j3 x26 t48 x51 Lq89 x52 1))
def signalmanlaw15_ArqRejects.j2 (x26 : Int) (t48 : arq_Arq) (Lq54 : Bool → Int → arq_Arq → signalmanref6_Order → Option Bool) (x51 : signalmanref6_Order) (x52 : Bool) : Option Bool := ((signalmanref6_Order_Gap.f x51).bind fun t94 => (if t94 = true then (signalmanlaw15_ArqRejects.j5 x26 t48 x51 x52 Lq54 (!x52)) else (signalmanlaw15_ArqRejects.j5 x26 t48 x51 x52 Lq54 false)))
def signalmanlaw15_ArqRejects.l6 : Nat → arq_Arq → signalmanref6_Order → Option Bool
  | 0, _, _ => none
  | k + 1, x100, x101 => ((signalmanref6_Order_Take.f x101).bind fun t104 => ((arq_Arq_Recv.f x100).bind fun t106 => (if (t104.2.1 != t106.2.1) = true then (signalmanlaw15_ArqRejects.j7 t104 t106 (signalmanlaw15_ArqRejects.l6 k) true) else (signalmanlaw15_ArqRejects.j7 t104 t106 (signalmanlaw15_ArqRejects.l6 k) (!(sEq t104.1 t106.1))))))
def signalmanlaw15_ArqRejects.j7 (t104 : List Int × Bool × signalmanref6_Order) (t106 : List Int × Bool × arq_Arq) (Lq112 : arq_Arq → signalmanref6_Order → Option Bool) (x110 : Bool) : Option Bool := (if x110 = true then some false else (if t104.2.1 = true then (Lq112 t106.2.2 t104.2.2) else some true))
def signalmanlaw15_ArqRejects.j0 (k : Nat) (a0 : Int) (a1 : List signalmanlaw14_Act) (t1 : Bool) (x4 : Bool) : Option Bool := (if x4 = true then some t1 else ((signalmanlaw15_shape.f 128 a0 4).bind fun t7 => ((arq_New.f t7).bind fun t9 => ((arq_Arq_Input.f k t9 ([0, 9, 111] : List Int)).bind fun t14 => ((signalmanref6_NewOrder.f 128 a0).bind fun t16 => ((arq_Arq_Output.f t14).bind fun t18 => (signalmanlaw15_ArqRejects.l1 k a1 false 0 t18.2 t16)))))))
end
def signalmanlaw15_ArqRejects.f (k : Nat) (a0 : Int) (a1 : List signalmanlaw14_Act) : Option Bool := ((signalmanlaw15_alive.f k ).bind fun t1 => (if t1 = true then (if a0 < 1 then (signalmanlaw15_ArqRejects.j0 k a0 a1 t1 true) else (if a0 > 16 then (signalmanlaw15_ArqRejects.j0 k a0 a1 t1 true) else (signalmanlaw15_ArqRejects.j0 k a0 a1 t1 (decide ((a1.length : Int) > 60))))) else (signalmanlaw15_ArqRejects.j0 k a0 a1 t1 true)))
theorem signalmanlaw15_ArqRejects.calls {k : Nat} {a0 : Int} {a1 : List signalmanlaw14_Act} {R : As} {w0 w : World} {sa1 : Option Addr} {sc1 : Nat} {sd1 : List Value} {r : Bool} (H : signalmanlaw15_ArqRejects.f k a0 a1 = some r) (HS : Sep.St [R] w0 w) (hr1 : rdC R 3 (.slice sa1 a1.length sc1) a1.length sd1) (ht1 : ∀ h, R h → tie signalmanlaw14_Act.El sd1 a1 h) : Calls Try.prog 5 #[Value.int .i64 a0, Value.slice sa1 a1.length sc1] w (Ret fun u w => u = Value.bool r ∧ Sep.St [R] w0 w) := by
  unfold signalmanlaw15_ArqRejects.f at H
  refine calls_enter Try.func5 rfl rfl ?_
  have H : _ = some r := H
  replace HS := St.more 0 HS rfl ht1 tie.pers
  refine V.seq (V.region (W.as rfl (W.nx (V.seq (V.region ?_)))))
  obtain ⟨t1, A2, H⟩ := bind_s H
  refine W.e (Y.cl Try.func15 (signalmanlaw15_alive.calls A2 HS.j0)) rfl ?_
  rintro _ w ⟨rfl, HS⟩
  replace HS := HS.o0
  refine W.as rfl (W.nx (V.seq (V.meet (σ := Bool) (fun st w => match st with | x4 => Sep.St [tie signalmanlaw14_Act.El sd1 a1, R] w0 w ∧ ∃ kf5, kf5 ≤ k ∧ signalmanlaw15_ArqRejects.j0 kf5 a0 a1 t1 x4 = some r) (fun st => match st with | x4 => [(0, Value.int .i64 a0), (1, Value.slice sa1 a1.length sc1), (5, Value.bool t1), (32, Value.bool x4)]) ?_ ?_)))
  · refine V.region (W.mv rfl (W.r (X.not rfl) rfl (W.mv rfl ?_)))
    by_cases c117 : t1 = true
    · replace H := ite_t c117 H
      refine W.want 20 rfl (sb (n_t c117)) (W.mv rfl (W.want 20 rfl (sb (n_t c117)) (W.r (X.cmp (decide (a0 < 1)) rfl rfl rfl rfl) rfl (W.r (X.pickF (sb (n_t c117)) rfl) rfl (W.mv rfl ?_)))))
      by_cases c118 : a0 < 1
      · replace H := ite_t c118 H
        refine W.pass 24 rfl (sb (decide_eq_true c118)) rfl rfl (W.pass 24 rfl (sb (decide_eq_true c118)) rfl rfl (W.r (X.pickT (sb (decide_eq_true c118)) rfl) rfl (W.mv rfl (W.pass 28 rfl rfl rfl rfl (W.pass 28 rfl rfl rfl rfl (W.pass 28 rfl rfl rfl rfl (W.r (X.pickT rfl rfl) rfl (W.nil ?_))))))))
        exact At.meet true ⟨rfl, rfl, rfl, rfl, trivial⟩ ⟨HS, k, by omega, H⟩
      · replace H := ite_f c118 H
        refine W.want 24 rfl (sb (decide_eq_false c118)) (W.mv rfl (W.want 24 rfl (sb (decide_eq_false c118)) (W.r (X.cmp (decide (a0 > 16)) rfl rfl rfl rfl) rfl (W.r (X.pickF (sb (decide_eq_false c118)) rfl) rfl (W.mv rfl ?_)))))
        by_cases c119 : a0 > 16
        · replace H := ite_t c119 H
          refine W.pass 28 rfl (sb (decide_eq_true c119)) rfl rfl (W.pass 28 rfl (sb (decide_eq_true c119)) rfl rfl (W.pass 28 rfl (sb (decide_eq_true c119)) rfl rfl (W.r (X.pickT (sb (decide_eq_true c119)) rfl) rfl (W.nil ?_))))
          exact At.meet true ⟨rfl, rfl, rfl, rfl, trivial⟩ ⟨HS, k, by omega, H⟩
        · replace H := ite_f c119 H
          refine W.want 28 rfl (sb (decide_eq_false c119)) (W.mv rfl (W.want 28 rfl (sb (decide_eq_false c119)) (W.r (X.lenSl Try.underlying44 rfl) rfl (W.want 28 rfl (sb (decide_eq_false c119)) (W.r (X.cmp (decide ((a1.length : Int) > 60)) rfl rfl rfl rfl) rfl (W.r (X.pickF (sb (decide_eq_false c119)) rfl) rfl (W.nil ?_)))))))
          exact At.meet (decide ((a1.length : Int) > 60)) ⟨rfl, rfl, rfl, rfl, trivial⟩ ⟨HS, k, by omega, H⟩
    · replace H := ite_f c117 H
      refine W.pass 20 rfl (sb (n_f (b_f c117))) rfl rfl (W.pass 20 rfl (sb (n_f (b_f c117))) rfl rfl (W.r (X.pickT (sb (n_f (b_f c117))) rfl) rfl (W.mv rfl (W.pass 24 rfl rfl rfl rfl (W.pass 24 rfl rfl rfl rfl (W.r (X.pickT rfl rfl) rfl (W.mv rfl (W.pass 28 rfl rfl rfl rfl (W.pass 28 rfl rfl rfl rfl (W.pass 28 rfl rfl rfl rfl (W.r (X.pickT rfl rfl) rfl (W.nil ?_))))))))))))
      exact At.meet true ⟨rfl, rfl, rfl, rfl, trivial⟩ ⟨HS, k, by omega, H⟩
  · rintro x4 w ⟨HS, kf5, hkkf5, H⟩
    unfold signalmanlaw15_ArqRejects.j0 at H
    by_cases c6 : x4 = true
    · replace H := ite_t c6 H
      refine V.condT (sb c6) (V.seq (V.region (W.mv rfl (W.as rfl (W.nx (V.ret (At.thenRet ?_)))))))
      replace HS := HS.pk [1] [0]
      cases H
      exact At.ret1 rfl rfl ⟨_, rfl, rfl, HS⟩
    · replace H := ite_f c6 H
      refine V.condF (sb (b_f c6)) (V.skip (At.next (V.seq (V.region (W.mv rfl ?_)))))
      obtain ⟨t7, A8, H⟩ := bind_s H
      refine W.e (Y.cl Try.func16 (signalmanlaw15_shape.calls A8 HS.j0)) rfl ?_
      rintro _ w ⟨rfl, HS⟩
      replace HS := HS.o0
      obtain ⟨t9, A10, H⟩ := bind_s H
      refine W.e (Y.cl Try.func17 (arq_New.calls A10 HS.j0)) rfl ?_
      rintro _ w ⟨bt9_0, rfl, HS⟩
      replace HS := HS.o1
      refine W.as rfl (W.nx (V.seq (V.region (W.mv rfl (W.e (Y.ls (e := 5) (Value.int .u8) ([0, 9, 111] : List Int) HS rfl rfl (fun _ => by kernel_rfl)) rfl ?_)))))
      rintro _ w ⟨lb13, rfl, HS⟩
      obtain ⟨t14, A15, H⟩ := bind_s H
      replace HS := HS.pm [1, 0, 2, 3]
      refine W.e (Y.cl Try.func24 (arq_Arq_Input.calls A15 HS.j1 (rdC.part 0 row_rd rfl))) rfl ?_
      rintro _ w ⟨rfl, HS⟩
      replace HS := HS.o1
      refine W.nx (V.seq (V.region (W.mv rfl ?_)))
      obtain ⟨t16, A17, H⟩ := bind_s H
      refine W.e (Y.cl Try.func26 (signalmanref6_NewOrder.calls A17 HS.j0)) rfl ?_
      rintro _ w ⟨bt16_0, rfl, HS⟩
      replace HS := HS.o1
      refine W.as rfl (W.nx (V.seq (V.region (W.mv rfl ?_))))
      obtain ⟨t18, A19, H⟩ := bind_s H
      replace HS := HS.pm [1, 0, 2, 3, 4]
      refine W.e (Y.cl Try.func20 (arq_Arq_Output.calls A19 HS.j1)) rfl ?_
      rintro _ w ⟨at18_0, ct18_0, dt18_0, rfl, HS⟩
      replace HS := HS.o3
      refine W.nx (V.seq (V.region (W.as rfl (W.nx (V.seq (V.seq (V.region (W.as rfl (W.nx (V.block (V.loop (σ := Bool × Int × arq_Arq × signalmanref6_Order) (fun kq (st : Bool × Int × arq_Arq × signalmanref6_Order) w => match st with | (x25, x26, x27, x28) => Sep.St [row 39 1 (.slice at18_0 t18.1.length ct18_0) t18.1.length dt18_0, tie (El.sl (El.int .u8)) dt18_0 t18.1, arq_Arq.at bt9_0 x27, signalmanref6_Order.at bt16_0 x28, row 5 1 (.slice (some ⟨lb13, 0, none⟩) ([0, 9, 111] : List Int).length 3) ([0, 9, 111] : List Int).length (([0, 9, 111] : List Int).map (Value.int .u8)), tie signalmanlaw14_Act.El sd1 a1, R] w0 w ∧ signalmanlaw15_ArqRejects.l1 kq a1 x25 x26 x27 x28 = some r ∧ kq ≤ kf5) (fun st => match st with | (x25, x26, x27, x28) => [(1, Value.slice sa1 a1.length sc1), (6, Value.pointer (some ⟨bt9_0, 0, none⟩)), (7, Value.pointer (some ⟨bt16_0, 0, none⟩)), (8, Value.bool x25), (9, Value.int .i64 x26)]) kf5 (false, 0, t18.2, t16) ⟨rfl, rfl, rfl, rfl, rfl, trivial⟩ ⟨HS, H, Nat.le_refl _⟩ ?_)))))))))))
      rintro kq29 ⟨x25, x26, x27, x28⟩ w ⟨HS, H, hk30⟩
      cases kq29 with
      | zero => exact absurd H (by simp [signalmanlaw15_ArqRejects.l1])
      | succ kq29 =>
        simp only [signalmanlaw15_ArqRejects.l1] at H
        refine V.seq (V.seq (V.region (W.mv rfl (W.mv rfl (W.r (X.lenSl Try.underlying44 rfl) rfl (W.r (X.cmp (decide (x26 < (a1.length : Int))) rfl rfl rfl rfl) rfl (W.nx ?_)))))))
        by_cases c31 : x26 < (a1.length : Int)
        · replace H := ite_t c31 H
          refine V.condT (sb (decide_eq_true c31)) (V.skip (At.next (V.seq (V.block (V.seq (V.region (W.mv rfl (W.mv rfl ?_))))))))
          obtain ⟨c32, H⟩ := ite_n H
          obtain ⟨eb33, eo34, hh⟩ := (rdC.at 6 hr1 HS rfl).some (by decide) c32.1 c32.2; subst hh
          refine W.r (X.indexSl Try.underlying44 inf48 rfl rfl c32.1 c32.2) rfl (W.fa fo48_1 rfl ?_)
          obtain ⟨ec35, hc36, HS⟩ := St.tie_at 5 HS rfl default c32.1 c32.2
          obtain ⟨ea37, em38, he39, HN⟩ := signalmanlaw14_Act.unpack HS; clear HS; subst he39; have HS := HN
          refine W.r (X.load Try.underlying3 rfl rfl ((rdC.at 7 hr1 HS rfl).cellEl (hc36 1 _ rfl))) rfl (W.r (X.and rfl rfl) rfl (W.as rfl (W.nx (V.seq (V.seq (V.region (W.mv rfl (W.mv rfl (W.r (X.indexSl Try.underlying44 inf48 rfl rfl c32.1 c32.2) rfl (W.fa fo48_2 rfl (W.r (X.load Try.underlying39 rfl rfl ((rdC.at 7 hr1 HS rfl).cellEl (hc36 2 _ rfl))) rfl (W.r (X.lenSl Try.underlying39 rfl) rfl (W.r (X.cmp (decide ((((a1.getD x26.toNat default).B).length : Int) > 50)) rfl rfl rfl rfl) rfl (W.nx ?_))))))))))))))
          by_cases c41 : (((a1.getD x26.toNat default).B).length : Int) > 50
          · replace H := ite_t c41 H
            refine V.condT (sb (decide_eq_true c41)) (V.seq (V.region (W.as rfl (W.nx (V.ret (At.thenRet (At.blockRet (At.thenRet (At.thenRet (At.blockRet (At.thenRet ?_)))))))))))
            replace HS := HS.pk [7] [0, 1, 2, 3, 4, 5, 6]
            cases H
            exact At.ret1 rfl rfl ⟨_, rfl, rfl, HS⟩
          · replace H := ite_f c41 H
            refine V.condF (sb (decide_eq_false c41)) (V.skip (At.next (V.seq (V.region (W.mv rfl (W.mv rfl (W.r (X.mul rfl rfl) rfl (W.r (X.conv Try.underlying3 Try.underlying5 rfl) rfl (W.e (Y.ls (e := 5) (Value.int .u8) ([0, 9, IntKind.u8.wrap (w64 (2 * (iand .i64 ((a1.getD x26.toNat default).N) (127)))), 0] : List Int) HS rfl rfl (fun _ => by kernel_rfl)) rfl ?_)))))))))
            rintro _ w ⟨lb44, rfl, HS⟩
            refine W.mv rfl (W.mv rfl (W.r (X.indexSl Try.underlying44 inf48 rfl rfl c32.1 c32.2) rfl (W.fa fo48_2 rfl (W.r (X.load Try.underlying39 rfl rfl ((rdC.at 8 hr1 HS rfl).cellEl (hc36 2 _ rfl))) rfl ?_))))
            obtain ⟨c45, H⟩ := ite_n H
            refine W.e (Y.appF (Value.int .u8) (fun _ => rfl) 0 Try.underlying39 ap5 rfl HS rfl rfl rfl (rdC.at 1 fsl.rd HS rfl) (by omega) (by omega)) rfl ?_
            rintro _ w ⟨ra46, rc47, rfl, HS⟩
            obtain ⟨t48, A49, H⟩ := bind_s H
            replace HS := HS.pm [4, 0, 1, 2, 3, 5, 6, 7, 8]
            refine W.e (Y.cl Try.func24 (arq_Arq_Input.calls A49 HS.j1 (rdC.part 0 row_rd rfl))) rfl ?_
            rintro _ w ⟨rfl, HS⟩
            replace HS := HS.o1
            refine W.nx (V.meet (σ := signalmanref6_Order × Bool) (fun st w => match st with | (x51, x52) => Sep.St [arq_Arq.at bt9_0 t48, row 5 1 (.slice ra46 (([0, 9, IntKind.u8.wrap (w64 (2 * (iand .i64 ((a1.getD x26.toNat default).N) (127)))), 0] : List Int) ++ ((a1.getD x26.toNat default).B)).length rc47) (([0, 9, IntKind.u8.wrap (w64 (2 * (iand .i64 ((a1.getD x26.toNat default).N) (127)))), 0] : List Int) ++ ((a1.getD x26.toNat default).B)).length ((([0, 9, IntKind.u8.wrap (w64 (2 * (iand .i64 ((a1.getD x26.toNat default).N) (127)))), 0] : List Int) ++ ((a1.getD x26.toNat default).B)).map (Value.int .u8)), fsl 1 (.slice ea37 ((a1.getD x26.toNat default).B).length em38) ((a1.getD x26.toNat default).B).length (((a1.getD x26.toNat default).B).map (Value.int .u8)), row 39 1 (.slice at18_0 t18.1.length ct18_0) t18.1.length dt18_0, tie (El.sl (El.int .u8)) dt18_0 t18.1, signalmanref6_Order.at bt16_0 x51, row 5 1 (.slice (some ⟨lb13, 0, none⟩) ([0, 9, 111] : List Int).length 3) ([0, 9, 111] : List Int).length (([0, 9, 111] : List Int).map (Value.int .u8)), tie signalmanlaw14_Act.El sd1 a1, R] w0 w ∧ ∃ kl55, kl55 ≤ kq29 ∧ signalmanlaw15_ArqRejects.j2 x26 t48 (signalmanlaw15_ArqRejects.l1 kl55 a1) x51 x52 = some r) (fun st => match st with | (x51, x52) => [(1, Value.slice (some ⟨eb33, eo34, none⟩) a1.length sc1), (6, Value.pointer (some ⟨bt9_0, 0, none⟩)), (7, Value.pointer (some ⟨bt16_0, 0, none⟩)), (8, Value.bool x52), (9, Value.int .i64 x26)]) ?_ ?_)
            · refine V.seq (V.region (W.mv rfl (W.mv rfl (W.mv rfl (W.mv rfl (W.r (X.indexSl Try.underlying44 inf48 rfl rfl c32.1 c32.2) rfl (W.fa fo48_2 rfl (W.r (X.load Try.underlying39 rfl rfl ((rdC.at 8 hr1 HS rfl).cellEl (hc36 2 _ rfl))) rfl ?_))))))))
              obtain ⟨t97, A98, H⟩ := bind_s H
              replace HS := HS.pm [5, 0, 1, 2, 3, 4, 6, 7, 8]
              refine W.e (Y.cl Try.func27 (signalmanref6_Order_Put.calls A98 HS.j1 (rdC.part 2 fsl.rd rfl))) rfl ?_
              rintro _ w ⟨rfl, HS⟩
              replace HS := HS.o1
              refine W.r (X.cmp (decide (t97.1 > 0)) rfl rfl rfl rfl) rfl (W.nx ?_)
              by_cases c99 : t97.1 > 0
              · replace H := ite_t c99 H
                refine V.condT (sb (decide_eq_true c99)) (V.region (W.as rfl (W.nil ?_)))
                replace HS := HS.pk [1, 2, 3, 4, 5, 0, 6, 7, 8] []
                exact At.meet (t97.2, false) ⟨rfl, rfl, rfl, rfl, rfl, trivial⟩ ⟨HS, kq29, by omega, H⟩
              · replace H := ite_f c99 H
                refine V.condF (sb (decide_eq_false c99)) (V.skip ?_)
                replace HS := HS.pk [1, 2, 3, 4, 5, 0, 6, 7, 8] []
                exact At.meet (t97.2, x25) ⟨rfl, rfl, rfl, rfl, rfl, trivial⟩ ⟨HS, kq29, by omega, H⟩
            · rintro ⟨x51, x52⟩ w ⟨HS, kl55, hkkl55, H⟩
              unfold signalmanlaw15_ArqRejects.j2 at H
              refine V.seq (V.region (W.as rfl (W.nx (V.meet (σ := Bool × Int) (fun st w => match st with | (x56, x57) => Sep.St [arq_Arq.at bt9_0 t48, row 5 1 (.slice ra46 (([0, 9, IntKind.u8.wrap (w64 (2 * (iand .i64 ((a1.getD x26.toNat default).N) (127)))), 0] : List Int) ++ ((a1.getD x26.toNat default).B)).length rc47) (([0, 9, IntKind.u8.wrap (w64 (2 * (iand .i64 ((a1.getD x26.toNat default).N) (127)))), 0] : List Int) ++ ((a1.getD x26.toNat default).B)).length ((([0, 9, IntKind.u8.wrap (w64 (2 * (iand .i64 ((a1.getD x26.toNat default).N) (127)))), 0] : List Int) ++ ((a1.getD x26.toNat default).B)).map (Value.int .u8)), fsl 1 (.slice ea37 ((a1.getD x26.toNat default).B).length em38) ((a1.getD x26.toNat default).B).length (((a1.getD x26.toNat default).B).map (Value.int .u8)), row 39 1 (.slice at18_0 t18.1.length ct18_0) t18.1.length dt18_0, tie (El.sl (El.int .u8)) dt18_0 t18.1, signalmanref6_Order.at bt16_0 x51, row 5 1 (.slice (some ⟨lb13, 0, none⟩) ([0, 9, 111] : List Int).length 3) ([0, 9, 111] : List Int).length (([0, 9, 111] : List Int).map (Value.int .u8)), tie signalmanlaw14_Act.El sd1 a1, R] w0 w ∧ ∃ kl60, kl60 ≤ kl55 ∧ signalmanlaw15_ArqRejects.j3 x26 t48 x51 (signalmanlaw15_ArqRejects.l1 kl60 a1) x56 x57 = some r) (fun st => match st with | (x56, x57) => [(1, Value.slice (some ⟨eb33, eo34, none⟩) a1.length sc1), (6, Value.pointer (some ⟨bt9_0, 0, none⟩)), (7, Value.pointer (some ⟨bt16_0, 0, none⟩)), (8, Value.bool x56), (9, Value.int .i64 x26), (11, Value.int .u8 x57)]) ?_ ?_))))
              · refine V.meet (σ := Bool) (fun st w => match st with | x87 => Sep.St [arq_Arq.at bt9_0 t48, row 5 1 (.slice ra46 (([0, 9, IntKind.u8.wrap (w64 (2 * (iand .i64 ((a1.getD x26.toNat default).N) (127)))), 0] : List Int) ++ ((a1.getD x26.toNat default).B)).length rc47) (([0, 9, IntKind.u8.wrap (w64 (2 * (iand .i64 ((a1.getD x26.toNat default).N) (127)))), 0] : List Int) ++ ((a1.getD x26.toNat default).B)).length ((([0, 9, IntKind.u8.wrap (w64 (2 * (iand .i64 ((a1.getD x26.toNat default).N) (127)))), 0] : List Int) ++ ((a1.getD x26.toNat default).B)).map (Value.int .u8)), fsl 1 (.slice ea37 ((a1.getD x26.toNat default).B).length em38) ((a1.getD x26.toNat default).B).length (((a1.getD x26.toNat default).B).map (Value.int .u8)), row 39 1 (.slice at18_0 t18.1.length ct18_0) t18.1.length dt18_0, tie (El.sl (El.int .u8)) dt18_0 t18.1, signalmanref6_Order.at bt16_0 x51, row 5 1 (.slice (some ⟨lb13, 0, none⟩) ([0, 9, 111] : List Int).length 3) ([0, 9, 111] : List Int).length (([0, 9, 111] : List Int).map (Value.int .u8)), tie signalmanlaw14_Act.El sd1 a1, R] w0 w ∧ ∃ kl90, kl90 ≤ kl55 ∧ signalmanlaw15_ArqRejects.j5 x26 t48 x51 x52 (signalmanlaw15_ArqRejects.l1 kl90 a1) x87 = some r) (fun st => match st with | x87 => [(1, Value.slice (some ⟨eb33, eo34, none⟩) a1.length sc1), (6, Value.pointer (some ⟨bt9_0, 0, none⟩)), (7, Value.pointer (some ⟨bt16_0, 0, none⟩)), (8, Value.bool x52), (9, Value.int .i64 x26), (11, Value.int .u8 (1)), (89, Value.bool x87)]) ?_ ?_
                · refine V.region (W.mv rfl ?_)
                  replace HS := HS.fr 5
                  obtain ⟨a3_92, c3_92, d3_92, a4_92, c4_92, d4_92, hi93, HS⟩ := signalmanref6_Order.open HS
                  obtain ⟨t94, A95, H⟩ := bind_s H
                  refine W.e (Y.cl Try.func28 (signalmanref6_Order_Gap.calls A95 HS.j5)) rfl ?_
                  rintro _ w ⟨rfl, HS⟩
                  replace HS := HS.o5
                  refine W.mv rfl ?_
                  by_cases c96 : t94 = true
                  · replace H := ite_t c96 H
                    refine W.want 86 rfl (sb c96) (W.mv rfl (W.want 86 rfl (sb c96) (W.r (X.not rfl) rfl (W.r (X.pickT (sb c96) rfl) rfl (W.nil ?_)))))
                    replace HS := signalmanref6_Order.close trivial HS
                    replace HS := HS.pk [1, 2, 3, 4, 5, 0, 6, 7, 8] []
                    exact At.meet (!x52) ⟨rfl, rfl, rfl, rfl, rfl, rfl, rfl, trivial⟩ ⟨HS, kl55, by omega, H⟩
                  · replace H := ite_f c96 H
                    refine W.pass 86 rfl (sb (b_f c96)) rfl rfl (W.pass 86 rfl (sb (b_f c96)) rfl rfl (W.r (X.pickF (sb (b_f c96)) rfl) rfl (W.nil ?_)))
                    replace HS := signalmanref6_Order.close trivial HS
                    replace HS := HS.pk [1, 2, 3, 4, 5, 0, 6, 7, 8] []
                    exact At.meet false ⟨rfl, rfl, rfl, rfl, rfl, rfl, rfl, trivial⟩ ⟨HS, kl55, by omega, H⟩
                · rintro x87 w ⟨HS, kl90, hkkl90, H⟩
                  unfold signalmanlaw15_ArqRejects.j5 at H
                  by_cases c91 : x87 = true
                  · replace H := ite_t c91 H
                    refine V.condT (sb c91) (V.seq (V.region (W.as rfl (W.nx (V.region (W.as rfl (W.nil ?_)))))))
                    exact At.meet (true, 9) ⟨rfl, rfl, rfl, rfl, rfl, rfl, trivial⟩ ⟨HS, kl90, by omega, H⟩
                  · replace H := ite_f c91 H
                    refine V.condF (sb (b_f c91)) (V.skip ?_)
                    exact At.meet (x52, 1) ⟨rfl, rfl, rfl, rfl, rfl, rfl, trivial⟩ ⟨HS, kl90, by omega, H⟩
              · rintro ⟨x56, x57⟩ w ⟨HS, kl60, hkkl60, H⟩
                unfold signalmanlaw15_ArqRejects.j3 at H
                refine V.seq (V.region (W.mv rfl ?_))
                obtain ⟨t61, A62, H⟩ := bind_s H
                refine W.e (Y.cl Try.func20 (arq_Arq_Output.calls A62 HS.j1)) rfl ?_
                rintro _ w ⟨at61_0, ct61_0, dt61_0, rfl, HS⟩
                replace HS := HS.o3
                refine W.as rfl (W.nx (V.meet (σ := Bool) (fun st w => match st with | x65 => Sep.St [row 39 1 (.slice at61_0 t61.1.length ct61_0) t61.1.length dt61_0, tie (El.sl (El.int .u8)) dt61_0 t61.1, arq_Arq.at bt9_0 t61.2, row 5 1 (.slice ra46 (([0, 9, IntKind.u8.wrap (w64 (2 * (iand .i64 ((a1.getD x26.toNat default).N) (127)))), 0] : List Int) ++ ((a1.getD x26.toNat default).B)).length rc47) (([0, 9, IntKind.u8.wrap (w64 (2 * (iand .i64 ((a1.getD x26.toNat default).N) (127)))), 0] : List Int) ++ ((a1.getD x26.toNat default).B)).length ((([0, 9, IntKind.u8.wrap (w64 (2 * (iand .i64 ((a1.getD x26.toNat default).N) (127)))), 0] : List Int) ++ ((a1.getD x26.toNat default).B)).map (Value.int .u8)), fsl 1 (.slice ea37 ((a1.getD x26.toNat default).B).length em38) ((a1.getD x26.toNat default).B).length (((a1.getD x26.toNat default).B).map (Value.int .u8)), row 39 1 (.slice at18_0 t18.1.length ct18_0) t18.1.length dt18_0, tie (El.sl (El.int .u8)) dt18_0 t18.1, signalmanref6_Order.at bt16_0 x51, row 5 1 (.slice (some ⟨lb13, 0, none⟩) ([0, 9, 111] : List Int).length 3) ([0, 9, 111] : List Int).length (([0, 9, 111] : List Int).map (Value.int .u8)), tie signalmanlaw14_Act.El sd1 a1, R] w0 w ∧ ∃ kl68, kl68 ≤ kl60 ∧ signalmanlaw15_ArqRejects.j4 x26 x51 x56 t61 (signalmanlaw15_ArqRejects.l1 kl68 a1) x65 = some r) (fun st => match st with | x65 => [(1, Value.slice (some ⟨eb33, eo34, none⟩) a1.length sc1), (6, Value.pointer (some ⟨bt9_0, 0, none⟩)), (7, Value.pointer (some ⟨bt16_0, 0, none⟩)), (8, Value.bool x56), (9, Value.int .i64 x26), (108, Value.bool x65)]) ?_ ?_))
                · by_cases c70 : (t61.1.length : Int) = 1
                  · replace H := ite_t c70 H
                    obtain ⟨c71, H⟩ := ite_n H
                    obtain ⟨eb72, eo73, hh⟩ := (rdC.at 0 row_rd HS rfl).some (by decide) c71.1 c71.2; subst hh
                    obtain ⟨ec74, hc75, HS⟩ := St.tie_at 1 HS rfl ([]) c71.1 c71.2
                    obtain ⟨ea76, em77, he79, HN⟩ := St.sl_openF (Value.int .u8) (fun t => tie_int t) HS; clear HS; subst he79; have HS := HN
                    refine V.dr [10, 13] [11, 12, 14, 15, 16] [(92, Value.slice (some ⟨eb72, eo73, none⟩) t61.1.length ct61_0), (93, Value.int .i64 (t61.1.length : Int)), (94, Value.bool (!(decide ((t61.1.length : Int) = 1)))), (95, Value.bool (!(decide ((t61.1.length : Int) = 1)))), (96, Value.slice (some ⟨eb72, eo73, none⟩) t61.1.length ct61_0), (97, Value.pointer (some ⟨eb72, eo73 + (0 : Int).toNat * 1, none⟩)), (98, Value.slice ea76 (t61.1.getD (0 : Int).toNat []).length em77), (99, Value.string (strOf (t61.1.getD (0 : Int).toNat []))), (100, Value.int .u8 x57), (101, Value.pointer (some ⟨bt16_0, 0, none⟩))] mo HS ?_
                    refine T.evG [(101, _), (95, _)] [14, 15, 16] [0, 1, 2, 3, 9] ⟨rfl, rfl, trivial⟩ ⟨.mv 12, .n1 92 rfl rfl (fun w HS => X.lenSl Try.underlying30 rfl), .n1 93 rfl rfl (fun w HS => X.cmp (!(decide ((t61.1.length : Int) = 1))) rfl rfl rfl rfl), .mv 94, .gw [(12, _), (95, _)] 3 false 95 ⟨rfl, rfl, trivial⟩ rfl (sb (n_t (decide_eq_true c70))) (fun w HS => X.move rfl), .gw [(96, _), (95, _)] 3 false 95 ⟨rfl, rfl, trivial⟩ rfl (sb (n_t (decide_eq_true c70))) (fun w HS => X.indexSl Try.underlying30 inf39 rfl rfl c71.1 c71.2), .gw [(97, _), (95, _)] 3 false 95 ⟨rfl, rfl, trivial⟩ rfl (sb (n_t (decide_eq_true c70))) (fun w HS => X.load Try.underlying39 rfl rfl ((rdC.at 1 row_rd HS rfl).cellEl0 (hc75 0 _ rfl))), .gw [(98, _), (95, _)] 3 false 95 ⟨rfl, rfl, trivial⟩ rfl (sb (n_t (decide_eq_true c70))) (fun w HS => X.bytesStr Try.underlying39 Try.underlying5 Try.underlying9 rfl (rdC.at 0 fsl.rd HS rfl)), .gw [(11, _), (95, _)] 3 false 95 ⟨rfl, rfl, trivial⟩ rfl (sb (n_t (decide_eq_true c70))) (fun w HS => X.move rfl), .gw [(7, _), (95, _)] 3 false 95 ⟨rfl, rfl, trivial⟩ rfl (sb (n_t (decide_eq_true c70))) (fun w HS => X.move rfl), trivial⟩ rfl (Or.inr ⟨3, false, 95, rfl, rfl, (sb (n_t (decide_eq_true c70)))⟩) (fun w HS => ?_)
                    replace HS := HS.fr 8
                    obtain ⟨a3_80, c3_80, d3_80, a4_80, c4_80, d4_80, hi81, HS⟩ := signalmanref6_Order.open HS
                    obtain ⟨t82, A83, H⟩ := bind_s H
                    refine ⟨_, Y.cl Try.func29 (signalmanref6_Order_Next.calls A83 HS.j5), ?_⟩
                    rintro _ w ⟨rfl, HS⟩
                    replace HS := HS.o5
                    refine T.nm [(102, Value.int .i64 t82), (103, Value.int .i64 (w64 (2 * t82))), (104, Value.int .u8 (IntKind.u8.wrap (w64 (2 * t82))))] HS ⟨.inl ⟨rfl, rfl⟩, ⟨.inr ⟨by decide, rfl⟩, ⟨.inr ⟨by decide, rfl⟩, trivial⟩⟩⟩ ?_
                    refine T.evG [(100, _), (104, _), (95, _)] [] [8, 11, 12] ⟨rfl, rfl, rfl, trivial⟩ ⟨.gw [(12, _), (95, _)] 3 false 95 ⟨rfl, rfl, trivial⟩ rfl (sb (n_t (decide_eq_true c70))) (fun w HS => X.move rfl), .gw [(96, _), (95, _)] 3 false 95 ⟨rfl, rfl, trivial⟩ rfl (sb (n_t (decide_eq_true c70))) (fun w HS => X.indexSl Try.underlying30 inf39 rfl rfl c71.1 c71.2), .gw [(97, _), (95, _)] 3 false 95 ⟨rfl, rfl, trivial⟩ rfl (sb (n_t (decide_eq_true c70))) (fun w HS => X.load Try.underlying39 rfl rfl ((rdC.at 6 row_rd HS rfl).cellEl0 (hc75 0 _ rfl))), .gw [(98, _), (95, _)] 3 false 95 ⟨rfl, rfl, trivial⟩ rfl (sb (n_t (decide_eq_true c70))) (fun w HS => X.bytesStr Try.underlying39 Try.underlying5 Try.underlying9 rfl (rdC.at 5 fsl.rd HS rfl)), .gw [(11, _), (95, _)] 3 false 95 ⟨rfl, rfl, trivial⟩ rfl (sb (n_t (decide_eq_true c70))) (fun w HS => X.move rfl), .gw [(102, _), (95, _)] 3 false 95 ⟨rfl, rfl, trivial⟩ rfl (sb (n_t (decide_eq_true c70))) (fun w HS => X.mul rfl rfl), .gw [(103, _), (95, _)] 3 false 95 ⟨rfl, rfl, trivial⟩ rfl (sb (n_t (decide_eq_true c70))) (fun w HS => X.conv Try.underlying3 Try.underlying5 rfl), trivial⟩ rfl (Or.inr ⟨3, false, 95, rfl, rfl, (sb (n_t (decide_eq_true c70)))⟩) (fun w HS => ?_)
                    refine ⟨_, Y.ls (e := 5) (Value.int .u8) ([0, 9, x57, IntKind.u8.wrap (w64 (2 * t82))] : List Int) HS rfl rfl (fun _ => by kernel_rfl), ?_⟩
                    rintro _ w ⟨lb86, rfl, HS⟩
                    refine T.nm [(105, Value.slice (some ⟨lb86, 0, none⟩) (([0, 9, x57, IntKind.u8.wrap (w64 (2 * t82))] : List Int)).length 4), (106, Value.string (strOf (([0, 9, x57, IntKind.u8.wrap (w64 (2 * t82))] : List Int)))), (107, Value.bool (!(sEq (t61.1.getD (0 : Int).toNat []) (([0, 9, x57, IntKind.u8.wrap (w64 (2 * t82))] : List Int))))), (108, Value.bool (!(sEq (t61.1.getD (0 : Int).toNat []) (([0, 9, x57, IntKind.u8.wrap (w64 (2 * t82))] : List Int)))))] HS ⟨.inl ⟨rfl, rfl⟩, ⟨.inr ⟨by decide, rfl⟩, ⟨.inr ⟨by decide, rfl⟩, ⟨.inr ⟨by decide, rfl⟩, trivial⟩⟩⟩⟩ ?_
                    refine T.fn [(1, _), (6, _), (7, _), (8, _), (9, _), (108, _)] ⟨rfl, rfl, rfl, rfl, rfl, rfl, trivial⟩ ⟨.gw [(12, _), (95, _)] 3 false 95 ⟨rfl, rfl, trivial⟩ rfl (sb (n_t (decide_eq_true c70))) (fun w HS => X.move rfl), .gw [(96, _), (95, _)] 3 false 95 ⟨rfl, rfl, trivial⟩ rfl (sb (n_t (decide_eq_true c70))) (fun w HS => X.indexSl Try.underlying30 inf39 rfl rfl c71.1 c71.2), .gw [(97, _), (95, _)] 3 false 95 ⟨rfl, rfl, trivial⟩ rfl (sb (n_t (decide_eq_true c70))) (fun w HS => X.load Try.underlying39 rfl rfl ((rdC.at 7 row_rd HS rfl).cellEl0 (hc75 0 _ rfl))), .gw [(98, _), (95, _)] 3 false 95 ⟨rfl, rfl, trivial⟩ rfl (sb (n_t (decide_eq_true c70))) (fun w HS => X.bytesStr Try.underlying39 Try.underlying5 Try.underlying9 rfl (rdC.at 6 fsl.rd HS rfl)), .gw [(105, _), (95, _)] 3 false 95 ⟨rfl, rfl, trivial⟩ rfl (sb (n_t (decide_eq_true c70))) (fun w HS => X.bytesStr Try.underlying39 Try.underlying5 Try.underlying9 rfl (rdC.at 0 row_rd HS rfl)), .gw [(99, _), (106, _), (95, _)] 3 false 95 ⟨rfl, rfl, rfl, trivial⟩ rfl (sb (n_t (decide_eq_true c70))) (fun w HS => X.neStr (a := t61.1.getD (0 : Int).toNat []) (b := ([0, 9, x57, IntKind.u8.wrap (w64 (2 * t82))] : List Int)) rfl rfl), .n2 95 107 rfl rfl rfl (fun w HS => X.pickF (sb (n_t (decide_eq_true c70))) rfl), trivial⟩ (fun w HS => ?_)
                    replace HS := HS.pm [1, 2, 3, 4, 5, 0, 6, 7, 8, 9, 10, 11, 12, 13, 14, 15, 16]
                    replace HS := signalmanref6_Order.close trivial HS
                    replace HS := HS.pk [3, 4, 5, 6, 7, 8, 9, 0, 10, 11, 12] [1, 2]
                    exact At.meet (!(sEq (t61.1.getD (0 : Int).toNat []) (([0, 9, x57, IntKind.u8.wrap (w64 (2 * t82))] : List Int)))) ⟨rfl, rfl, rfl, rfl, rfl, rfl, trivial⟩ ⟨HS, kl60, by omega, H⟩
                  · replace H := ite_f c70 H
                    refine V.dr [10, 13] [11, 12, 14, 15, 16] [(92, Value.slice at61_0 t61.1.length ct61_0), (93, Value.int .i64 (t61.1.length : Int)), (94, Value.bool (!(decide ((t61.1.length : Int) = 1)))), (95, Value.bool (!(decide ((t61.1.length : Int) = 1)))), (96, undef), (97, undef), (98, undef), (99, undef), (100, undef), (101, undef)] mo HS ?_
                    refine T.drop (es' := [13]) (bl' := [14, 15, 16]) [(102, undef), (103, undef), (104, undef)] rfl ⟨.inr ⟨by decide, rfl⟩, ⟨.inr ⟨by decide, rfl⟩, ⟨.inr ⟨by decide, rfl⟩, trivial⟩⟩⟩ ?_
                    refine T.drop (es' := []) (bl' := []) [(105, undef), (106, undef), (107, undef), (108, Value.bool true)] rfl ⟨.inr ⟨by decide, rfl⟩, ⟨.inr ⟨by decide, rfl⟩, ⟨.inr ⟨by decide, rfl⟩, ⟨.inr ⟨by decide, rfl⟩, trivial⟩⟩⟩⟩ ?_
                    refine T.fn [(1, _), (6, _), (7, _), (8, _), (9, _), (108, _)] ⟨rfl, rfl, rfl, rfl, rfl, rfl, trivial⟩ ⟨.mv 12, .n1 92 rfl rfl (fun w HS => X.lenSl Try.underlying30 rfl), .n1 93 rfl rfl (fun w HS => X.cmp (!(decide ((t61.1.length : Int) = 1))) rfl rfl rfl rfl), .mv 94, .gp 3 false true 95 rfl rfl (Option.some.inj (sb (n_f (decide_eq_false c70)))) rfl, .gp 3 false true 95 rfl rfl (Option.some.inj (sb (n_f (decide_eq_false c70)))) rfl, .gp 3 false true 95 rfl rfl (Option.some.inj (sb (n_f (decide_eq_false c70)))) rfl, .gp 3 false true 95 rfl rfl (Option.some.inj (sb (n_f (decide_eq_false c70)))) rfl, .gp 3 false true 95 rfl rfl (Option.some.inj (sb (n_f (decide_eq_false c70)))) rfl, .gp 3 false true 95 rfl rfl (Option.some.inj (sb (n_f (decide_eq_false c70)))) rfl, .gp 3 false true 95 rfl rfl (Option.some.inj (sb (n_f (decide_eq_false c70)))) rfl, .gp 3 false true 95 rfl rfl (Option.some.inj (sb (n_f (decide_eq_false c70)))) rfl, .gp 3 false true 95 rfl rfl (Option.some.inj (sb (n_f (decide_eq_false c70)))) rfl, .gp 3 false true 95 rfl rfl (Option.some.inj (sb (n_f (decide_eq_false c70)))) rfl, .gp 3 false true 95 rfl rfl (Option.some.inj (sb (n_f (decide_eq_false c70)))) rfl, .gp 3 false true 95 rfl rfl (Option.some.inj (sb (n_f (decide_eq_false c70)))) rfl, .n2 95 107 rfl rfl rfl (fun w HS => X.pickT (sb (n_f (decide_eq_false c70))) rfl), trivial⟩ (fun w HS => ?_)
                    exact At.meet true ⟨rfl, rfl, rfl, rfl, rfl, rfl, trivial⟩ ⟨HS, kl60, by omega, H⟩
                · rintro x65 w ⟨HS, kl68, hkkl68, H⟩
                  unfold signalmanlaw15_ArqRejects.j4 at H
                  by_cases c69 : x65 = true
                  · replace H := ite_t c69 H
                    refine V.condT (sb c69) (V.seq (V.region (W.as rfl (W.nx (V.ret (At.blockRet (At.thenRet (At.thenRet (At.blockRet (At.thenRet ?_))))))))))
                    replace HS := HS.pk [10] [0, 1, 2, 3, 4, 5, 6, 7, 8, 9]
                    cases H
                    exact At.ret1 rfl rfl ⟨_, rfl, rfl, HS⟩
                  · replace H := ite_f c69 H
                    refine V.condF (sb (b_f c69)) (V.skip (At.blockEnd (At.next (V.region (W.mv rfl (W.r (X.add rfl rfl) rfl (W.as rfl (W.nil ?_))))))))
                    replace HS := HS.pk [5, 6, 2, 7, 8, 9, 10] [0, 1, 3, 4]
                    exact At.round kl68 (by omega) (x56, w64 (x26 + 1), t61.2, x51) ⟨rfl, rfl, rfl, rfl, rfl, trivial⟩ ⟨HS, H, by omega⟩
        · replace H := ite_f c31 H
          refine V.condF (sb (decide_eq_false c31)) (V.exit (At.thenExit (At.thenExit (At.blockExit (At.next (V.block (V.loop (σ := arq_Arq × signalmanref6_Order) (fun kq (st : arq_Arq × signalmanref6_Order) w => match st with | (x100, x101) => Sep.St [row 39 1 (.slice at18_0 t18.1.length ct18_0) t18.1.length dt18_0, tie (El.sl (El.int .u8)) dt18_0 t18.1, arq_Arq.at bt9_0 x100, signalmanref6_Order.at bt16_0 x101, row 5 1 (.slice (some ⟨lb13, 0, none⟩) ([0, 9, 111] : List Int).length 3) ([0, 9, 111] : List Int).length (([0, 9, 111] : List Int).map (Value.int .u8)), tie signalmanlaw14_Act.El sd1 a1, R] w0 w ∧ signalmanlaw15_ArqRejects.l6 kq x100 x101 = some r ∧ kq ≤ kq29) (fun st => match st with | (x100, x101) => [(6, Value.pointer (some ⟨bt9_0, 0, none⟩)), (7, Value.pointer (some ⟨bt16_0, 0, none⟩))]) kq29 (x27, x28) ⟨rfl, rfl, trivial⟩ ⟨HS, H, Nat.le_refl _⟩ ?_)))))))
          rintro kq102 ⟨x100, x101⟩ w ⟨HS, H, hk103⟩
          cases kq102 with
          | zero => exact absurd H (by simp [signalmanlaw15_ArqRejects.l6])
          | succ kq102 =>
            simp only [signalmanlaw15_ArqRejects.l6] at H
            refine V.block (V.seq (V.region (W.mv rfl ?_)))
            obtain ⟨t104, A105, H⟩ := bind_s H
            replace HS := HS.pm [3, 0, 1, 2, 4, 5, 6]
            refine W.e (Y.cl Try.func30 (signalmanref6_Order_Take.calls A105 HS.j1)) rfl ?_
            rintro _ w ⟨at104_0, ct104_0, rfl, HS⟩
            replace HS := HS.o2
            refine W.mv rfl (W.r (X.extract rfl rfl) rfl (W.r (X.extract rfl rfl) rfl (W.as rfl (W.as rfl (W.nx (V.seq (V.region (W.mv rfl ?_))))))))
            obtain ⟨t106, A107, H⟩ := bind_s H
            replace HS := HS.pm [4, 0, 1, 2, 3, 5, 6, 7]
            refine W.e (Y.cl Try.func31 (arq_Arq_Recv.calls A107 HS.j1)) rfl ?_
            rintro _ w ⟨at106_0, ct106_0, rfl, HS⟩
            replace HS := HS.o2
            refine W.mv rfl (W.r (X.extract rfl rfl) rfl (W.r (X.extract rfl rfl) rfl (W.as rfl (W.as rfl (W.nx (V.seq (V.meet (σ := Bool) (fun st w => match st with | x110 => Sep.St [fsl 1 (.slice at106_0 t106.1.length ct106_0) t106.1.length (t106.1.map (Value.int .u8)), arq_Arq.at bt9_0 t106.2.2, fsl 1 (.slice at104_0 t104.1.length ct104_0) t104.1.length (t104.1.map (Value.int .u8)), signalmanref6_Order.at bt16_0 t104.2.2, row 39 1 (.slice at18_0 t18.1.length ct18_0) t18.1.length dt18_0, tie (El.sl (El.int .u8)) dt18_0 t18.1, row 5 1 (.slice (some ⟨lb13, 0, none⟩) ([0, 9, 111] : List Int).length 3) ([0, 9, 111] : List Int).length (([0, 9, 111] : List Int).map (Value.int .u8)), tie signalmanlaw14_Act.El sd1 a1, R] w0 w ∧ ∃ kl113, kl113 ≤ kq102 ∧ signalmanlaw15_ArqRejects.j7 t104 t106 (signalmanlaw15_ArqRejects.l6 kl113) x110 = some r) (fun st => match st with | x110 => [(6, Value.pointer (some ⟨bt9_0, 0, none⟩)), (7, Value.pointer (some ⟨bt16_0, 0, none⟩)), (14, Value.bool t104.2.1), (128, Value.bool x110)]) ?_ ?_)))))))
            · refine V.region (W.mv rfl (W.mv rfl (W.r (X.neB Try.underlying4 rfl rfl) rfl (W.mv rfl ?_))))
              by_cases c116 : (t104.2.1 != t106.2.1) = true
              · replace H := ite_t c116 H
                refine W.pass 122 rfl (sb c116) rfl rfl (W.pass 122 rfl (sb c116) rfl rfl (W.pass 122 rfl (sb c116) rfl rfl (W.pass 122 rfl (sb c116) rfl rfl (W.pass 122 rfl (sb c116) rfl rfl (W.r (X.pickT (sb c116) rfl) rfl (W.nil ?_))))))
                exact At.meet true ⟨rfl, rfl, rfl, rfl, trivial⟩ ⟨HS, kq102, by omega, H⟩
              · replace H := ite_f c116 H
                refine W.want 122 rfl (sb (b_f c116)) (W.mv rfl (W.want 122 rfl (sb (b_f c116)) (W.r (X.bytesStr Try.underlying39 Try.underlying5 Try.underlying9 rfl (rdC.at 2 fsl.rd HS rfl)) rfl (W.want 122 rfl (sb (b_f c116)) (W.mv rfl (W.want 122 rfl (sb (b_f c116)) (W.r (X.bytesStr Try.underlying39 Try.underlying5 Try.underlying9 rfl (rdC.at 0 fsl.rd HS rfl)) rfl (W.want 122 rfl (sb (b_f c116)) (W.r (X.neStr (a := t104.1) (b := t106.1) rfl rfl) rfl (W.r (X.pickF (sb (b_f c116)) rfl) rfl (W.nil ?_)))))))))))
                exact At.meet (!(sEq t104.1 t106.1)) ⟨rfl, rfl, rfl, rfl, trivial⟩ ⟨HS, kq102, by omega, H⟩
            · rintro x110 w ⟨HS, kl113, hkkl113, H⟩
              unfold signalmanlaw15_ArqRejects.j7 at H
              by_cases c114 : x110 = true
              · replace H := ite_t c114 H
                refine V.condT (sb c114) (V.seq (V.region (W.as rfl (W.nx (V.ret (At.thenRet (At.blockRet (At.thenRet (At.blockRet ?_)))))))))
                replace HS := HS.pk [8] [0, 1, 2, 3, 4, 5, 6, 7]
                cases H
                exact At.ret1 rfl rfl ⟨_, rfl, rfl, HS⟩
              · replace H := ite_f c114 H
                refine V.condF (sb (b_f c114)) (V.skip (At.next (V.seq (V.region (W.mv rfl (W.r (X.not rfl) rfl (W.nx ?_)))))))
                by_cases c115 : t104.2.1 = true
                · replace H := ite_t c115 H
                  refine V.condF (sb (n_t c115)) (V.skip (At.blockEnd ?_))
                  replace HS := HS.pk [4, 5, 1, 3, 6, 7, 8] [0, 2]
                  exact At.round kl113 (by omega) (t106.2.2, t104.2.2) ⟨rfl, rfl, trivial⟩ ⟨HS, H, by omega⟩
                · replace H := ite_f c115 H
                  refine V.condT (sb (n_f (b_f c115))) (V.seq (V.region (W.as rfl (W.nx (V.ret (At.blockRet (At.thenRet (At.blockRet ?_))))))))
                  replace HS := HS.pk [8] [0, 1, 2, 3, 4, 5, 6, 7]
                  cases H
                  exact At.ret1 rfl rfl ⟨_, rfl, rfl, HS⟩

def signalmanlaw15_ArqRejects.Pure : Prop := ∀ (a0 : Int) (a1 : List signalmanlaw14_Act), (Lit.int .i64 a0).wf = true → (∀ z ∈ a1, ((Lit.int .i64 z.Way).wf = true ∧ ((Lit.int .i64 z.N).wf = true ∧ (((∀ z3 ∈ z.B, (Lit.int .u8 z3).wf = true) ∧ (z.B.length : Int) ≤ 9223372036854775807) ∧ True)))) → (a1.length : Int) ≤ 9223372036854775807 → ∃ k, signalmanlaw15_ArqRejects.f k a0 a1 = some true
end Go.Proofs.Ytnlcafmkmfnobaa

/- ReorderPlays: the functions that its law reaches, as plain functions, and that the machine's calls come to what these say. Conditions: those that stand at each. -/
import Derived.Test.YtcjmffcpldjbpaaRunReorderPlaysP2
set_option linter.all false
namespace Go.Proofs.Ytcjmffcpldjbpaa
open Go.RowKit Go.Proofs.Ytcjmffcpldjbpaa.Sep Go.Proofs.Ytcjmffcpldjbpaa.Walk
/-! ### (*signalman/signalmanref6.Order).Take: function 15 -/
def signalmanref6_Order_Take.f (a0 : signalmanref6_Order) : Option (List Int × Bool × signalmanref6_Order) := (if (((a0).ready).length : Int) = 0 then some (([] : List Int), false, a0) else (if 0 ≤ (0 : Int) ∧ (0 : Int) < (((a0).ready).length : Int) then (if 0 ≤ (1 : Int) ∧ (1 : Int) ≤ (((a0).ready).length : Int) ∧ (((a0).ready).length : Int) ≤ (((a0).ready).length : Int) then (if ((([] : List (List Int))).length : Int) + (cut ((a0).ready) (1 : Int) (((a0).ready).length : Int)).length ≤ 1099511627776 then some (((a0).ready).getD ((0 : Int)).toNat [], true, ({ m := (a0).m, window := (a0).window, next := (a0).next, kept := (a0).kept, ready := ([] : List (List Int)) ++ (cut ((a0).ready) (1 : Int) (((a0).ready).length : Int)) } : signalmanref6_Order)) else none) else none) else none))
set_option maxRecDepth 100000 in
set_option maxHeartbeats 4000000 in
theorem signalmanref6_Order_Take.calls (a0 : signalmanref6_Order) (R : As) (w0 w : World) (b0 : Nat) (r : List Int × Bool × signalmanref6_Order)  (H : signalmanref6_Order_Take.f a0 = some r) (HS : Sep.St [signalmanref6_Order.at b0 (a0), R] w0 w) : Calls Try.prog 15 #[Value.pointer (some ⟨b0, 0, none⟩)] w (Ret fun u w => ∃ (aq0 : Option Addr) (cq0 : Nat), u = Value.tuple #[Value.slice aq0 (r.1).length cq0, Value.bool (r.2.1)] ∧ Sep.St [fsl 1 (.slice aq0 (r.1).length cq0) (r.1).length ((r.1).map (Value.int .u8)), signalmanref6_Order.at b0 (r.2.2), R] w0 w) := by
  unfold signalmanref6_Order_Take.f at H
  refine calls_enter Try.func15 rfl rfl ?_
  have H : _ = some r := H
  refine V.seq ?_
  refine V.region ?_
  refine W.rd (X.assign rfl) rfl rfl rfl ?_
  refine W.rd (X.assign rfl) rfl rfl rfl ?_
  refine W.nil ?_
  refine At.next ?_
  refine V.keep [(0, Value.pointer (some ⟨b0, 0, none⟩))] ⟨rfl, trivial⟩ ?_
  refine V.seq ?_
  refine V.seq ?_
  refine V.region ?_
  refine W.rd (X.move rfl) rfl rfl rfl ?_
  refine W.rd (X.nilCheck rfl) rfl rfl rfl ?_
  obtain ⟨a3_2, c3_2, d3_2, a4_2, c4_2, d4_2, hi3, HS⟩ := signalmanref6_Order.open HS
  have HS : Sep.St [blk b0 (#[Value.int .i64 ((a0).m), Value.int .i64 ((a0).window), Value.int .i64 ((a0).next), Value.slice a3_2 ((a0).kept).length c3_2, Value.slice a4_2 ((a0).ready).length c4_2]) 53, row 56 2 (.slice a3_2 ((a0).kept).length c3_2) ((a0).kept).length d3_2, tie signalmanref6_message.El d3_2 ((a0).kept), row 26 1 (.slice a4_2 ((a0).ready).length c4_2) ((a0).ready).length d4_2, tie (El.sl (El.int .u8)) d4_2 ((a0).ready), R] w0 w := HS
  refine W.rd (X.fieldAddr 4 fo53_4 rfl) rfl rfl rfl ?_
  refine W.rd (X.loadAt 0 HS rfl Try.underlying45 rfl rfl rfl) rfl rfl rfl ?_
  refine W.rd (X.lenSl Try.underlying45 rfl) rfl rfl rfl ?_
  refine W.rd (X.cmp (decide ((((a0).ready).length : Int) = 0)) rfl rfl rfl rfl) rfl rfl rfl ?_
  refine W.nil ?_
  refine At.next ?_
  refine V.keep [(0, Value.pointer (some ⟨b0, 0, none⟩)), (10, Value.bool (decide ((((a0).ready).length : Int) = 0)))] ⟨rfl, rfl, trivial⟩ ?_
  by_cases c4 : (((a0).ready).length : Int) = 0
  · replace H := ite_t c4 H
    refine V.condT (sb (decide_eq_true c4)) ?_
    refine V.seq ?_
    refine V.region ?_
    refine W.rd (X.assign rfl) rfl rfl rfl ?_
    refine W.rd (X.assign rfl) rfl rfl rfl ?_
    refine W.nil ?_
    refine At.next ?_
    refine V.keep [(2, Value.slice none 0 0), (3, Value.bool (false))] ⟨rfl, rfl, trivial⟩ ?_
    refine V.ret ?_
    refine At.thenRet ?_
    replace HS := row_nil' (e := 5) 1 none HS
    have HS : Sep.St [row 5 1 (.slice none (([] : List Int)).length 0) (([] : List Int)).length ((([] : List Int)).map (Value.int .u8)), blk b0 (#[Value.int .i64 ((a0).m), Value.int .i64 ((a0).window), Value.int .i64 ((a0).next), Value.slice a3_2 ((a0).kept).length c3_2, Value.slice a4_2 ((a0).ready).length c4_2]) 53, row 56 2 (.slice a3_2 ((a0).kept).length c3_2) ((a0).kept).length d3_2, tie signalmanref6_message.El d3_2 ((a0).kept), row 26 1 (.slice a4_2 ((a0).ready).length c4_2) ((a0).ready).length d4_2, tie (El.sl (El.int .u8)) d4_2 ((a0).ready), R] w0 w := HS
    replace HS := St.row_freeze HS
    have HS : Sep.St [fsl 1 (.slice none (([] : List Int)).length 0) (([] : List Int)).length ((([] : List Int)).map (Value.int .u8)), blk b0 (#[Value.int .i64 ((a0).m), Value.int .i64 ((a0).window), Value.int .i64 ((a0).next), Value.slice a3_2 ((a0).kept).length c3_2, Value.slice a4_2 ((a0).ready).length c4_2]) 53, row 56 2 (.slice a3_2 ((a0).kept).length c3_2) ((a0).kept).length d3_2, tie signalmanref6_message.El d3_2 ((a0).kept), row 26 1 (.slice a4_2 ((a0).ready).length c4_2) ((a0).ready).length d4_2, tie (El.sl (El.int .u8)) d4_2 ((a0).ready), R] w0 w := HS
    replace HS := HS.re [1, 2, 3, 4, 5, 0, 6] (by kernel_rfl)
    have HS : Sep.St [blk b0 (#[Value.int .i64 ((a0).m), Value.int .i64 ((a0).window), Value.int .i64 ((a0).next), Value.slice a3_2 ((a0).kept).length c3_2, Value.slice a4_2 ((a0).ready).length c4_2]) 53, row 56 2 (.slice a3_2 ((a0).kept).length c3_2) ((a0).kept).length d3_2, tie signalmanref6_message.El d3_2 ((a0).kept), row 26 1 (.slice a4_2 ((a0).ready).length c4_2) ((a0).ready).length d4_2, tie (El.sl (El.int .u8)) d4_2 ((a0).ready), fsl 1 (.slice none (([] : List Int)).length 0) (([] : List Int)).length ((([] : List Int)).map (Value.int .u8)), R] w0 w := HS
    replace HS := signalmanref6_Order.close (a0) trivial HS
    have HS : Sep.St [signalmanref6_Order.at b0 (a0), fsl 1 (.slice none (([] : List Int)).length 0) (([] : List Int)).length ((([] : List Int)).map (Value.int .u8)), R] w0 w := HS
    replace HS := HS.sel [1, 0, 2] [] (by kernel_rfl)
    cases H
    exact At.ret2 rfl rfl rfl ⟨_, rfl, none, 0, rfl, HS⟩
  · replace H := ite_f c4 H
    refine V.condF (sb (decide_eq_false c4)) ?_
    refine V.skip ?_
    refine At.next ?_
    refine V.keep [(0, Value.pointer (some ⟨b0, 0, none⟩))] ⟨rfl, trivial⟩ ?_
    refine V.seq ?_
    refine V.region ?_
    refine W.rd (X.move rfl) rfl rfl rfl ?_
    refine W.rd (X.nilCheck rfl) rfl rfl rfl ?_
    refine W.rd (X.fieldAddr 4 fo53_4 rfl) rfl rfl rfl ?_
    refine W.rd (X.loadAt 0 HS rfl Try.underlying45 rfl rfl rfl) rfl rfl rfl ?_
    obtain ⟨c5, H⟩ := ite_n H
    obtain ⟨eb6, eo7, hh⟩ := ((rdC.at 3 row_rd HS rfl)).some (by decide) c5.1 c5.2; subst hh
    refine W.rd (X.indexSl Try.underlying45 inf26 rfl rfl c5.1 c5.2) rfl rfl rfl ?_
    obtain ⟨ec8, hc9, HS⟩ := St.tie_at 4 HS rfl ([]) c5.1 c5.2
    obtain ⟨ea10, em11, he13, HN⟩ := St.sl_openF (Value.int .u8) (fun t => tie_int t) HS; clear HS; subst he13; have HS := HN
    have HS : Sep.St [fsl 1 (.slice ea10 (((a0).ready).getD ((0 : Int)).toNat []).length em11) (((a0).ready).getD ((0 : Int)).toNat []).length ((((a0).ready).getD ((0 : Int)).toNat []).map (Value.int .u8)), blk b0 (#[Value.int .i64 ((a0).m), Value.int .i64 ((a0).window), Value.int .i64 ((a0).next), Value.slice a3_2 ((a0).kept).length c3_2, Value.slice (some ⟨eb6, eo7, none⟩) ((a0).ready).length c4_2]) 53, row 56 2 (.slice a3_2 ((a0).kept).length c3_2) ((a0).kept).length d3_2, tie signalmanref6_message.El d3_2 ((a0).kept), row 26 1 (.slice (some ⟨eb6, eo7, none⟩) ((a0).ready).length c4_2) ((a0).ready).length d4_2, tie (El.sl (El.int .u8)) d4_2 ((a0).ready), R] w0 w := HS
    refine W.rd (X.load Try.underlying26 rfl rfl (((rdC.at 4 row_rd HS rfl)).cellEl0 (hc9 0 _ rfl))) rfl rfl rfl ?_
    refine W.rd (X.assign rfl) rfl rfl rfl ?_
    refine W.nil ?_
    refine At.next ?_
    refine V.keep [(0, Value.pointer (some ⟨b0, 0, none⟩)), (4, Value.slice ea10 (((a0).ready).getD ((0 : Int)).toNat []).length em11)] ⟨rfl, rfl, trivial⟩ ?_
    refine V.seq ?_
    refine V.region ?_
    refine W.rd (X.move rfl) rfl rfl rfl ?_
    refine W.rd (X.move rfl) rfl rfl rfl ?_
    refine W.rd (X.nilCheck rfl) rfl rfl rfl ?_
    refine W.rd (X.fieldAddr 4 fo53_4 rfl) rfl rfl rfl ?_
    refine W.rd (X.loadAt 1 HS rfl Try.underlying45 rfl rfl rfl) rfl rfl rfl ?_
    obtain ⟨c14, H⟩ := ite_n H
    refine W.rd (X.slL Try.underlying45 inf26 rfl rfl c14) rfl rfl rfl ?_
    obtain ⟨c15, H⟩ := ite_n H
    replace HS := row_nil' (e := 26) 1 none (St.put (A := tie (El.sl (El.int .u8)) ([]) (([] : List (List Int)))) (fun _ => tie.nil) HS)
    have HS : Sep.St [row 26 1 (.slice none (([] : List (List Int))).length 0) (([] : List (List Int))).length ([]), tie (El.sl (El.int .u8)) ([]) (([] : List (List Int))), fsl 1 (.slice ea10 (((a0).ready).getD ((0 : Int)).toNat []).length em11) (((a0).ready).getD ((0 : Int)).toNat []).length ((((a0).ready).getD ((0 : Int)).toNat []).map (Value.int .u8)), blk b0 (#[Value.int .i64 ((a0).m), Value.int .i64 ((a0).window), Value.int .i64 ((a0).next), Value.slice a3_2 ((a0).kept).length c3_2, Value.slice (some ⟨eb6, eo7, none⟩) ((a0).ready).length c4_2]) 53, row 56 2 (.slice a3_2 ((a0).kept).length c3_2) ((a0).kept).length d3_2, tie signalmanref6_message.El d3_2 ((a0).kept), row 26 1 (.slice (some ⟨eb6, eo7, none⟩) ((a0).ready).length c4_2) ((a0).ready).length d4_2, tie (El.sl (El.int .u8)) d4_2 ((a0).ready), R] w0 w := HS
    replace HS := St.tie_cut2 7 (1 : Int) (((a0).ready).length : Int) HS rfl
    have HS : Sep.St [tie (El.sl (El.int .u8)) (cutC 1 d4_2 (1 : Int) (((a0).ready).length : Int)) (cut ((a0).ready) (1 : Int) (((a0).ready).length : Int)), row 26 1 (.slice none (([] : List (List Int))).length 0) (([] : List (List Int))).length ([]), tie (El.sl (El.int .u8)) ([]) (([] : List (List Int))), fsl 1 (.slice ea10 (((a0).ready).getD ((0 : Int)).toNat []).length em11) (((a0).ready).getD ((0 : Int)).toNat []).length ((((a0).ready).getD ((0 : Int)).toNat []).map (Value.int .u8)), blk b0 (#[Value.int .i64 ((a0).m), Value.int .i64 ((a0).window), Value.int .i64 ((a0).next), Value.slice a3_2 ((a0).kept).length c3_2, Value.slice (some ⟨eb6, eo7, none⟩) ((a0).ready).length c4_2]) 53, row 56 2 (.slice a3_2 ((a0).kept).length c3_2) ((a0).kept).length d3_2, tie signalmanref6_message.El d3_2 ((a0).kept), row 26 1 (.slice (some ⟨eb6, eo7, none⟩) ((a0).ready).length c4_2) ((a0).ready).length d4_2, tie (El.sl (El.int .u8)) d4_2 ((a0).ready), R] w0 w := HS
    refine W.ev (Y.app (xs := ([] : List (List Int))) (ys := cut ((a0).ready) (1 : Int) (((a0).ready).length : Int)) 1 Try.underlying45 ap26 rfl (by decide) HS rfl rfl rfl (rdC.at 7 (rdC.sub row_rd c14) HS rfl) (St.tie_one 0 HS rfl) (by omega) (by omega)) rfl rfl rfl ?_
    rintro _ w ⟨ra16, rc17, rfl, HS⟩
    have HS : Sep.St [tie (El.sl (El.int .u8)) (cutC 1 d4_2 (1 : Int) (((a0).ready).length : Int)) (cut ((a0).ready) (1 : Int) (((a0).ready).length : Int)), row 26 1 (.slice ra16 (([] : List (List Int)) ++ (cut ((a0).ready) (1 : Int) (((a0).ready).length : Int))).length rc17) (([] : List (List Int)) ++ (cut ((a0).ready) (1 : Int) (((a0).ready).length : Int))).length (([]) ++ (cutC 1 d4_2 (1 : Int) (((a0).ready).length : Int))), tie (El.sl (El.int .u8)) ([]) (([] : List (List Int))), fsl 1 (.slice ea10 (((a0).ready).getD ((0 : Int)).toNat []).length em11) (((a0).ready).getD ((0 : Int)).toNat []).length ((((a0).ready).getD ((0 : Int)).toNat []).map (Value.int .u8)), blk b0 (#[Value.int .i64 ((a0).m), Value.int .i64 ((a0).window), Value.int .i64 ((a0).next), Value.slice a3_2 ((a0).kept).length c3_2, Value.slice (some ⟨eb6, eo7, none⟩) ((a0).ready).length c4_2]) 53, row 56 2 (.slice a3_2 ((a0).kept).length c3_2) ((a0).kept).length d3_2, tie signalmanref6_message.El d3_2 ((a0).kept), row 26 1 (.slice (some ⟨eb6, eo7, none⟩) ((a0).ready).length c4_2) ((a0).ready).length d4_2, tie (El.sl (El.int .u8)) d4_2 ((a0).ready), R] w0 w := HS
    replace HS := HS.front 2 rfl
    have HS : Sep.St [tie (El.sl (El.int .u8)) ([]) (([] : List (List Int))), tie (El.sl (El.int .u8)) (cutC 1 d4_2 (1 : Int) (((a0).ready).length : Int)) (cut ((a0).ready) (1 : Int) (((a0).ready).length : Int)), row 26 1 (.slice ra16 (([] : List (List Int)) ++ (cut ((a0).ready) (1 : Int) (((a0).ready).length : Int))).length rc17) (([] : List (List Int)) ++ (cut ((a0).ready) (1 : Int) (((a0).ready).length : Int))).length (([]) ++ (cutC 1 d4_2 (1 : Int) (((a0).ready).length : Int))), fsl 1 (.slice ea10 (((a0).ready).getD ((0 : Int)).toNat []).length em11) (((a0).ready).getD ((0 : Int)).toNat []).length ((((a0).ready).getD ((0 : Int)).toNat []).map (Value.int .u8)), blk b0 (#[Value.int .i64 ((a0).m), Value.int .i64 ((a0).window), Value.int .i64 ((a0).next), Value.slice a3_2 ((a0).kept).length c3_2, Value.slice (some ⟨eb6, eo7, none⟩) ((a0).ready).length c4_2]) 53, row 56 2 (.slice a3_2 ((a0).kept).length c3_2) ((a0).kept).length d3_2, tie signalmanref6_message.El d3_2 ((a0).kept), row 26 1 (.slice (some ⟨eb6, eo7, none⟩) ((a0).ready).length c4_2) ((a0).ready).length d4_2, tie (El.sl (El.int .u8)) d4_2 ((a0).ready), R] w0 w := HS
    replace HS := St.tie_app 1 HS rfl
    have HS : Sep.St [tie (El.sl (El.int .u8)) (([]) ++ (cutC 1 d4_2 (1 : Int) (((a0).ready).length : Int))) (([] : List (List Int)) ++ (cut ((a0).ready) (1 : Int) (((a0).ready).length : Int))), tie (El.sl (El.int .u8)) (cutC 1 d4_2 (1 : Int) (((a0).ready).length : Int)) (cut ((a0).ready) (1 : Int) (((a0).ready).length : Int)), row 26 1 (.slice ra16 (([] : List (List Int)) ++ (cut ((a0).ready) (1 : Int) (((a0).ready).length : Int))).length rc17) (([] : List (List Int)) ++ (cut ((a0).ready) (1 : Int) (((a0).ready).length : Int))).length (([]) ++ (cutC 1 d4_2 (1 : Int) (((a0).ready).length : Int))), fsl 1 (.slice ea10 (((a0).ready).getD ((0 : Int)).toNat []).length em11) (((a0).ready).getD ((0 : Int)).toNat []).length ((((a0).ready).getD ((0 : Int)).toNat []).map (Value.int .u8)), blk b0 (#[Value.int .i64 ((a0).m), Value.int .i64 ((a0).window), Value.int .i64 ((a0).next), Value.slice a3_2 ((a0).kept).length c3_2, Value.slice (some ⟨eb6, eo7, none⟩) ((a0).ready).length c4_2]) 53, row 56 2 (.slice a3_2 ((a0).kept).length c3_2) ((a0).kept).length d3_2, tie signalmanref6_message.El d3_2 ((a0).kept), row 26 1 (.slice (some ⟨eb6, eo7, none⟩) ((a0).ready).length c4_2) ((a0).ready).length d4_2, tie (El.sl (El.int .u8)) d4_2 ((a0).ready), R] w0 w := HS
    refine W.rd (X.nilCheck rfl) rfl rfl rfl ?_
    refine W.rd (X.fieldAddr 4 fo53_4 rfl) rfl rfl rfl ?_
    refine W.ev_none (Y.storeAt 4 HS rfl inf45 rfl rfl rfl rfl rfl rfl) rfl rfl ?_
    rintro _ w HS
    have HS : Sep.St [tie (El.sl (El.int .u8)) (([]) ++ (cutC 1 d4_2 (1 : Int) (((a0).ready).length : Int))) (([] : List (List Int)) ++ (cut ((a0).ready) (1 : Int) (((a0).ready).length : Int))), tie (El.sl (El.int .u8)) (cutC 1 d4_2 (1 : Int) (((a0).ready).length : Int)) (cut ((a0).ready) (1 : Int) (((a0).ready).length : Int)), row 26 1 (.slice ra16 (([] : List (List Int)) ++ (cut ((a0).ready) (1 : Int) (((a0).ready).length : Int))).length rc17) (([] : List (List Int)) ++ (cut ((a0).ready) (1 : Int) (((a0).ready).length : Int))).length (([]) ++ (cutC 1 d4_2 (1 : Int) (((a0).ready).length : Int))), fsl 1 (.slice ea10 (((a0).ready).getD ((0 : Int)).toNat []).length em11) (((a0).ready).getD ((0 : Int)).toNat []).length ((((a0).ready).getD ((0 : Int)).toNat []).map (Value.int .u8)), blk b0 (#[Value.int .i64 ((a0).m), Value.int .i64 ((a0).window), Value.int .i64 ((a0).next), Value.slice a3_2 ((a0).kept).length c3_2, Value.slice ra16 (([] : List (List Int)) ++ (cut ((a0).ready) (1 : Int) (((a0).ready).length : Int))).length rc17]) 53, row 56 2 (.slice a3_2 ((a0).kept).length c3_2) ((a0).kept).length d3_2, tie signalmanref6_message.El d3_2 ((a0).kept), row 26 1 (.slice (some ⟨eb6, eo7, none⟩) ((a0).ready).length c4_2) ((a0).ready).length d4_2, tie (El.sl (El.int .u8)) d4_2 ((a0).ready), R] w0 w := HS
    refine W.nil ?_
    refine At.next ?_
    refine V.keep [(4, Value.slice ea10 (((a0).ready).getD ((0 : Int)).toNat []).length em11)] ⟨rfl, trivial⟩ ?_
    refine V.seq ?_
    refine V.region ?_
    refine W.rd (X.move rfl) rfl rfl rfl ?_
    refine W.rd (X.assign rfl) rfl rfl rfl ?_
    refine W.rd (X.assign rfl) rfl rfl rfl ?_
    refine W.nil ?_
    refine At.next ?_
    refine V.keep [(2, Value.slice ea10 (((a0).ready).getD ((0 : Int)).toNat []).length em11), (3, Value.bool (true))] ⟨rfl, rfl, trivial⟩ ?_
    refine V.ret ?_
    replace HS := HS.re [4, 5, 6, 2, 0, 1, 3, 7, 8, 9] (by kernel_rfl)
    have HS : Sep.St [blk b0 (#[Value.int .i64 ((a0).m), Value.int .i64 ((a0).window), Value.int .i64 ((a0).next), Value.slice a3_2 ((a0).kept).length c3_2, Value.slice ra16 (([] : List (List Int)) ++ (cut ((a0).ready) (1 : Int) (((a0).ready).length : Int))).length rc17]) 53, row 56 2 (.slice a3_2 ((a0).kept).length c3_2) ((a0).kept).length d3_2, tie signalmanref6_message.El d3_2 ((a0).kept), row 26 1 (.slice ra16 (([] : List (List Int)) ++ (cut ((a0).ready) (1 : Int) (((a0).ready).length : Int))).length rc17) (([] : List (List Int)) ++ (cut ((a0).ready) (1 : Int) (((a0).ready).length : Int))).length (([]) ++ (cutC 1 d4_2 (1 : Int) (((a0).ready).length : Int))), tie (El.sl (El.int .u8)) (([]) ++ (cutC 1 d4_2 (1 : Int) (((a0).ready).length : Int))) (([] : List (List Int)) ++ (cut ((a0).ready) (1 : Int) (((a0).ready).length : Int))), tie (El.sl (El.int .u8)) (cutC 1 d4_2 (1 : Int) (((a0).ready).length : Int)) (cut ((a0).ready) (1 : Int) (((a0).ready).length : Int)), fsl 1 (.slice ea10 (((a0).ready).getD ((0 : Int)).toNat []).length em11) (((a0).ready).getD ((0 : Int)).toNat []).length ((((a0).ready).getD ((0 : Int)).toNat []).map (Value.int .u8)), row 26 1 (.slice (some ⟨eb6, eo7, none⟩) ((a0).ready).length c4_2) ((a0).ready).length d4_2, tie (El.sl (El.int .u8)) d4_2 ((a0).ready), R] w0 w := HS
    replace HS := signalmanref6_Order.close (({ m := (a0).m, window := (a0).window, next := (a0).next, kept := (a0).kept, ready := ([] : List (List Int)) ++ (cut ((a0).ready) (1 : Int) (((a0).ready).length : Int)) } : signalmanref6_Order)) trivial HS
    have HS : Sep.St [signalmanref6_Order.at b0 (({ m := (a0).m, window := (a0).window, next := (a0).next, kept := (a0).kept, ready := ([] : List (List Int)) ++ (cut ((a0).ready) (1 : Int) (((a0).ready).length : Int)) } : signalmanref6_Order)), tie (El.sl (El.int .u8)) (cutC 1 d4_2 (1 : Int) (((a0).ready).length : Int)) (cut ((a0).ready) (1 : Int) (((a0).ready).length : Int)), fsl 1 (.slice ea10 (((a0).ready).getD ((0 : Int)).toNat []).length em11) (((a0).ready).getD ((0 : Int)).toNat []).length ((((a0).ready).getD ((0 : Int)).toNat []).map (Value.int .u8)), row 26 1 (.slice (some ⟨eb6, eo7, none⟩) ((a0).ready).length c4_2) ((a0).ready).length d4_2, tie (El.sl (El.int .u8)) d4_2 ((a0).ready), R] w0 w := HS
    replace HS := HS.sel [2, 0, 5] [1, 3, 4] (by kernel_rfl)
    cases H
    exact At.ret2 rfl rfl rfl ⟨_, rfl, ea10, em11, rfl, HS⟩

/-! ### (*signalman/reorder.Order).Clear: function 16 -/
def reorder_Order_Clear.f (a0 : reorder_Order) : Option (reorder_Order) := some (({ m := (a0).m, window := (a0).window, next := 0, kept := ([] : List (Int × (List Int))), ready := (a0).ready } : reorder_Order))
set_option maxRecDepth 100000 in
set_option maxHeartbeats 4000000 in
theorem reorder_Order_Clear.calls (a0 : reorder_Order) (R : As) (w0 w : World) (b0 : Nat) (r : reorder_Order)  (H : reorder_Order_Clear.f a0 = some r) (HS : Sep.St [reorder_Order.at b0 (a0), R] w0 w) : Calls Try.prog 16 #[Value.pointer (some ⟨b0, 0, none⟩)] w (Ret fun u w => u = Value.tuple #[] ∧ Sep.St [reorder_Order.at b0 (r), R] w0 w) := by
  unfold reorder_Order_Clear.f at H
  refine calls_enter Try.func16 rfl rfl ?_
  have H : _ = some r := H
  refine V.seq ?_
  refine V.region ?_
  refine W.rd (X.move rfl) rfl rfl rfl ?_
  refine W.rd (X.nilCheck rfl) rfl rfl rfl ?_
  obtain ⟨b3_1, k3_1, a4_1, c4_1, d4_1, hi2, HS⟩ := reorder_Order.open HS
  have HS : Sep.St [blk b0 (#[Value.int .i64 ((a0).m), Value.int .i64 ((a0).window), Value.int .i64 ((a0).next), Value.map (some b3_1), Value.slice a4_1 ((a0).ready).length c4_1]) 47, mblk b3_1 k3_1, tieM (El.sl (El.int .u8)) k3_1 ((a0).kept), row 26 1 (.slice a4_1 ((a0).ready).length c4_1) ((a0).ready).length d4_1, tie (El.sl (El.int .u8)) d4_1 ((a0).ready), R] w0 w := HS
  refine W.rd (X.fieldAddr 3 fo47_3 rfl) rfl rfl rfl ?_
  refine W.rd (X.loadAt 0 HS rfl Try.underlying44 rfl rfl rfl) rfl rfl rfl ?_
  replace HS := HS.front 2 rfl
  have HS : Sep.St [tieM (El.sl (El.int .u8)) k3_1 ((a0).kept), blk b0 (#[Value.int .i64 ((a0).m), Value.int .i64 ((a0).window), Value.int .i64 ((a0).next), Value.map (some b3_1), Value.slice a4_1 ((a0).ready).length c4_1]) 47, mblk b3_1 k3_1, row 26 1 (.slice a4_1 ((a0).ready).length c4_1) ((a0).ready).length d4_1, tie (El.sl (El.int .u8)) d4_1 ((a0).ready), R] w0 w := HS
  replace HS := HS.mono (B := tieM (El.sl (El.int .u8)) [] ([] : List (Int × (List Int)))) fun _ _ => trivial
  have HS : Sep.St [tieM (El.sl (El.int .u8)) ([]) (([] : List (Int × (List Int)))), blk b0 (#[Value.int .i64 ((a0).m), Value.int .i64 ((a0).window), Value.int .i64 ((a0).next), Value.map (some b3_1), Value.slice a4_1 ((a0).ready).length c4_1]) 47, mblk b3_1 k3_1, row 26 1 (.slice a4_1 ((a0).ready).length c4_1) ((a0).ready).length d4_1, tie (El.sl (El.int .u8)) d4_1 ((a0).ready), R] w0 w := HS
  refine W.ev_none (Y.clearMap 2 Try.underlying44 HS rfl rfl) rfl rfl ?_
  rintro _ w HS
  have HS : Sep.St [tieM (El.sl (El.int .u8)) ([]) (([] : List (Int × (List Int)))), blk b0 (#[Value.int .i64 ((a0).m), Value.int .i64 ((a0).window), Value.int .i64 ((a0).next), Value.map (some b3_1), Value.slice a4_1 ((a0).ready).length c4_1]) 47, mblk b3_1 ([]), row 26 1 (.slice a4_1 ((a0).ready).length c4_1) ((a0).ready).length d4_1, tie (El.sl (El.int .u8)) d4_1 ((a0).ready), R] w0 w := HS
  refine W.nil ?_
  refine At.next ?_
  refine V.keep [(0, Value.pointer (some ⟨b0, 0, none⟩))] ⟨rfl, trivial⟩ ?_
  refine V.region ?_
  refine W.rd (X.move rfl) rfl rfl rfl ?_
  refine W.rd (X.nilCheck rfl) rfl rfl rfl ?_
  refine W.rd (X.fieldAddr 2 fo47_2 rfl) rfl rfl rfl ?_
  refine W.ev_none (Y.storeAt 1 HS rfl inf3 rfl rfl rfl rfl rfl rfl) rfl rfl ?_
  rintro _ w HS
  have HS : Sep.St [tieM (El.sl (El.int .u8)) ([]) (([] : List (Int × (List Int)))), blk b0 (#[Value.int .i64 ((a0).m), Value.int .i64 ((a0).window), Value.int .i64 (0), Value.map (some b3_1), Value.slice a4_1 ((a0).ready).length c4_1]) 47, mblk b3_1 ([]), row 26 1 (.slice a4_1 ((a0).ready).length c4_1) ((a0).ready).length d4_1, tie (El.sl (El.int .u8)) d4_1 ((a0).ready), R] w0 w := HS
  refine W.nil ?_
  replace HS := HS.re [1, 2, 0, 3, 4, 5] (by kernel_rfl)
  have HS : Sep.St [blk b0 (#[Value.int .i64 ((a0).m), Value.int .i64 ((a0).window), Value.int .i64 (0), Value.map (some b3_1), Value.slice a4_1 ((a0).ready).length c4_1]) 47, mblk b3_1 ([]), tieM (El.sl (El.int .u8)) ([]) (([] : List (Int × (List Int)))), row 26 1 (.slice a4_1 ((a0).ready).length c4_1) ((a0).ready).length d4_1, tie (El.sl (El.int .u8)) d4_1 ((a0).ready), R] w0 w := HS
  replace HS := reorder_Order.close (({ m := (a0).m, window := (a0).window, next := 0, kept := ([] : List (Int × (List Int))), ready := (a0).ready } : reorder_Order)) trivial HS
  have HS : Sep.St [reorder_Order.at b0 (({ m := (a0).m, window := (a0).window, next := 0, kept := ([] : List (Int × (List Int))), ready := (a0).ready } : reorder_Order)), R] w0 w := HS
  cases H
  exact At.end0 rfl ⟨_, rfl, rfl, HS⟩

/-! ### (*signalman/signalmanref6.Order).Clear: function 17 -/
def signalmanref6_Order_Clear.f (a0 : signalmanref6_Order) : Option (signalmanref6_Order) := some (({ m := (a0).m, window := (a0).window, next := 0, kept := ([] : List signalmanref6_message), ready := (a0).ready } : signalmanref6_Order))
set_option maxRecDepth 100000 in
set_option maxHeartbeats 4000000 in
theorem signalmanref6_Order_Clear.calls (a0 : signalmanref6_Order) (R : As) (w0 w : World) (b0 : Nat) (r : signalmanref6_Order)  (H : signalmanref6_Order_Clear.f a0 = some r) (HS : Sep.St [signalmanref6_Order.at b0 (a0), R] w0 w) : Calls Try.prog 17 #[Value.pointer (some ⟨b0, 0, none⟩)] w (Ret fun u w => u = Value.tuple #[] ∧ Sep.St [signalmanref6_Order.at b0 (r), R] w0 w) := by
  unfold signalmanref6_Order_Clear.f at H
  refine calls_enter Try.func17 rfl rfl ?_
  have H : _ = some r := H
  refine V.seq ?_
  refine V.region ?_
  refine W.rd (X.move rfl) rfl rfl rfl ?_
  refine W.rd (X.nilCheck rfl) rfl rfl rfl ?_
  obtain ⟨a3_1, c3_1, d3_1, a4_1, c4_1, d4_1, hi2, HS⟩ := signalmanref6_Order.open HS
  have HS : Sep.St [blk b0 (#[Value.int .i64 ((a0).m), Value.int .i64 ((a0).window), Value.int .i64 ((a0).next), Value.slice a3_1 ((a0).kept).length c3_1, Value.slice a4_1 ((a0).ready).length c4_1]) 53, row 56 2 (.slice a3_1 ((a0).kept).length c3_1) ((a0).kept).length d3_1, tie signalmanref6_message.El d3_1 ((a0).kept), row 26 1 (.slice a4_1 ((a0).ready).length c4_1) ((a0).ready).length d4_1, tie (El.sl (El.int .u8)) d4_1 ((a0).ready), R] w0 w := HS
  refine W.rd (X.fieldAddr 3 fo53_3 rfl) rfl rfl rfl ?_
  refine W.ev_none (Y.storeAt 0 HS rfl inf51 rfl rfl rfl rfl rfl rfl) rfl rfl ?_
  rintro _ w HS
  have HS : Sep.St [blk b0 (#[Value.int .i64 ((a0).m), Value.int .i64 ((a0).window), Value.int .i64 ((a0).next), Value.slice none 0 0, Value.slice a4_1 ((a0).ready).length c4_1]) 53, row 56 2 (.slice a3_1 ((a0).kept).length c3_1) ((a0).kept).length d3_1, tie signalmanref6_message.El d3_1 ((a0).kept), row 26 1 (.slice a4_1 ((a0).ready).length c4_1) ((a0).ready).length d4_1, tie (El.sl (El.int .u8)) d4_1 ((a0).ready), R] w0 w := HS
  refine W.nil ?_
  refine At.next ?_
  refine V.keep [(0, Value.pointer (some ⟨b0, 0, none⟩))] ⟨rfl, trivial⟩ ?_
  refine V.region ?_
  refine W.rd (X.move rfl) rfl rfl rfl ?_
  refine W.rd (X.nilCheck rfl) rfl rfl rfl ?_
  refine W.rd (X.fieldAddr 2 fo53_2 rfl) rfl rfl rfl ?_
  refine W.ev_none (Y.storeAt 0 HS rfl inf3 rfl rfl rfl rfl rfl rfl) rfl rfl ?_
  rintro _ w HS
  have HS : Sep.St [blk b0 (#[Value.int .i64 ((a0).m), Value.int .i64 ((a0).window), Value.int .i64 (0), Value.slice none 0 0, Value.slice a4_1 ((a0).ready).length c4_1]) 53, row 56 2 (.slice a3_1 ((a0).kept).length c3_1) ((a0).kept).length d3_1, tie signalmanref6_message.El d3_1 ((a0).kept), row 26 1 (.slice a4_1 ((a0).ready).length c4_1) ((a0).ready).length d4_1, tie (El.sl (El.int .u8)) d4_1 ((a0).ready), R] w0 w := HS
  refine W.nil ?_
  replace HS := row_nil' (e := 56) 2 none (St.put (A := tie signalmanref6_message.El ([]) (([] : List signalmanref6_message))) (fun _ => tie.nil) HS)
  have HS : Sep.St [row 56 2 (.slice none (([] : List signalmanref6_message)).length 0) (([] : List signalmanref6_message)).length ([]), tie signalmanref6_message.El ([]) (([] : List signalmanref6_message)), blk b0 (#[Value.int .i64 ((a0).m), Value.int .i64 ((a0).window), Value.int .i64 (0), Value.slice none 0 0, Value.slice a4_1 ((a0).ready).length c4_1]) 53, row 56 2 (.slice a3_1 ((a0).kept).length c3_1) ((a0).kept).length d3_1, tie signalmanref6_message.El d3_1 ((a0).kept), row 26 1 (.slice a4_1 ((a0).ready).length c4_1) ((a0).ready).length d4_1, tie (El.sl (El.int .u8)) d4_1 ((a0).ready), R] w0 w := HS
  replace HS := HS.re [2, 0, 1, 5, 6, 3, 4, 7] (by kernel_rfl)
  have HS : Sep.St [blk b0 (#[Value.int .i64 ((a0).m), Value.int .i64 ((a0).window), Value.int .i64 (0), Value.slice none (([] : List signalmanref6_message)).length 0, Value.slice a4_1 ((a0).ready).length c4_1]) 53, row 56 2 (.slice none (([] : List signalmanref6_message)).length 0) (([] : List signalmanref6_message)).length ([]), tie signalmanref6_message.El ([]) (([] : List signalmanref6_message)), row 26 1 (.slice a4_1 ((a0).ready).length c4_1) ((a0).ready).length d4_1, tie (El.sl (El.int .u8)) d4_1 ((a0).ready), row 56 2 (.slice a3_1 ((a0).kept).length c3_1) ((a0).kept).length d3_1, tie signalmanref6_message.El d3_1 ((a0).kept), R] w0 w := HS
  replace HS := signalmanref6_Order.close (({ m := (a0).m, window := (a0).window, next := 0, kept := ([] : List signalmanref6_message), ready := (a0).ready } : signalmanref6_Order)) trivial HS
  have HS : Sep.St [signalmanref6_Order.at b0 (({ m := (a0).m, window := (a0).window, next := 0, kept := ([] : List signalmanref6_message), ready := (a0).ready } : signalmanref6_Order)), row 56 2 (.slice a3_1 ((a0).kept).length c3_1) ((a0).kept).length d3_1, tie signalmanref6_message.El d3_1 ((a0).kept), R] w0 w := HS
  replace HS := HS.sel [0, 3] [1, 2] (by kernel_rfl)
  cases H
  exact At.end0 rfl ⟨_, rfl, rfl, HS⟩

/-! ### (*signalman/reorder.Order).Next: function 12 -/
def reorder_Order_Next.f (a0 : reorder_Order) : Option (Int) := some ((a0).next)
set_option maxRecDepth 100000 in
set_option maxHeartbeats 4000000 in
theorem reorder_Order_Next.calls (a0 : reorder_Order) (R : As) (w0 w : World) (b0 : Nat) (b3_p0 : Nat) (k3_p0 : List (Int × Value)) (a4_p0 : Option Addr) (c4_p0 : Nat) (d4_p0 : List Value) (r : Int)  (H : reorder_Order_Next.f a0 = some r) (HS : Sep.St [blk b0 (#[Value.int .i64 ((a0).m), Value.int .i64 ((a0).window), Value.int .i64 ((a0).next), Value.map (some b3_p0), Value.slice a4_p0 ((a0).ready).length c4_p0]) 47, mblk b3_p0 k3_p0, tieM (El.sl (El.int .u8)) k3_p0 ((a0).kept), row 26 1 (.slice a4_p0 ((a0).ready).length c4_p0) ((a0).ready).length d4_p0, tie (El.sl (El.int .u8)) d4_p0 ((a0).ready), R] w0 w) : Calls Try.prog 12 #[Value.pointer (some ⟨b0, 0, none⟩)] w (Ret fun u w => u = Value.int .i64 (r) ∧ Sep.St [blk b0 (#[Value.int .i64 ((a0).m), Value.int .i64 ((a0).window), Value.int .i64 ((a0).next), Value.map (some b3_p0), Value.slice a4_p0 ((a0).ready).length c4_p0]) 47, mblk b3_p0 k3_p0, tieM (El.sl (El.int .u8)) k3_p0 ((a0).kept), row 26 1 (.slice a4_p0 ((a0).ready).length c4_p0) ((a0).ready).length d4_p0, tie (El.sl (El.int .u8)) d4_p0 ((a0).ready), R] w0 w) := by
  unfold reorder_Order_Next.f at H
  refine calls_enter Try.func12 rfl rfl ?_
  have H : _ = some r := H
  refine V.seq ?_
  refine V.region ?_
  refine W.rd (X.assign rfl) rfl rfl rfl ?_
  refine W.nil ?_
  refine At.next ?_
  refine V.keep [(0, Value.pointer (some ⟨b0, 0, none⟩))] ⟨rfl, trivial⟩ ?_
  refine V.seq ?_
  refine V.region ?_
  refine W.rd (X.move rfl) rfl rfl rfl ?_
  refine W.rd (X.nilCheck rfl) rfl rfl rfl ?_
  refine W.rd (X.fieldAddr 2 fo47_2 rfl) rfl rfl rfl ?_
  refine W.rd (X.loadAt 0 HS rfl Try.underlying3 rfl rfl rfl) rfl rfl rfl ?_
  refine W.rd (X.assign rfl) rfl rfl rfl ?_
  refine W.nil ?_
  refine At.next ?_
  refine V.keep [(2, Value.int .i64 ((a0).next))] ⟨rfl, trivial⟩ ?_
  refine V.ret ?_
  cases H
  exact At.ret1 rfl rfl ⟨_, rfl, rfl, HS⟩

/-! ### (*signalman/signalmanref6.Order).Next: function 18 -/
def signalmanref6_Order_Next.f (a0 : signalmanref6_Order) : Option (Int) := some ((a0).next)
set_option maxRecDepth 100000 in
set_option maxHeartbeats 4000000 in
theorem signalmanref6_Order_Next.calls (a0 : signalmanref6_Order) (R : As) (w0 w : World) (b0 : Nat) (a3_p0 : Option Addr) (c3_p0 : Nat) (d3_p0 : List Value) (a4_p0 : Option Addr) (c4_p0 : Nat) (d4_p0 : List Value) (r : Int)  (H : signalmanref6_Order_Next.f a0 = some r) (HS : Sep.St [blk b0 (#[Value.int .i64 ((a0).m), Value.int .i64 ((a0).window), Value.int .i64 ((a0).next), Value.slice a3_p0 ((a0).kept).length c3_p0, Value.slice a4_p0 ((a0).ready).length c4_p0]) 53, row 56 2 (.slice a3_p0 ((a0).kept).length c3_p0) ((a0).kept).length d3_p0, tie signalmanref6_message.El d3_p0 ((a0).kept), row 26 1 (.slice a4_p0 ((a0).ready).length c4_p0) ((a0).ready).length d4_p0, tie (El.sl (El.int .u8)) d4_p0 ((a0).ready), R] w0 w) : Calls Try.prog 18 #[Value.pointer (some ⟨b0, 0, none⟩)] w (Ret fun u w => u = Value.int .i64 (r) ∧ Sep.St [blk b0 (#[Value.int .i64 ((a0).m), Value.int .i64 ((a0).window), Value.int .i64 ((a0).next), Value.slice a3_p0 ((a0).kept).length c3_p0, Value.slice a4_p0 ((a0).ready).length c4_p0]) 53, row 56 2 (.slice a3_p0 ((a0).kept).length c3_p0) ((a0).kept).length d3_p0, tie signalmanref6_message.El d3_p0 ((a0).kept), row 26 1 (.slice a4_p0 ((a0).ready).length c4_p0) ((a0).ready).length d4_p0, tie (El.sl (El.int .u8)) d4_p0 ((a0).ready), R] w0 w) := by
  unfold signalmanref6_Order_Next.f at H
  refine calls_enter Try.func18 rfl rfl ?_
  have H : _ = some r := H
  refine V.seq ?_
  refine V.region ?_
  refine W.rd (X.assign rfl) rfl rfl rfl ?_
  refine W.nil ?_
  refine At.next ?_
  refine V.keep [(0, Value.pointer (some ⟨b0, 0, none⟩))] ⟨rfl, trivial⟩ ?_
  refine V.seq ?_
  refine V.region ?_
  refine W.rd (X.move rfl) rfl rfl rfl ?_
  refine W.rd (X.nilCheck rfl) rfl rfl rfl ?_
  refine W.rd (X.fieldAddr 2 fo53_2 rfl) rfl rfl rfl ?_
  refine W.rd (X.loadAt 0 HS rfl Try.underlying3 rfl rfl rfl) rfl rfl rfl ?_
  refine W.rd (X.assign rfl) rfl rfl rfl ?_
  refine W.nil ?_
  refine At.next ?_
  refine V.keep [(2, Value.int .i64 ((a0).next))] ⟨rfl, trivial⟩ ?_
  refine V.ret ?_
  cases H
  exact At.ret1 rfl rfl ⟨_, rfl, rfl, HS⟩

/-! ### (*signalman/signalmanref6.Order).Gap: function 19 -/
def signalmanref6_Order_Gap.f (a0 : signalmanref6_Order) : Option (Bool) := some (decide ((((a0).kept).length : Int) > 0))
set_option maxRecDepth 100000 in
set_option maxHeartbeats 4000000 in
theorem signalmanref6_Order_Gap.calls (a0 : signalmanref6_Order) (R : As) (w0 w : World) (b0 : Nat) (a3_p0 : Option Addr) (c3_p0 : Nat) (d3_p0 : List Value) (a4_p0 : Option Addr) (c4_p0 : Nat) (d4_p0 : List Value) (r : Bool)  (H : signalmanref6_Order_Gap.f a0 = some r) (HS : Sep.St [blk b0 (#[Value.int .i64 ((a0).m), Value.int .i64 ((a0).window), Value.int .i64 ((a0).next), Value.slice a3_p0 ((a0).kept).length c3_p0, Value.slice a4_p0 ((a0).ready).length c4_p0]) 53, row 56 2 (.slice a3_p0 ((a0).kept).length c3_p0) ((a0).kept).length d3_p0, tie signalmanref6_message.El d3_p0 ((a0).kept), row 26 1 (.slice a4_p0 ((a0).ready).length c4_p0) ((a0).ready).length d4_p0, tie (El.sl (El.int .u8)) d4_p0 ((a0).ready), R] w0 w) : Calls Try.prog 19 #[Value.pointer (some ⟨b0, 0, none⟩)] w (Ret fun u w => u = Value.bool (r) ∧ Sep.St [blk b0 (#[Value.int .i64 ((a0).m), Value.int .i64 ((a0).window), Value.int .i64 ((a0).next), Value.slice a3_p0 ((a0).kept).length c3_p0, Value.slice a4_p0 ((a0).ready).length c4_p0]) 53, row 56 2 (.slice a3_p0 ((a0).kept).length c3_p0) ((a0).kept).length d3_p0, tie signalmanref6_message.El d3_p0 ((a0).kept), row 26 1 (.slice a4_p0 ((a0).ready).length c4_p0) ((a0).ready).length d4_p0, tie (El.sl (El.int .u8)) d4_p0 ((a0).ready), R] w0 w) := by
  unfold signalmanref6_Order_Gap.f at H
  refine calls_enter Try.func19 rfl rfl ?_
  have H : _ = some r := H
  refine V.seq ?_
  refine V.region ?_
  refine W.rd (X.assign rfl) rfl rfl rfl ?_
  refine W.nil ?_
  refine At.next ?_
  refine V.keep [(0, Value.pointer (some ⟨b0, 0, none⟩))] ⟨rfl, trivial⟩ ?_
  refine V.seq ?_
  refine V.region ?_
  refine W.rd (X.move rfl) rfl rfl rfl ?_
  refine W.rd (X.nilCheck rfl) rfl rfl rfl ?_
  refine W.rd (X.fieldAddr 3 fo53_3 rfl) rfl rfl rfl ?_
  refine W.rd (X.loadAt 0 HS rfl Try.underlying51 rfl rfl rfl) rfl rfl rfl ?_
  refine W.rd (X.lenSl Try.underlying51 rfl) rfl rfl rfl ?_
  refine W.rd (X.cmp (decide ((((a0).kept).length : Int) > 0)) rfl rfl rfl rfl) rfl rfl rfl ?_
  refine W.rd (X.assign rfl) rfl rfl rfl ?_
  refine W.nil ?_
  refine At.next ?_
  refine V.keep [(2, Value.bool (decide ((((a0).kept).length : Int) > 0)))] ⟨rfl, trivial⟩ ?_
  refine V.ret ?_
  cases H
  exact At.ret1 rfl rfl ⟨_, rfl, rfl, HS⟩

structure signalmanlaw14_Act where
  Way : Int
  N : Int
  B : List Int
deriving DecidableEq, Inhabited

def signalmanlaw14_Act.El : El signalmanlaw14_Act := El.iso (El.prod (El.int .i64) (El.prod (El.int .i64) (El.prod (El.sl (El.int .u8)) (El.unit)))) (fun x => (x.Way, (x.N, (x.B, ()))))
theorem signalmanlaw14_Act.unpack {c : List Value} {x : signalmanlaw14_Act} {L : List As} {w0 w : World} (hs : Sep.St (signalmanlaw14_Act.El.p c x :: L) w0 w) : ∃ a2 : Option Addr, ∃ m2 : Nat, c = [Value.int .i64 (x.Way), Value.int .i64 (x.N), Value.slice a2 (x.B).length m2] ∧ Sep.St (fsl 1 (.slice a2 (x.B).length m2) (x.B).length ((x.B).map (Value.int .u8)) :: L) w0 w := by
  have hs : Sep.St ((El.prod (El.int .i64) (El.prod (El.int .i64) (El.prod (El.sl (El.int .u8)) (El.unit)))).p c (x.Way, (x.N, (x.B, ()))) :: L) w0 w := hs
  obtain ⟨c0, r0, e0, hs⟩ := St.prod_open hs
  have hs : Sep.St ((El.int .i64).p c0 x.Way :: (El.prod (El.int .i64) (El.prod (El.sl (El.int .u8)) (El.unit))).p r0 (x.N, (x.B, ())) :: L) w0 w := hs
  obtain ⟨q0, hs⟩ := St.int_open hs
  have hs : Sep.St ((El.prod (El.int .i64) (El.prod (El.sl (El.int .u8)) (El.unit))).p r0 (x.N, (x.B, ())) :: L) w0 w := hs
  obtain ⟨c1, r1, e1, hs⟩ := St.prod_open hs
  have hs : Sep.St ((El.int .i64).p c1 x.N :: (El.prod (El.sl (El.int .u8)) (El.unit)).p r1 (x.B, ()) :: L) w0 w := hs
  obtain ⟨q1, hs⟩ := St.int_open hs
  have hs : Sep.St ((El.prod (El.sl (El.int .u8)) (El.unit)).p r1 (x.B, ()) :: L) w0 w := hs
  obtain ⟨c2, r2, e2, hs⟩ := St.prod_open hs
  have hs : Sep.St ((El.sl (El.int .u8)).p c2 x.B :: (El.unit).p r2 () :: L) w0 w := hs
  obtain ⟨a2, m2, q2, hs⟩ := St.sl_openF (Value.int .u8) (fun t => tie_int t) hs
  have hs : Sep.St (fsl 1 (.slice a2 (x.B).length m2) (x.B).length ((x.B).map (Value.int .u8)) :: (El.unit).p r2 () :: L) w0 w := hs
  replace hs := hs.front 1 rfl
  have hs : Sep.St ((El.unit).p r2 () :: fsl 1 (.slice a2 (x.B).length m2) (x.B).length ((x.B).map (Value.int .u8)) :: L) w0 w := hs
  obtain ⟨qu, hs⟩ := St.unit_open hs
  exact ⟨a2, m2, by rw [e0, q0, e1, q1, e2, q2, qu]; rfl, hs⟩
theorem signalmanlaw14_Act.pack {a2 : Option Addr} {m2 : Nat} {x : signalmanlaw14_Act} {L : List As} {w0 w : World} (hs : Sep.St (fsl 1 (.slice a2 (x.B).length m2) (x.B).length ((x.B).map (Value.int .u8)) :: L) w0 w) : Sep.St (signalmanlaw14_Act.El.p [Value.int .i64 (x.Way), Value.int .i64 (x.N), Value.slice a2 (x.B).length m2] x :: L) w0 w := by
  have h1 := St.join (m := [fsl 1 (.slice a2 (x.B).length m2) (x.B).length ((x.B).map (Value.int .u8))]) hs
  exact h1.mono fun h hh => ⟨[Value.int .i64 (x.Way)], [Value.int .i64 (x.N), Value.slice a2 (x.B).length m2], rfl, rfl, ⟨[Value.int .i64 (x.N)], [Value.slice a2 (x.B).length m2], rfl, rfl, ⟨[Value.slice a2 (x.B).length m2], [], rfl, ⟨_, _, rfl, Sp.fsl 0 hh rfl, int_tie⟩, rfl⟩⟩⟩

def signalmanlaw14_Act.at (b : Nat) (x : signalmanlaw14_Act) : As := fun h => (True) ∧ ∃ a2 : Option Addr, ∃ c2 : Nat, Sp [blk b (#[Value.int .i64 ((x.Way)), Value.int .i64 ((x.N)), Value.slice a2 ((x.B)).length c2]) 39, fsl 1 (.slice a2 ((x.B)).length c2) ((x.B)).length (((x.B)).map (Value.int .u8))] h
theorem signalmanlaw14_Act.open {b : Nat} {x : signalmanlaw14_Act} {L : List As} {w0 w : World} (hs : Sep.St (signalmanlaw14_Act.at b x :: L) w0 w) : ∃ a2 : Option Addr, ∃ c2 : Nat, (True) ∧ Sep.St (blk b (#[Value.int .i64 ((x.Way)), Value.int .i64 ((x.N)), Value.slice a2 ((x.B)).length c2]) 39 :: fsl 1 (.slice a2 ((x.B)).length c2) ((x.B)).length (((x.B)).map (Value.int .u8)) :: L) w0 w := by
  have h1 := St.pure.1 (show St ((fun h => (True) ∧ (fun h => ∃ a2 : Option Addr, ∃ c2 : Nat, Sp [blk b (#[Value.int .i64 ((x.Way)), Value.int .i64 ((x.N)), Value.slice a2 ((x.B)).length c2]) 39, fsl 1 (.slice a2 ((x.B)).length c2) ((x.B)).length (((x.B)).map (Value.int .u8))] h) h) :: L) w0 w from hs)
  obtain ⟨hi, hs⟩ := h1
  obtain ⟨a2, hs⟩ := St.ex.1 (show St ((fun h => ∃ a2 : Option Addr, (fun h => ∃ c2 : Nat, Sp [blk b (#[Value.int .i64 ((x.Way)), Value.int .i64 ((x.N)), Value.slice a2 ((x.B)).length c2]) 39, fsl 1 (.slice a2 ((x.B)).length c2) ((x.B)).length (((x.B)).map (Value.int .u8))] h) h) :: L) w0 w from hs)
  obtain ⟨c2, hs⟩ := St.ex.1 (show St ((fun h => ∃ c2 : Nat, (fun h => Sp [blk b (#[Value.int .i64 ((x.Way)), Value.int .i64 ((x.N)), Value.slice a2 ((x.B)).length c2]) 39, fsl 1 (.slice a2 ((x.B)).length c2) ((x.B)).length (((x.B)).map (Value.int .u8))] h) h) :: L) w0 w from hs)
  exact ⟨a2, c2, hi, St.open (m := [blk b (#[Value.int .i64 ((x.Way)), Value.int .i64 ((x.N)), Value.slice a2 ((x.B)).length c2]) 39, fsl 1 (.slice a2 ((x.B)).length c2) ((x.B)).length (((x.B)).map (Value.int .u8))]) hs⟩
theorem signalmanlaw14_Act.close {b : Nat} (x : signalmanlaw14_Act) {a2 : Option Addr} {c2 : Nat} {L : List As} {w0 w : World} (hi : True) (hs : Sep.St (blk b (#[Value.int .i64 ((x.Way)), Value.int .i64 ((x.N)), Value.slice a2 ((x.B)).length c2]) 39 :: fsl 1 (.slice a2 ((x.B)).length c2) ((x.B)).length (((x.B)).map (Value.int .u8)) :: L) w0 w) : Sep.St (signalmanlaw14_Act.at b x :: L) w0 w := by
  have h2 := St.join (m := [blk b (#[Value.int .i64 ((x.Way)), Value.int .i64 ((x.N)), Value.slice a2 ((x.B)).length c2]) 39, fsl 1 (.slice a2 ((x.B)).length c2) ((x.B)).length (((x.B)).map (Value.int .u8))]) hs
  exact h2.mono fun h hh => ⟨hi, _, _, hh⟩

/-! ### signalman/signalmanlaw14.ReorderPlays: function 5 -/
mutual
def signalmanlaw14_ReorderPlays.l1 : Nat → (List signalmanlaw14_Act) → Int → signalmanref6_Order → reorder_Order → reorder_Order → Option (Bool)
  | 0, _, _, _, _, _ => none
  | k + 1, a2, x16, x17, x18, x19 => (if x16 < ((a2).length : Int) then (if 0 ≤ x16 ∧ x16 < ((a2).length : Int) then (if ((((a2).getD (x16).toNat default).B).length : Int) > 60 then some (true) else ((reorder_Order_Put.f k x18 0 ([1] : List Int)).bind fun t38 => (if (((a2).getD (x16).toNat default).Way) = 0 then (if ((([] : List Int)).length : Int) + (((a2).getD (x16).toNat default).B).length ≤ 1099511627776 then ((reorder_Order_Put.f k x19 (((a2).getD (x16).toNat default).N) (([] : List Int) ++ (((a2).getD (x16).toNat default).B))).bind fun t63 => ((signalmanref6_Order_Put.f k x17 (((a2).getD (x16).toNat default).N) (((a2).getD (x16).toNat default).B)).bind fun t65 => (if t63.1 = t65.1 then (signalmanlaw14_ReorderPlays.j2 x16 t38 (signalmanlaw14_ReorderPlays.l1 k a2) t65.2 t63.2) else some (false)))) else none) else (if (((a2).getD (x16).toNat default).Way) = 1 then ((reorder_Order_Take.f x19).bind fun t69 => ((signalmanref6_Order_Take.f x17).bind fun t71 => (if sEq (t69.1) (t71.1) = true then (if ((t69.2.1) != (t71.2.1)) = true then some (false) else (signalmanlaw14_ReorderPlays.j2 x16 t38 (signalmanlaw14_ReorderPlays.l1 k a2) t71.2.2 t69.2.2)) else some (false)))) else (if (((a2).getD (x16).toNat default).Way) = 2 then ((reorder_Order_Clear.f x19).bind fun t78 => ((signalmanref6_Order_Clear.f x17).bind fun t80 => (signalmanlaw14_ReorderPlays.j2 x16 t38 (signalmanlaw14_ReorderPlays.l1 k a2) t80 t78))) else (signalmanlaw14_ReorderPlays.j2 x16 t38 (signalmanlaw14_ReorderPlays.l1 k a2) x17 x19)))))) else none) else some (true))
def signalmanlaw14_ReorderPlays.j2 (x16 : Int) (t38 : Int × reorder_Order) (Lq44 : Int → signalmanref6_Order → reorder_Order → reorder_Order → Option (Bool)) (x41 : signalmanref6_Order) (x42 : reorder_Order) : Option (Bool) := ((reorder_Order_Next.f x42).bind fun t47 => ((signalmanref6_Order_Next.f x41).bind fun t51 => (if t47 = t51 then ((reorder_Order_Gap.f x42).bind fun t54 => ((signalmanref6_Order_Gap.f x41).bind fun t56 => (if ((t54) != (t56)) = true then some (false) else (Lq44 (w64 (x16 + 1)) x41 t38.2 x42)))) else some (false))))
def signalmanlaw14_ReorderPlays.j0 (k : Nat) (a0 : Int) (a1 : Int) (a2 : List signalmanlaw14_Act) (t1 : Bool) (x4 : Bool) : Option (Bool) := (if x4 = true then some (t1) else ((reorder_New.f a0 a1).bind fun t7 => ((reorder_New.f 8 1).bind fun t9 => ((signalmanref6_NewOrder.f a0 a1).bind fun t11 => (signalmanlaw14_ReorderPlays.l1 k a2 0 t11 t9 t7)))))
end
def signalmanlaw14_ReorderPlays.f (k : Nat) (a0 : Int) (a1 : Int) (a2 : List signalmanlaw14_Act) : Option (Bool) := ((signalmanlaw14_alive.f k ).bind fun t1 => (if t1 = true then (signalmanlaw14_ReorderPlays.j0 k a0 a1 a2 t1 (decide (((a2).length : Int) > 100))) else (signalmanlaw14_ReorderPlays.j0 k a0 a1 a2 t1 true)))
set_option maxRecDepth 100000 in
set_option maxHeartbeats 4000000 in
theorem signalmanlaw14_ReorderPlays.calls (k : Nat) (a0 : Int) (a1 : Int) (a2 : List signalmanlaw14_Act) (R : As) (w0 w : World) (sa2 : Option Addr) (sc2 : Nat) (sd2 : List Value) (r : Bool) (hr2 : rdC R 3 (.slice sa2 (a2).length sc2) (a2).length sd2) (ht2 : ∀ h, R h → tie signalmanlaw14_Act.El sd2 a2 h) (H : signalmanlaw14_ReorderPlays.f k a0 a1 a2 = some r) (HS : Sep.St [R] w0 w) : Calls Try.prog 5 #[Value.int .i64 (a0), Value.int .i64 (a1), Value.slice sa2 (a2).length sc2] w (Ret fun u w => u = Value.bool (r) ∧ Sep.St [R] w0 w) := by
  unfold signalmanlaw14_ReorderPlays.f at H
  refine calls_enter Try.func5 rfl rfl ?_
  have H : _ = some r := H
  replace HS := St.more 0 HS rfl ht2 tie.pers
  have HS : Sep.St [tie signalmanlaw14_Act.El sd2 (a2), R] w0 w := HS
  refine V.seq ?_
  refine V.region ?_
  refine W.rd (X.assign rfl) rfl rfl rfl ?_
  refine W.nil ?_
  refine At.next ?_
  refine V.keep [(0, Value.int .i64 (a0)), (1, Value.int .i64 (a1)), (2, Value.slice sa2 (a2).length sc2)] ⟨rfl, rfl, rfl, trivial⟩ ?_
  refine V.seq ?_
  refine V.region ?_
  obtain ⟨t1, A2, H⟩ := bind_s H
  refine W.ev (Y.call Try.func7 (by kernel_rfl) rfl (vs := []) rfl (signalmanlaw14_alive.calls k  _ w0 _  t1  A2 (Sep.St.tailJoin (m := []) (r := [tie signalmanlaw14_Act.El sd2 (a2), R]) HS))) rfl rfl rfl ?_
  rintro _ w ⟨rfl, HS⟩
  replace HS := Sep.St.tailOpen (m := []) (r := [tie signalmanlaw14_Act.El sd2 (a2), R]) HS
  have HS : Sep.St [tie signalmanlaw14_Act.El sd2 (a2), R] w0 w := HS
  refine W.rd (X.assign rfl) rfl rfl rfl ?_
  refine W.nil ?_
  refine At.next ?_
  refine V.keep [(0, Value.int .i64 (a0)), (1, Value.int .i64 (a1)), (2, Value.slice sa2 (a2).length sc2), (7, Value.bool (t1))] ⟨rfl, rfl, rfl, rfl, trivial⟩ ?_
  refine V.seq ?_
  refine V.meet (σ := Bool) (fun st w => match st with | x4 => Sep.St [tie signalmanlaw14_Act.El sd2 (a2), R] w0 w ∧ ∃ kf5, kf5 ≤ k ∧ signalmanlaw14_ReorderPlays.j0 kf5 a0 a1 a2 t1 x4 = some r) (fun st => match st with | x4 => [(0, Value.int .i64 (a0)), (1, Value.int .i64 (a1)), (2, Value.slice sa2 (a2).length sc2), (7, Value.bool (t1)), (24, Value.bool (x4))]) ?_ ?_
  · refine V.region ?_
    refine W.rd (X.move rfl) rfl rfl rfl ?_
    refine W.rd (X.not rfl) rfl rfl rfl ?_
    refine W.rd (X.move rfl) rfl rfl rfl ?_
    by_cases c82 : t1 = true
    · replace H := ite_t c82 H
      refine W.want 20 rfl (sb (n_t c82)) ?_
      refine W.rd (X.move rfl) rfl rfl rfl ?_
      refine W.want 20 rfl (sb (n_t c82)) ?_
      refine W.rd (X.lenSl Try.underlying35 rfl) rfl rfl rfl ?_
      refine W.want 20 rfl (sb (n_t c82)) ?_
      refine W.rd (X.cmp (decide (((a2).length : Int) > 100)) rfl rfl rfl rfl) rfl rfl rfl ?_
      refine W.rd (X.pickF (sb (n_t c82)) rfl) rfl rfl rfl ?_
      refine W.nil ?_
      exact At.meet (decide (((a2).length : Int) > 100)) ⟨rfl, rfl, rfl, rfl, rfl, trivial⟩ ⟨HS, k, by omega, H⟩
    · replace H := ite_f c82 H
      refine W.pass 20 rfl (sb (n_f (b_f c82))) rfl rfl ?_
      refine W.pass 20 rfl (sb (n_f (b_f c82))) rfl rfl ?_
      refine W.pass 20 rfl (sb (n_f (b_f c82))) rfl rfl ?_
      refine W.rd (X.pickT (sb (n_f (b_f c82))) rfl) rfl rfl rfl ?_
      refine W.nil ?_
      exact At.meet (true) ⟨rfl, rfl, rfl, rfl, rfl, trivial⟩ ⟨HS, k, by omega, H⟩
  · rintro x4 w ⟨HS, kf5, hkkf5, H⟩
    unfold signalmanlaw14_ReorderPlays.j0 at H
    have HS : Sep.St [tie signalmanlaw14_Act.El sd2 (a2), R] w0 w := HS
    by_cases c6 : x4 = true
    · replace H := ite_t c6 H
      refine V.condT (sb c6) ?_
      refine V.seq ?_
      refine V.region ?_
      refine W.rd (X.move rfl) rfl rfl rfl ?_
      refine W.rd (X.assign rfl) rfl rfl rfl ?_
      refine W.nil ?_
      refine At.next ?_
      refine V.keep [(6, Value.bool (t1))] ⟨rfl, trivial⟩ ?_
      refine V.ret ?_
      refine At.thenRet ?_
      replace HS := HS.sel [1] [0] (by kernel_rfl)
      cases H
      exact At.ret1 rfl rfl ⟨_, rfl, rfl, HS⟩
    · replace H := ite_f c6 H
      refine V.condF (sb (b_f c6)) ?_
      refine V.skip ?_
      refine At.next ?_
      refine V.keep [(0, Value.int .i64 (a0)), (1, Value.int .i64 (a1)), (2, Value.slice sa2 (a2).length sc2)] ⟨rfl, rfl, rfl, trivial⟩ ?_
      refine V.seq ?_
      refine V.region ?_
      refine W.rd (X.move rfl) rfl rfl rfl ?_
      refine W.rd (X.move rfl) rfl rfl rfl ?_
      obtain ⟨t7, A8, H⟩ := bind_s H
      refine W.ev (Y.call Try.func8 (by kernel_rfl) rfl (vs := [Value.int .i64 (a0), Value.int .i64 (a1)]) rfl (reorder_New.calls a0 a1 _ w0 _  t7  A8 (Sep.St.tailJoin (m := []) (r := [tie signalmanlaw14_Act.El sd2 (a2), R]) HS))) rfl rfl rfl ?_
      rintro _ w ⟨bt7_0, rfl, HS⟩
      replace HS := Sep.St.tailOpen (m := [reorder_Order.at bt7_0 (t7)]) (r := [tie signalmanlaw14_Act.El sd2 (a2), R]) HS
      have HS : Sep.St [reorder_Order.at bt7_0 (t7), tie signalmanlaw14_Act.El sd2 (a2), R] w0 w := HS
      refine W.rd (X.assign rfl) rfl rfl rfl ?_
      refine W.nil ?_
      refine At.next ?_
      refine V.keep [(0, Value.int .i64 (a0)), (1, Value.int .i64 (a1)), (2, Value.slice sa2 (a2).length sc2), (8, Value.pointer (some ⟨bt7_0, 0, none⟩))] ⟨rfl, rfl, rfl, rfl, trivial⟩ ?_
      refine V.seq ?_
      refine V.region ?_
      obtain ⟨t9, A10, H⟩ := bind_s H
      refine W.ev (Y.call Try.func8 (by kernel_rfl) rfl (vs := [Value.int .i64 (8), Value.int .i64 (1)]) rfl (reorder_New.calls 8 1 _ w0 _  t9  A10 (Sep.St.tailJoin (m := []) (r := [reorder_Order.at bt7_0 (t7), tie signalmanlaw14_Act.El sd2 (a2), R]) HS))) rfl rfl rfl ?_
      rintro _ w ⟨bt9_0, rfl, HS⟩
      replace HS := Sep.St.tailOpen (m := [reorder_Order.at bt9_0 (t9)]) (r := [reorder_Order.at bt7_0 (t7), tie signalmanlaw14_Act.El sd2 (a2), R]) HS
      have HS : Sep.St [reorder_Order.at bt9_0 (t9), reorder_Order.at bt7_0 (t7), tie signalmanlaw14_Act.El sd2 (a2), R] w0 w := HS
      refine W.rd (X.assign rfl) rfl rfl rfl ?_
      refine W.nil ?_
      refine At.next ?_
      refine V.keep [(0, Value.int .i64 (a0)), (1, Value.int .i64 (a1)), (2, Value.slice sa2 (a2).length sc2), (8, Value.pointer (some ⟨bt7_0, 0, none⟩)), (9, Value.pointer (some ⟨bt9_0, 0, none⟩))] ⟨rfl, rfl, rfl, rfl, rfl, trivial⟩ ?_
      refine V.seq ?_
      refine V.region ?_
      refine W.rd (X.move rfl) rfl rfl rfl ?_
      refine W.rd (X.move rfl) rfl rfl rfl ?_
      obtain ⟨t11, A12, H⟩ := bind_s H
      refine W.ev (Y.call Try.func13 (by kernel_rfl) rfl (vs := [Value.int .i64 (a0), Value.int .i64 (a1)]) rfl (signalmanref6_NewOrder.calls a0 a1 _ w0 _  t11  A12 (Sep.St.tailJoin (m := []) (r := [reorder_Order.at bt9_0 (t9), reorder_Order.at bt7_0 (t7), tie signalmanlaw14_Act.El sd2 (a2), R]) HS))) rfl rfl rfl ?_
      rintro _ w ⟨bt11_0, rfl, HS⟩
      replace HS := Sep.St.tailOpen (m := [signalmanref6_Order.at bt11_0 (t11)]) (r := [reorder_Order.at bt9_0 (t9), reorder_Order.at bt7_0 (t7), tie signalmanlaw14_Act.El sd2 (a2), R]) HS
      have HS : Sep.St [signalmanref6_Order.at bt11_0 (t11), reorder_Order.at bt9_0 (t9), reorder_Order.at bt7_0 (t7), tie signalmanlaw14_Act.El sd2 (a2), R] w0 w := HS
      refine W.rd (X.assign rfl) rfl rfl rfl ?_
      refine W.nil ?_
      refine At.next ?_
      refine V.keep [(2, Value.slice sa2 (a2).length sc2), (8, Value.pointer (some ⟨bt7_0, 0, none⟩)), (9, Value.pointer (some ⟨bt9_0, 0, none⟩)), (10, Value.pointer (some ⟨bt11_0, 0, none⟩))] ⟨rfl, rfl, rfl, rfl, trivial⟩ ?_
      refine V.seq ?_
      refine V.seq ?_
      refine V.region ?_
      refine W.rd (X.assign rfl) rfl rfl rfl ?_
      refine W.nil ?_
      refine At.next ?_
      refine V.keep [(2, Value.slice sa2 (a2).length sc2), (8, Value.pointer (some ⟨bt7_0, 0, none⟩)), (9, Value.pointer (some ⟨bt9_0, 0, none⟩)), (10, Value.pointer (some ⟨bt11_0, 0, none⟩)), (11, Value.int .i64 (0))] ⟨rfl, rfl, rfl, rfl, rfl, trivial⟩ ?_
      refine V.block ?_
      refine V.loop (σ := Int × signalmanref6_Order × reorder_Order × reorder_Order) (fun kq (st : Int × signalmanref6_Order × reorder_Order × reorder_Order) w => match st with | (x16, x17, x18, x19) => Sep.St [signalmanref6_Order.at bt11_0 (x17), reorder_Order.at bt9_0 (x18), reorder_Order.at bt7_0 (x19), tie signalmanlaw14_Act.El sd2 (a2), R] w0 w ∧ signalmanlaw14_ReorderPlays.l1 kq a2 x16 x17 x18 x19 = some r ∧ kq ≤ kf5) (fun st => match st with | (x16, x17, x18, x19) => [(2, Value.slice sa2 (a2).length sc2), (8, Value.pointer (some ⟨bt7_0, 0, none⟩)), (9, Value.pointer (some ⟨bt9_0, 0, none⟩)), (10, Value.pointer (some ⟨bt11_0, 0, none⟩)), (11, Value.int .i64 (x16))]) kf5 (0, t11, t9, t7) ⟨rfl, rfl, rfl, rfl, rfl, trivial⟩ ⟨HS, H, Nat.le_refl _⟩ ?_
      rintro kq20 ⟨x16, x17, x18, x19⟩ w ⟨HS, H, hk21⟩
      cases kq20 with
      | zero => exact absurd H (by simp [signalmanlaw14_ReorderPlays.l1])
      | succ kq20 =>
        simp only [signalmanlaw14_ReorderPlays.l1] at H
        have HS : Sep.St [signalmanref6_Order.at bt11_0 (x17), reorder_Order.at bt9_0 (x18), reorder_Order.at bt7_0 (x19), tie signalmanlaw14_Act.El sd2 (a2), R] w0 w := HS
        refine V.seq ?_
        refine V.seq ?_
        refine V.region ?_
        refine W.rd (X.move rfl) rfl rfl rfl ?_
        refine W.rd (X.move rfl) rfl rfl rfl ?_
        refine W.rd (X.lenSl Try.underlying35 rfl) rfl rfl rfl ?_
        refine W.rd (X.cmp (decide (x16 < ((a2).length : Int))) rfl rfl rfl rfl) rfl rfl rfl ?_
        refine W.nil ?_
        refine At.next ?_
        refine V.keep [(2, Value.slice sa2 (a2).length sc2), (8, Value.pointer (some ⟨bt7_0, 0, none⟩)), (9, Value.pointer (some ⟨bt9_0, 0, none⟩)), (10, Value.pointer (some ⟨bt11_0, 0, none⟩)), (11, Value.int .i64 (x16)), (36, Value.bool (decide (x16 < ((a2).length : Int))))] ⟨rfl, rfl, rfl, rfl, rfl, rfl, trivial⟩ ?_
        by_cases c22 : x16 < ((a2).length : Int)
        · replace H := ite_t c22 H
          refine V.condT (sb (decide_eq_true c22)) ?_
          refine V.skip ?_
          refine At.next ?_
          refine V.keep [(2, Value.slice sa2 (a2).length sc2), (8, Value.pointer (some ⟨bt7_0, 0, none⟩)), (9, Value.pointer (some ⟨bt9_0, 0, none⟩)), (10, Value.pointer (some ⟨bt11_0, 0, none⟩)), (11, Value.int .i64 (x16))] ⟨rfl, rfl, rfl, rfl, rfl, trivial⟩ ?_
          refine V.seq ?_
          refine V.block ?_
          refine V.seq ?_
          refine V.region ?_
          refine W.rd (X.move rfl) rfl rfl rfl ?_
          refine W.rd (X.move rfl) rfl rfl rfl ?_
          obtain ⟨c23, H⟩ := ite_n H
          obtain ⟨eb24, eo25, hh⟩ := ((rdC.at 4 hr2 HS rfl)).some (by decide) c23.1 c23.2; subst hh
          refine W.rd (X.indexSl Try.underlying35 inf39 rfl rfl c23.1 c23.2) rfl rfl rfl ?_
          obtain ⟨ec26, hc27, HS⟩ := St.tie_at 3 HS rfl (default) c23.1 c23.2
          obtain ⟨ea28, em29, he30, HN⟩ := signalmanlaw14_Act.unpack HS; clear HS; subst he30; have HS := HN
          have HS : Sep.St [fsl 1 (.slice ea28 (((a2).getD (x16).toNat default).B).length em29) (((a2).getD (x16).toNat default).B).length ((((a2).getD (x16).toNat default).B).map (Value.int .u8)), signalmanref6_Order.at bt11_0 (x17), reorder_Order.at bt9_0 (x18), reorder_Order.at bt7_0 (x19), tie signalmanlaw14_Act.El sd2 (a2), R] w0 w := HS
          refine W.rd (X.loadEl Try.underlying39 rfl inf39 rfl (vs := [Value.int .i64 (((a2).getD (x16).toNat default).Way), Value.int .i64 (((a2).getD (x16).toNat default).N), Value.slice ea28 (((a2).getD (x16).toNat default).B).length em29]) (((rdC.at 5 hr2 HS rfl)).cellsAt0 (fun j u h => hc27 j u h))) rfl rfl rfl ?_
          refine W.ev (Y.alloc (z := Value.agg (#[Value.int .i64 (0), Value.int .i64 (0), Value.slice none 0 0])) HS ze39) rfl rfl rfl ?_
          rintro _ w ⟨nb31, rfl, HS⟩
          have HS : Sep.St [blk nb31 (#[Value.int .i64 (0), Value.int .i64 (0), Value.slice none 0 0]) 39, fsl 1 (.slice ea28 (((a2).getD (x16).toNat default).B).length em29) (((a2).getD (x16).toNat default).B).length ((((a2).getD (x16).toNat default).B).map (Value.int .u8)), signalmanref6_Order.at bt11_0 (x17), reorder_Order.at bt9_0 (x18), reorder_Order.at bt7_0 (x19), tie signalmanlaw14_Act.El sd2 (a2), R] w0 w := HS
          refine W.ev_none (Y.storeSt (c' := #[Value.int .i64 (((a2).getD (x16).toNat default).Way), Value.int .i64 (((a2).getD (x16).toNat default).N), Value.slice ea28 (((a2).getD (x16).toNat default).B).length em29]) 0 [Value.int .i64 (((a2).getD (x16).toNat default).Way), Value.int .i64 (((a2).getD (x16).toNat default).N), Value.slice ea28 (((a2).getD (x16).toNat default).B).length em29] HS rfl inf39 rfl rfl rfl rfl rfl rfl) rfl rfl ?_
          rintro _ w HS
          have HS : Sep.St [blk nb31 (#[Value.int .i64 (((a2).getD (x16).toNat default).Way), Value.int .i64 (((a2).getD (x16).toNat default).N), Value.slice ea28 (((a2).getD (x16).toNat default).B).length em29]) 39, fsl 1 (.slice ea28 (((a2).getD (x16).toNat default).B).length em29) (((a2).getD (x16).toNat default).B).length ((((a2).getD (x16).toNat default).B).map (Value.int .u8)), signalmanref6_Order.at bt11_0 (x17), reorder_Order.at bt9_0 (x18), reorder_Order.at bt7_0 (x19), tie signalmanlaw14_Act.El sd2 (a2), R] w0 w := HS
          refine W.nil ?_
          refine At.next ?_
          refine V.keep [(2, Value.slice (some ⟨eb24, eo25, none⟩) (a2).length sc2), (8, Value.pointer (some ⟨bt7_0, 0, none⟩)), (9, Value.pointer (some ⟨bt9_0, 0, none⟩)), (10, Value.pointer (some ⟨bt11_0, 0, none⟩)), (11, Value.int .i64 (x16)), (12, Value.pointer (some ⟨nb31, 0, none⟩))] ⟨rfl, rfl, rfl, rfl, rfl, rfl, trivial⟩ ?_
          refine V.seq ?_
          refine V.seq ?_
          refine V.region ?_
          refine W.rd (X.fieldAddr 2 fo39_2 rfl) rfl rfl rfl ?_
          refine W.rd (X.loadAt 0 HS rfl Try.underlying26 rfl rfl rfl) rfl rfl rfl ?_
          refine W.rd (X.lenSl Try.underlying26 rfl) rfl rfl rfl ?_
          refine W.rd (X.cmp (decide (((((a2).getD (x16).toNat default).B).length : Int) > 60)) rfl rfl rfl rfl) rfl rfl rfl ?_
          refine W.nil ?_
          refine At.next ?_
          refine V.keep [(2, Value.slice (some ⟨eb24, eo25, none⟩) (a2).length sc2), (8, Value.pointer (some ⟨bt7_0, 0, none⟩)), (9, Value.pointer (some ⟨bt9_0, 0, none⟩)), (10, Value.pointer (some ⟨bt11_0, 0, none⟩)), (11, Value.int .i64 (x16)), (12, Value.pointer (some ⟨nb31, 0, none⟩)), (46, Value.bool (decide (((((a2).getD (x16).toNat default).B).length : Int) > 60)))] ⟨rfl, rfl, rfl, rfl, rfl, rfl, rfl, trivial⟩ ?_
          by_cases c34 : ((((a2).getD (x16).toNat default).B).length : Int) > 60
          · replace H := ite_t c34 H
            refine V.condT (sb (decide_eq_true c34)) ?_
            refine V.seq ?_
            refine V.region ?_
            refine W.rd (X.assign rfl) rfl rfl rfl ?_
            refine W.nil ?_
            refine At.next ?_
            refine V.keep [(6, Value.bool (true))] ⟨rfl, trivial⟩ ?_
            refine V.ret ?_
            refine At.thenRet ?_
            refine At.blockRet ?_
            refine At.thenRet ?_
            refine At.thenRet ?_
            refine At.blockRet ?_
            refine At.thenRet ?_
            replace HS := HS.sel [6] [0, 1, 2, 3, 4, 5] (by kernel_rfl)
            cases H
            exact At.ret1 rfl rfl ⟨_, rfl, rfl, HS⟩
          · replace H := ite_f c34 H
            refine V.condF (sb (decide_eq_false c34)) ?_
            refine V.skip ?_
            refine At.next ?_
            refine V.keep [(2, Value.slice (some ⟨eb24, eo25, none⟩) (a2).length sc2), (8, Value.pointer (some ⟨bt7_0, 0, none⟩)), (9, Value.pointer (some ⟨bt9_0, 0, none⟩)), (10, Value.pointer (some ⟨bt11_0, 0, none⟩)), (11, Value.int .i64 (x16)), (12, Value.pointer (some ⟨nb31, 0, none⟩))] ⟨rfl, rfl, rfl, rfl, rfl, rfl, trivial⟩ ?_
            refine V.seq ?_
            refine V.region ?_
            refine W.rd (X.move rfl) rfl rfl rfl ?_
            refine W.ev (Y.litB (e := 5) (sz := 1) (vs := #[(0, Value.int .u8 (1))]) [Value.int .u8 (1)] HS (fun a ha => by simp only [List.map_toArray, List.map_cons, List.map_nil]; try rfl) rfl (by decide) (fun _ => by kernel_rfl)) rfl rfl rfl ?_
            rintro _ w ⟨lb37, rfl, HS⟩
            have HS : Sep.St [row 5 1 (.slice (some ⟨lb37, 0, none⟩) (([1] : List Int)).length 1) (([1] : List Int)).length ((([1] : List Int)).map (Value.int .u8)), blk nb31 (#[Value.int .i64 (((a2).getD (x16).toNat default).Way), Value.int .i64 (((a2).getD (x16).toNat default).N), Value.slice ea28 (((a2).getD (x16).toNat default).B).length em29]) 39, fsl 1 (.slice ea28 (((a2).getD (x16).toNat default).B).length em29) (((a2).getD (x16).toNat default).B).length ((((a2).getD (x16).toNat default).B).map (Value.int .u8)), signalmanref6_Order.at bt11_0 (x17), reorder_Order.at bt9_0 (x18), reorder_Order.at bt7_0 (x19), tie signalmanlaw14_Act.El sd2 (a2), R] w0 w := HS
            obtain ⟨t38, A39, H⟩ := bind_s H
            replace HS := HS.re [4, 0, 1, 2, 3, 5, 6, 7] (by kernel_rfl)
            have HS : Sep.St [reorder_Order.at bt9_0 (x18), row 5 1 (.slice (some ⟨lb37, 0, none⟩) (([1] : List Int)).length 1) (([1] : List Int)).length ((([1] : List Int)).map (Value.int .u8)), blk nb31 (#[Value.int .i64 (((a2).getD (x16).toNat default).Way), Value.int .i64 (((a2).getD (x16).toNat default).N), Value.slice ea28 (((a2).getD (x16).toNat default).B).length em29]) 39, fsl 1 (.slice ea28 (((a2).getD (x16).toNat default).B).length em29) (((a2).getD (x16).toNat default).B).length ((((a2).getD (x16).toNat default).B).map (Value.int .u8)), signalmanref6_Order.at bt11_0 (x17), reorder_Order.at bt7_0 (x19), tie signalmanlaw14_Act.El sd2 (a2), R] w0 w := HS
            refine W.ev (Y.call Try.func9 (by kernel_rfl) rfl (vs := [Value.pointer (some ⟨bt9_0, 0, none⟩), Value.int .i64 (0), Value.slice (some ⟨lb37, 0, none⟩) (([1] : List Int)).length 1]) rfl (reorder_Order_Put.calls kq20 x18 0 ([1] : List Int) _ w0 _ bt9_0 (some ⟨lb37, 0, none⟩) 1 t38 (rdC.part 0 row_rd rfl) A39 (Sep.St.tailJoin (m := [reorder_Order.at bt9_0 (x18)]) (r := [row 5 1 (.slice (some ⟨lb37, 0, none⟩) (([1] : List Int)).length 1) (([1] : List Int)).length ((([1] : List Int)).map (Value.int .u8)), blk nb31 (#[Value.int .i64 (((a2).getD (x16).toNat default).Way), Value.int .i64 (((a2).getD (x16).toNat default).N), Value.slice ea28 (((a2).getD (x16).toNat default).B).length em29]) 39, fsl 1 (.slice ea28 (((a2).getD (x16).toNat default).B).length em29) (((a2).getD (x16).toNat default).B).length ((((a2).getD (x16).toNat default).B).map (Value.int .u8)), signalmanref6_Order.at bt11_0 (x17), reorder_Order.at bt7_0 (x19), tie signalmanlaw14_Act.El sd2 (a2), R]) HS))) rfl rfl rfl ?_
            rintro _ w ⟨rfl, HS⟩
            replace HS := Sep.St.tailOpen (m := [reorder_Order.at bt9_0 (t38.2)]) (r := [row 5 1 (.slice (some ⟨lb37, 0, none⟩) (([1] : List Int)).length 1) (([1] : List Int)).length ((([1] : List Int)).map (Value.int .u8)), blk nb31 (#[Value.int .i64 (((a2).getD (x16).toNat default).Way), Value.int .i64 (((a2).getD (x16).toNat default).N), Value.slice ea28 (((a2).getD (x16).toNat default).B).length em29]) 39, fsl 1 (.slice ea28 (((a2).getD (x16).toNat default).B).length em29) (((a2).getD (x16).toNat default).B).length ((((a2).getD (x16).toNat default).B).map (Value.int .u8)), signalmanref6_Order.at bt11_0 (x17), reorder_Order.at bt7_0 (x19), tie signalmanlaw14_Act.El sd2 (a2), R]) HS
            have HS : Sep.St [reorder_Order.at bt9_0 (t38.2), row 5 1 (.slice (some ⟨lb37, 0, none⟩) (([1] : List Int)).length 1) (([1] : List Int)).length ((([1] : List Int)).map (Value.int .u8)), blk nb31 (#[Value.int .i64 (((a2).getD (x16).toNat default).Way), Value.int .i64 (((a2).getD (x16).toNat default).N), Value.slice ea28 (((a2).getD (x16).toNat default).B).length em29]) 39, fsl 1 (.slice ea28 (((a2).getD (x16).toNat default).B).length em29) (((a2).getD (x16).toNat default).B).length ((((a2).getD (x16).toNat default).B).map (Value.int .u8)), signalmanref6_Order.at bt11_0 (x17), reorder_Order.at bt7_0 (x19), tie signalmanlaw14_Act.El sd2 (a2), R] w0 w := HS
            refine W.nil ?_
            refine At.next ?_
            refine V.keep [(2, Value.slice (some ⟨eb24, eo25, none⟩) (a2).length sc2), (8, Value.pointer (some ⟨bt7_0, 0, none⟩)), (9, Value.pointer (some ⟨bt9_0, 0, none⟩)), (10, Value.pointer (some ⟨bt11_0, 0, none⟩)), (11, Value.int .i64 (x16)), (12, Value.pointer (some ⟨nb31, 0, none⟩))] ⟨rfl, rfl, rfl, rfl, rfl, rfl, trivial⟩ ?_
            refine V.meet (σ := signalmanref6_Order × reorder_Order) (fun st w => match st with | (x41, x42) => Sep.St [signalmanlaw14_Act.at nb31 (((a2).getD (x16).toNat default)), reorder_Order.at bt9_0 (t38.2), row 5 1 (.slice (some ⟨lb37, 0, none⟩) (([1] : List Int)).length 1) (([1] : List Int)).length ((([1] : List Int)).map (Value.int .u8)), fsl 1 (.slice ea28 (((a2).getD (x16).toNat default).B).length em29) (((a2).getD (x16).toNat default).B).length ((((a2).getD (x16).toNat default).B).map (Value.int .u8)), signalmanref6_Order.at bt11_0 (x41), reorder_Order.at bt7_0 (x42), tie signalmanlaw14_Act.El sd2 (a2), R] w0 w ∧ ∃ kf43, kf43 ≤ kq20 ∧ signalmanlaw14_ReorderPlays.j2 x16 t38 (signalmanlaw14_ReorderPlays.l1 kf43 a2) x41 x42 = some r) (fun st => match st with | (x41, x42) => [(2, Value.slice (some ⟨eb24, eo25, none⟩) (a2).length sc2), (8, Value.pointer (some ⟨bt7_0, 0, none⟩)), (9, Value.pointer (some ⟨bt9_0, 0, none⟩)), (10, Value.pointer (some ⟨bt11_0, 0, none⟩)), (11, Value.int .i64 (x16))]) ?_ ?_
            · refine V.seq ?_
              refine V.region ?_
              refine W.rd (X.fieldAddr 0 fo39_0 rfl) rfl rfl rfl ?_
              refine W.rd (X.loadAt 2 HS rfl Try.underlying3 rfl rfl rfl) rfl rfl rfl ?_
              refine W.nil ?_
              refine At.next ?_
              refine V.keep [(2, Value.slice (some ⟨eb24, eo25, none⟩) (a2).length sc2), (8, Value.pointer (some ⟨bt7_0, 0, none⟩)), (9, Value.pointer (some ⟨bt9_0, 0, none⟩)), (10, Value.pointer (some ⟨bt11_0, 0, none⟩)), (11, Value.int .i64 (x16)), (12, Value.pointer (some ⟨nb31, 0, none⟩)), (51, Value.int .i64 (((a2).getD (x16).toNat default).Way))] ⟨rfl, rfl, rfl, rfl, rfl, rfl, rfl, trivial⟩ ?_
              refine V.block ?_
              refine V.seq ?_
              refine V.region ?_
              refine W.rd (X.cmp (decide ((((a2).getD (x16).toNat default).Way) = 0)) rfl rfl rfl rfl) rfl rfl rfl ?_
              refine W.rd (X.assign rfl) rfl rfl rfl ?_
              refine W.nil ?_
              refine At.next ?_
              refine V.keep [(2, Value.slice (some ⟨eb24, eo25, none⟩) (a2).length sc2), (8, Value.pointer (some ⟨bt7_0, 0, none⟩)), (9, Value.pointer (some ⟨bt9_0, 0, none⟩)), (10, Value.pointer (some ⟨bt11_0, 0, none⟩)), (11, Value.int .i64 (x16)), (12, Value.pointer (some ⟨nb31, 0, none⟩)), (51, Value.int .i64 (((a2).getD (x16).toNat default).Way)), (52, Value.bool (decide ((((a2).getD (x16).toNat default).Way) = 0)))] ⟨rfl, rfl, rfl, rfl, rfl, rfl, rfl, rfl, trivial⟩ ?_
              by_cases c59 : (((a2).getD (x16).toNat default).Way) = 0
              · replace H := ite_t c59 H
                refine V.condT (sb (decide_eq_true c59)) ?_
                refine V.seq ?_
                refine V.draw (es := [5, 6, 12]) (bl := [13]) (f := [(54, Value.pointer (some ⟨bt7_0, 0, none⟩)), (55, Value.pointer (some ⟨nb31, 0 + 1, none⟩)), (56, Value.int .i64 (((a2).getD (x16).toNat default).N)), (57, Value.pointer (some ⟨nb31, 0 + 2, none⟩)), (58, Value.slice ea28 (((a2).getD (x16).toNat default).B).length em29), (61, Value.pointer (some ⟨bt11_0, 0, none⟩)), (62, Value.pointer (some ⟨nb31, 0 + 1, none⟩)), (63, Value.int .i64 (((a2).getD (x16).toNat default).N)), (64, Value.pointer (some ⟨nb31, 0 + 2, none⟩)), (65, Value.slice ea28 (((a2).getD (x16).toNat default).B).length em29)]) (fun w => Sep.St [reorder_Order.at bt9_0 (t38.2), row 5 1 (.slice (some ⟨lb37, 0, none⟩) (([1] : List Int)).length 1) (([1] : List Int)).length ((([1] : List Int)).map (Value.int .u8)), blk nb31 (#[Value.int .i64 (((a2).getD (x16).toNat default).Way), Value.int .i64 (((a2).getD (x16).toNat default).N), Value.slice ea28 (((a2).getD (x16).toNat default).B).length em29]) 39, fsl 1 (.slice ea28 (((a2).getD (x16).toNat default).B).length em29) (((a2).getD (x16).toNat default).B).length ((((a2).getD (x16).toNat default).B).map (Value.int .u8)), signalmanref6_Order.at bt11_0 (x17), reorder_Order.at bt7_0 (x19), tie signalmanlaw14_Act.El sd2 (a2), R] w0 w) mo HS.drew rfl ?_
                refine T.event _ [(58, Value.slice ea28 (((a2).getD (x16).toNat default).B).length em29)] rfl rfl ⟨⟨_, Value.pointer (some ⟨bt7_0, 0, none⟩), [(8, Value.pointer (some ⟨bt7_0, 0, none⟩))], 54, rfl, rfl, ⟨.inl ⟨rfl, rfl⟩, trivial⟩, .run rfl (fun w HS => X.move rfl), rfl, rfl, rfl⟩, ⟨_, Value.pointer (some ⟨nb31, 0 + 1, none⟩), [(12, Value.pointer (some ⟨nb31, 0, none⟩))], 55, rfl, rfl, ⟨.inl ⟨rfl, rfl⟩, trivial⟩, .run rfl (fun w HS => X.fieldAddr 1 fo39_1 rfl), rfl, rfl, rfl⟩, ⟨_, Value.int .i64 (((a2).getD (x16).toNat default).N), [(55, Value.pointer (some ⟨nb31, 0 + 1, none⟩))], 56, rfl, rfl, ⟨.inr ⟨rfl, rfl⟩, trivial⟩, .run rfl (fun w HS => X.loadAt 2 HS rfl Try.underlying3 rfl rfl rfl), rfl, rfl, rfl⟩, ⟨_, Value.pointer (some ⟨nb31, 0 + 2, none⟩), [(12, Value.pointer (some ⟨nb31, 0, none⟩))], 57, rfl, rfl, ⟨.inl ⟨rfl, rfl⟩, trivial⟩, .run rfl (fun w HS => X.fieldAddr 2 fo39_2 rfl), rfl, rfl, rfl⟩, ⟨_, Value.slice ea28 (((a2).getD (x16).toNat default).B).length em29, [(57, Value.pointer (some ⟨nb31, 0 + 2, none⟩))], 58, rfl, rfl, ⟨.inr ⟨rfl, rfl⟩, trivial⟩, .run rfl (fun w HS => X.loadAt 2 HS rfl Try.underlying26 rfl rfl rfl), rfl, rfl, rfl⟩, ⟨_, Value.pointer (some ⟨bt11_0, 0, none⟩), [(10, Value.pointer (some ⟨bt11_0, 0, none⟩))], 61, rfl, rfl, ⟨.inl ⟨rfl, rfl⟩, trivial⟩, .run rfl (fun w HS => X.move rfl), rfl, rfl, rfl⟩, ⟨_, Value.pointer (some ⟨nb31, 0 + 1, none⟩), [(12, Value.pointer (some ⟨nb31, 0, none⟩))], 62, rfl, rfl, ⟨.inl ⟨rfl, rfl⟩, trivial⟩, .run rfl (fun w HS => X.fieldAddr 1 fo39_1 rfl), rfl, rfl, rfl⟩, ⟨_, Value.int .i64 (((a2).getD (x16).toNat default).N), [(62, Value.pointer (some ⟨nb31, 0 + 1, none⟩))], 63, rfl, rfl, ⟨.inr ⟨rfl, rfl⟩, trivial⟩, .run rfl (fun w HS => X.loadAt 2 HS rfl Try.underlying3 rfl rfl rfl), rfl, rfl, rfl⟩, ⟨_, Value.pointer (some ⟨nb31, 0 + 2, none⟩), [(12, Value.pointer (some ⟨nb31, 0, none⟩))], 64, rfl, rfl, ⟨.inl ⟨rfl, rfl⟩, trivial⟩, .run rfl (fun w HS => X.fieldAddr 2 fo39_2 rfl), rfl, rfl, rfl⟩, ⟨_, Value.slice ea28 (((a2).getD (x16).toNat default).B).length em29, [(64, Value.pointer (some ⟨nb31, 0 + 2, none⟩))], 65, rfl, rfl, ⟨.inr ⟨rfl, rfl⟩, trivial⟩, .run rfl (fun w HS => X.loadAt 2 HS rfl Try.underlying26 rfl rfl rfl), rfl, rfl, rfl⟩, trivial⟩ rfl ⟨.inr ⟨rfl, rfl⟩, trivial⟩ (Or.inl rfl) (by intro d hd; cases hd; exact ⟨by decide, rfl, rfl⟩) [13] [3, 4] rfl rfl (fun w HS => ?_)
                have HS : Sep.St [reorder_Order.at bt9_0 (t38.2), row 5 1 (.slice (some ⟨lb37, 0, none⟩) (([1] : List Int)).length 1) (([1] : List Int)).length ((([1] : List Int)).map (Value.int .u8)), blk nb31 (#[Value.int .i64 (((a2).getD (x16).toNat default).Way), Value.int .i64 (((a2).getD (x16).toNat default).N), Value.slice ea28 (((a2).getD (x16).toNat default).B).length em29]) 39, fsl 1 (.slice ea28 (((a2).getD (x16).toNat default).B).length em29) (((a2).getD (x16).toNat default).B).length ((((a2).getD (x16).toNat default).B).map (Value.int .u8)), signalmanref6_Order.at bt11_0 (x17), reorder_Order.at bt7_0 (x19), tie signalmanlaw14_Act.El sd2 (a2), R] w0 w := HS
                obtain ⟨c60, H⟩ := ite_n H
                replace HS := row_nil' (e := 5) 1 none HS
                have HS : Sep.St [row 5 1 (.slice none (([] : List Int)).length 0) (([] : List Int)).length ((([] : List Int)).map (Value.int .u8)), reorder_Order.at bt9_0 (t38.2), row 5 1 (.slice (some ⟨lb37, 0, none⟩) (([1] : List Int)).length 1) (([1] : List Int)).length ((([1] : List Int)).map (Value.int .u8)), blk nb31 (#[Value.int .i64 (((a2).getD (x16).toNat default).Way), Value.int .i64 (((a2).getD (x16).toNat default).N), Value.slice ea28 (((a2).getD (x16).toNat default).B).length em29]) 39, fsl 1 (.slice ea28 (((a2).getD (x16).toNat default).B).length em29) (((a2).getD (x16).toNat default).B).length ((((a2).getD (x16).toNat default).B).map (Value.int .u8)), signalmanref6_Order.at bt11_0 (x17), reorder_Order.at bt7_0 (x19), tie signalmanlaw14_Act.El sd2 (a2), R] w0 w := HS
                refine ⟨_, Y.appF (Value.int .u8) (fun _ => rfl) 0 Try.underlying26 ap5 rfl HS rfl rfl rfl (rdC.at 4 fsl.rd HS rfl) (by omega) (by omega), ?_⟩
                rintro _ w ⟨ra61, rc62, rfl, HS⟩
                have HS : Sep.St [row 5 1 (.slice ra61 (([] : List Int) ++ (((a2).getD (x16).toNat default).B)).length rc62) (([] : List Int) ++ (((a2).getD (x16).toNat default).B)).length ((([] : List Int) ++ (((a2).getD (x16).toNat default).B)).map (Value.int .u8)), reorder_Order.at bt9_0 (t38.2), row 5 1 (.slice (some ⟨lb37, 0, none⟩) (([1] : List Int)).length 1) (([1] : List Int)).length ((([1] : List Int)).map (Value.int .u8)), blk nb31 (#[Value.int .i64 (((a2).getD (x16).toNat default).Way), Value.int .i64 (((a2).getD (x16).toNat default).N), Value.slice ea28 (((a2).getD (x16).toNat default).B).length em29]) 39, fsl 1 (.slice ea28 (((a2).getD (x16).toNat default).B).length em29) (((a2).getD (x16).toNat default).B).length ((((a2).getD (x16).toNat default).B).map (Value.int .u8)), signalmanref6_Order.at bt11_0 (x17), reorder_Order.at bt7_0 (x19), tie signalmanlaw14_Act.El sd2 (a2), R] w0 w := HS
                refine ⟨[(59, Value.slice ra61 (([] : List Int) ++ (((a2).getD (x16).toNat default).B)).length rc62)], fun w => Sep.St [row 5 1 (.slice ra61 (([] : List Int) ++ (((a2).getD (x16).toNat default).B)).length rc62) (([] : List Int) ++ (((a2).getD (x16).toNat default).B)).length ((([] : List Int) ++ (((a2).getD (x16).toNat default).B)).map (Value.int .u8)), reorder_Order.at bt9_0 (t38.2), row 5 1 (.slice (some ⟨lb37, 0, none⟩) (([1] : List Int)).length 1) (([1] : List Int)).length ((([1] : List Int)).map (Value.int .u8)), blk nb31 (#[Value.int .i64 (((a2).getD (x16).toNat default).Way), Value.int .i64 (((a2).getD (x16).toNat default).N), Value.slice ea28 (((a2).getD (x16).toNat default).B).length em29]) 39, fsl 1 (.slice ea28 (((a2).getD (x16).toNat default).B).length em29) (((a2).getD (x16).toNat default).B).length ((((a2).getD (x16).toNat default).B).map (Value.int .u8)), signalmanref6_Order.at bt11_0 (x17), reorder_Order.at bt7_0 (x19), tie signalmanlaw14_Act.El sd2 (a2), R] w0 w, ⟨.inl ⟨rfl, rfl⟩, trivial⟩, ?_, HS⟩
                refine T.event _ [(54, Value.pointer (some ⟨bt7_0, 0, none⟩)), (56, Value.int .i64 (((a2).getD (x16).toNat default).N)), (59, Value.slice ra61 (([] : List Int) ++ (((a2).getD (x16).toNat default).B)).length rc62)] rfl rfl ⟨⟨_, Value.pointer (some ⟨bt7_0, 0, none⟩), [(8, Value.pointer (some ⟨bt7_0, 0, none⟩))], 54, rfl, rfl, ⟨.inl ⟨rfl, rfl⟩, trivial⟩, .run rfl (fun w HS => X.move rfl), rfl, rfl, rfl⟩, ⟨_, Value.pointer (some ⟨nb31, 0 + 1, none⟩), [(12, Value.pointer (some ⟨nb31, 0, none⟩))], 55, rfl, rfl, ⟨.inl ⟨rfl, rfl⟩, trivial⟩, .run rfl (fun w HS => X.fieldAddr 1 fo39_1 rfl), rfl, rfl, rfl⟩, ⟨_, Value.int .i64 (((a2).getD (x16).toNat default).N), [(55, Value.pointer (some ⟨nb31, 0 + 1, none⟩))], 56, rfl, rfl, ⟨.inr ⟨rfl, rfl⟩, trivial⟩, .run rfl (fun w HS => X.loadAt 3 HS rfl Try.underlying3 rfl rfl rfl), rfl, rfl, rfl⟩, ⟨_, Value.pointer (some ⟨bt11_0, 0, none⟩), [(10, Value.pointer (some ⟨bt11_0, 0, none⟩))], 61, rfl, rfl, ⟨.inl ⟨rfl, rfl⟩, trivial⟩, .run rfl (fun w HS => X.move rfl), rfl, rfl, rfl⟩, ⟨_, Value.pointer (some ⟨nb31, 0 + 1, none⟩), [(12, Value.pointer (some ⟨nb31, 0, none⟩))], 62, rfl, rfl, ⟨.inl ⟨rfl, rfl⟩, trivial⟩, .run rfl (fun w HS => X.fieldAddr 1 fo39_1 rfl), rfl, rfl, rfl⟩, ⟨_, Value.int .i64 (((a2).getD (x16).toNat default).N), [(62, Value.pointer (some ⟨nb31, 0 + 1, none⟩))], 63, rfl, rfl, ⟨.inr ⟨rfl, rfl⟩, trivial⟩, .run rfl (fun w HS => X.loadAt 3 HS rfl Try.underlying3 rfl rfl rfl), rfl, rfl, rfl⟩, ⟨_, Value.pointer (some ⟨nb31, 0 + 2, none⟩), [(12, Value.pointer (some ⟨nb31, 0, none⟩))], 64, rfl, rfl, ⟨.inl ⟨rfl, rfl⟩, trivial⟩, .run rfl (fun w HS => X.fieldAddr 2 fo39_2 rfl), rfl, rfl, rfl⟩, ⟨_, Value.slice ea28 (((a2).getD (x16).toNat default).B).length em29, [(64, Value.pointer (some ⟨nb31, 0 + 2, none⟩))], 65, rfl, rfl, ⟨.inr ⟨rfl, rfl⟩, trivial⟩, .run rfl (fun w HS => X.loadAt 3 HS rfl Try.underlying26 rfl rfl rfl), rfl, rfl, rfl⟩, trivial⟩ rfl ⟨.inr ⟨rfl, rfl⟩, ⟨.inr ⟨rfl, rfl⟩, ⟨.inr ⟨rfl, rfl⟩, trivial⟩⟩⟩ (Or.inl rfl) (by intro d hd; cases hd; exact ⟨by decide, rfl, rfl⟩) [13] [0, 1, 2] rfl rfl (fun w HS => ?_)
                have HS : Sep.St [row 5 1 (.slice ra61 (([] : List Int) ++ (((a2).getD (x16).toNat default).B)).length rc62) (([] : List Int) ++ (((a2).getD (x16).toNat default).B)).length ((([] : List Int) ++ (((a2).getD (x16).toNat default).B)).map (Value.int .u8)), reorder_Order.at bt9_0 (t38.2), row 5 1 (.slice (some ⟨lb37, 0, none⟩) (([1] : List Int)).length 1) (([1] : List Int)).length ((([1] : List Int)).map (Value.int .u8)), blk nb31 (#[Value.int .i64 (((a2).getD (x16).toNat default).Way), Value.int .i64 (((a2).getD (x16).toNat default).N), Value.slice ea28 (((a2).getD (x16).toNat default).B).length em29]) 39, fsl 1 (.slice ea28 (((a2).getD (x16).toNat default).B).length em29) (((a2).getD (x16).toNat default).B).length ((((a2).getD (x16).toNat default).B).map (Value.int .u8)), signalmanref6_Order.at bt11_0 (x17), reorder_Order.at bt7_0 (x19), tie signalmanlaw14_Act.El sd2 (a2), R] w0 w := HS
                obtain ⟨t63, A64, H⟩ := bind_s H
                replace HS := HS.re [6, 0, 1, 2, 3, 4, 5, 7, 8] (by kernel_rfl)
                have HS : Sep.St [reorder_Order.at bt7_0 (x19), row 5 1 (.slice ra61 (([] : List Int) ++ (((a2).getD (x16).toNat default).B)).length rc62) (([] : List Int) ++ (((a2).getD (x16).toNat default).B)).length ((([] : List Int) ++ (((a2).getD (x16).toNat default).B)).map (Value.int .u8)), reorder_Order.at bt9_0 (t38.2), row 5 1 (.slice (some ⟨lb37, 0, none⟩) (([1] : List Int)).length 1) (([1] : List Int)).length ((([1] : List Int)).map (Value.int .u8)), blk nb31 (#[Value.int .i64 (((a2).getD (x16).toNat default).Way), Value.int .i64 (((a2).getD (x16).toNat default).N), Value.slice ea28 (((a2).getD (x16).toNat default).B).length em29]) 39, fsl 1 (.slice ea28 (((a2).getD (x16).toNat default).B).length em29) (((a2).getD (x16).toNat default).B).length ((((a2).getD (x16).toNat default).B).map (Value.int .u8)), signalmanref6_Order.at bt11_0 (x17), tie signalmanlaw14_Act.El sd2 (a2), R] w0 w := HS
                refine ⟨_, Y.call Try.func9 (by kernel_rfl) rfl (vs := [Value.pointer (some ⟨bt7_0, 0, none⟩), Value.int .i64 (((a2).getD (x16).toNat default).N), Value.slice ra61 (([] : List Int) ++ (((a2).getD (x16).toNat default).B)).length rc62]) rfl (reorder_Order_Put.calls kq20 x19 (((a2).getD (x16).toNat default).N) (([] : List Int) ++ (((a2).getD (x16).toNat default).B)) _ w0 _ bt7_0 ra61 rc62 t63 (rdC.part 0 row_rd rfl) A64 (Sep.St.tailJoin (m := [reorder_Order.at bt7_0 (x19)]) (r := [row 5 1 (.slice ra61 (([] : List Int) ++ (((a2).getD (x16).toNat default).B)).length rc62) (([] : List Int) ++ (((a2).getD (x16).toNat default).B)).length ((([] : List Int) ++ (((a2).getD (x16).toNat default).B)).map (Value.int .u8)), reorder_Order.at bt9_0 (t38.2), row 5 1 (.slice (some ⟨lb37, 0, none⟩) (([1] : List Int)).length 1) (([1] : List Int)).length ((([1] : List Int)).map (Value.int .u8)), blk nb31 (#[Value.int .i64 (((a2).getD (x16).toNat default).Way), Value.int .i64 (((a2).getD (x16).toNat default).N), Value.slice ea28 (((a2).getD (x16).toNat default).B).length em29]) 39, fsl 1 (.slice ea28 (((a2).getD (x16).toNat default).B).length em29) (((a2).getD (x16).toNat default).B).length ((((a2).getD (x16).toNat default).B).map (Value.int .u8)), signalmanref6_Order.at bt11_0 (x17), tie signalmanlaw14_Act.El sd2 (a2), R]) HS)), ?_⟩
                rintro _ w ⟨rfl, HS⟩
                replace HS := Sep.St.tailOpen (m := [reorder_Order.at bt7_0 (t63.2)]) (r := [row 5 1 (.slice ra61 (([] : List Int) ++ (((a2).getD (x16).toNat default).B)).length rc62) (([] : List Int) ++ (((a2).getD (x16).toNat default).B)).length ((([] : List Int) ++ (((a2).getD (x16).toNat default).B)).map (Value.int .u8)), reorder_Order.at bt9_0 (t38.2), row 5 1 (.slice (some ⟨lb37, 0, none⟩) (([1] : List Int)).length 1) (([1] : List Int)).length ((([1] : List Int)).map (Value.int .u8)), blk nb31 (#[Value.int .i64 (((a2).getD (x16).toNat default).Way), Value.int .i64 (((a2).getD (x16).toNat default).N), Value.slice ea28 (((a2).getD (x16).toNat default).B).length em29]) 39, fsl 1 (.slice ea28 (((a2).getD (x16).toNat default).B).length em29) (((a2).getD (x16).toNat default).B).length ((((a2).getD (x16).toNat default).B).map (Value.int .u8)), signalmanref6_Order.at bt11_0 (x17), tie signalmanlaw14_Act.El sd2 (a2), R]) HS
                have HS : Sep.St [reorder_Order.at bt7_0 (t63.2), row 5 1 (.slice ra61 (([] : List Int) ++ (((a2).getD (x16).toNat default).B)).length rc62) (([] : List Int) ++ (((a2).getD (x16).toNat default).B)).length ((([] : List Int) ++ (((a2).getD (x16).toNat default).B)).map (Value.int .u8)), reorder_Order.at bt9_0 (t38.2), row 5 1 (.slice (some ⟨lb37, 0, none⟩) (([1] : List Int)).length 1) (([1] : List Int)).length ((([1] : List Int)).map (Value.int .u8)), blk nb31 (#[Value.int .i64 (((a2).getD (x16).toNat default).Way), Value.int .i64 (((a2).getD (x16).toNat default).N), Value.slice ea28 (((a2).getD (x16).toNat default).B).length em29]) 39, fsl 1 (.slice ea28 (((a2).getD (x16).toNat default).B).length em29) (((a2).getD (x16).toNat default).B).length ((((a2).getD (x16).toNat default).B).map (Value.int .u8)), signalmanref6_Order.at bt11_0 (x17), tie signalmanlaw14_Act.El sd2 (a2), R] w0 w := HS
                refine ⟨[(60, Value.int .i64 (t63.1))], fun w => Sep.St [reorder_Order.at bt7_0 (t63.2), row 5 1 (.slice ra61 (([] : List Int) ++ (((a2).getD (x16).toNat default).B)).length rc62) (([] : List Int) ++ (((a2).getD (x16).toNat default).B)).length ((([] : List Int) ++ (((a2).getD (x16).toNat default).B)).map (Value.int .u8)), reorder_Order.at bt9_0 (t38.2), row 5 1 (.slice (some ⟨lb37, 0, none⟩) (([1] : List Int)).length 1) (([1] : List Int)).length ((([1] : List Int)).map (Value.int .u8)), blk nb31 (#[Value.int .i64 (((a2).getD (x16).toNat default).Way), Value.int .i64 (((a2).getD (x16).toNat default).N), Value.slice ea28 (((a2).getD (x16).toNat default).B).length em29]) 39, fsl 1 (.slice ea28 (((a2).getD (x16).toNat default).B).length em29) (((a2).getD (x16).toNat default).B).length ((((a2).getD (x16).toNat default).B).map (Value.int .u8)), signalmanref6_Order.at bt11_0 (x17), tie signalmanlaw14_Act.El sd2 (a2), R] w0 w, ⟨.inl ⟨rfl, rfl⟩, trivial⟩, ?_, HS⟩
                refine T.event _ [(61, Value.pointer (some ⟨bt11_0, 0, none⟩)), (63, Value.int .i64 (((a2).getD (x16).toNat default).N)), (65, Value.slice ea28 (((a2).getD (x16).toNat default).B).length em29)] rfl rfl ⟨⟨_, Value.pointer (some ⟨bt11_0, 0, none⟩), [(10, Value.pointer (some ⟨bt11_0, 0, none⟩))], 61, rfl, rfl, ⟨.inl ⟨rfl, rfl⟩, trivial⟩, .run rfl (fun w HS => X.move rfl), rfl, rfl, rfl⟩, ⟨_, Value.pointer (some ⟨nb31, 0 + 1, none⟩), [(12, Value.pointer (some ⟨nb31, 0, none⟩))], 62, rfl, rfl, ⟨.inl ⟨rfl, rfl⟩, trivial⟩, .run rfl (fun w HS => X.fieldAddr 1 fo39_1 rfl), rfl, rfl, rfl⟩, ⟨_, Value.int .i64 (((a2).getD (x16).toNat default).N), [(62, Value.pointer (some ⟨nb31, 0 + 1, none⟩))], 63, rfl, rfl, ⟨.inr ⟨rfl, rfl⟩, trivial⟩, .run rfl (fun w HS => X.loadAt 4 HS rfl Try.underlying3 rfl rfl rfl), rfl, rfl, rfl⟩, ⟨_, Value.pointer (some ⟨nb31, 0 + 2, none⟩), [(12, Value.pointer (some ⟨nb31, 0, none⟩))], 64, rfl, rfl, ⟨.inl ⟨rfl, rfl⟩, trivial⟩, .run rfl (fun w HS => X.fieldAddr 2 fo39_2 rfl), rfl, rfl, rfl⟩, ⟨_, Value.slice ea28 (((a2).getD (x16).toNat default).B).length em29, [(64, Value.pointer (some ⟨nb31, 0 + 2, none⟩))], 65, rfl, rfl, ⟨.inr ⟨rfl, rfl⟩, trivial⟩, .run rfl (fun w HS => X.loadAt 4 HS rfl Try.underlying26 rfl rfl rfl), rfl, rfl, rfl⟩, trivial⟩ rfl ⟨.inr ⟨rfl, rfl⟩, ⟨.inr ⟨rfl, rfl⟩, ⟨.inr ⟨rfl, rfl⟩, trivial⟩⟩⟩ (Or.inl rfl) (by intro d hd; cases hd; exact ⟨by decide, rfl, rfl⟩) [] [7, 8, 9, 10, 11] rfl rfl (fun w HS => ?_)
                have HS : Sep.St [reorder_Order.at bt7_0 (t63.2), row 5 1 (.slice ra61 (([] : List Int) ++ (((a2).getD (x16).toNat default).B)).length rc62) (([] : List Int) ++ (((a2).getD (x16).toNat default).B)).length ((([] : List Int) ++ (((a2).getD (x16).toNat default).B)).map (Value.int .u8)), reorder_Order.at bt9_0 (t38.2), row 5 1 (.slice (some ⟨lb37, 0, none⟩) (([1] : List Int)).length 1) (([1] : List Int)).length ((([1] : List Int)).map (Value.int .u8)), blk nb31 (#[Value.int .i64 (((a2).getD (x16).toNat default).Way), Value.int .i64 (((a2).getD (x16).toNat default).N), Value.slice ea28 (((a2).getD (x16).toNat default).B).length em29]) 39, fsl 1 (.slice ea28 (((a2).getD (x16).toNat default).B).length em29) (((a2).getD (x16).toNat default).B).length ((((a2).getD (x16).toNat default).B).map (Value.int .u8)), signalmanref6_Order.at bt11_0 (x17), tie signalmanlaw14_Act.El sd2 (a2), R] w0 w := HS
                obtain ⟨t65, A66, H⟩ := bind_s H
                replace HS := HS.re [6, 0, 1, 2, 3, 4, 5, 7, 8] (by kernel_rfl)
                have HS : Sep.St [signalmanref6_Order.at bt11_0 (x17), reorder_Order.at bt7_0 (t63.2), row 5 1 (.slice ra61 (([] : List Int) ++ (((a2).getD (x16).toNat default).B)).length rc62) (([] : List Int) ++ (((a2).getD (x16).toNat default).B)).length ((([] : List Int) ++ (((a2).getD (x16).toNat default).B)).map (Value.int .u8)), reorder_Order.at bt9_0 (t38.2), row 5 1 (.slice (some ⟨lb37, 0, none⟩) (([1] : List Int)).length 1) (([1] : List Int)).length ((([1] : List Int)).map (Value.int .u8)), blk nb31 (#[Value.int .i64 (((a2).getD (x16).toNat default).Way), Value.int .i64 (((a2).getD (x16).toNat default).N), Value.slice ea28 (((a2).getD (x16).toNat default).B).length em29]) 39, fsl 1 (.slice ea28 (((a2).getD (x16).toNat default).B).length em29) (((a2).getD (x16).toNat default).B).length ((((a2).getD (x16).toNat default).B).map (Value.int .u8)), tie signalmanlaw14_Act.El sd2 (a2), R] w0 w := HS
                refine ⟨_, Y.call Try.func14 (by kernel_rfl) rfl (vs := [Value.pointer (some ⟨bt11_0, 0, none⟩), Value.int .i64 (((a2).getD (x16).toNat default).N), Value.slice ea28 (((a2).getD (x16).toNat default).B).length em29]) rfl (signalmanref6_Order_Put.calls kq20 x17 (((a2).getD (x16).toNat default).N) (((a2).getD (x16).toNat default).B) _ w0 _ bt11_0 ea28 em29 t65 (rdC.part 5 fsl.rd rfl) A66 (Sep.St.tailJoin (m := [signalmanref6_Order.at bt11_0 (x17)]) (r := [reorder_Order.at bt7_0 (t63.2), row 5 1 (.slice ra61 (([] : List Int) ++ (((a2).getD (x16).toNat default).B)).length rc62) (([] : List Int) ++ (((a2).getD (x16).toNat default).B)).length ((([] : List Int) ++ (((a2).getD (x16).toNat default).B)).map (Value.int .u8)), reorder_Order.at bt9_0 (t38.2), row 5 1 (.slice (some ⟨lb37, 0, none⟩) (([1] : List Int)).length 1) (([1] : List Int)).length ((([1] : List Int)).map (Value.int .u8)), blk nb31 (#[Value.int .i64 (((a2).getD (x16).toNat default).Way), Value.int .i64 (((a2).getD (x16).toNat default).N), Value.slice ea28 (((a2).getD (x16).toNat default).B).length em29]) 39, fsl 1 (.slice ea28 (((a2).getD (x16).toNat default).B).length em29) (((a2).getD (x16).toNat default).B).length ((((a2).getD (x16).toNat default).B).map (Value.int .u8)), tie signalmanlaw14_Act.El sd2 (a2), R]) HS)), ?_⟩
                rintro _ w ⟨rfl, HS⟩
                replace HS := Sep.St.tailOpen (m := [signalmanref6_Order.at bt11_0 (t65.2)]) (r := [reorder_Order.at bt7_0 (t63.2), row 5 1 (.slice ra61 (([] : List Int) ++ (((a2).getD (x16).toNat default).B)).length rc62) (([] : List Int) ++ (((a2).getD (x16).toNat default).B)).length ((([] : List Int) ++ (((a2).getD (x16).toNat default).B)).map (Value.int .u8)), reorder_Order.at bt9_0 (t38.2), row 5 1 (.slice (some ⟨lb37, 0, none⟩) (([1] : List Int)).length 1) (([1] : List Int)).length ((([1] : List Int)).map (Value.int .u8)), blk nb31 (#[Value.int .i64 (((a2).getD (x16).toNat default).Way), Value.int .i64 (((a2).getD (x16).toNat default).N), Value.slice ea28 (((a2).getD (x16).toNat default).B).length em29]) 39, fsl 1 (.slice ea28 (((a2).getD (x16).toNat default).B).length em29) (((a2).getD (x16).toNat default).B).length ((((a2).getD (x16).toNat default).B).map (Value.int .u8)), tie signalmanlaw14_Act.El sd2 (a2), R]) HS
                have HS : Sep.St [signalmanref6_Order.at bt11_0 (t65.2), reorder_Order.at bt7_0 (t63.2), row 5 1 (.slice ra61 (([] : List Int) ++ (((a2).getD (x16).toNat default).B)).length rc62) (([] : List Int) ++ (((a2).getD (x16).toNat default).B)).length ((([] : List Int) ++ (((a2).getD (x16).toNat default).B)).map (Value.int .u8)), reorder_Order.at bt9_0 (t38.2), row 5 1 (.slice (some ⟨lb37, 0, none⟩) (([1] : List Int)).length 1) (([1] : List Int)).length ((([1] : List Int)).map (Value.int .u8)), blk nb31 (#[Value.int .i64 (((a2).getD (x16).toNat default).Way), Value.int .i64 (((a2).getD (x16).toNat default).N), Value.slice ea28 (((a2).getD (x16).toNat default).B).length em29]) 39, fsl 1 (.slice ea28 (((a2).getD (x16).toNat default).B).length em29) (((a2).getD (x16).toNat default).B).length ((((a2).getD (x16).toNat default).B).map (Value.int .u8)), tie signalmanlaw14_Act.El sd2 (a2), R] w0 w := HS
                refine ⟨[(66, Value.int .i64 (t65.1)), (67, Value.bool (!(decide (t63.1 = t65.1))))], fun w => Sep.St [signalmanref6_Order.at bt11_0 (t65.2), reorder_Order.at bt7_0 (t63.2), row 5 1 (.slice ra61 (([] : List Int) ++ (((a2).getD (x16).toNat default).B)).length rc62) (([] : List Int) ++ (((a2).getD (x16).toNat default).B)).length ((([] : List Int) ++ (((a2).getD (x16).toNat default).B)).map (Value.int .u8)), reorder_Order.at bt9_0 (t38.2), row 5 1 (.slice (some ⟨lb37, 0, none⟩) (([1] : List Int)).length 1) (([1] : List Int)).length ((([1] : List Int)).map (Value.int .u8)), blk nb31 (#[Value.int .i64 (((a2).getD (x16).toNat default).Way), Value.int .i64 (((a2).getD (x16).toNat default).N), Value.slice ea28 (((a2).getD (x16).toNat default).B).length em29]) 39, fsl 1 (.slice ea28 (((a2).getD (x16).toNat default).B).length em29) (((a2).getD (x16).toNat default).B).length ((((a2).getD (x16).toNat default).B).map (Value.int .u8)), tie signalmanlaw14_Act.El sd2 (a2), R] w0 w, ⟨.inl ⟨rfl, rfl⟩, ⟨.inr ⟨by decide, rfl⟩, trivial⟩⟩, ?_, HS⟩
                refine T.fin [(2, Value.slice (some ⟨eb24, eo25, none⟩) (a2).length sc2), (8, Value.pointer (some ⟨bt7_0, 0, none⟩)), (9, Value.pointer (some ⟨bt9_0, 0, none⟩)), (10, Value.pointer (some ⟨bt11_0, 0, none⟩)), (11, Value.int .i64 (x16)), (67, Value.bool (!(decide (t63.1 = t65.1))))] rfl ⟨⟨_, Value.bool (!(decide (t63.1 = t65.1))), [(60, Value.int .i64 (t63.1)), (66, Value.int .i64 (t65.1))], 67, rfl, rfl, ⟨.inr ⟨rfl, rfl⟩, ⟨.inr ⟨rfl, rfl⟩, trivial⟩⟩, .run rfl (fun w HS => X.cmp (!(decide (t63.1 = t65.1))) rfl rfl rfl rfl), rfl, rfl, rfl⟩, trivial⟩ ⟨.inl ⟨rfl, rfl⟩, ⟨.inl ⟨rfl, rfl⟩, ⟨.inl ⟨rfl, rfl⟩, ⟨.inl ⟨rfl, rfl⟩, ⟨.inl ⟨rfl, rfl⟩, ⟨.inr ⟨rfl, rfl⟩, trivial⟩⟩⟩⟩⟩⟩ (fun w HS => ?_)
                have HS : Sep.St [signalmanref6_Order.at bt11_0 (t65.2), reorder_Order.at bt7_0 (t63.2), row 5 1 (.slice ra61 (([] : List Int) ++ (((a2).getD (x16).toNat default).B)).length rc62) (([] : List Int) ++ (((a2).getD (x16).toNat default).B)).length ((([] : List Int) ++ (((a2).getD (x16).toNat default).B)).map (Value.int .u8)), reorder_Order.at bt9_0 (t38.2), row 5 1 (.slice (some ⟨lb37, 0, none⟩) (([1] : List Int)).length 1) (([1] : List Int)).length ((([1] : List Int)).map (Value.int .u8)), blk nb31 (#[Value.int .i64 (((a2).getD (x16).toNat default).Way), Value.int .i64 (((a2).getD (x16).toNat default).N), Value.slice ea28 (((a2).getD (x16).toNat default).B).length em29]) 39, fsl 1 (.slice ea28 (((a2).getD (x16).toNat default).B).length em29) (((a2).getD (x16).toNat default).B).length ((((a2).getD (x16).toNat default).B).map (Value.int .u8)), tie signalmanlaw14_Act.El sd2 (a2), R] w0 w := HS
                refine At.next ?_
                refine V.keep [(2, Value.slice (some ⟨eb24, eo25, none⟩) (a2).length sc2), (8, Value.pointer (some ⟨bt7_0, 0, none⟩)), (9, Value.pointer (some ⟨bt9_0, 0, none⟩)), (10, Value.pointer (some ⟨bt11_0, 0, none⟩)), (11, Value.int .i64 (x16)), (67, Value.bool (!(decide (t63.1 = t65.1))))] ⟨rfl, rfl, rfl, rfl, rfl, rfl, trivial⟩ ?_
                by_cases c67 : t63.1 = t65.1
                · replace H := ite_t c67 H
                  refine V.condF (sb (n_t (decide_eq_true c67))) ?_
                  refine V.skip ?_
                  refine At.blockEnd ?_
                  replace HS := HS.more 6 rfl (fun _ t => t) fsl.pers
                  have HS : Sep.St [fsl 1 (.slice ea28 (((a2).getD (x16).toNat default).B).length em29) (((a2).getD (x16).toNat default).B).length ((((a2).getD (x16).toNat default).B).map (Value.int .u8)), signalmanref6_Order.at bt11_0 (t65.2), reorder_Order.at bt7_0 (t63.2), row 5 1 (.slice ra61 (([] : List Int) ++ (((a2).getD (x16).toNat default).B)).length rc62) (([] : List Int) ++ (((a2).getD (x16).toNat default).B)).length ((([] : List Int) ++ (((a2).getD (x16).toNat default).B)).map (Value.int .u8)), reorder_Order.at bt9_0 (t38.2), row 5 1 (.slice (some ⟨lb37, 0, none⟩) (([1] : List Int)).length 1) (([1] : List Int)).length ((([1] : List Int)).map (Value.int .u8)), blk nb31 (#[Value.int .i64 (((a2).getD (x16).toNat default).Way), Value.int .i64 (((a2).getD (x16).toNat default).N), Value.slice ea28 (((a2).getD (x16).toNat default).B).length em29]) 39, fsl 1 (.slice ea28 (((a2).getD (x16).toNat default).B).length em29) (((a2).getD (x16).toNat default).B).length ((((a2).getD (x16).toNat default).B).map (Value.int .u8)), tie signalmanlaw14_Act.El sd2 (a2), R] w0 w := HS
                  replace HS := HS.re [6, 0, 1, 2, 3, 4, 5, 7, 8, 9] (by kernel_rfl)
                  have HS : Sep.St [blk nb31 (#[Value.int .i64 (((a2).getD (x16).toNat default).Way), Value.int .i64 (((a2).getD (x16).toNat default).N), Value.slice ea28 (((a2).getD (x16).toNat default).B).length em29]) 39, fsl 1 (.slice ea28 (((a2).getD (x16).toNat default).B).length em29) (((a2).getD (x16).toNat default).B).length ((((a2).getD (x16).toNat default).B).map (Value.int .u8)), signalmanref6_Order.at bt11_0 (t65.2), reorder_Order.at bt7_0 (t63.2), row 5 1 (.slice ra61 (([] : List Int) ++ (((a2).getD (x16).toNat default).B)).length rc62) (([] : List Int) ++ (((a2).getD (x16).toNat default).B)).length ((([] : List Int) ++ (((a2).getD (x16).toNat default).B)).map (Value.int .u8)), reorder_Order.at bt9_0 (t38.2), row 5 1 (.slice (some ⟨lb37, 0, none⟩) (([1] : List Int)).length 1) (([1] : List Int)).length ((([1] : List Int)).map (Value.int .u8)), fsl 1 (.slice ea28 (((a2).getD (x16).toNat default).B).length em29) (((a2).getD (x16).toNat default).B).length ((((a2).getD (x16).toNat default).B).map (Value.int .u8)), tie signalmanlaw14_Act.El sd2 (a2), R] w0 w := HS
                  replace HS := signalmanlaw14_Act.close (((a2).getD (x16).toNat default)) trivial HS
                  have HS : Sep.St [signalmanlaw14_Act.at nb31 (((a2).getD (x16).toNat default)), signalmanref6_Order.at bt11_0 (t65.2), reorder_Order.at bt7_0 (t63.2), row 5 1 (.slice ra61 (([] : List Int) ++ (((a2).getD (x16).toNat default).B)).length rc62) (([] : List Int) ++ (((a2).getD (x16).toNat default).B)).length ((([] : List Int) ++ (((a2).getD (x16).toNat default).B)).map (Value.int .u8)), reorder_Order.at bt9_0 (t38.2), row 5 1 (.slice (some ⟨lb37, 0, none⟩) (([1] : List Int)).length 1) (([1] : List Int)).length ((([1] : List Int)).map (Value.int .u8)), fsl 1 (.slice ea28 (((a2).getD (x16).toNat default).B).length em29) (((a2).getD (x16).toNat default).B).length ((((a2).getD (x16).toNat default).B).map (Value.int .u8)), tie signalmanlaw14_Act.El sd2 (a2), R] w0 w := HS
                  replace HS := HS.sel [0, 4, 5, 6, 1, 2, 7, 8] [3] (by kernel_rfl)
                  exact At.meet (t65.2, t63.2) ⟨rfl, rfl, rfl, rfl, rfl, trivial⟩ ⟨HS, kq20, by omega, H⟩
                · replace H := ite_f c67 H
                  refine V.condT (sb (n_f (decide_eq_false c67))) ?_
                  refine V.seq ?_
                  refine V.region ?_
                  refine W.rd (X.assign rfl) rfl rfl rfl ?_
                  refine W.nil ?_
                  refine At.next ?_
                  refine V.keep [(6, Value.bool (false))] ⟨rfl, trivial⟩ ?_
                  refine V.ret ?_
                  refine At.blockRet ?_
                  refine At.thenRet ?_
                  refine At.blockRet ?_
                  refine At.thenRet ?_
                  refine At.thenRet ?_
                  refine At.blockRet ?_
                  refine At.thenRet ?_
                  replace HS := HS.sel [8] [0, 1, 2, 3, 4, 5, 6, 7] (by kernel_rfl)
                  cases H
                  exact At.ret1 rfl rfl ⟨_, rfl, rfl, HS⟩
              · replace H := ite_f c59 H
                refine V.condF (sb (decide_eq_false c59)) ?_
                refine V.seq ?_
                refine V.region ?_
                refine W.rd (X.cmp (decide ((((a2).getD (x16).toNat default).Way) = 1)) rfl rfl rfl rfl) rfl rfl rfl ?_
                refine W.rd (X.assign rfl) rfl rfl rfl ?_
                refine W.nil ?_
                refine At.next ?_
                refine V.keep [(2, Value.slice (some ⟨eb24, eo25, none⟩) (a2).length sc2), (8, Value.pointer (some ⟨bt7_0, 0, none⟩)), (9, Value.pointer (some ⟨bt9_0, 0, none⟩)), (10, Value.pointer (some ⟨bt11_0, 0, none⟩)), (11, Value.int .i64 (x16)), (51, Value.int .i64 (((a2).getD (x16).toNat default).Way)), (68, Value.bool (decide ((((a2).getD (x16).toNat default).Way) = 1)))] ⟨rfl, rfl, rfl, rfl, rfl, rfl, rfl, trivial⟩ ?_
                by_cases c68 : (((a2).getD (x16).toNat default).Way) = 1
                · replace H := ite_t c68 H
                  refine V.condT (sb (decide_eq_true c68)) ?_
                  refine V.seq ?_
                  refine V.region ?_
                  refine W.rd (X.move rfl) rfl rfl rfl ?_
                  obtain ⟨t69, A70, H⟩ := bind_s H
                  replace HS := HS.re [5, 0, 1, 2, 3, 4, 6, 7] (by kernel_rfl)
                  have HS : Sep.St [reorder_Order.at bt7_0 (x19), reorder_Order.at bt9_0 (t38.2), row 5 1 (.slice (some ⟨lb37, 0, none⟩) (([1] : List Int)).length 1) (([1] : List Int)).length ((([1] : List Int)).map (Value.int .u8)), blk nb31 (#[Value.int .i64 (((a2).getD (x16).toNat default).Way), Value.int .i64 (((a2).getD (x16).toNat default).N), Value.slice ea28 (((a2).getD (x16).toNat default).B).length em29]) 39, fsl 1 (.slice ea28 (((a2).getD (x16).toNat default).B).length em29) (((a2).getD (x16).toNat default).B).length ((((a2).getD (x16).toNat default).B).map (Value.int .u8)), signalmanref6_Order.at bt11_0 (x17), tie signalmanlaw14_Act.El sd2 (a2), R] w0 w := HS
                  refine W.ev (Y.call Try.func11 (by kernel_rfl) rfl (vs := [Value.pointer (some ⟨bt7_0, 0, none⟩)]) rfl (reorder_Order_Take.calls x19 _ w0 _ bt7_0 t69  A70 (Sep.St.tailJoin (m := [reorder_Order.at bt7_0 (x19)]) (r := [reorder_Order.at bt9_0 (t38.2), row 5 1 (.slice (some ⟨lb37, 0, none⟩) (([1] : List Int)).length 1) (([1] : List Int)).length ((([1] : List Int)).map (Value.int .u8)), blk nb31 (#[Value.int .i64 (((a2).getD (x16).toNat default).Way), Value.int .i64 (((a2).getD (x16).toNat default).N), Value.slice ea28 (((a2).getD (x16).toNat default).B).length em29]) 39, fsl 1 (.slice ea28 (((a2).getD (x16).toNat default).B).length em29) (((a2).getD (x16).toNat default).B).length ((((a2).getD (x16).toNat default).B).map (Value.int .u8)), signalmanref6_Order.at bt11_0 (x17), tie signalmanlaw14_Act.El sd2 (a2), R]) HS))) rfl rfl rfl ?_
                  rintro _ w ⟨at69_0, ct69_0, rfl, HS⟩
                  replace HS := Sep.St.tailOpen (m := [fsl 1 (.slice at69_0 (t69.1).length ct69_0) (t69.1).length ((t69.1).map (Value.int .u8)), reorder_Order.at bt7_0 (t69.2.2)]) (r := [reorder_Order.at bt9_0 (t38.2), row 5 1 (.slice (some ⟨lb37, 0, none⟩) (([1] : List Int)).length 1) (([1] : List Int)).length ((([1] : List Int)).map (Value.int .u8)), blk nb31 (#[Value.int .i64 (((a2).getD (x16).toNat default).Way), Value.int .i64 (((a2).getD (x16).toNat default).N), Value.slice ea28 (((a2).getD (x16).toNat default).B).length em29]) 39, fsl 1 (.slice ea28 (((a2).getD (x16).toNat default).B).length em29) (((a2).getD (x16).toNat default).B).length ((((a2).getD (x16).toNat default).B).map (Value.int .u8)), signalmanref6_Order.at bt11_0 (x17), tie signalmanlaw14_Act.El sd2 (a2), R]) HS
                  have HS : Sep.St [fsl 1 (.slice at69_0 (t69.1).length ct69_0) (t69.1).length ((t69.1).map (Value.int .u8)), reorder_Order.at bt7_0 (t69.2.2), reorder_Order.at bt9_0 (t38.2), row 5 1 (.slice (some ⟨lb37, 0, none⟩) (([1] : List Int)).length 1) (([1] : List Int)).length ((([1] : List Int)).map (Value.int .u8)), blk nb31 (#[Value.int .i64 (((a2).getD (x16).toNat default).Way), Value.int .i64 (((a2).getD (x16).toNat default).N), Value.slice ea28 (((a2).getD (x16).toNat default).B).length em29]) 39, fsl 1 (.slice ea28 (((a2).getD (x16).toNat default).B).length em29) (((a2).getD (x16).toNat default).B).length ((((a2).getD (x16).toNat default).B).map (Value.int .u8)), signalmanref6_Order.at bt11_0 (x17), tie signalmanlaw14_Act.El sd2 (a2), R] w0 w := HS
                  refine W.rd (X.move rfl) rfl rfl rfl ?_
                  refine W.rd (X.extract rfl rfl) rfl rfl rfl ?_
                  refine W.rd (X.extract rfl rfl) rfl rfl rfl ?_
                  refine W.rd (X.assign rfl) rfl rfl rfl ?_
                  refine W.rd (X.assign rfl) rfl rfl rfl ?_
                  refine W.nil ?_
                  refine At.next ?_
                  refine V.keep [(2, Value.slice (some ⟨eb24, eo25, none⟩) (a2).length sc2), (8, Value.pointer (some ⟨bt7_0, 0, none⟩)), (9, Value.pointer (some ⟨bt9_0, 0, none⟩)), (10, Value.pointer (some ⟨bt11_0, 0, none⟩)), (11, Value.int .i64 (x16)), (13, Value.slice at69_0 (t69.1).length ct69_0), (14, Value.bool (t69.2.1))] ⟨rfl, rfl, rfl, rfl, rfl, rfl, rfl, trivial⟩ ?_
                  refine V.seq ?_
                  refine V.region ?_
                  refine W.rd (X.move rfl) rfl rfl rfl ?_
                  obtain ⟨t71, A72, H⟩ := bind_s H
                  replace HS := HS.re [6, 0, 1, 2, 3, 4, 5, 7, 8] (by kernel_rfl)
                  have HS : Sep.St [signalmanref6_Order.at bt11_0 (x17), fsl 1 (.slice at69_0 (t69.1).length ct69_0) (t69.1).length ((t69.1).map (Value.int .u8)), reorder_Order.at bt7_0 (t69.2.2), reorder_Order.at bt9_0 (t38.2), row 5 1 (.slice (some ⟨lb37, 0, none⟩) (([1] : List Int)).length 1) (([1] : List Int)).length ((([1] : List Int)).map (Value.int .u8)), blk nb31 (#[Value.int .i64 (((a2).getD (x16).toNat default).Way), Value.int .i64 (((a2).getD (x16).toNat default).N), Value.slice ea28 (((a2).getD (x16).toNat default).B).length em29]) 39, fsl 1 (.slice ea28 (((a2).getD (x16).toNat default).B).length em29) (((a2).getD (x16).toNat default).B).length ((((a2).getD (x16).toNat default).B).map (Value.int .u8)), tie signalmanlaw14_Act.El sd2 (a2), R] w0 w := HS
                  refine W.ev (Y.call Try.func15 (by kernel_rfl) rfl (vs := [Value.pointer (some ⟨bt11_0, 0, none⟩)]) rfl (signalmanref6_Order_Take.calls x17 _ w0 _ bt11_0 t71  A72 (Sep.St.tailJoin (m := [signalmanref6_Order.at bt11_0 (x17)]) (r := [fsl 1 (.slice at69_0 (t69.1).length ct69_0) (t69.1).length ((t69.1).map (Value.int .u8)), reorder_Order.at bt7_0 (t69.2.2), reorder_Order.at bt9_0 (t38.2), row 5 1 (.slice (some ⟨lb37, 0, none⟩) (([1] : List Int)).length 1) (([1] : List Int)).length ((([1] : List Int)).map (Value.int .u8)), blk nb31 (#[Value.int .i64 (((a2).getD (x16).toNat default).Way), Value.int .i64 (((a2).getD (x16).toNat default).N), Value.slice ea28 (((a2).getD (x16).toNat default).B).length em29]) 39, fsl 1 (.slice ea28 (((a2).getD (x16).toNat default).B).length em29) (((a2).getD (x16).toNat default).B).length ((((a2).getD (x16).toNat default).B).map (Value.int .u8)), tie signalmanlaw14_Act.El sd2 (a2), R]) HS))) rfl rfl rfl ?_
                  rintro _ w ⟨at71_0, ct71_0, rfl, HS⟩
                  replace HS := Sep.St.tailOpen (m := [fsl 1 (.slice at71_0 (t71.1).length ct71_0) (t71.1).length ((t71.1).map (Value.int .u8)), signalmanref6_Order.at bt11_0 (t71.2.2)]) (r := [fsl 1 (.slice at69_0 (t69.1).length ct69_0) (t69.1).length ((t69.1).map (Value.int .u8)), reorder_Order.at bt7_0 (t69.2.2), reorder_Order.at bt9_0 (t38.2), row 5 1 (.slice (some ⟨lb37, 0, none⟩) (([1] : List Int)).length 1) (([1] : List Int)).length ((([1] : List Int)).map (Value.int .u8)), blk nb31 (#[Value.int .i64 (((a2).getD (x16).toNat default).Way), Value.int .i64 (((a2).getD (x16).toNat default).N), Value.slice ea28 (((a2).getD (x16).toNat default).B).length em29]) 39, fsl 1 (.slice ea28 (((a2).getD (x16).toNat default).B).length em29) (((a2).getD (x16).toNat default).B).length ((((a2).getD (x16).toNat default).B).map (Value.int .u8)), tie signalmanlaw14_Act.El sd2 (a2), R]) HS
                  have HS : Sep.St [fsl 1 (.slice at71_0 (t71.1).length ct71_0) (t71.1).length ((t71.1).map (Value.int .u8)), signalmanref6_Order.at bt11_0 (t71.2.2), fsl 1 (.slice at69_0 (t69.1).length ct69_0) (t69.1).length ((t69.1).map (Value.int .u8)), reorder_Order.at bt7_0 (t69.2.2), reorder_Order.at bt9_0 (t38.2), row 5 1 (.slice (some ⟨lb37, 0, none⟩) (([1] : List Int)).length 1) (([1] : List Int)).length ((([1] : List Int)).map (Value.int .u8)), blk nb31 (#[Value.int .i64 (((a2).getD (x16).toNat default).Way), Value.int .i64 (((a2).getD (x16).toNat default).N), Value.slice ea28 (((a2).getD (x16).toNat default).B).length em29]) 39, fsl 1 (.slice ea28 (((a2).getD (x16).toNat default).B).length em29) (((a2).getD (x16).toNat default).B).length ((((a2).getD (x16).toNat default).B).map (Value.int .u8)), tie signalmanlaw14_Act.El sd2 (a2), R] w0 w := HS
                  refine W.rd (X.move rfl) rfl rfl rfl ?_
                  refine W.rd (X.extract rfl rfl) rfl rfl rfl ?_
                  refine W.rd (X.extract rfl rfl) rfl rfl rfl ?_
                  refine W.rd (X.assign rfl) rfl rfl rfl ?_
                  refine W.rd (X.assign rfl) rfl rfl rfl ?_
                  refine W.nil ?_
                  refine At.next ?_
                  refine V.keep [(2, Value.slice (some ⟨eb24, eo25, none⟩) (a2).length sc2), (8, Value.pointer (some ⟨bt7_0, 0, none⟩)), (9, Value.pointer (some ⟨bt9_0, 0, none⟩)), (10, Value.pointer (some ⟨bt11_0, 0, none⟩)), (11, Value.int .i64 (x16)), (13, Value.slice at69_0 (t69.1).length ct69_0), (14, Value.bool (t69.2.1)), (15, Value.slice at71_0 (t71.1).length ct71_0), (16, Value.bool (t71.2.1))] ⟨rfl, rfl, rfl, rfl, rfl, rfl, rfl, rfl, rfl, trivial⟩ ?_
                  refine V.seq ?_
                  refine V.region ?_
                  refine W.rd (X.move rfl) rfl rfl rfl ?_
                  refine W.rd (X.bytesStr Try.underlying26 Try.underlying5 Try.underlying9 rfl (rdC.at 2 fsl.rd HS rfl)) rfl rfl rfl ?_
                  refine W.rd (X.move rfl) rfl rfl rfl ?_
                  refine W.rd (X.bytesStr Try.underlying26 Try.underlying5 Try.underlying9 rfl (rdC.at 0 fsl.rd HS rfl)) rfl rfl rfl ?_
                  refine W.rd (X.neStr (a := t69.1) (b := t71.1) rfl rfl) rfl rfl rfl ?_
                  refine W.rd (X.move rfl) rfl rfl rfl ?_
                  by_cases c75 : sEq (t69.1) (t71.1) = true
                  · replace H := ite_t c75 H
                    refine W.want 85 rfl (sb (n_t c75)) ?_
                    refine W.rd (X.move rfl) rfl rfl rfl ?_
                    refine W.want 85 rfl (sb (n_t c75)) ?_
                    refine W.rd (X.move rfl) rfl rfl rfl ?_
                    refine W.want 85 rfl (sb (n_t c75)) ?_
                    refine W.rd (X.neB Try.underlying4 rfl rfl) rfl rfl rfl ?_
                    refine W.rd (X.pickF (sb (n_t c75)) rfl) rfl rfl rfl ?_
                    refine W.nil ?_
                    refine At.next ?_
                    refine V.keep [(2, Value.slice (some ⟨eb24, eo25, none⟩) (a2).length sc2), (8, Value.pointer (some ⟨bt7_0, 0, none⟩)), (9, Value.pointer (some ⟨bt9_0, 0, none⟩)), (10, Value.pointer (some ⟨bt11_0, 0, none⟩)), (11, Value.int .i64 (x16)), (86, Value.bool (t69.2.1)), (87, Value.bool (t71.2.1)), (88, Value.bool (((t69.2.1) != (t71.2.1)))), (89, Value.bool (((t69.2.1) != (t71.2.1))))] ⟨rfl, rfl, rfl, rfl, rfl, rfl, rfl, rfl, rfl, trivial⟩ ?_
                    by_cases c76 : ((t69.2.1) != (t71.2.1)) = true
                    · replace H := ite_t c76 H
                      refine V.condT (sb c76) ?_
                      refine V.seq ?_
                      refine V.region ?_
                      refine W.rd (X.assign rfl) rfl rfl rfl ?_
                      refine W.nil ?_
                      refine At.next ?_
                      refine V.keep [(6, Value.bool (false))] ⟨rfl, trivial⟩ ?_
                      refine V.ret ?_
                      refine At.blockRet ?_
                      refine At.thenRet ?_
                      refine At.blockRet ?_
                      refine At.thenRet ?_
                      refine At.thenRet ?_
                      refine At.blockRet ?_
                      refine At.thenRet ?_
                      replace HS := HS.sel [9] [0, 1, 2, 3, 4, 5, 6, 7, 8] (by kernel_rfl)
                      cases H
                      exact At.ret1 rfl rfl ⟨_, rfl, rfl, HS⟩
                    · replace H := ite_f c76 H
                      refine V.condF (sb (b_f c76)) ?_
                      refine V.skip ?_
                      refine At.blockEnd ?_
                      replace HS := HS.more 7 rfl (fun _ t => t) fsl.pers
                      have HS : Sep.St [fsl 1 (.slice ea28 (((a2).getD (x16).toNat default).B).length em29) (((a2).getD (x16).toNat default).B).length ((((a2).getD (x16).toNat default).B).map (Value.int .u8)), fsl 1 (.slice at71_0 (t71.1).length ct71_0) (t71.1).length ((t71.1).map (Value.int .u8)), signalmanref6_Order.at bt11_0 (t71.2.2), fsl 1 (.slice at69_0 (t69.1).length ct69_0) (t69.1).length ((t69.1).map (Value.int .u8)), reorder_Order.at bt7_0 (t69.2.2), reorder_Order.at bt9_0 (t38.2), row 5 1 (.slice (some ⟨lb37, 0, none⟩) (([1] : List Int)).length 1) (([1] : List Int)).length ((([1] : List Int)).map (Value.int .u8)), blk nb31 (#[Value.int .i64 (((a2).getD (x16).toNat default).Way), Value.int .i64 (((a2).getD (x16).toNat default).N), Value.slice ea28 (((a2).getD (x16).toNat default).B).length em29]) 39, fsl 1 (.slice ea28 (((a2).getD (x16).toNat default).B).length em29) (((a2).getD (x16).toNat default).B).length ((((a2).getD (x16).toNat default).B).map (Value.int .u8)), tie signalmanlaw14_Act.El sd2 (a2), R] w0 w := HS
                      replace HS := HS.re [7, 0, 1, 2, 3, 4, 5, 6, 8, 9, 10] (by kernel_rfl)
                      have HS : Sep.St [blk nb31 (#[Value.int .i64 (((a2).getD (x16).toNat default).Way), Value.int .i64 (((a2).getD (x16).toNat default).N), Value.slice ea28 (((a2).getD (x16).toNat default).B).length em29]) 39, fsl 1 (.slice ea28 (((a2).getD (x16).toNat default).B).length em29) (((a2).getD (x16).toNat default).B).length ((((a2).getD (x16).toNat default).B).map (Value.int .u8)), fsl 1 (.slice at71_0 (t71.1).length ct71_0) (t71.1).length ((t71.1).map (Value.int .u8)), signalmanref6_Order.at bt11_0 (t71.2.2), fsl 1 (.slice at69_0 (t69.1).length ct69_0) (t69.1).length ((t69.1).map (Value.int .u8)), reorder_Order.at bt7_0 (t69.2.2), reorder_Order.at bt9_0 (t38.2), row 5 1 (.slice (some ⟨lb37, 0, none⟩) (([1] : List Int)).length 1) (([1] : List Int)).length ((([1] : List Int)).map (Value.int .u8)), fsl 1 (.slice ea28 (((a2).getD (x16).toNat default).B).length em29) (((a2).getD (x16).toNat default).B).length ((((a2).getD (x16).toNat default).B).map (Value.int .u8)), tie signalmanlaw14_Act.El sd2 (a2), R] w0 w := HS
                      replace HS := signalmanlaw14_Act.close (((a2).getD (x16).toNat default)) trivial HS
                      have HS : Sep.St [signalmanlaw14_Act.at nb31 (((a2).getD (x16).toNat default)), fsl 1 (.slice at71_0 (t71.1).length ct71_0) (t71.1).length ((t71.1).map (Value.int .u8)), signalmanref6_Order.at bt11_0 (t71.2.2), fsl 1 (.slice at69_0 (t69.1).length ct69_0) (t69.1).length ((t69.1).map (Value.int .u8)), reorder_Order.at bt7_0 (t69.2.2), reorder_Order.at bt9_0 (t38.2), row 5 1 (.slice (some ⟨lb37, 0, none⟩) (([1] : List Int)).length 1) (([1] : List Int)).length ((([1] : List Int)).map (Value.int .u8)), fsl 1 (.slice ea28 (((a2).getD (x16).toNat default).B).length em29) (((a2).getD (x16).toNat default).B).length ((((a2).getD (x16).toNat default).B).map (Value.int .u8)), tie signalmanlaw14_Act.El sd2 (a2), R] w0 w := HS
                      replace HS := HS.sel [0, 5, 6, 7, 2, 4, 8, 9] [1, 3] (by kernel_rfl)
                      exact At.meet (t71.2.2, t69.2.2) ⟨rfl, rfl, rfl, rfl, rfl, trivial⟩ ⟨HS, kq20, by omega, H⟩
                  · replace H := ite_f c75 H
                    refine W.pass 85 rfl (sb (n_f (b_f c75))) rfl rfl ?_
                    refine W.pass 85 rfl (sb (n_f (b_f c75))) rfl rfl ?_
                    refine W.pass 85 rfl (sb (n_f (b_f c75))) rfl rfl ?_
                    refine W.rd (X.pickT (sb (n_f (b_f c75))) rfl) rfl rfl rfl ?_
                    refine W.nil ?_
                    refine At.next ?_
                    refine V.keep [(2, Value.slice (some ⟨eb24, eo25, none⟩) (a2).length sc2), (8, Value.pointer (some ⟨bt7_0, 0, none⟩)), (9, Value.pointer (some ⟨bt9_0, 0, none⟩)), (10, Value.pointer (some ⟨bt11_0, 0, none⟩)), (11, Value.int .i64 (x16)), (86, undef), (87, undef), (88, undef), (89, Value.bool (true))] ⟨rfl, rfl, rfl, rfl, rfl, rfl, rfl, rfl, rfl, trivial⟩ ?_
                    refine V.condT rfl ?_
                    refine V.seq ?_
                    refine V.region ?_
                    refine W.rd (X.assign rfl) rfl rfl rfl ?_
                    refine W.nil ?_
                    refine At.next ?_
                    refine V.keep [(6, Value.bool (false))] ⟨rfl, trivial⟩ ?_
                    refine V.ret ?_
                    refine At.blockRet ?_
                    refine At.thenRet ?_
                    refine At.blockRet ?_
                    refine At.thenRet ?_
                    refine At.thenRet ?_
                    refine At.blockRet ?_
                    refine At.thenRet ?_
                    replace HS := HS.sel [9] [0, 1, 2, 3, 4, 5, 6, 7, 8] (by kernel_rfl)
                    cases H
                    exact At.ret1 rfl rfl ⟨_, rfl, rfl, HS⟩
                · replace H := ite_f c68 H
                  refine V.condF (sb (decide_eq_false c68)) ?_
                  refine V.seq ?_
                  refine V.region ?_
                  refine W.rd (X.cmp (decide ((((a2).getD (x16).toNat default).Way) = 2)) rfl rfl rfl rfl) rfl rfl rfl ?_
                  refine W.rd (X.assign rfl) rfl rfl rfl ?_
                  refine W.nil ?_
                  refine At.next ?_
                  refine V.keep [(2, Value.slice (some ⟨eb24, eo25, none⟩) (a2).length sc2), (8, Value.pointer (some ⟨bt7_0, 0, none⟩)), (9, Value.pointer (some ⟨bt9_0, 0, none⟩)), (10, Value.pointer (some ⟨bt11_0, 0, none⟩)), (11, Value.int .i64 (x16)), (90, Value.bool (decide ((((a2).getD (x16).toNat default).Way) = 2)))] ⟨rfl, rfl, rfl, rfl, rfl, rfl, trivial⟩ ?_
                  by_cases c77 : (((a2).getD (x16).toNat default).Way) = 2
                  · replace H := ite_t c77 H
                    refine V.condT (sb (decide_eq_true c77)) ?_
                    refine V.seq ?_
                    refine V.region ?_
                    refine W.rd (X.move rfl) rfl rfl rfl ?_
                    obtain ⟨t78, A79, H⟩ := bind_s H
                    replace HS := HS.re [5, 0, 1, 2, 3, 4, 6, 7] (by kernel_rfl)
                    have HS : Sep.St [reorder_Order.at bt7_0 (x19), reorder_Order.at bt9_0 (t38.2), row 5 1 (.slice (some ⟨lb37, 0, none⟩) (([1] : List Int)).length 1) (([1] : List Int)).length ((([1] : List Int)).map (Value.int .u8)), blk nb31 (#[Value.int .i64 (((a2).getD (x16).toNat default).Way), Value.int .i64 (((a2).getD (x16).toNat default).N), Value.slice ea28 (((a2).getD (x16).toNat default).B).length em29]) 39, fsl 1 (.slice ea28 (((a2).getD (x16).toNat default).B).length em29) (((a2).getD (x16).toNat default).B).length ((((a2).getD (x16).toNat default).B).map (Value.int .u8)), signalmanref6_Order.at bt11_0 (x17), tie signalmanlaw14_Act.El sd2 (a2), R] w0 w := HS
                    refine W.ev (Y.call Try.func16 (by kernel_rfl) rfl (vs := [Value.pointer (some ⟨bt7_0, 0, none⟩)]) rfl (reorder_Order_Clear.calls x19 _ w0 _ bt7_0 t78  A79 (Sep.St.tailJoin (m := [reorder_Order.at bt7_0 (x19)]) (r := [reorder_Order.at bt9_0 (t38.2), row 5 1 (.slice (some ⟨lb37, 0, none⟩) (([1] : List Int)).length 1) (([1] : List Int)).length ((([1] : List Int)).map (Value.int .u8)), blk nb31 (#[Value.int .i64 (((a2).getD (x16).toNat default).Way), Value.int .i64 (((a2).getD (x16).toNat default).N), Value.slice ea28 (((a2).getD (x16).toNat default).B).length em29]) 39, fsl 1 (.slice ea28 (((a2).getD (x16).toNat default).B).length em29) (((a2).getD (x16).toNat default).B).length ((((a2).getD (x16).toNat default).B).map (Value.int .u8)), signalmanref6_Order.at bt11_0 (x17), tie signalmanlaw14_Act.El sd2 (a2), R]) HS))) rfl rfl rfl ?_
                    rintro _ w ⟨rfl, HS⟩
                    replace HS := Sep.St.tailOpen (m := [reorder_Order.at bt7_0 (t78)]) (r := [reorder_Order.at bt9_0 (t38.2), row 5 1 (.slice (some ⟨lb37, 0, none⟩) (([1] : List Int)).length 1) (([1] : List Int)).length ((([1] : List Int)).map (Value.int .u8)), blk nb31 (#[Value.int .i64 (((a2).getD (x16).toNat default).Way), Value.int .i64 (((a2).getD (x16).toNat default).N), Value.slice ea28 (((a2).getD (x16).toNat default).B).length em29]) 39, fsl 1 (.slice ea28 (((a2).getD (x16).toNat default).B).length em29) (((a2).getD (x16).toNat default).B).length ((((a2).getD (x16).toNat default).B).map (Value.int .u8)), signalmanref6_Order.at bt11_0 (x17), tie signalmanlaw14_Act.El sd2 (a2), R]) HS
                    have HS : Sep.St [reorder_Order.at bt7_0 (t78), reorder_Order.at bt9_0 (t38.2), row 5 1 (.slice (some ⟨lb37, 0, none⟩) (([1] : List Int)).length 1) (([1] : List Int)).length ((([1] : List Int)).map (Value.int .u8)), blk nb31 (#[Value.int .i64 (((a2).getD (x16).toNat default).Way), Value.int .i64 (((a2).getD (x16).toNat default).N), Value.slice ea28 (((a2).getD (x16).toNat default).B).length em29]) 39, fsl 1 (.slice ea28 (((a2).getD (x16).toNat default).B).length em29) (((a2).getD (x16).toNat default).B).length ((((a2).getD (x16).toNat default).B).map (Value.int .u8)), signalmanref6_Order.at bt11_0 (x17), tie signalmanlaw14_Act.El sd2 (a2), R] w0 w := HS
                    refine W.nil ?_
                    refine At.next ?_
                    refine V.keep [(2, Value.slice (some ⟨eb24, eo25, none⟩) (a2).length sc2), (8, Value.pointer (some ⟨bt7_0, 0, none⟩)), (9, Value.pointer (some ⟨bt9_0, 0, none⟩)), (10, Value.pointer (some ⟨bt11_0, 0, none⟩)), (11, Value.int .i64 (x16))] ⟨rfl, rfl, rfl, rfl, rfl, trivial⟩ ?_
                    refine V.region ?_
                    refine W.rd (X.move rfl) rfl rfl rfl ?_
                    obtain ⟨t80, A81, H⟩ := bind_s H
                    replace HS := HS.re [5, 0, 1, 2, 3, 4, 6, 7] (by kernel_rfl)
                    have HS : Sep.St [signalmanref6_Order.at bt11_0 (x17), reorder_Order.at bt7_0 (t78), reorder_Order.at bt9_0 (t38.2), row 5 1 (.slice (some ⟨lb37, 0, none⟩) (([1] : List Int)).length 1) (([1] : List Int)).length ((([1] : List Int)).map (Value.int .u8)), blk nb31 (#[Value.int .i64 (((a2).getD (x16).toNat default).Way), Value.int .i64 (((a2).getD (x16).toNat default).N), Value.slice ea28 (((a2).getD (x16).toNat default).B).length em29]) 39, fsl 1 (.slice ea28 (((a2).getD (x16).toNat default).B).length em29) (((a2).getD (x16).toNat default).B).length ((((a2).getD (x16).toNat default).B).map (Value.int .u8)), tie signalmanlaw14_Act.El sd2 (a2), R] w0 w := HS
                    refine W.ev (Y.call Try.func17 (by kernel_rfl) rfl (vs := [Value.pointer (some ⟨bt11_0, 0, none⟩)]) rfl (signalmanref6_Order_Clear.calls x17 _ w0 _ bt11_0 t80  A81 (Sep.St.tailJoin (m := [signalmanref6_Order.at bt11_0 (x17)]) (r := [reorder_Order.at bt7_0 (t78), reorder_Order.at bt9_0 (t38.2), row 5 1 (.slice (some ⟨lb37, 0, none⟩) (([1] : List Int)).length 1) (([1] : List Int)).length ((([1] : List Int)).map (Value.int .u8)), blk nb31 (#[Value.int .i64 (((a2).getD (x16).toNat default).Way), Value.int .i64 (((a2).getD (x16).toNat default).N), Value.slice ea28 (((a2).getD (x16).toNat default).B).length em29]) 39, fsl 1 (.slice ea28 (((a2).getD (x16).toNat default).B).length em29) (((a2).getD (x16).toNat default).B).length ((((a2).getD (x16).toNat default).B).map (Value.int .u8)), tie signalmanlaw14_Act.El sd2 (a2), R]) HS))) rfl rfl rfl ?_
                    rintro _ w ⟨rfl, HS⟩
                    replace HS := Sep.St.tailOpen (m := [signalmanref6_Order.at bt11_0 (t80)]) (r := [reorder_Order.at bt7_0 (t78), reorder_Order.at bt9_0 (t38.2), row 5 1 (.slice (some ⟨lb37, 0, none⟩) (([1] : List Int)).length 1) (([1] : List Int)).length ((([1] : List Int)).map (Value.int .u8)), blk nb31 (#[Value.int .i64 (((a2).getD (x16).toNat default).Way), Value.int .i64 (((a2).getD (x16).toNat default).N), Value.slice ea28 (((a2).getD (x16).toNat default).B).length em29]) 39, fsl 1 (.slice ea28 (((a2).getD (x16).toNat default).B).length em29) (((a2).getD (x16).toNat default).B).length ((((a2).getD (x16).toNat default).B).map (Value.int .u8)), tie signalmanlaw14_Act.El sd2 (a2), R]) HS
                    have HS : Sep.St [signalmanref6_Order.at bt11_0 (t80), reorder_Order.at bt7_0 (t78), reorder_Order.at bt9_0 (t38.2), row 5 1 (.slice (some ⟨lb37, 0, none⟩) (([1] : List Int)).length 1) (([1] : List Int)).length ((([1] : List Int)).map (Value.int .u8)), blk nb31 (#[Value.int .i64 (((a2).getD (x16).toNat default).Way), Value.int .i64 (((a2).getD (x16).toNat default).N), Value.slice ea28 (((a2).getD (x16).toNat default).B).length em29]) 39, fsl 1 (.slice ea28 (((a2).getD (x16).toNat default).B).length em29) (((a2).getD (x16).toNat default).B).length ((((a2).getD (x16).toNat default).B).map (Value.int .u8)), tie signalmanlaw14_Act.El sd2 (a2), R] w0 w := HS
                    refine W.nil ?_
                    refine At.blockEnd ?_
                    replace HS := HS.more 5 rfl (fun _ t => t) fsl.pers
                    have HS : Sep.St [fsl 1 (.slice ea28 (((a2).getD (x16).toNat default).B).length em29) (((a2).getD (x16).toNat default).B).length ((((a2).getD (x16).toNat default).B).map (Value.int .u8)), signalmanref6_Order.at bt11_0 (t80), reorder_Order.at bt7_0 (t78), reorder_Order.at bt9_0 (t38.2), row 5 1 (.slice (some ⟨lb37, 0, none⟩) (([1] : List Int)).length 1) (([1] : List Int)).length ((([1] : List Int)).map (Value.int .u8)), blk nb31 (#[Value.int .i64 (((a2).getD (x16).toNat default).Way), Value.int .i64 (((a2).getD (x16).toNat default).N), Value.slice ea28 (((a2).getD (x16).toNat default).B).length em29]) 39, fsl 1 (.slice ea28 (((a2).getD (x16).toNat default).B).length em29) (((a2).getD (x16).toNat default).B).length ((((a2).getD (x16).toNat default).B).map (Value.int .u8)), tie signalmanlaw14_Act.El sd2 (a2), R] w0 w := HS
                    replace HS := HS.re [5, 0, 1, 2, 3, 4, 6, 7, 8] (by kernel_rfl)
                    have HS : Sep.St [blk nb31 (#[Value.int .i64 (((a2).getD (x16).toNat default).Way), Value.int .i64 (((a2).getD (x16).toNat default).N), Value.slice ea28 (((a2).getD (x16).toNat default).B).length em29]) 39, fsl 1 (.slice ea28 (((a2).getD (x16).toNat default).B).length em29) (((a2).getD (x16).toNat default).B).length ((((a2).getD (x16).toNat default).B).map (Value.int .u8)), signalmanref6_Order.at bt11_0 (t80), reorder_Order.at bt7_0 (t78), reorder_Order.at bt9_0 (t38.2), row 5 1 (.slice (some ⟨lb37, 0, none⟩) (([1] : List Int)).length 1) (([1] : List Int)).length ((([1] : List Int)).map (Value.int .u8)), fsl 1 (.slice ea28 (((a2).getD (x16).toNat default).B).length em29) (((a2).getD (x16).toNat default).B).length ((((a2).getD (x16).toNat default).B).map (Value.int .u8)), tie signalmanlaw14_Act.El sd2 (a2), R] w0 w := HS
                    replace HS := signalmanlaw14_Act.close (((a2).getD (x16).toNat default)) trivial HS
                    have HS : Sep.St [signalmanlaw14_Act.at nb31 (((a2).getD (x16).toNat default)), signalmanref6_Order.at bt11_0 (t80), reorder_Order.at bt7_0 (t78), reorder_Order.at bt9_0 (t38.2), row 5 1 (.slice (some ⟨lb37, 0, none⟩) (([1] : List Int)).length 1) (([1] : List Int)).length ((([1] : List Int)).map (Value.int .u8)), fsl 1 (.slice ea28 (((a2).getD (x16).toNat default).B).length em29) (((a2).getD (x16).toNat default).B).length ((((a2).getD (x16).toNat default).B).map (Value.int .u8)), tie signalmanlaw14_Act.El sd2 (a2), R] w0 w := HS
                    replace HS := HS.sel [0, 3, 4, 5, 1, 2, 6, 7] [] (by kernel_rfl)
                    exact At.meet (t80, t78) ⟨rfl, rfl, rfl, rfl, rfl, trivial⟩ ⟨HS, kq20, by omega, H⟩
                  · replace H := ite_f c77 H
                    refine V.condF (sb (decide_eq_false c77)) ?_
                    refine V.skip ?_
                    refine At.blockEnd ?_
                    replace HS := HS.more 3 rfl (fun _ t => t) fsl.pers
                    have HS : Sep.St [fsl 1 (.slice ea28 (((a2).getD (x16).toNat default).B).length em29) (((a2).getD (x16).toNat default).B).length ((((a2).getD (x16).toNat default).B).map (Value.int .u8)), reorder_Order.at bt9_0 (t38.2), row 5 1 (.slice (some ⟨lb37, 0, none⟩) (([1] : List Int)).length 1) (([1] : List Int)).length ((([1] : List Int)).map (Value.int .u8)), blk nb31 (#[Value.int .i64 (((a2).getD (x16).toNat default).Way), Value.int .i64 (((a2).getD (x16).toNat default).N), Value.slice ea28 (((a2).getD (x16).toNat default).B).length em29]) 39, fsl 1 (.slice ea28 (((a2).getD (x16).toNat default).B).length em29) (((a2).getD (x16).toNat default).B).length ((((a2).getD (x16).toNat default).B).map (Value.int .u8)), signalmanref6_Order.at bt11_0 (x17), reorder_Order.at bt7_0 (x19), tie signalmanlaw14_Act.El sd2 (a2), R] w0 w := HS
                    replace HS := HS.re [3, 0, 1, 2, 4, 5, 6, 7, 8] (by kernel_rfl)
                    have HS : Sep.St [blk nb31 (#[Value.int .i64 (((a2).getD (x16).toNat default).Way), Value.int .i64 (((a2).getD (x16).toNat default).N), Value.slice ea28 (((a2).getD (x16).toNat default).B).length em29]) 39, fsl 1 (.slice ea28 (((a2).getD (x16).toNat default).B).length em29) (((a2).getD (x16).toNat default).B).length ((((a2).getD (x16).toNat default).B).map (Value.int .u8)), reorder_Order.at bt9_0 (t38.2), row 5 1 (.slice (some ⟨lb37, 0, none⟩) (([1] : List Int)).length 1) (([1] : List Int)).length ((([1] : List Int)).map (Value.int .u8)), fsl 1 (.slice ea28 (((a2).getD (x16).toNat default).B).length em29) (((a2).getD (x16).toNat default).B).length ((((a2).getD (x16).toNat default).B).map (Value.int .u8)), signalmanref6_Order.at bt11_0 (x17), reorder_Order.at bt7_0 (x19), tie signalmanlaw14_Act.El sd2 (a2), R] w0 w := HS
                    replace HS := signalmanlaw14_Act.close (((a2).getD (x16).toNat default)) trivial HS
                    have HS : Sep.St [signalmanlaw14_Act.at nb31 (((a2).getD (x16).toNat default)), reorder_Order.at bt9_0 (t38.2), row 5 1 (.slice (some ⟨lb37, 0, none⟩) (([1] : List Int)).length 1) (([1] : List Int)).length ((([1] : List Int)).map (Value.int .u8)), fsl 1 (.slice ea28 (((a2).getD (x16).toNat default).B).length em29) (((a2).getD (x16).toNat default).B).length ((((a2).getD (x16).toNat default).B).map (Value.int .u8)), signalmanref6_Order.at bt11_0 (x17), reorder_Order.at bt7_0 (x19), tie signalmanlaw14_Act.El sd2 (a2), R] w0 w := HS
                    exact At.meet (x17, x19) ⟨rfl, rfl, rfl, rfl, rfl, trivial⟩ ⟨HS, kq20, by omega, H⟩
            · rintro ⟨x41, x42⟩ w ⟨HS, kf43, hkkf43, H⟩
              unfold signalmanlaw14_ReorderPlays.j2 at H
              have HS : Sep.St [signalmanlaw14_Act.at nb31 (((a2).getD (x16).toNat default)), reorder_Order.at bt9_0 (t38.2), row 5 1 (.slice (some ⟨lb37, 0, none⟩) (([1] : List Int)).length 1) (([1] : List Int)).length ((([1] : List Int)).map (Value.int .u8)), fsl 1 (.slice ea28 (((a2).getD (x16).toNat default).B).length em29) (((a2).getD (x16).toNat default).B).length ((((a2).getD (x16).toNat default).B).map (Value.int .u8)), signalmanref6_Order.at bt11_0 (x41), reorder_Order.at bt7_0 (x42), tie signalmanlaw14_Act.El sd2 (a2), R] w0 w := HS
              refine V.seq ?_
              refine V.region ?_
              refine W.rd (X.move rfl) rfl rfl rfl ?_
              replace HS := HS.front 5 rfl
              have HS : Sep.St [reorder_Order.at bt7_0 (x42), signalmanlaw14_Act.at nb31 (((a2).getD (x16).toNat default)), reorder_Order.at bt9_0 (t38.2), row 5 1 (.slice (some ⟨lb37, 0, none⟩) (([1] : List Int)).length 1) (([1] : List Int)).length ((([1] : List Int)).map (Value.int .u8)), fsl 1 (.slice ea28 (((a2).getD (x16).toNat default).B).length em29) (((a2).getD (x16).toNat default).B).length ((((a2).getD (x16).toNat default).B).map (Value.int .u8)), signalmanref6_Order.at bt11_0 (x41), tie signalmanlaw14_Act.El sd2 (a2), R] w0 w := HS
              obtain ⟨b3_45, k3_45, a4_45, c4_45, d4_45, hi46, HS⟩ := reorder_Order.open HS
              have HS : Sep.St [blk bt7_0 (#[Value.int .i64 ((x42).m), Value.int .i64 ((x42).window), Value.int .i64 ((x42).next), Value.map (some b3_45), Value.slice a4_45 ((x42).ready).length c4_45]) 47, mblk b3_45 k3_45, tieM (El.sl (El.int .u8)) k3_45 ((x42).kept), row 26 1 (.slice a4_45 ((x42).ready).length c4_45) ((x42).ready).length d4_45, tie (El.sl (El.int .u8)) d4_45 ((x42).ready), signalmanlaw14_Act.at nb31 (((a2).getD (x16).toNat default)), reorder_Order.at bt9_0 (t38.2), row 5 1 (.slice (some ⟨lb37, 0, none⟩) (([1] : List Int)).length 1) (([1] : List Int)).length ((([1] : List Int)).map (Value.int .u8)), fsl 1 (.slice ea28 (((a2).getD (x16).toNat default).B).length em29) (((a2).getD (x16).toNat default).B).length ((((a2).getD (x16).toNat default).B).map (Value.int .u8)), signalmanref6_Order.at bt11_0 (x41), tie signalmanlaw14_Act.El sd2 (a2), R] w0 w := HS
              obtain ⟨t47, A48, H⟩ := bind_s H
              refine W.ev (Y.call Try.func12 (by kernel_rfl) rfl (vs := [Value.pointer (some ⟨bt7_0, 0, none⟩)]) rfl (reorder_Order_Next.calls x42 _ w0 _ bt7_0 b3_45 k3_45 a4_45 c4_45 d4_45 t47  A48 (Sep.St.tailJoin (m := [blk bt7_0 (#[Value.int .i64 ((x42).m), Value.int .i64 ((x42).window), Value.int .i64 ((x42).next), Value.map (some b3_45), Value.slice a4_45 ((x42).ready).length c4_45]) 47, mblk b3_45 k3_45, tieM (El.sl (El.int .u8)) k3_45 ((x42).kept), row 26 1 (.slice a4_45 ((x42).ready).length c4_45) ((x42).ready).length d4_45, tie (El.sl (El.int .u8)) d4_45 ((x42).ready)]) (r := [signalmanlaw14_Act.at nb31 (((a2).getD (x16).toNat default)), reorder_Order.at bt9_0 (t38.2), row 5 1 (.slice (some ⟨lb37, 0, none⟩) (([1] : List Int)).length 1) (([1] : List Int)).length ((([1] : List Int)).map (Value.int .u8)), fsl 1 (.slice ea28 (((a2).getD (x16).toNat default).B).length em29) (((a2).getD (x16).toNat default).B).length ((((a2).getD (x16).toNat default).B).map (Value.int .u8)), signalmanref6_Order.at bt11_0 (x41), tie signalmanlaw14_Act.El sd2 (a2), R]) HS))) rfl rfl rfl ?_
              rintro _ w ⟨rfl, HS⟩
              replace HS := Sep.St.tailOpen (m := [blk bt7_0 (#[Value.int .i64 ((x42).m), Value.int .i64 ((x42).window), Value.int .i64 ((x42).next), Value.map (some b3_45), Value.slice a4_45 ((x42).ready).length c4_45]) 47, mblk b3_45 k3_45, tieM (El.sl (El.int .u8)) k3_45 ((x42).kept), row 26 1 (.slice a4_45 ((x42).ready).length c4_45) ((x42).ready).length d4_45, tie (El.sl (El.int .u8)) d4_45 ((x42).ready)]) (r := [signalmanlaw14_Act.at nb31 (((a2).getD (x16).toNat default)), reorder_Order.at bt9_0 (t38.2), row 5 1 (.slice (some ⟨lb37, 0, none⟩) (([1] : List Int)).length 1) (([1] : List Int)).length ((([1] : List Int)).map (Value.int .u8)), fsl 1 (.slice ea28 (((a2).getD (x16).toNat default).B).length em29) (((a2).getD (x16).toNat default).B).length ((((a2).getD (x16).toNat default).B).map (Value.int .u8)), signalmanref6_Order.at bt11_0 (x41), tie signalmanlaw14_Act.El sd2 (a2), R]) HS
              have HS : Sep.St [blk bt7_0 (#[Value.int .i64 ((x42).m), Value.int .i64 ((x42).window), Value.int .i64 ((x42).next), Value.map (some b3_45), Value.slice a4_45 ((x42).ready).length c4_45]) 47, mblk b3_45 k3_45, tieM (El.sl (El.int .u8)) k3_45 ((x42).kept), row 26 1 (.slice a4_45 ((x42).ready).length c4_45) ((x42).ready).length d4_45, tie (El.sl (El.int .u8)) d4_45 ((x42).ready), signalmanlaw14_Act.at nb31 (((a2).getD (x16).toNat default)), reorder_Order.at bt9_0 (t38.2), row 5 1 (.slice (some ⟨lb37, 0, none⟩) (([1] : List Int)).length 1) (([1] : List Int)).length ((([1] : List Int)).map (Value.int .u8)), fsl 1 (.slice ea28 (((a2).getD (x16).toNat default).B).length em29) (((a2).getD (x16).toNat default).B).length ((((a2).getD (x16).toNat default).B).map (Value.int .u8)), signalmanref6_Order.at bt11_0 (x41), tie signalmanlaw14_Act.El sd2 (a2), R] w0 w := HS
              refine W.rd (X.move rfl) rfl rfl rfl ?_
              replace HS := HS.front 9 rfl
              have HS : Sep.St [signalmanref6_Order.at bt11_0 (x41), blk bt7_0 (#[Value.int .i64 ((x42).m), Value.int .i64 ((x42).window), Value.int .i64 ((x42).next), Value.map (some b3_45), Value.slice a4_45 ((x42).ready).length c4_45]) 47, mblk b3_45 k3_45, tieM (El.sl (El.int .u8)) k3_45 ((x42).kept), row 26 1 (.slice a4_45 ((x42).ready).length c4_45) ((x42).ready).length d4_45, tie (El.sl (El.int .u8)) d4_45 ((x42).ready), signalmanlaw14_Act.at nb31 (((a2).getD (x16).toNat default)), reorder_Order.at bt9_0 (t38.2), row 5 1 (.slice (some ⟨lb37, 0, none⟩) (([1] : List Int)).length 1) (([1] : List Int)).length ((([1] : List Int)).map (Value.int .u8)), fsl 1 (.slice ea28 (((a2).getD (x16).toNat default).B).length em29) (((a2).getD (x16).toNat default).B).length ((((a2).getD (x16).toNat default).B).map (Value.int .u8)), tie signalmanlaw14_Act.El sd2 (a2), R] w0 w := HS
              obtain ⟨a3_49, c3_49, d3_49, a4_49, c4_49, d4_49, hi50, HS⟩ := signalmanref6_Order.open HS
              have HS : Sep.St [blk bt11_0 (#[Value.int .i64 ((x41).m), Value.int .i64 ((x41).window), Value.int .i64 ((x41).next), Value.slice a3_49 ((x41).kept).length c3_49, Value.slice a4_49 ((x41).ready).length c4_49]) 53, row 56 2 (.slice a3_49 ((x41).kept).length c3_49) ((x41).kept).length d3_49, tie signalmanref6_message.El d3_49 ((x41).kept), row 26 1 (.slice a4_49 ((x41).ready).length c4_49) ((x41).ready).length d4_49, tie (El.sl (El.int .u8)) d4_49 ((x41).ready), blk bt7_0 (#[Value.int .i64 ((x42).m), Value.int .i64 ((x42).window), Value.int .i64 ((x42).next), Value.map (some b3_45), Value.slice a4_45 ((x42).ready).length c4_45]) 47, mblk b3_45 k3_45, tieM (El.sl (El.int .u8)) k3_45 ((x42).kept), row 26 1 (.slice a4_45 ((x42).ready).length c4_45) ((x42).ready).length d4_45, tie (El.sl (El.int .u8)) d4_45 ((x42).ready), signalmanlaw14_Act.at nb31 (((a2).getD (x16).toNat default)), reorder_Order.at bt9_0 (t38.2), row 5 1 (.slice (some ⟨lb37, 0, none⟩) (([1] : List Int)).length 1) (([1] : List Int)).length ((([1] : List Int)).map (Value.int .u8)), fsl 1 (.slice ea28 (((a2).getD (x16).toNat default).B).length em29) (((a2).getD (x16).toNat default).B).length ((((a2).getD (x16).toNat default).B).map (Value.int .u8)), tie signalmanlaw14_Act.El sd2 (a2), R] w0 w := HS
              obtain ⟨t51, A52, H⟩ := bind_s H
              refine W.ev (Y.call Try.func18 (by kernel_rfl) rfl (vs := [Value.pointer (some ⟨bt11_0, 0, none⟩)]) rfl (signalmanref6_Order_Next.calls x41 _ w0 _ bt11_0 a3_49 c3_49 d3_49 a4_49 c4_49 d4_49 t51  A52 (Sep.St.tailJoin (m := [blk bt11_0 (#[Value.int .i64 ((x41).m), Value.int .i64 ((x41).window), Value.int .i64 ((x41).next), Value.slice a3_49 ((x41).kept).length c3_49, Value.slice a4_49 ((x41).ready).length c4_49]) 53, row 56 2 (.slice a3_49 ((x41).kept).length c3_49) ((x41).kept).length d3_49, tie signalmanref6_message.El d3_49 ((x41).kept), row 26 1 (.slice a4_49 ((x41).ready).length c4_49) ((x41).ready).length d4_49, tie (El.sl (El.int .u8)) d4_49 ((x41).ready)]) (r := [blk bt7_0 (#[Value.int .i64 ((x42).m), Value.int .i64 ((x42).window), Value.int .i64 ((x42).next), Value.map (some b3_45), Value.slice a4_45 ((x42).ready).length c4_45]) 47, mblk b3_45 k3_45, tieM (El.sl (El.int .u8)) k3_45 ((x42).kept), row 26 1 (.slice a4_45 ((x42).ready).length c4_45) ((x42).ready).length d4_45, tie (El.sl (El.int .u8)) d4_45 ((x42).ready), signalmanlaw14_Act.at nb31 (((a2).getD (x16).toNat default)), reorder_Order.at bt9_0 (t38.2), row 5 1 (.slice (some ⟨lb37, 0, none⟩) (([1] : List Int)).length 1) (([1] : List Int)).length ((([1] : List Int)).map (Value.int .u8)), fsl 1 (.slice ea28 (((a2).getD (x16).toNat default).B).length em29) (((a2).getD (x16).toNat default).B).length ((((a2).getD (x16).toNat default).B).map (Value.int .u8)), tie signalmanlaw14_Act.El sd2 (a2), R]) HS))) rfl rfl rfl ?_
              rintro _ w ⟨rfl, HS⟩
              replace HS := Sep.St.tailOpen (m := [blk bt11_0 (#[Value.int .i64 ((x41).m), Value.int .i64 ((x41).window), Value.int .i64 ((x41).next), Value.slice a3_49 ((x41).kept).length c3_49, Value.slice a4_49 ((x41).ready).length c4_49]) 53, row 56 2 (.slice a3_49 ((x41).kept).length c3_49) ((x41).kept).length d3_49, tie signalmanref6_message.El d3_49 ((x41).kept), row 26 1 (.slice a4_49 ((x41).ready).length c4_49) ((x41).ready).length d4_49, tie (El.sl (El.int .u8)) d4_49 ((x41).ready)]) (r := [blk bt7_0 (#[Value.int .i64 ((x42).m), Value.int .i64 ((x42).window), Value.int .i64 ((x42).next), Value.map (some b3_45), Value.slice a4_45 ((x42).ready).length c4_45]) 47, mblk b3_45 k3_45, tieM (El.sl (El.int .u8)) k3_45 ((x42).kept), row 26 1 (.slice a4_45 ((x42).ready).length c4_45) ((x42).ready).length d4_45, tie (El.sl (El.int .u8)) d4_45 ((x42).ready), signalmanlaw14_Act.at nb31 (((a2).getD (x16).toNat default)), reorder_Order.at bt9_0 (t38.2), row 5 1 (.slice (some ⟨lb37, 0, none⟩) (([1] : List Int)).length 1) (([1] : List Int)).length ((([1] : List Int)).map (Value.int .u8)), fsl 1 (.slice ea28 (((a2).getD (x16).toNat default).B).length em29) (((a2).getD (x16).toNat default).B).length ((((a2).getD (x16).toNat default).B).map (Value.int .u8)), tie signalmanlaw14_Act.El sd2 (a2), R]) HS
              have HS : Sep.St [blk bt11_0 (#[Value.int .i64 ((x41).m), Value.int .i64 ((x41).window), Value.int .i64 ((x41).next), Value.slice a3_49 ((x41).kept).length c3_49, Value.slice a4_49 ((x41).ready).length c4_49]) 53, row 56 2 (.slice a3_49 ((x41).kept).length c3_49) ((x41).kept).length d3_49, tie signalmanref6_message.El d3_49 ((x41).kept), row 26 1 (.slice a4_49 ((x41).ready).length c4_49) ((x41).ready).length d4_49, tie (El.sl (El.int .u8)) d4_49 ((x41).ready), blk bt7_0 (#[Value.int .i64 ((x42).m), Value.int .i64 ((x42).window), Value.int .i64 ((x42).next), Value.map (some b3_45), Value.slice a4_45 ((x42).ready).length c4_45]) 47, mblk b3_45 k3_45, tieM (El.sl (El.int .u8)) k3_45 ((x42).kept), row 26 1 (.slice a4_45 ((x42).ready).length c4_45) ((x42).ready).length d4_45, tie (El.sl (El.int .u8)) d4_45 ((x42).ready), signalmanlaw14_Act.at nb31 (((a2).getD (x16).toNat default)), reorder_Order.at bt9_0 (t38.2), row 5 1 (.slice (some ⟨lb37, 0, none⟩) (([1] : List Int)).length 1) (([1] : List Int)).length ((([1] : List Int)).map (Value.int .u8)), fsl 1 (.slice ea28 (((a2).getD (x16).toNat default).B).length em29) (((a2).getD (x16).toNat default).B).length ((((a2).getD (x16).toNat default).B).map (Value.int .u8)), tie signalmanlaw14_Act.El sd2 (a2), R] w0 w := HS
              refine W.rd (X.cmp (!(decide (t47 = t51))) rfl rfl rfl rfl) rfl rfl rfl ?_
              refine W.rd (X.move rfl) rfl rfl rfl ?_
              by_cases c53 : t47 = t51
              · replace H := ite_t c53 H
                refine W.want 101 rfl (sb (n_t (decide_eq_true c53))) ?_
                refine W.rd (X.move rfl) rfl rfl rfl ?_
                refine W.want 101 rfl (sb (n_t (decide_eq_true c53))) ?_
                obtain ⟨t54, A55, H⟩ := bind_s H
                replace HS := HS.re [5, 6, 7, 8, 9, 0, 1, 2, 3, 4, 10, 11, 12, 13, 14, 15] (by kernel_rfl)
                have HS : Sep.St [blk bt7_0 (#[Value.int .i64 ((x42).m), Value.int .i64 ((x42).window), Value.int .i64 ((x42).next), Value.map (some b3_45), Value.slice a4_45 ((x42).ready).length c4_45]) 47, mblk b3_45 k3_45, tieM (El.sl (El.int .u8)) k3_45 ((x42).kept), row 26 1 (.slice a4_45 ((x42).ready).length c4_45) ((x42).ready).length d4_45, tie (El.sl (El.int .u8)) d4_45 ((x42).ready), blk bt11_0 (#[Value.int .i64 ((x41).m), Value.int .i64 ((x41).window), Value.int .i64 ((x41).next), Value.slice a3_49 ((x41).kept).length c3_49, Value.slice a4_49 ((x41).ready).length c4_49]) 53, row 56 2 (.slice a3_49 ((x41).kept).length c3_49) ((x41).kept).length d3_49, tie signalmanref6_message.El d3_49 ((x41).kept), row 26 1 (.slice a4_49 ((x41).ready).length c4_49) ((x41).ready).length d4_49, tie (El.sl (El.int .u8)) d4_49 ((x41).ready), signalmanlaw14_Act.at nb31 (((a2).getD (x16).toNat default)), reorder_Order.at bt9_0 (t38.2), row 5 1 (.slice (some ⟨lb37, 0, none⟩) (([1] : List Int)).length 1) (([1] : List Int)).length ((([1] : List Int)).map (Value.int .u8)), fsl 1 (.slice ea28 (((a2).getD (x16).toNat default).B).length em29) (((a2).getD (x16).toNat default).B).length ((((a2).getD (x16).toNat default).B).map (Value.int .u8)), tie signalmanlaw14_Act.El sd2 (a2), R] w0 w := HS
                refine W.ev (Y.call Try.func10 (by kernel_rfl) rfl (vs := [Value.pointer (some ⟨bt7_0, 0, none⟩)]) rfl (reorder_Order_Gap.calls x42 _ w0 _ bt7_0 b3_45 k3_45 a4_45 c4_45 d4_45 t54  A55 (Sep.St.tailJoin (m := [blk bt7_0 (#[Value.int .i64 ((x42).m), Value.int .i64 ((x42).window), Value.int .i64 ((x42).next), Value.map (some b3_45), Value.slice a4_45 ((x42).ready).length c4_45]) 47, mblk b3_45 k3_45, tieM (El.sl (El.int .u8)) k3_45 ((x42).kept), row 26 1 (.slice a4_45 ((x42).ready).length c4_45) ((x42).ready).length d4_45, tie (El.sl (El.int .u8)) d4_45 ((x42).ready)]) (r := [blk bt11_0 (#[Value.int .i64 ((x41).m), Value.int .i64 ((x41).window), Value.int .i64 ((x41).next), Value.slice a3_49 ((x41).kept).length c3_49, Value.slice a4_49 ((x41).ready).length c4_49]) 53, row 56 2 (.slice a3_49 ((x41).kept).length c3_49) ((x41).kept).length d3_49, tie signalmanref6_message.El d3_49 ((x41).kept), row 26 1 (.slice a4_49 ((x41).ready).length c4_49) ((x41).ready).length d4_49, tie (El.sl (El.int .u8)) d4_49 ((x41).ready), signalmanlaw14_Act.at nb31 (((a2).getD (x16).toNat default)), reorder_Order.at bt9_0 (t38.2), row 5 1 (.slice (some ⟨lb37, 0, none⟩) (([1] : List Int)).length 1) (([1] : List Int)).length ((([1] : List Int)).map (Value.int .u8)), fsl 1 (.slice ea28 (((a2).getD (x16).toNat default).B).length em29) (((a2).getD (x16).toNat default).B).length ((((a2).getD (x16).toNat default).B).map (Value.int .u8)), tie signalmanlaw14_Act.El sd2 (a2), R]) HS))) rfl rfl rfl ?_
                rintro _ w ⟨rfl, HS⟩
                replace HS := Sep.St.tailOpen (m := [blk bt7_0 (#[Value.int .i64 ((x42).m), Value.int .i64 ((x42).window), Value.int .i64 ((x42).next), Value.map (some b3_45), Value.slice a4_45 ((x42).ready).length c4_45]) 47, mblk b3_45 k3_45, tieM (El.sl (El.int .u8)) k3_45 ((x42).kept), row 26 1 (.slice a4_45 ((x42).ready).length c4_45) ((x42).ready).length d4_45, tie (El.sl (El.int .u8)) d4_45 ((x42).ready)]) (r := [blk bt11_0 (#[Value.int .i64 ((x41).m), Value.int .i64 ((x41).window), Value.int .i64 ((x41).next), Value.slice a3_49 ((x41).kept).length c3_49, Value.slice a4_49 ((x41).ready).length c4_49]) 53, row 56 2 (.slice a3_49 ((x41).kept).length c3_49) ((x41).kept).length d3_49, tie signalmanref6_message.El d3_49 ((x41).kept), row 26 1 (.slice a4_49 ((x41).ready).length c4_49) ((x41).ready).length d4_49, tie (El.sl (El.int .u8)) d4_49 ((x41).ready), signalmanlaw14_Act.at nb31 (((a2).getD (x16).toNat default)), reorder_Order.at bt9_0 (t38.2), row 5 1 (.slice (some ⟨lb37, 0, none⟩) (([1] : List Int)).length 1) (([1] : List Int)).length ((([1] : List Int)).map (Value.int .u8)), fsl 1 (.slice ea28 (((a2).getD (x16).toNat default).B).length em29) (((a2).getD (x16).toNat default).B).length ((((a2).getD (x16).toNat default).B).map (Value.int .u8)), tie signalmanlaw14_Act.El sd2 (a2), R]) HS
                have HS : Sep.St [blk bt7_0 (#[Value.int .i64 ((x42).m), Value.int .i64 ((x42).window), Value.int .i64 ((x42).next), Value.map (some b3_45), Value.slice a4_45 ((x42).ready).length c4_45]) 47, mblk b3_45 k3_45, tieM (El.sl (El.int .u8)) k3_45 ((x42).kept), row 26 1 (.slice a4_45 ((x42).ready).length c4_45) ((x42).ready).length d4_45, tie (El.sl (El.int .u8)) d4_45 ((x42).ready), blk bt11_0 (#[Value.int .i64 ((x41).m), Value.int .i64 ((x41).window), Value.int .i64 ((x41).next), Value.slice a3_49 ((x41).kept).length c3_49, Value.slice a4_49 ((x41).ready).length c4_49]) 53, row 56 2 (.slice a3_49 ((x41).kept).length c3_49) ((x41).kept).length d3_49, tie signalmanref6_message.El d3_49 ((x41).kept), row 26 1 (.slice a4_49 ((x41).ready).length c4_49) ((x41).ready).length d4_49, tie (El.sl (El.int .u8)) d4_49 ((x41).ready), signalmanlaw14_Act.at nb31 (((a2).getD (x16).toNat default)), reorder_Order.at bt9_0 (t38.2), row 5 1 (.slice (some ⟨lb37, 0, none⟩) (([1] : List Int)).length 1) (([1] : List Int)).length ((([1] : List Int)).map (Value.int .u8)), fsl 1 (.slice ea28 (((a2).getD (x16).toNat default).B).length em29) (((a2).getD (x16).toNat default).B).length ((((a2).getD (x16).toNat default).B).map (Value.int .u8)), tie signalmanlaw14_Act.El sd2 (a2), R] w0 w := HS
                refine W.want 101 rfl (sb (n_t (decide_eq_true c53))) ?_
                refine W.rd (X.move rfl) rfl rfl rfl ?_
                refine W.want 101 rfl (sb (n_t (decide_eq_true c53))) ?_
                obtain ⟨t56, A57, H⟩ := bind_s H
                replace HS := HS.re [5, 6, 7, 8, 9, 0, 1, 2, 3, 4, 10, 11, 12, 13, 14, 15] (by kernel_rfl)
                have HS : Sep.St [blk bt11_0 (#[Value.int .i64 ((x41).m), Value.int .i64 ((x41).window), Value.int .i64 ((x41).next), Value.slice a3_49 ((x41).kept).length c3_49, Value.slice a4_49 ((x41).ready).length c4_49]) 53, row 56 2 (.slice a3_49 ((x41).kept).length c3_49) ((x41).kept).length d3_49, tie signalmanref6_message.El d3_49 ((x41).kept), row 26 1 (.slice a4_49 ((x41).ready).length c4_49) ((x41).ready).length d4_49, tie (El.sl (El.int .u8)) d4_49 ((x41).ready), blk bt7_0 (#[Value.int .i64 ((x42).m), Value.int .i64 ((x42).window), Value.int .i64 ((x42).next), Value.map (some b3_45), Value.slice a4_45 ((x42).ready).length c4_45]) 47, mblk b3_45 k3_45, tieM (El.sl (El.int .u8)) k3_45 ((x42).kept), row 26 1 (.slice a4_45 ((x42).ready).length c4_45) ((x42).ready).length d4_45, tie (El.sl (El.int .u8)) d4_45 ((x42).ready), signalmanlaw14_Act.at nb31 (((a2).getD (x16).toNat default)), reorder_Order.at bt9_0 (t38.2), row 5 1 (.slice (some ⟨lb37, 0, none⟩) (([1] : List Int)).length 1) (([1] : List Int)).length ((([1] : List Int)).map (Value.int .u8)), fsl 1 (.slice ea28 (((a2).getD (x16).toNat default).B).length em29) (((a2).getD (x16).toNat default).B).length ((((a2).getD (x16).toNat default).B).map (Value.int .u8)), tie signalmanlaw14_Act.El sd2 (a2), R] w0 w := HS
                refine W.ev (Y.call Try.func19 (by kernel_rfl) rfl (vs := [Value.pointer (some ⟨bt11_0, 0, none⟩)]) rfl (signalmanref6_Order_Gap.calls x41 _ w0 _ bt11_0 a3_49 c3_49 d3_49 a4_49 c4_49 d4_49 t56  A57 (Sep.St.tailJoin (m := [blk bt11_0 (#[Value.int .i64 ((x41).m), Value.int .i64 ((x41).window), Value.int .i64 ((x41).next), Value.slice a3_49 ((x41).kept).length c3_49, Value.slice a4_49 ((x41).ready).length c4_49]) 53, row 56 2 (.slice a3_49 ((x41).kept).length c3_49) ((x41).kept).length d3_49, tie signalmanref6_message.El d3_49 ((x41).kept), row 26 1 (.slice a4_49 ((x41).ready).length c4_49) ((x41).ready).length d4_49, tie (El.sl (El.int .u8)) d4_49 ((x41).ready)]) (r := [blk bt7_0 (#[Value.int .i64 ((x42).m), Value.int .i64 ((x42).window), Value.int .i64 ((x42).next), Value.map (some b3_45), Value.slice a4_45 ((x42).ready).length c4_45]) 47, mblk b3_45 k3_45, tieM (El.sl (El.int .u8)) k3_45 ((x42).kept), row 26 1 (.slice a4_45 ((x42).ready).length c4_45) ((x42).ready).length d4_45, tie (El.sl (El.int .u8)) d4_45 ((x42).ready), signalmanlaw14_Act.at nb31 (((a2).getD (x16).toNat default)), reorder_Order.at bt9_0 (t38.2), row 5 1 (.slice (some ⟨lb37, 0, none⟩) (([1] : List Int)).length 1) (([1] : List Int)).length ((([1] : List Int)).map (Value.int .u8)), fsl 1 (.slice ea28 (((a2).getD (x16).toNat default).B).length em29) (((a2).getD (x16).toNat default).B).length ((((a2).getD (x16).toNat default).B).map (Value.int .u8)), tie signalmanlaw14_Act.El sd2 (a2), R]) HS))) rfl rfl rfl ?_
                rintro _ w ⟨rfl, HS⟩
                replace HS := Sep.St.tailOpen (m := [blk bt11_0 (#[Value.int .i64 ((x41).m), Value.int .i64 ((x41).window), Value.int .i64 ((x41).next), Value.slice a3_49 ((x41).kept).length c3_49, Value.slice a4_49 ((x41).ready).length c4_49]) 53, row 56 2 (.slice a3_49 ((x41).kept).length c3_49) ((x41).kept).length d3_49, tie signalmanref6_message.El d3_49 ((x41).kept), row 26 1 (.slice a4_49 ((x41).ready).length c4_49) ((x41).ready).length d4_49, tie (El.sl (El.int .u8)) d4_49 ((x41).ready)]) (r := [blk bt7_0 (#[Value.int .i64 ((x42).m), Value.int .i64 ((x42).window), Value.int .i64 ((x42).next), Value.map (some b3_45), Value.slice a4_45 ((x42).ready).length c4_45]) 47, mblk b3_45 k3_45, tieM (El.sl (El.int .u8)) k3_45 ((x42).kept), row 26 1 (.slice a4_45 ((x42).ready).length c4_45) ((x42).ready).length d4_45, tie (El.sl (El.int .u8)) d4_45 ((x42).ready), signalmanlaw14_Act.at nb31 (((a2).getD (x16).toNat default)), reorder_Order.at bt9_0 (t38.2), row 5 1 (.slice (some ⟨lb37, 0, none⟩) (([1] : List Int)).length 1) (([1] : List Int)).length ((([1] : List Int)).map (Value.int .u8)), fsl 1 (.slice ea28 (((a2).getD (x16).toNat default).B).length em29) (((a2).getD (x16).toNat default).B).length ((((a2).getD (x16).toNat default).B).map (Value.int .u8)), tie signalmanlaw14_Act.El sd2 (a2), R]) HS
                have HS : Sep.St [blk bt11_0 (#[Value.int .i64 ((x41).m), Value.int .i64 ((x41).window), Value.int .i64 ((x41).next), Value.slice a3_49 ((x41).kept).length c3_49, Value.slice a4_49 ((x41).ready).length c4_49]) 53, row 56 2 (.slice a3_49 ((x41).kept).length c3_49) ((x41).kept).length d3_49, tie signalmanref6_message.El d3_49 ((x41).kept), row 26 1 (.slice a4_49 ((x41).ready).length c4_49) ((x41).ready).length d4_49, tie (El.sl (El.int .u8)) d4_49 ((x41).ready), blk bt7_0 (#[Value.int .i64 ((x42).m), Value.int .i64 ((x42).window), Value.int .i64 ((x42).next), Value.map (some b3_45), Value.slice a4_45 ((x42).ready).length c4_45]) 47, mblk b3_45 k3_45, tieM (El.sl (El.int .u8)) k3_45 ((x42).kept), row 26 1 (.slice a4_45 ((x42).ready).length c4_45) ((x42).ready).length d4_45, tie (El.sl (El.int .u8)) d4_45 ((x42).ready), signalmanlaw14_Act.at nb31 (((a2).getD (x16).toNat default)), reorder_Order.at bt9_0 (t38.2), row 5 1 (.slice (some ⟨lb37, 0, none⟩) (([1] : List Int)).length 1) (([1] : List Int)).length ((([1] : List Int)).map (Value.int .u8)), fsl 1 (.slice ea28 (((a2).getD (x16).toNat default).B).length em29) (((a2).getD (x16).toNat default).B).length ((((a2).getD (x16).toNat default).B).map (Value.int .u8)), tie signalmanlaw14_Act.El sd2 (a2), R] w0 w := HS
                refine W.want 101 rfl (sb (n_t (decide_eq_true c53))) ?_
                refine W.rd (X.neB Try.underlying4 rfl rfl) rfl rfl rfl ?_
                refine W.rd (X.pickF (sb (n_t (decide_eq_true c53))) rfl) rfl rfl rfl ?_
                refine W.nil ?_
                refine At.next ?_
                refine V.keep [(2, Value.slice (some ⟨eb24, eo25, none⟩) (a2).length sc2), (8, Value.pointer (some ⟨bt7_0, 0, none⟩)), (9, Value.pointer (some ⟨bt9_0, 0, none⟩)), (10, Value.pointer (some ⟨bt11_0, 0, none⟩)), (11, Value.int .i64 (x16)), (102, Value.pointer (some ⟨bt7_0, 0, none⟩)), (103, Value.bool (t54)), (104, Value.pointer (some ⟨bt11_0, 0, none⟩)), (105, Value.bool (t56)), (106, Value.bool (((t54) != (t56)))), (107, Value.bool (((t54) != (t56))))] ⟨rfl, rfl, rfl, rfl, rfl, rfl, rfl, rfl, rfl, rfl, rfl, trivial⟩ ?_
                by_cases c58 : ((t54) != (t56)) = true
                · replace H := ite_t c58 H
                  refine V.condT (sb c58) ?_
                  refine V.seq ?_
                  refine V.region ?_
                  refine W.rd (X.assign rfl) rfl rfl rfl ?_
                  refine W.nil ?_
                  refine At.next ?_
                  refine V.keep [(6, Value.bool (false))] ⟨rfl, trivial⟩ ?_
                  refine V.ret ?_
                  refine At.blockRet ?_
                  refine At.thenRet ?_
                  refine At.thenRet ?_
                  refine At.blockRet ?_
                  refine At.thenRet ?_
                  replace HS := HS.sel [15] [0, 1, 2, 3, 4, 5, 6, 7, 8, 9, 10, 11, 12, 13, 14] (by kernel_rfl)
                  cases H
                  exact At.ret1 rfl rfl ⟨_, rfl, rfl, HS⟩
                · replace H := ite_f c58 H
                  refine V.condF (sb (b_f c58)) ?_
                  refine V.skip ?_
                  refine At.blockEnd ?_
                  refine At.next ?_
                  refine V.keep [(2, Value.slice (some ⟨eb24, eo25, none⟩) (a2).length sc2), (8, Value.pointer (some ⟨bt7_0, 0, none⟩)), (9, Value.pointer (some ⟨bt9_0, 0, none⟩)), (10, Value.pointer (some ⟨bt11_0, 0, none⟩)), (11, Value.int .i64 (x16)), (102, Value.pointer (some ⟨bt7_0, 0, none⟩)), (103, Value.bool (t54)), (104, Value.pointer (some ⟨bt11_0, 0, none⟩)), (105, Value.bool (t56)), (106, Value.bool (((t54) != (t56))))] ⟨rfl, rfl, rfl, rfl, rfl, rfl, rfl, rfl, rfl, rfl, trivial⟩ ?_
                  refine V.region ?_
                  refine W.rd (X.move rfl) rfl rfl rfl ?_
                  refine W.rd (X.add rfl rfl) rfl rfl rfl ?_
                  refine W.rd (X.assign rfl) rfl rfl rfl ?_
                  refine W.nil ?_
                  replace HS := signalmanref6_Order.close (x41) trivial HS
                  have HS : Sep.St [signalmanref6_Order.at bt11_0 (x41), blk bt7_0 (#[Value.int .i64 ((x42).m), Value.int .i64 ((x42).window), Value.int .i64 ((x42).next), Value.map (some b3_45), Value.slice a4_45 ((x42).ready).length c4_45]) 47, mblk b3_45 k3_45, tieM (El.sl (El.int .u8)) k3_45 ((x42).kept), row 26 1 (.slice a4_45 ((x42).ready).length c4_45) ((x42).ready).length d4_45, tie (El.sl (El.int .u8)) d4_45 ((x42).ready), signalmanlaw14_Act.at nb31 (((a2).getD (x16).toNat default)), reorder_Order.at bt9_0 (t38.2), row 5 1 (.slice (some ⟨lb37, 0, none⟩) (([1] : List Int)).length 1) (([1] : List Int)).length ((([1] : List Int)).map (Value.int .u8)), fsl 1 (.slice ea28 (((a2).getD (x16).toNat default).B).length em29) (((a2).getD (x16).toNat default).B).length ((((a2).getD (x16).toNat default).B).map (Value.int .u8)), tie signalmanlaw14_Act.El sd2 (a2), R] w0 w := HS
                  replace HS := HS.re [1, 2, 3, 4, 5, 0, 6, 7, 8, 9, 10, 11] (by kernel_rfl)
                  have HS : Sep.St [blk bt7_0 (#[Value.int .i64 ((x42).m), Value.int .i64 ((x42).window), Value.int .i64 ((x42).next), Value.map (some b3_45), Value.slice a4_45 ((x42).ready).length c4_45]) 47, mblk b3_45 k3_45, tieM (El.sl (El.int .u8)) k3_45 ((x42).kept), row 26 1 (.slice a4_45 ((x42).ready).length c4_45) ((x42).ready).length d4_45, tie (El.sl (El.int .u8)) d4_45 ((x42).ready), signalmanref6_Order.at bt11_0 (x41), signalmanlaw14_Act.at nb31 (((a2).getD (x16).toNat default)), reorder_Order.at bt9_0 (t38.2), row 5 1 (.slice (some ⟨lb37, 0, none⟩) (([1] : List Int)).length 1) (([1] : List Int)).length ((([1] : List Int)).map (Value.int .u8)), fsl 1 (.slice ea28 (((a2).getD (x16).toNat default).B).length em29) (((a2).getD (x16).toNat default).B).length ((((a2).getD (x16).toNat default).B).map (Value.int .u8)), tie signalmanlaw14_Act.El sd2 (a2), R] w0 w := HS
                  replace HS := reorder_Order.close (x42) trivial HS
                  have HS : Sep.St [reorder_Order.at bt7_0 (x42), signalmanref6_Order.at bt11_0 (x41), signalmanlaw14_Act.at nb31 (((a2).getD (x16).toNat default)), reorder_Order.at bt9_0 (t38.2), row 5 1 (.slice (some ⟨lb37, 0, none⟩) (([1] : List Int)).length 1) (([1] : List Int)).length ((([1] : List Int)).map (Value.int .u8)), fsl 1 (.slice ea28 (((a2).getD (x16).toNat default).B).length em29) (((a2).getD (x16).toNat default).B).length ((((a2).getD (x16).toNat default).B).map (Value.int .u8)), tie signalmanlaw14_Act.El sd2 (a2), R] w0 w := HS
                  replace HS := HS.sel [1, 3, 0, 6, 7] [2, 4, 5] (by kernel_rfl)
                  exact At.round kf43 (by omega) (w64 (x16 + 1), x41, t38.2, x42) ⟨rfl, rfl, rfl, rfl, rfl, trivial⟩ ⟨HS, H, by omega⟩
              · replace H := ite_f c53 H
                refine W.pass 101 rfl (sb (n_f (decide_eq_false c53))) rfl rfl ?_
                refine W.pass 101 rfl (sb (n_f (decide_eq_false c53))) rfl rfl ?_
                refine W.pass 101 rfl (sb (n_f (decide_eq_false c53))) rfl rfl ?_
                refine W.pass 101 rfl (sb (n_f (decide_eq_false c53))) rfl rfl ?_
                refine W.pass 101 rfl (sb (n_f (decide_eq_false c53))) rfl rfl ?_
                refine W.rd (X.pickT (sb (n_f (decide_eq_false c53))) rfl) rfl rfl rfl ?_
                refine W.nil ?_
                refine At.next ?_
                refine V.keep [(2, Value.slice (some ⟨eb24, eo25, none⟩) (a2).length sc2), (8, Value.pointer (some ⟨bt7_0, 0, none⟩)), (9, Value.pointer (some ⟨bt9_0, 0, none⟩)), (10, Value.pointer (some ⟨bt11_0, 0, none⟩)), (11, Value.int .i64 (x16)), (102, undef), (103, undef), (104, undef), (105, undef), (106, undef), (107, Value.bool (true))] ⟨rfl, rfl, rfl, rfl, rfl, rfl, rfl, rfl, rfl, rfl, rfl, trivial⟩ ?_
                refine V.condT rfl ?_
                refine V.seq ?_
                refine V.region ?_
                refine W.rd (X.assign rfl) rfl rfl rfl ?_
                refine W.nil ?_
                refine At.next ?_
                refine V.keep [(6, Value.bool (false))] ⟨rfl, trivial⟩ ?_
                refine V.ret ?_
                refine At.blockRet ?_
                refine At.thenRet ?_
                refine At.thenRet ?_
                refine At.blockRet ?_
                refine At.thenRet ?_
                replace HS := HS.sel [15] [0, 1, 2, 3, 4, 5, 6, 7, 8, 9, 10, 11, 12, 13, 14] (by kernel_rfl)
                cases H
                exact At.ret1 rfl rfl ⟨_, rfl, rfl, HS⟩
        · replace H := ite_f c22 H
          refine V.condF (sb (decide_eq_false c22)) ?_
          refine V.exit ?_
          refine At.thenExit ?_
          refine At.thenExit ?_
          refine At.blockExit ?_
          refine At.next ?_
          refine V.keep [] trivial ?_
          refine V.seq ?_
          refine V.region ?_
          refine W.rd (X.assign rfl) rfl rfl rfl ?_
          refine W.nil ?_
          refine At.next ?_
          refine V.keep [(6, Value.bool (true))] ⟨rfl, trivial⟩ ?_
          refine V.ret ?_
          replace HS := HS.sel [4] [0, 1, 2, 3] (by kernel_rfl)
          cases H
          exact At.ret1 rfl rfl ⟨_, rfl, rfl, HS⟩

def signalmanlaw14_ReorderPlays.Pure : Prop := ∀ (a0 : Int) (a1 : Int) (a2 : List signalmanlaw14_Act), (Lit.int .i64 a0).wf = true → (Lit.int .i64 a1).wf = true → (∀ z ∈ a2, ((Lit.int .i64 z.Way).wf = true ∧ ((Lit.int .i64 z.N).wf = true ∧ (((∀ z3 ∈ z.B, (Lit.int .u8 z3).wf = true) ∧ (z.B.length : Int) ≤ 9223372036854775807) ∧ True)))) → (a2.length : Int) ≤ 9223372036854775807 → ∃ k, signalmanlaw14_ReorderPlays.f k a0 a1 a2 = some true
end Go.Proofs.Ytcjmffcpldjbpaa

/- ArqAgain: the functions that its law reaches, as plain functions, and that the machine's calls come to what these say. Conditions: those that stand at each. -/
import Derived.Test.YtnlcafmkmfnobaaRunArqAgainP3
set_option linter.all false
namespace Go.Proofs.Ytnlcafmkmfnobaa
open Go.RowKit Go.Proofs.Ytnlcafmkmfnobaa.Sep Go.Proofs.Ytnlcafmkmfnobaa.Walk
/-! ### (*signalman/reorder.Order).Put: function 102 -/
mutual
def reorder_Order_Put.l0 : Nat → Int → Bool → reorder_Order → (List Int) → Option (Int × reorder_Order)
  | 0, _, _, _, _ => none
  | k + 1, x26, x27, x28, x31 => (if x27 = true then (if (x28.ready.length : Int) + (([x31] : List (List Int))).length ≤ 1099511627776 then ((serial_Next.f x28.next x28.m).bind fun t43 => (reorder_Order_Put.l0 k (w64 (x26 + 1)) (mhas (mdel x28.kept x28.next) t43) ({ m := x28.m, window := x28.window, next := t43, kept := mdel x28.kept x28.next, ready := x28.ready ++ ([x31] : List (List Int)) } : reorder_Order) (mget (mdel x28.kept x28.next) t43 []))) else none) else some (x26, x28))
end
def reorder_Order_Put.f (k : Nat) (a0 : reorder_Order) (a1 : Int) (a2 : List Int) : Option (Int × reorder_Order) := ((serial_Dist.f a0.next a1 a0.m).bind fun t3 => (if ¬ (a0.m = 0) then (if t3 ≥ a0.window then some ((-1), a0) else (if mhas a0.kept ((w64 (a0.next + t3)).tmod a0.m) = true then some (0, a0) else ((slices_Clone_Sbytebyte.f a2).bind fun t17 => (reorder_Order_Put.l0 k 0 (mhas (mput a0.kept ((w64 (a0.next + t3)).tmod a0.m) t17) a0.next) ({ m := a0.m, window := a0.window, next := a0.next, kept := mput a0.kept ((w64 (a0.next + t3)).tmod a0.m) t17, ready := a0.ready } : reorder_Order) (mget (mput a0.kept ((w64 (a0.next + t3)).tmod a0.m) t17) a0.next []))))) else none))
set_option maxRecDepth 100000 in
set_option maxHeartbeats 4000000 in
theorem reorder_Order_Put.calls (k : Nat) (a0 : reorder_Order) (a1 : Int) (a2 : List Int) (R : As) (w0 w : World) (b0 : Nat) (sa2 : Option Addr) (sc2 : Nat) (r : Int × reorder_Order) (hr2 : rdC R 1 (.slice sa2 a2.length sc2) a2.length (a2.map (Value.int .u8))) (H : reorder_Order_Put.f k a0 a1 a2 = some r) (HS : Sep.St [reorder_Order.at b0 a0, R] w0 w) : Calls Try.prog 102 #[Value.pointer (some ⟨b0, 0, none⟩), Value.int .i64 a1, Value.slice sa2 a2.length sc2] w (Ret fun u w => u = Value.int .i64 r.1 ∧ Sep.St [reorder_Order.at b0 r.2, R] w0 w) := by
  unfold reorder_Order_Put.f at H
  refine calls_enter Try.func102 rfl rfl ?_
  have H : _ = some r := H
  refine V.seq ?_
  refine V.region ?_
  refine W.rd (X.assign rfl) rfl rfl rfl ?_
  refine W.nil ?_
  refine At.next ?_
  refine V.seq ?_
  obtain ⟨b3_1, k3_1, a4_1, c4_1, d4_1, hi2, HS⟩ := reorder_Order.open HS
  refine V.draw (es := [9]) (bl := [10]) (f := [(13, Value.pointer (some ⟨b0, 0, none⟩)), (14, Value.pointer (some ⟨b0, 0, none⟩)), (15, Value.pointer (some ⟨b0, 0 + 2, none⟩)), (16, Value.int .i64 a0.next), (17, Value.int .i64 a1), (18, Value.pointer (some ⟨b0, 0, none⟩)), (19, Value.pointer (some ⟨b0, 0, none⟩)), (20, Value.pointer (some ⟨b0, 0 + 0, none⟩)), (21, Value.int .i64 a0.m)]) (fun w => Sep.St [blk b0 (#[Value.int .i64 a0.m, Value.int .i64 a0.window, Value.int .i64 a0.next, Value.map (some b3_1), Value.slice a4_1 a0.ready.length c4_1]) 106, mblk b3_1 k3_1, tieM (El.sl (El.int .u8)) k3_1 a0.kept, row 39 1 (.slice a4_1 a0.ready.length c4_1) a0.ready.length d4_1, tie (El.sl (El.int .u8)) d4_1 a0.ready, R] w0 w) mo HS.drew rfl ?_
  refine T.event _ [(16, Value.int .i64 a0.next), (17, Value.int .i64 a1), (21, Value.int .i64 a0.m)] rfl rfl ⟨.m1 0 rfl (.l rfl rfl) (fun w HS => X.move rfl) rfl rfl rfl rfl rfl, .m1 13 rfl (.r rfl rfl) (fun w HS => X.nilCheck rfl) rfl rfl rfl rfl rfl, .m1 14 rfl (.r rfl rfl) (fun w HS => X.fieldAddr 2 fo106_2 rfl) rfl rfl rfl rfl rfl, .m1 15 rfl (.r rfl rfl) (fun w HS => X.loadAt 0 HS rfl Try.underlying3 rfl rfl rfl) rfl rfl rfl rfl rfl, .m1 1 rfl (.l rfl rfl) (fun w HS => X.move rfl) rfl rfl rfl rfl rfl, .m1 0 rfl (.l rfl rfl) (fun w HS => X.move rfl) rfl rfl rfl rfl rfl, .m1 18 rfl (.r rfl rfl) (fun w HS => X.nilCheck rfl) rfl rfl rfl rfl rfl, .m1 19 rfl (.r rfl rfl) (fun w HS => X.fieldAddr 0 fo106_0 rfl) rfl rfl rfl rfl rfl, .m1 20 rfl (.r rfl rfl) (fun w HS => X.loadAt 0 HS rfl Try.underlying3 rfl rfl rfl) rfl rfl rfl rfl rfl, trivial⟩ rfl ⟨.inr ⟨rfl, rfl⟩, ⟨.inr ⟨rfl, rfl⟩, ⟨.inr ⟨rfl, rfl⟩, trivial⟩⟩⟩ (Or.inl rfl) (by intro d hd; cases hd; exact ⟨by decide, rfl, rfl⟩) [] [0, 1, 2, 3, 4, 5, 6, 7, 8] rfl rfl (fun w HS => ?_)
  obtain ⟨t3, A4, H⟩ := bind_s H
  refine ⟨_, Y.call Try.func100 (by kernel_rfl) rfl (vs := [Value.int .i64 a0.next, Value.int .i64 a1, Value.int .i64 a0.m]) rfl (serial_Dist.calls a0.next a1 a0.m _ w0 _  t3  A4 (Sep.St.tailJoin (m := []) (r := [blk b0 (#[Value.int .i64 a0.m, Value.int .i64 a0.window, Value.int .i64 a0.next, Value.map (some b3_1), Value.slice a4_1 a0.ready.length c4_1]) 106, mblk b3_1 k3_1, tieM (El.sl (El.int .u8)) k3_1 a0.kept, row 39 1 (.slice a4_1 a0.ready.length c4_1) a0.ready.length d4_1, tie (El.sl (El.int .u8)) d4_1 a0.ready, R]) HS)), ?_⟩
  rintro _ w ⟨rfl, HS⟩
  replace HS := Sep.St.tailOpen (m := []) (r := [blk b0 (#[Value.int .i64 a0.m, Value.int .i64 a0.window, Value.int .i64 a0.next, Value.map (some b3_1), Value.slice a4_1 a0.ready.length c4_1]) 106, mblk b3_1 k3_1, tieM (El.sl (El.int .u8)) k3_1 a0.kept, row 39 1 (.slice a4_1 a0.ready.length c4_1) a0.ready.length d4_1, tie (El.sl (El.int .u8)) d4_1 a0.ready, R]) HS
  refine ⟨[(22, Value.int .i64 t3), (7, Value.int .i64 t3)], _, ⟨.inl ⟨rfl, rfl⟩, ⟨.inr ⟨by decide, rfl⟩, trivial⟩⟩, ?_, HS⟩
  refine T.fin [(0, Value.pointer (some ⟨b0, 0, none⟩)), (2, Value.slice sa2 a2.length sc2), (7, Value.int .i64 t3)] rfl ⟨.m1 22 rfl (.r rfl rfl) (fun w HS => X.assign rfl) rfl rfl rfl rfl rfl, trivial⟩ ⟨.inl ⟨rfl, rfl⟩, ⟨.inl ⟨rfl, rfl⟩, ⟨.inr ⟨rfl, rfl⟩, trivial⟩⟩⟩ (fun w HS => ?_)
  refine At.next ?_
  refine V.seq ?_
  obtain ⟨c5, H⟩ := ite_n H
  refine V.draw (es := []) (bl := []) (f := [(23, Value.pointer (some ⟨b0, 0, none⟩)), (24, Value.pointer (some ⟨b0, 0, none⟩)), (25, Value.pointer (some ⟨b0, 0 + 2, none⟩)), (26, Value.int .i64 a0.next), (27, Value.int .i64 t3), (28, Value.int .i64 (w64 (a0.next + t3))), (29, Value.pointer (some ⟨b0, 0, none⟩)), (30, Value.pointer (some ⟨b0, 0, none⟩)), (31, Value.pointer (some ⟨b0, 0 + 0, none⟩)), (32, Value.int .i64 a0.m), (33, Value.int .i64 ((w64 (a0.next + t3)).tmod a0.m)), (1, Value.int .i64 ((w64 (a0.next + t3)).tmod a0.m))]) (fun w => Sep.St [blk b0 (#[Value.int .i64 a0.m, Value.int .i64 a0.window, Value.int .i64 a0.next, Value.map (some b3_1), Value.slice a4_1 a0.ready.length c4_1]) 106, mblk b3_1 k3_1, tieM (El.sl (El.int .u8)) k3_1 a0.kept, row 39 1 (.slice a4_1 a0.ready.length c4_1) a0.ready.length d4_1, tie (El.sl (El.int .u8)) d4_1 a0.ready, R] w0 w) mo HS.drew rfl ?_
  refine T.fin [(0, Value.pointer (some ⟨b0, 0, none⟩)), (1, Value.int .i64 ((w64 (a0.next + t3)).tmod a0.m)), (2, Value.slice sa2 a2.length sc2), (7, Value.int .i64 t3)] rfl ⟨.m1 0 rfl (.l rfl rfl) (fun w HS => X.move rfl) rfl rfl rfl rfl rfl, .m1 23 rfl (.r rfl rfl) (fun w HS => X.nilCheck rfl) rfl rfl rfl rfl rfl, .m1 24 rfl (.r rfl rfl) (fun w HS => X.fieldAddr 2 fo106_2 rfl) rfl rfl rfl rfl rfl, .m1 25 rfl (.r rfl rfl) (fun w HS => X.loadAt 0 HS rfl Try.underlying3 rfl rfl rfl) rfl rfl rfl rfl rfl, .m1 7 rfl (.l rfl rfl) (fun w HS => X.move rfl) rfl rfl rfl rfl rfl, .m2 26 27 rfl (.r rfl rfl) (.r rfl rfl) (fun w HS => X.add rfl rfl) rfl rfl rfl rfl rfl, .m1 0 rfl (.l rfl rfl) (fun w HS => X.move rfl) rfl rfl rfl rfl rfl, .m1 29 rfl (.r rfl rfl) (fun w HS => X.nilCheck rfl) rfl rfl rfl rfl rfl, .m1 30 rfl (.r rfl rfl) (fun w HS => X.fieldAddr 0 fo106_0 rfl) rfl rfl rfl rfl rfl, .m1 31 rfl (.r rfl rfl) (fun w HS => X.loadAt 0 HS rfl Try.underlying3 rfl rfl rfl) rfl rfl rfl rfl rfl, .m2 28 32 rfl (.r rfl rfl) (.r rfl rfl) (fun w HS => X.rem rfl rfl c5) rfl rfl rfl rfl rfl, .m1 33 rfl (.r rfl rfl) (fun w HS => X.assign rfl) rfl rfl rfl rfl rfl, trivial⟩ ⟨.inl ⟨rfl, rfl⟩, ⟨.inr ⟨rfl, rfl⟩, ⟨.inl ⟨rfl, rfl⟩, ⟨.inl ⟨rfl, rfl⟩, trivial⟩⟩⟩⟩ (fun w HS => ?_)
  refine At.next ?_
  refine V.seq ?_
  refine V.seq ?_
  refine V.region ?_
  refine W.rd (X.move rfl) rfl rfl rfl ?_
  refine W.rd (X.move rfl) rfl rfl rfl ?_
  refine W.rd (X.nilCheck rfl) rfl rfl rfl ?_
  refine W.rd (X.fieldAddr 1 fo106_1 rfl) rfl rfl rfl ?_
  refine W.rd (X.loadAt 0 HS rfl Try.underlying3 rfl rfl rfl) rfl rfl rfl ?_
  refine W.rd (X.cmp (decide (t3 ≥ a0.window)) rfl rfl rfl rfl) rfl rfl rfl ?_
  refine W.nil ?_
  refine At.next ?_
  by_cases c11 : t3 ≥ a0.window
  · replace H := ite_t c11 H
    refine V.condT (sb (decide_eq_true c11)) ?_
    refine V.seq ?_
    refine V.region ?_
    refine W.rd (X.assign rfl) rfl rfl rfl ?_
    refine W.nil ?_
    refine At.next ?_
    refine V.ret ?_
    refine At.thenRet ?_
    replace HS := reorder_Order.close a0 trivial HS
    cases H
    exact At.ret1 rfl rfl ⟨_, rfl, rfl, HS⟩
  · replace H := ite_f c11 H
    refine V.condF (sb (decide_eq_false c11)) ?_
    refine V.skip ?_
    refine At.next ?_
    refine V.seq ?_
    refine V.seq ?_
    refine V.region ?_
    refine W.rd (X.move rfl) rfl rfl rfl ?_
    refine W.rd (X.nilCheck rfl) rfl rfl rfl ?_
    refine W.rd (X.fieldAddr 3 fo106_3 rfl) rfl rfl rfl ?_
    refine W.rd (X.loadAt 0 HS rfl Try.underlying104 rfl rfl rfl) rfl rfl rfl ?_
    refine W.rd (X.move rfl) rfl rfl rfl ?_
    have hm12 := St.tieM_has 2 ((w64 (a0.next + t3)).tmod a0.m) HS rfl
    replace HS := St.tieM_get 2 ((w64 (a0.next + t3)).tmod a0.m) (z := .slice none 0 0) (d := []) sl_zero HS rfl
    obtain ⟨ea14, em15, hu13, HS⟩ := St.sl_openF (Value.int .u8) (fun t => tie_int t) HS
    refine W.rd (X.lookup (z := .slice none 0 0) 2 Try.underlying104 Try.underlying3 ze39 HS rfl rfl rfl hu13 hm12) rfl rfl rfl ?_
    refine W.rd (X.move rfl) rfl rfl rfl ?_
    refine W.rd (X.extract rfl rfl) rfl rfl rfl ?_
    refine W.rd (X.extract rfl rfl) rfl rfl rfl ?_
    refine W.rd (X.assign rfl) rfl rfl rfl ?_
    refine W.rd (X.assign rfl) rfl rfl rfl ?_
    refine W.nil ?_
    refine At.next ?_
    refine V.seq ?_
    refine V.region ?_
    refine W.rd (X.move rfl) rfl rfl rfl ?_
    refine W.nil ?_
    refine At.next ?_
    by_cases c16 : mhas a0.kept ((w64 (a0.next + t3)).tmod a0.m) = true
    · replace H := ite_t c16 H
      refine V.condT (sb c16) ?_
      refine V.seq ?_
      refine V.region ?_
      refine W.rd (X.assign rfl) rfl rfl rfl ?_
      refine W.nil ?_
      refine At.next ?_
      refine V.ret ?_
      refine At.thenRet ?_
      replace HS := HS.re [1, 2, 3, 4, 5, 0, 6] (by kernel_rfl)
      replace HS := reorder_Order.close a0 trivial HS
      replace HS := HS.sel [0, 2] [1] (by kernel_rfl)
      cases H
      exact At.ret1 rfl rfl ⟨_, rfl, rfl, HS⟩
    · replace H := ite_f c16 H
      refine V.condF (sb (b_f c16)) ?_
      refine V.skip ?_
      refine At.next ?_
      refine V.seq ?_
      refine V.draw (es := [6, 7]) (bl := []) (f := [(50, Value.pointer (some ⟨b0, 0, none⟩)), (51, Value.pointer (some ⟨b0, 0, none⟩)), (52, Value.pointer (some ⟨b0, 0 + 3, none⟩)), (53, Value.map (some b3_1)), (54, Value.int .i64 ((w64 (a0.next + t3)).tmod a0.m)), (55, Value.slice sa2 a2.length sc2)]) (fun w => Sep.St [fsl 1 (.slice ea14 (mget a0.kept ((w64 (a0.next + t3)).tmod a0.m) []).length em15) (mget a0.kept ((w64 (a0.next + t3)).tmod a0.m) []).length ((mget a0.kept ((w64 (a0.next + t3)).tmod a0.m) []).map (Value.int .u8)), blk b0 (#[Value.int .i64 a0.m, Value.int .i64 a0.window, Value.int .i64 a0.next, Value.map (some b3_1), Value.slice a4_1 a0.ready.length c4_1]) 106, mblk b3_1 k3_1, tieM (El.sl (El.int .u8)) k3_1 a0.kept, row 39 1 (.slice a4_1 a0.ready.length c4_1) a0.ready.length d4_1, tie (El.sl (El.int .u8)) d4_1 a0.ready, R] w0 w) mo HS.drew rfl ?_
      refine T.event _ [(55, Value.slice sa2 a2.length sc2)] rfl rfl ⟨.m1 0 rfl (.l rfl rfl) (fun w HS => X.move rfl) rfl rfl rfl rfl rfl, .m1 50 rfl (.r rfl rfl) (fun w HS => X.nilCheck rfl) rfl rfl rfl rfl rfl, .m1 51 rfl (.r rfl rfl) (fun w HS => X.fieldAddr 3 fo106_3 rfl) rfl rfl rfl rfl rfl, .m1 52 rfl (.r rfl rfl) (fun w HS => X.loadAt 1 HS rfl Try.underlying104 rfl rfl rfl) rfl rfl rfl rfl rfl, .m1 1 rfl (.l rfl rfl) (fun w HS => X.move rfl) rfl rfl rfl rfl rfl, .m1 2 rfl (.l rfl rfl) (fun w HS => X.move rfl) rfl rfl rfl rfl rfl, trivial⟩ rfl ⟨.inr ⟨rfl, rfl⟩, trivial⟩ (Or.inl rfl) (by intro d hd; cases hd; exact ⟨by decide, rfl, rfl⟩) [] [5] rfl rfl (fun w HS => ?_)
      obtain ⟨t17, A18, H⟩ := bind_s H
      refine ⟨_, Y.call Try.func93 (by kernel_rfl) rfl (vs := [Value.slice sa2 a2.length sc2]) rfl (slices_Clone_Sbytebyte.calls a2 _ w0 _ sa2 sc2 t17 (rdC.part 6 hr2 rfl) A18 (Sep.St.tailJoin (m := []) (r := [fsl 1 (.slice ea14 (mget a0.kept ((w64 (a0.next + t3)).tmod a0.m) []).length em15) (mget a0.kept ((w64 (a0.next + t3)).tmod a0.m) []).length ((mget a0.kept ((w64 (a0.next + t3)).tmod a0.m) []).map (Value.int .u8)), blk b0 (#[Value.int .i64 a0.m, Value.int .i64 a0.window, Value.int .i64 a0.next, Value.map (some b3_1), Value.slice a4_1 a0.ready.length c4_1]) 106, mblk b3_1 k3_1, tieM (El.sl (El.int .u8)) k3_1 a0.kept, row 39 1 (.slice a4_1 a0.ready.length c4_1) a0.ready.length d4_1, tie (El.sl (El.int .u8)) d4_1 a0.ready, R]) HS)), ?_⟩
      rintro _ w ⟨at17_0, ct17_0, rfl, HS⟩
      replace HS := Sep.St.tailOpen (m := [row 5 1 (.slice at17_0 t17.length ct17_0) t17.length (t17.map (Value.int .u8))]) (r := [fsl 1 (.slice ea14 (mget a0.kept ((w64 (a0.next + t3)).tmod a0.m) []).length em15) (mget a0.kept ((w64 (a0.next + t3)).tmod a0.m) []).length ((mget a0.kept ((w64 (a0.next + t3)).tmod a0.m) []).map (Value.int .u8)), blk b0 (#[Value.int .i64 a0.m, Value.int .i64 a0.window, Value.int .i64 a0.next, Value.map (some b3_1), Value.slice a4_1 a0.ready.length c4_1]) 106, mblk b3_1 k3_1, tieM (El.sl (El.int .u8)) k3_1 a0.kept, row 39 1 (.slice a4_1 a0.ready.length c4_1) a0.ready.length d4_1, tie (El.sl (El.int .u8)) d4_1 a0.ready, R]) HS
      refine ⟨[(56, Value.slice at17_0 t17.length ct17_0)], _, ⟨.inl ⟨rfl, rfl⟩, trivial⟩, ?_, HS⟩
      refine T.event _ [(53, Value.map (some b3_1)), (54, Value.int .i64 ((w64 (a0.next + t3)).tmod a0.m)), (56, Value.slice at17_0 t17.length ct17_0)] rfl rfl ⟨.m1 0 rfl (.l rfl rfl) (fun w HS => X.move rfl) rfl rfl rfl rfl rfl, .m1 50 rfl (.r rfl rfl) (fun w HS => X.nilCheck rfl) rfl rfl rfl rfl rfl, .m1 51 rfl (.r rfl rfl) (fun w HS => X.fieldAddr 3 fo106_3 rfl) rfl rfl rfl rfl rfl, .m1 52 rfl (.r rfl rfl) (fun w HS => X.loadAt 2 HS rfl Try.underlying104 rfl rfl rfl) rfl rfl rfl rfl rfl, .m1 1 rfl (.l rfl rfl) (fun w HS => X.move rfl) rfl rfl rfl rfl rfl, trivial⟩ rfl ⟨.inr ⟨rfl, rfl⟩, ⟨.inr ⟨rfl, rfl⟩, ⟨.inr ⟨rfl, rfl⟩, trivial⟩⟩⟩ (Or.inl rfl) (by intro d hd; cases hd) [] [0, 1, 2, 3, 4] rfl rfl (fun w HS => ?_)
      replace HS := St.row_freeze HS
      replace HS := HS.more 0 rfl (fun _ t => t) fsl.pers
      replace HS := St.put (A := tie (El.int .u8) (t17.map (Value.int .u8)) t17) (fun _ => int_tie) HS
      replace HS := St.swap HS
      replace HS := St.sl_close (E := (El.int .u8)) HS
      replace HS := HS.re [0, 5, 1, 2, 3, 4, 6, 7, 8] (by kernel_rfl)
      replace HS := St.tieM_put ((w64 (a0.next + t3)).tmod a0.m) HS
      refine ⟨_, Y.mapUpdate 4 Try.underlying104 Try.underlying3 HS rfl rfl rfl rfl, ?_⟩
      rintro _ w HS
      refine ⟨[], _, trivial, ?_, HS⟩
      refine T.fin [(0, Value.pointer (some ⟨b0, 0, none⟩))] rfl trivial ⟨.inl ⟨rfl, rfl⟩, trivial⟩ (fun w HS => ?_)
      refine At.next ?_
      refine V.seq ?_
      refine V.region ?_
      refine W.rd (X.assign rfl) rfl rfl rfl ?_
      refine W.nil ?_
      refine At.next ?_
      refine V.seq ?_
      refine V.seq ?_
      have hm19 := St.tieM_has 0 a0.next HS rfl
      replace HS := St.tieM_get 0 a0.next (z := .slice none 0 0) (d := []) sl_zero HS rfl
      obtain ⟨ea21, em22, hu20, HS⟩ := St.sl_openF (Value.int .u8) (fun t => tie_int t) HS
      refine V.draw (es := []) (bl := []) (f := [(58, Value.pointer (some ⟨b0, 0, none⟩)), (59, Value.pointer (some ⟨b0, 0, none⟩)), (60, Value.pointer (some ⟨b0, 0 + 3, none⟩)), (61, Value.map (some b3_1)), (62, Value.pointer (some ⟨b0, 0, none⟩)), (63, Value.pointer (some ⟨b0, 0, none⟩)), (64, Value.pointer (some ⟨b0, 0 + 2, none⟩)), (65, Value.int .i64 a0.next), (66, Value.tuple #[Value.slice ea21 (mget (mput a0.kept ((w64 (a0.next + t3)).tmod a0.m) t17) a0.next []).length em22, Value.bool (mhas (mput a0.kept ((w64 (a0.next + t3)).tmod a0.m) t17) a0.next)]), (57, Value.tuple #[Value.slice ea21 (mget (mput a0.kept ((w64 (a0.next + t3)).tmod a0.m) t17) a0.next []).length em22, Value.bool (mhas (mput a0.kept ((w64 (a0.next + t3)).tmod a0.m) t17) a0.next)]), (67, Value.slice ea21 (mget (mput a0.kept ((w64 (a0.next + t3)).tmod a0.m) t17) a0.next []).length em22), (68, Value.bool (mhas (mput a0.kept ((w64 (a0.next + t3)).tmod a0.m) t17) a0.next)), (11, Value.slice ea21 (mget (mput a0.kept ((w64 (a0.next + t3)).tmod a0.m) t17) a0.next []).length em22), (12, Value.bool (mhas (mput a0.kept ((w64 (a0.next + t3)).tmod a0.m) t17) a0.next))]) (fun w => Sep.St [fsl 1 (.slice ea21 (mget (mput a0.kept ((w64 (a0.next + t3)).tmod a0.m) t17) a0.next []).length em22) (mget (mput a0.kept ((w64 (a0.next + t3)).tmod a0.m) t17) a0.next []).length ((mget (mput a0.kept ((w64 (a0.next + t3)).tmod a0.m) t17) a0.next []).map (Value.int .u8)), tieM (El.sl (El.int .u8)) (mput k3_1 ((w64 (a0.next + t3)).tmod a0.m) (Value.slice at17_0 t17.length ct17_0)) (mput a0.kept ((w64 (a0.next + t3)).tmod a0.m) t17), fsl 1 (.slice at17_0 t17.length ct17_0) t17.length (t17.map (Value.int .u8)), fsl 1 (.slice ea14 (mget a0.kept ((w64 (a0.next + t3)).tmod a0.m) []).length em15) (mget a0.kept ((w64 (a0.next + t3)).tmod a0.m) []).length ((mget a0.kept ((w64 (a0.next + t3)).tmod a0.m) []).map (Value.int .u8)), blk b0 (#[Value.int .i64 a0.m, Value.int .i64 a0.window, Value.int .i64 a0.next, Value.map (some b3_1), Value.slice a4_1 a0.ready.length c4_1]) 106, mblk b3_1 (mput k3_1 ((w64 (a0.next + t3)).tmod a0.m) (Value.slice at17_0 t17.length ct17_0)), row 39 1 (.slice a4_1 a0.ready.length c4_1) a0.ready.length d4_1, tie (El.sl (El.int .u8)) d4_1 a0.ready, R] w0 w) mo HS.drew rfl ?_
      refine T.fin [(0, Value.pointer (some ⟨b0, 0, none⟩)), (10, Value.int .i64 (0)), (11, Value.slice ea21 (mget (mput a0.kept ((w64 (a0.next + t3)).tmod a0.m) t17) a0.next []).length em22), (12, Value.bool (mhas (mput a0.kept ((w64 (a0.next + t3)).tmod a0.m) t17) a0.next))] rfl ⟨.m1 0 rfl (.l rfl rfl) (fun w HS => X.move rfl) rfl rfl rfl rfl rfl, .m1 58 rfl (.r rfl rfl) (fun w HS => X.nilCheck rfl) rfl rfl rfl rfl rfl, .m1 59 rfl (.r rfl rfl) (fun w HS => X.fieldAddr 3 fo106_3 rfl) rfl rfl rfl rfl rfl, .m1 60 rfl (.r rfl rfl) (fun w HS => X.loadAt 4 HS rfl Try.underlying104 rfl rfl rfl) rfl rfl rfl rfl rfl, .m1 0 rfl (.l rfl rfl) (fun w HS => X.move rfl) rfl rfl rfl rfl rfl, .m1 62 rfl (.r rfl rfl) (fun w HS => X.nilCheck rfl) rfl rfl rfl rfl rfl, .m1 63 rfl (.r rfl rfl) (fun w HS => X.fieldAddr 2 fo106_2 rfl) rfl rfl rfl rfl rfl, .m1 64 rfl (.r rfl rfl) (fun w HS => X.loadAt 4 HS rfl Try.underlying3 rfl rfl rfl) rfl rfl rfl rfl rfl, .m2 61 65 rfl (.r rfl rfl) (.r rfl rfl) (fun w HS => X.lookup (z := .slice none 0 0) 5 Try.underlying104 Try.underlying3 ze39 HS rfl rfl rfl hu20 hm19) rfl rfl rfl rfl rfl, .m1 66 rfl (.r rfl rfl) (fun w HS => X.move rfl) rfl rfl rfl rfl rfl, .m1 57 rfl (.r rfl rfl) (fun w HS => X.extract rfl rfl) rfl rfl rfl rfl rfl, .m1 57 rfl (.r rfl rfl) (fun w HS => X.extract rfl rfl) rfl rfl rfl rfl rfl, .m1 67 rfl (.r rfl rfl) (fun w HS => X.assign rfl) rfl rfl rfl rfl rfl, .m1 68 rfl (.r rfl rfl) (fun w HS => X.assign rfl) rfl rfl rfl rfl rfl, trivial⟩ ⟨.inl ⟨rfl, rfl⟩, ⟨.inl ⟨rfl, rfl⟩, ⟨.inr ⟨rfl, rfl⟩, ⟨.inr ⟨rfl, rfl⟩, trivial⟩⟩⟩⟩ (fun w HS => ?_)
      refine At.next ?_
      refine V.block ?_
      replace HS := HS.re [4, 5, 1, 6, 7, 0, 2, 3, 8] (by kernel_rfl)
      replace HS := reorder_Order.close (({ m := a0.m, window := a0.window, next := a0.next, kept := mput a0.kept ((w64 (a0.next + t3)).tmod a0.m) t17, ready := a0.ready } : reorder_Order)) trivial HS
      refine V.loop (σ := Int × Bool × reorder_Order × Option Addr × Nat × List Int) (fun kq (st : Int × Bool × reorder_Order × Option Addr × Nat × List Int) w => match st with | (x26, x27, x28, ra29, rc30, x31) => Sep.St [reorder_Order.at b0 x28, fsl 1 (.slice ra29 x31.length rc30) x31.length (x31.map (Value.int .u8)), fsl 1 (.slice at17_0 t17.length ct17_0) t17.length (t17.map (Value.int .u8)), fsl 1 (.slice ea14 (mget a0.kept ((w64 (a0.next + t3)).tmod a0.m) []).length em15) (mget a0.kept ((w64 (a0.next + t3)).tmod a0.m) []).length ((mget a0.kept ((w64 (a0.next + t3)).tmod a0.m) []).map (Value.int .u8)), R] w0 w ∧ reorder_Order_Put.l0 kq x26 x27 x28 x31 = some r ∧ kq ≤ k) (fun st => match st with | (x26, x27, x28, ra29, rc30, x31) => [(0, Value.pointer (some ⟨b0, 0, none⟩)), (10, Value.int .i64 x26), (11, Value.slice ra29 x31.length rc30), (12, Value.bool x27)]) k (0, mhas (mput a0.kept ((w64 (a0.next + t3)).tmod a0.m) t17) a0.next, ({ m := a0.m, window := a0.window, next := a0.next, kept := mput a0.kept ((w64 (a0.next + t3)).tmod a0.m) t17, ready := a0.ready } : reorder_Order), ea21, em22, mget (mput a0.kept ((w64 (a0.next + t3)).tmod a0.m) t17) a0.next []) ⟨rfl, rfl, rfl, rfl, trivial⟩ ⟨HS, H, Nat.le_refl _⟩ ?_
      rintro kq32 ⟨x26, x27, x28, ra29, rc30, x31⟩ w ⟨HS, H, hk33⟩
      cases kq32 with
      | zero => exact absurd H (by simp [reorder_Order_Put.l0])
      | succ kq32 =>
        simp only [reorder_Order_Put.l0] at H
        refine V.seq ?_
        refine V.seq ?_
        refine V.region ?_
        refine W.rd (X.move rfl) rfl rfl rfl ?_
        refine W.nil ?_
        refine At.next ?_
        by_cases c34 : x27 = true
        · replace H := ite_t c34 H
          refine V.condT (sb c34) ?_
          refine V.skip ?_
          refine At.next ?_
          refine V.seq ?_
          refine V.block ?_
          refine V.seq ?_
          obtain ⟨b3_35, k3_35, a4_35, c4_35, d4_35, hi36, HS⟩ := reorder_Order.open HS
          refine V.draw (es := [8]) (bl := []) (f := [(82, Value.pointer (some ⟨b0, 0, none⟩)), (83, Value.pointer (some ⟨b0, 0, none⟩)), (84, Value.pointer (some ⟨b0, 0 + 3, none⟩)), (85, Value.map (some b3_35)), (86, Value.pointer (some ⟨b0, 0, none⟩)), (87, Value.pointer (some ⟨b0, 0, none⟩)), (88, Value.pointer (some ⟨b0, 0 + 2, none⟩)), (89, Value.int .i64 x28.next)]) (fun w => Sep.St [blk b0 (#[Value.int .i64 x28.m, Value.int .i64 x28.window, Value.int .i64 x28.next, Value.map (some b3_35), Value.slice a4_35 x28.ready.length c4_35]) 106, mblk b3_35 k3_35, tieM (El.sl (El.int .u8)) k3_35 x28.kept, row 39 1 (.slice a4_35 x28.ready.length c4_35) x28.ready.length d4_35, tie (El.sl (El.int .u8)) d4_35 x28.ready, fsl 1 (.slice ra29 x31.length rc30) x31.length (x31.map (Value.int .u8)), fsl 1 (.slice at17_0 t17.length ct17_0) t17.length (t17.map (Value.int .u8)), fsl 1 (.slice ea14 (mget a0.kept ((w64 (a0.next + t3)).tmod a0.m) []).length em15) (mget a0.kept ((w64 (a0.next + t3)).tmod a0.m) []).length ((mget a0.kept ((w64 (a0.next + t3)).tmod a0.m) []).map (Value.int .u8)), R] w0 w) mo HS.drew rfl ?_
          refine T.event _ [(85, Value.map (some b3_35)), (89, Value.int .i64 x28.next)] rfl rfl ⟨.m1 0 rfl (.l rfl rfl) (fun w HS => X.move rfl) rfl rfl rfl rfl rfl, .m1 82 rfl (.r rfl rfl) (fun w HS => X.nilCheck rfl) rfl rfl rfl rfl rfl, .m1 83 rfl (.r rfl rfl) (fun w HS => X.fieldAddr 3 fo106_3 rfl) rfl rfl rfl rfl rfl, .m1 84 rfl (.r rfl rfl) (fun w HS => X.loadAt 0 HS rfl Try.underlying104 rfl rfl rfl) rfl rfl rfl rfl rfl, .m1 0 rfl (.l rfl rfl) (fun w HS => X.move rfl) rfl rfl rfl rfl rfl, .m1 86 rfl (.r rfl rfl) (fun w HS => X.nilCheck rfl) rfl rfl rfl rfl rfl, .m1 87 rfl (.r rfl rfl) (fun w HS => X.fieldAddr 2 fo106_2 rfl) rfl rfl rfl rfl rfl, .m1 88 rfl (.r rfl rfl) (fun w HS => X.loadAt 0 HS rfl Try.underlying3 rfl rfl rfl) rfl rfl rfl rfl rfl, trivial⟩ rfl ⟨.inr ⟨rfl, rfl⟩, ⟨.inr ⟨rfl, rfl⟩, trivial⟩⟩ (Or.inl rfl) (by intro d hd; cases hd) [] [0, 1, 2, 3, 4, 5, 6, 7] rfl rfl (fun w HS => ?_)
          replace HS := HS.front 2 rfl
          replace HS := St.tieM_del x28.next HS
          refine ⟨_, Y.delete 2 Try.underlying104 Try.underlying3 HS rfl rfl rfl, ?_⟩
          rintro _ w HS
          refine ⟨[], _, trivial, ?_, HS⟩
          refine T.fin [(0, Value.pointer (some ⟨b0, 0, none⟩)), (10, Value.int .i64 x26), (11, Value.slice ra29 x31.length rc30)] rfl trivial ⟨.inl ⟨rfl, rfl⟩, ⟨.inl ⟨rfl, rfl⟩, ⟨.inl ⟨rfl, rfl⟩, trivial⟩⟩⟩ (fun w HS => ?_)
          refine At.next ?_
          refine V.seq ?_
          refine V.region ?_
          refine W.rd (X.move rfl) rfl rfl rfl ?_
          refine W.rd (X.move rfl) rfl rfl rfl ?_
          refine W.rd (X.nilCheck rfl) rfl rfl rfl ?_
          refine W.rd (X.fieldAddr 4 fo106_4 rfl) rfl rfl rfl ?_
          refine W.rd (X.loadAt 1 HS rfl Try.underlying30 rfl rfl rfl) rfl rfl rfl ?_
          refine W.rd (X.move rfl) rfl rfl rfl ?_
          refine W.ev (Y.litB (e := 39) (sz := 1) (vs := #[(0, Value.slice ra29 x31.length rc30)]) [Value.slice ra29 x31.length rc30] HS (fun a ha => by simp only [List.map_toArray, List.map_cons, List.map_nil]; rw [ha.ev (x := .tmp 95) (v := Value.slice ra29 x31.length rc30) rfl]; try rfl) rfl (by decide) (fun _ => by kernel_rfl)) rfl rfl rfl ?_
          rintro _ w ⟨lb37, rfl, HS⟩
          have HS : Sep.St [row 39 1 (.slice (some ⟨lb37, 0, none⟩) (([x31] : List (List Int))).length 1) (([x31] : List (List Int))).length ([Value.slice ra29 x31.length rc30]), tieM (El.sl (El.int .u8)) (mdel k3_35 x28.next) (mdel x28.kept x28.next), blk b0 (#[Value.int .i64 x28.m, Value.int .i64 x28.window, Value.int .i64 x28.next, Value.map (some b3_35), Value.slice a4_35 x28.ready.length c4_35]) 106, mblk b3_35 (mdel k3_35 x28.next), row 39 1 (.slice a4_35 x28.ready.length c4_35) x28.ready.length d4_35, tie (El.sl (El.int .u8)) d4_35 x28.ready, fsl 1 (.slice ra29 x31.length rc30) x31.length (x31.map (Value.int .u8)), fsl 1 (.slice at17_0 t17.length ct17_0) t17.length (t17.map (Value.int .u8)), fsl 1 (.slice ea14 (mget a0.kept ((w64 (a0.next + t3)).tmod a0.m) []).length em15) (mget a0.kept ((w64 (a0.next + t3)).tmod a0.m) []).length ((mget a0.kept ((w64 (a0.next + t3)).tmod a0.m) []).map (Value.int .u8)), R] w0 w := HS
          replace HS := St.put (A := tie (El.sl (El.int .u8)) ([]) (([] : List (List Int)))) (fun _ => tie.nil) HS
          replace HS := HS.more 7 rfl (fun _ t => t) fsl.pers
          replace HS := St.put (A := tie (El.int .u8) (x31.map (Value.int .u8)) x31) (fun _ => int_tie) HS
          replace HS := St.swap HS
          replace HS := St.sl_close (E := (El.int .u8)) HS
          replace HS := HS.front 1 rfl
          replace HS := HS.front 1 rfl
          replace HS := St.tie_cons HS
          obtain ⟨c40, H⟩ := ite_n H
          refine W.ev (Y.app (xs := x28.ready) (ys := ([x31] : List (List Int))) 5 Try.underlying30 ap39 rfl (by decide) HS rfl rfl rfl (rdC.at 1 row_rd HS rfl) (St.tie_one 0 HS rfl) (by omega) (by omega)) rfl rfl rfl ?_
          rintro _ w ⟨ra41, rc42, rfl, HS⟩
          replace HS := HS.front 6 rfl
          replace HS := St.tie_app 1 HS rfl
          refine W.rd (X.nilCheck rfl) rfl rfl rfl ?_
          refine W.rd (X.fieldAddr 4 fo106_4 rfl) rfl rfl rfl ?_
          refine W.ev_none (Y.storeAt 4 HS rfl inf30 rfl rfl rfl rfl rfl rfl) rfl rfl ?_
          rintro _ w HS
          refine W.nil ?_
          refine At.next ?_
          refine V.seq ?_
          refine V.draw (es := [9, 12]) (bl := [10, 11]) (f := [(100, Value.pointer (some ⟨b0, 0, none⟩)), (101, Value.pointer (some ⟨b0, 0, none⟩)), (102, Value.pointer (some ⟨b0, 0, none⟩)), (103, Value.pointer (some ⟨b0, 0 + 2, none⟩)), (104, Value.int .i64 x28.next), (105, Value.pointer (some ⟨b0, 0, none⟩)), (106, Value.pointer (some ⟨b0, 0, none⟩)), (107, Value.pointer (some ⟨b0, 0 + 0, none⟩)), (108, Value.int .i64 x28.m)]) (fun w => Sep.St [tie (El.sl (El.int .u8)) (d4_35 ++ ([Value.slice ra29 x31.length rc30])) (x28.ready ++ ([x31] : List (List Int))), tie (El.sl (El.int .u8)) ([Value.slice ra29 x31.length rc30]) (([x31] : List (List Int))), row 39 1 (.slice (some ⟨lb37, 0, none⟩) (([x31] : List (List Int))).length 1) (([x31] : List (List Int))).length ([Value.slice ra29 x31.length rc30]), tieM (El.sl (El.int .u8)) (mdel k3_35 x28.next) (mdel x28.kept x28.next), blk b0 (#[Value.int .i64 x28.m, Value.int .i64 x28.window, Value.int .i64 x28.next, Value.map (some b3_35), Value.slice ra41 (x28.ready ++ ([x31] : List (List Int))).length rc42]) 106, mblk b3_35 (mdel k3_35 x28.next), row 39 1 (.slice ra41 (x28.ready ++ ([x31] : List (List Int))).length rc42) (x28.ready ++ ([x31] : List (List Int))).length (d4_35 ++ ([Value.slice ra29 x31.length rc30])), fsl 1 (.slice ra29 x31.length rc30) x31.length (x31.map (Value.int .u8)), fsl 1 (.slice at17_0 t17.length ct17_0) t17.length (t17.map (Value.int .u8)), fsl 1 (.slice ea14 (mget a0.kept ((w64 (a0.next + t3)).tmod a0.m) []).length em15) (mget a0.kept ((w64 (a0.next + t3)).tmod a0.m) []).length ((mget a0.kept ((w64 (a0.next + t3)).tmod a0.m) []).map (Value.int .u8)), R] w0 w) mo HS.drew rfl ?_
          refine T.event _ [(104, Value.int .i64 x28.next), (108, Value.int .i64 x28.m)] rfl rfl ⟨.m1 0 rfl (.l rfl rfl) (fun w HS => X.move rfl) rfl rfl rfl rfl rfl, .m1 0 rfl (.l rfl rfl) (fun w HS => X.move rfl) rfl rfl rfl rfl rfl, .m1 101 rfl (.r rfl rfl) (fun w HS => X.nilCheck rfl) rfl rfl rfl rfl rfl, .m1 102 rfl (.r rfl rfl) (fun w HS => X.fieldAddr 2 fo106_2 rfl) rfl rfl rfl rfl rfl, .m1 103 rfl (.r rfl rfl) (fun w HS => X.loadAt 4 HS rfl Try.underlying3 rfl rfl rfl) rfl rfl rfl rfl rfl, .m1 0 rfl (.l rfl rfl) (fun w HS => X.move rfl) rfl rfl rfl rfl rfl, .m1 105 rfl (.r rfl rfl) (fun w HS => X.nilCheck rfl) rfl rfl rfl rfl rfl, .m1 106 rfl (.r rfl rfl) (fun w HS => X.fieldAddr 0 fo106_0 rfl) rfl rfl rfl rfl rfl, .m1 107 rfl (.r rfl rfl) (fun w HS => X.loadAt 4 HS rfl Try.underlying3 rfl rfl rfl) rfl rfl rfl rfl rfl, trivial⟩ rfl ⟨.inr ⟨rfl, rfl⟩, ⟨.inr ⟨rfl, rfl⟩, trivial⟩⟩ (Or.inl rfl) (by intro d hd; cases hd; exact ⟨by decide, rfl, rfl⟩) [] [1, 2, 3, 4, 5, 6, 7, 8] rfl rfl (fun w HS => ?_)
          obtain ⟨t43, A44, H⟩ := bind_s H
          refine ⟨_, Y.call Try.func45 (by kernel_rfl) rfl (vs := [Value.int .i64 x28.next, Value.int .i64 x28.m]) rfl (serial_Next.calls x28.next x28.m _ w0 _  t43  A44 (Sep.St.tailJoin (m := []) (r := [tie (El.sl (El.int .u8)) (d4_35 ++ ([Value.slice ra29 x31.length rc30])) (x28.ready ++ ([x31] : List (List Int))), tie (El.sl (El.int .u8)) ([Value.slice ra29 x31.length rc30]) (([x31] : List (List Int))), row 39 1 (.slice (some ⟨lb37, 0, none⟩) (([x31] : List (List Int))).length 1) (([x31] : List (List Int))).length ([Value.slice ra29 x31.length rc30]), tieM (El.sl (El.int .u8)) (mdel k3_35 x28.next) (mdel x28.kept x28.next), blk b0 (#[Value.int .i64 x28.m, Value.int .i64 x28.window, Value.int .i64 x28.next, Value.map (some b3_35), Value.slice ra41 (x28.ready ++ ([x31] : List (List Int))).length rc42]) 106, mblk b3_35 (mdel k3_35 x28.next), row 39 1 (.slice ra41 (x28.ready ++ ([x31] : List (List Int))).length rc42) (x28.ready ++ ([x31] : List (List Int))).length (d4_35 ++ ([Value.slice ra29 x31.length rc30])), fsl 1 (.slice ra29 x31.length rc30) x31.length (x31.map (Value.int .u8)), fsl 1 (.slice at17_0 t17.length ct17_0) t17.length (t17.map (Value.int .u8)), fsl 1 (.slice ea14 (mget a0.kept ((w64 (a0.next + t3)).tmod a0.m) []).length em15) (mget a0.kept ((w64 (a0.next + t3)).tmod a0.m) []).length ((mget a0.kept ((w64 (a0.next + t3)).tmod a0.m) []).map (Value.int .u8)), R]) HS)), ?_⟩
          rintro _ w ⟨rfl, HS⟩
          replace HS := Sep.St.tailOpen (m := []) (r := [tie (El.sl (El.int .u8)) (d4_35 ++ ([Value.slice ra29 x31.length rc30])) (x28.ready ++ ([x31] : List (List Int))), tie (El.sl (El.int .u8)) ([Value.slice ra29 x31.length rc30]) (([x31] : List (List Int))), row 39 1 (.slice (some ⟨lb37, 0, none⟩) (([x31] : List (List Int))).length 1) (([x31] : List (List Int))).length ([Value.slice ra29 x31.length rc30]), tieM (El.sl (El.int .u8)) (mdel k3_35 x28.next) (mdel x28.kept x28.next), blk b0 (#[Value.int .i64 x28.m, Value.int .i64 x28.window, Value.int .i64 x28.next, Value.map (some b3_35), Value.slice ra41 (x28.ready ++ ([x31] : List (List Int))).length rc42]) 106, mblk b3_35 (mdel k3_35 x28.next), row 39 1 (.slice ra41 (x28.ready ++ ([x31] : List (List Int))).length rc42) (x28.ready ++ ([x31] : List (List Int))).length (d4_35 ++ ([Value.slice ra29 x31.length rc30])), fsl 1 (.slice ra29 x31.length rc30) x31.length (x31.map (Value.int .u8)), fsl 1 (.slice at17_0 t17.length ct17_0) t17.length (t17.map (Value.int .u8)), fsl 1 (.slice ea14 (mget a0.kept ((w64 (a0.next + t3)).tmod a0.m) []).length em15) (mget a0.kept ((w64 (a0.next + t3)).tmod a0.m) []).length ((mget a0.kept ((w64 (a0.next + t3)).tmod a0.m) []).map (Value.int .u8)), R]) HS
          refine ⟨[(109, Value.int .i64 t43), (110, Value.pointer (some ⟨b0, 0, none⟩)), (111, Value.pointer (some ⟨b0, 0 + 2, none⟩))], _, ⟨.inl ⟨rfl, rfl⟩, ⟨.inr ⟨by decide, rfl⟩, ⟨.inr ⟨by decide, rfl⟩, trivial⟩⟩⟩, ?_, HS⟩
          refine T.event _ [(109, Value.int .i64 t43), (111, Value.pointer (some ⟨b0, 0 + 2, none⟩))] rfl rfl ⟨.m1 0 rfl (.l rfl rfl) (fun w HS => X.move rfl) rfl rfl rfl rfl rfl, .m1 100 rfl (.r rfl rfl) (fun w HS => X.nilCheck rfl) rfl rfl rfl rfl rfl, .m1 110 rfl (.r rfl rfl) (fun w HS => X.fieldAddr 2 fo106_2 rfl) rfl rfl rfl rfl rfl, trivial⟩ rfl ⟨.inr ⟨rfl, rfl⟩, ⟨.inr ⟨rfl, rfl⟩, trivial⟩⟩ (Or.inl rfl) (by intro d hd; cases hd) [] [0, 10, 11] rfl rfl (fun w HS => ?_)
          refine ⟨_, Y.storeAt 4 HS rfl inf3 rfl rfl rfl rfl rfl rfl, ?_⟩
          rintro _ w HS
          refine ⟨[], _, trivial, ?_, HS⟩
          refine T.fin [(0, Value.pointer (some ⟨b0, 0, none⟩)), (10, Value.int .i64 x26)] rfl trivial ⟨.inl ⟨rfl, rfl⟩, ⟨.inl ⟨rfl, rfl⟩, trivial⟩⟩ (fun w HS => ?_)
          refine At.next ?_
          refine V.region ?_
          refine W.rd (X.move rfl) rfl rfl rfl ?_
          refine W.rd (X.add rfl rfl) rfl rfl rfl ?_
          refine W.rd (X.assign rfl) rfl rfl rfl ?_
          refine W.nil ?_
          refine At.blockEnd ?_
          refine At.next ?_
          have hm45 := St.tieM_has 3 t43 HS rfl
          replace HS := St.tieM_get 3 t43 (z := .slice none 0 0) (d := []) sl_zero HS rfl
          obtain ⟨ea47, em48, hu46, HS⟩ := St.sl_openF (Value.int .u8) (fun t => tie_int t) HS
          refine V.draw (es := []) (bl := []) (f := [(71, Value.pointer (some ⟨b0, 0, none⟩)), (72, Value.pointer (some ⟨b0, 0, none⟩)), (73, Value.pointer (some ⟨b0, 0 + 3, none⟩)), (74, Value.map (some b3_35)), (75, Value.pointer (some ⟨b0, 0, none⟩)), (76, Value.pointer (some ⟨b0, 0, none⟩)), (77, Value.pointer (some ⟨b0, 0 + 2, none⟩)), (78, Value.int .i64 t43), (79, Value.tuple #[Value.slice ea47 (mget (mdel x28.kept x28.next) t43 []).length em48, Value.bool (mhas (mdel x28.kept x28.next) t43)]), (70, Value.tuple #[Value.slice ea47 (mget (mdel x28.kept x28.next) t43 []).length em48, Value.bool (mhas (mdel x28.kept x28.next) t43)]), (80, Value.slice ea47 (mget (mdel x28.kept x28.next) t43 []).length em48), (81, Value.bool (mhas (mdel x28.kept x28.next) t43)), (11, Value.slice ea47 (mget (mdel x28.kept x28.next) t43 []).length em48), (12, Value.bool (mhas (mdel x28.kept x28.next) t43))]) (fun w => Sep.St [fsl 1 (.slice ea47 (mget (mdel x28.kept x28.next) t43 []).length em48) (mget (mdel x28.kept x28.next) t43 []).length ((mget (mdel x28.kept x28.next) t43 []).map (Value.int .u8)), tie (El.sl (El.int .u8)) (d4_35 ++ ([Value.slice ra29 x31.length rc30])) (x28.ready ++ ([x31] : List (List Int))), tie (El.sl (El.int .u8)) ([Value.slice ra29 x31.length rc30]) (([x31] : List (List Int))), row 39 1 (.slice (some ⟨lb37, 0, none⟩) (([x31] : List (List Int))).length 1) (([x31] : List (List Int))).length ([Value.slice ra29 x31.length rc30]), tieM (El.sl (El.int .u8)) (mdel k3_35 x28.next) (mdel x28.kept x28.next), blk b0 (#[Value.int .i64 x28.m, Value.int .i64 x28.window, Value.int .i64 t43, Value.map (some b3_35), Value.slice ra41 (x28.ready ++ ([x31] : List (List Int))).length rc42]) 106, mblk b3_35 (mdel k3_35 x28.next), row 39 1 (.slice ra41 (x28.ready ++ ([x31] : List (List Int))).length rc42) (x28.ready ++ ([x31] : List (List Int))).length (d4_35 ++ ([Value.slice ra29 x31.length rc30])), fsl 1 (.slice ra29 x31.length rc30) x31.length (x31.map (Value.int .u8)), fsl 1 (.slice at17_0 t17.length ct17_0) t17.length (t17.map (Value.int .u8)), fsl 1 (.slice ea14 (mget a0.kept ((w64 (a0.next + t3)).tmod a0.m) []).length em15) (mget a0.kept ((w64 (a0.next + t3)).tmod a0.m) []).length ((mget a0.kept ((w64 (a0.next + t3)).tmod a0.m) []).map (Value.int .u8)), R] w0 w) mo HS.drew rfl ?_
          refine T.fin [(0, Value.pointer (some ⟨b0, 0, none⟩)), (10, Value.int .i64 (w64 (x26 + 1))), (11, Value.slice ea47 (mget (mdel x28.kept x28.next) t43 []).length em48), (12, Value.bool (mhas (mdel x28.kept x28.next) t43))] rfl ⟨.m1 0 rfl (.l rfl rfl) (fun w HS => X.move rfl) rfl rfl rfl rfl rfl, .m1 71 rfl (.r rfl rfl) (fun w HS => X.nilCheck rfl) rfl rfl rfl rfl rfl, .m1 72 rfl (.r rfl rfl) (fun w HS => X.fieldAddr 3 fo106_3 rfl) rfl rfl rfl rfl rfl, .m1 73 rfl (.r rfl rfl) (fun w HS => X.loadAt 5 HS rfl Try.underlying104 rfl rfl rfl) rfl rfl rfl rfl rfl, .m1 0 rfl (.l rfl rfl) (fun w HS => X.move rfl) rfl rfl rfl rfl rfl, .m1 75 rfl (.r rfl rfl) (fun w HS => X.nilCheck rfl) rfl rfl rfl rfl rfl, .m1 76 rfl (.r rfl rfl) (fun w HS => X.fieldAddr 2 fo106_2 rfl) rfl rfl rfl rfl rfl, .m1 77 rfl (.r rfl rfl) (fun w HS => X.loadAt 5 HS rfl Try.underlying3 rfl rfl rfl) rfl rfl rfl rfl rfl, .m2 74 78 rfl (.r rfl rfl) (.r rfl rfl) (fun w HS => X.lookup (z := .slice none 0 0) 6 Try.underlying104 Try.underlying3 ze39 HS rfl rfl rfl hu46 hm45) rfl rfl rfl rfl rfl, .m1 79 rfl (.r rfl rfl) (fun w HS => X.move rfl) rfl rfl rfl rfl rfl, .m1 70 rfl (.r rfl rfl) (fun w HS => X.extract rfl rfl) rfl rfl rfl rfl rfl, .m1 70 rfl (.r rfl rfl) (fun w HS => X.extract rfl rfl) rfl rfl rfl rfl rfl, .m1 80 rfl (.r rfl rfl) (fun w HS => X.assign rfl) rfl rfl rfl rfl rfl, .m1 81 rfl (.r rfl rfl) (fun w HS => X.assign rfl) rfl rfl rfl rfl rfl, trivial⟩ ⟨.inl ⟨rfl, rfl⟩, ⟨.inl ⟨rfl, rfl⟩, ⟨.inr ⟨rfl, rfl⟩, ⟨.inr ⟨rfl, rfl⟩, trivial⟩⟩⟩⟩ (fun w HS => ?_)
          replace HS := HS.re [5, 6, 4, 7, 1, 0, 2, 3, 8, 9, 10, 11] (by kernel_rfl)
          replace HS := reorder_Order.close (({ m := x28.m, window := x28.window, next := t43, kept := mdel x28.kept x28.next, ready := x28.ready ++ ([x31] : List (List Int)) } : reorder_Order)) trivial HS
          replace HS := HS.sel [0, 1, 5, 6, 7] [2, 3, 4] (by kernel_rfl)
          exact At.round kq32 (by omega) (w64 (x26 + 1), mhas (mdel x28.kept x28.next) t43, ({ m := x28.m, window := x28.window, next := t43, kept := mdel x28.kept x28.next, ready := x28.ready ++ ([x31] : List (List Int)) } : reorder_Order), ea47, em48, mget (mdel x28.kept x28.next) t43 []) ⟨rfl, rfl, rfl, rfl, trivial⟩ ⟨HS, H, by omega⟩
        · replace H := ite_f c34 H
          refine V.condF (sb (b_f c34)) ?_
          refine V.exit ?_
          refine At.thenExit ?_
          refine At.thenExit ?_
          refine At.blockExit ?_
          refine At.next ?_
          refine V.seq ?_
          refine V.region ?_
          refine W.rd (X.move rfl) rfl rfl rfl ?_
          refine W.rd (X.assign rfl) rfl rfl rfl ?_
          refine W.nil ?_
          refine At.next ?_
          refine V.ret ?_
          replace HS := HS.sel [0, 4] [1, 2, 3] (by kernel_rfl)
          cases H
          exact At.ret1 rfl rfl ⟨_, rfl, rfl, HS⟩

/-! ### (*signalman/reorder.Order).Gap: function 104 -/
def reorder_Order_Gap.f (a0 : reorder_Order) : Option Bool := some (decide ((a0.kept.length : Int) > 0))
set_option maxRecDepth 100000 in
set_option maxHeartbeats 4000000 in
theorem reorder_Order_Gap.calls (a0 : reorder_Order) (R : As) (w0 w : World) (b0 : Nat) (b3_p0 : Nat) (k3_p0 : List (Int × Value)) (a4_p0 : Option Addr) (c4_p0 : Nat) (d4_p0 : List Value) (r : Bool)  (H : reorder_Order_Gap.f a0 = some r) (HS : Sep.St [blk b0 (#[Value.int .i64 a0.m, Value.int .i64 a0.window, Value.int .i64 a0.next, Value.map (some b3_p0), Value.slice a4_p0 a0.ready.length c4_p0]) 106, mblk b3_p0 k3_p0, tieM (El.sl (El.int .u8)) k3_p0 a0.kept, row 39 1 (.slice a4_p0 a0.ready.length c4_p0) a0.ready.length d4_p0, tie (El.sl (El.int .u8)) d4_p0 a0.ready, R] w0 w) : Calls Try.prog 104 #[Value.pointer (some ⟨b0, 0, none⟩)] w (Ret fun u w => u = Value.bool r ∧ Sep.St [blk b0 (#[Value.int .i64 a0.m, Value.int .i64 a0.window, Value.int .i64 a0.next, Value.map (some b3_p0), Value.slice a4_p0 a0.ready.length c4_p0]) 106, mblk b3_p0 k3_p0, tieM (El.sl (El.int .u8)) k3_p0 a0.kept, row 39 1 (.slice a4_p0 a0.ready.length c4_p0) a0.ready.length d4_p0, tie (El.sl (El.int .u8)) d4_p0 a0.ready, R] w0 w) := by
  unfold reorder_Order_Gap.f at H
  refine calls_enter Try.func104 rfl rfl ?_
  have H : _ = some r := H
  refine V.seq ?_
  refine V.region ?_
  refine W.rd (X.assign rfl) rfl rfl rfl ?_
  refine W.nil ?_
  refine At.next ?_
  refine V.seq ?_
  refine V.region ?_
  refine W.rd (X.move rfl) rfl rfl rfl ?_
  refine W.rd (X.nilCheck rfl) rfl rfl rfl ?_
  refine W.rd (X.fieldAddr 3 fo106_3 rfl) rfl rfl rfl ?_
  refine W.rd (X.loadAt 0 HS rfl Try.underlying104 rfl rfl rfl) rfl rfl rfl ?_
  refine W.rd (X.lenMap (m := a0.kept) 1 Try.underlying104 HS rfl (St.tieM_len 2 HS rfl) rfl) rfl rfl rfl ?_
  refine W.rd (X.cmp (decide ((a0.kept.length : Int) > 0)) rfl rfl rfl rfl) rfl rfl rfl ?_
  refine W.rd (X.assign rfl) rfl rfl rfl ?_
  refine W.nil ?_
  refine At.next ?_
  refine V.ret ?_
  cases H
  exact At.ret1 rfl rfl ⟨_, rfl, rfl, HS⟩

/-! ### (*signalman/arq.Arq).come: function 91 -/
mutual
def arq_Arq_come.j2 (k : Nat)  (x10 : arq_Arq) (x11 : api_Ctl) : Option arq_Arq := ((arq_Arq_tell.f k x10 x11).bind fun t15 => some t15)
def arq_Arq_come.j3 (k : Nat) (x4 : arq_Arq) (x7 : api_Ctl) (x17 : Bool) : Option arq_Arq := (if x17 = true then (arq_Arq_come.j2 k ({ m := x4.m, t1 := x4.t1, n2 := x4.n2, size := x4.size, state := x4.state, tag := x4.tag, tries := x4.tries, rejected := true, log := x4.log, order := x4.order, timers := x4.timers, out := x4.out, inds := x4.inds, sent := x4.sent, acked := x4.acked, lost := x4.lost } : arq_Arq) ({ Kind := 2, Ns := x7.Ns, Nr := x7.Nr, Poll := false } : api_Ctl)) else (arq_Arq_come.j2 k x4 x7))
def arq_Arq_come.j1 (k : Nat) (x4 : arq_Arq) (x7 : api_Ctl) : Option arq_Arq := ((reorder_Order_Gap.f x4.order).bind fun t28 => (if t28 = true then (arq_Arq_come.j3 k x4 x7 (!x4.rejected)) else (arq_Arq_come.j3 k x4 x7 false)))
def arq_Arq_come.j0 (k : Nat) (a1 : api_Ctl) (x4 : arq_Arq) : Option arq_Arq := ((reorder_Order_Next.f x4.order).bind fun t37 => (arq_Arq_come.j1 k x4 ({ Kind := 1, Ns := 0, Nr := t37, Poll := a1.Poll } : api_Ctl)))
end
def arq_Arq_come.f (k : Nat) (a0 : arq_Arq) (a1 : api_Ctl) (a2 : List Int) : Option arq_Arq := ((reorder_Order_Put.f k a0.order a1.Ns a2).bind fun t47 => (if t47.1 > 0 then (arq_Arq_come.j0 k a1 ({ m := a0.m, t1 := a0.t1, n2 := a0.n2, size := a0.size, state := a0.state, tag := a0.tag, tries := a0.tries, rejected := false, log := a0.log, order := t47.2, timers := a0.timers, out := a0.out, inds := a0.inds, sent := a0.sent, acked := a0.acked, lost := a0.lost } : arq_Arq)) else (arq_Arq_come.j0 k a1 ({ m := a0.m, t1 := a0.t1, n2 := a0.n2, size := a0.size, state := a0.state, tag := a0.tag, tries := a0.tries, rejected := a0.rejected, log := a0.log, order := t47.2, timers := a0.timers, out := a0.out, inds := a0.inds, sent := a0.sent, acked := a0.acked, lost := a0.lost } : arq_Arq))))
set_option maxRecDepth 100000 in
set_option maxHeartbeats 4000000 in
theorem arq_Arq_come.calls (k : Nat) (a0 : arq_Arq) (a1 : api_Ctl) (a2 : List Int) (R : As) (w0 w : World) (b0 : Nat) (sa2 : Option Addr) (sc2 : Nat) (r : arq_Arq) (hr2 : rdC R 1 (.slice sa2 a2.length sc2) a2.length (a2.map (Value.int .u8))) (H : arq_Arq_come.f k a0 a1 a2 = some r) (HS : Sep.St [arq_Arq.at b0 a0, R] w0 w) : Calls Try.prog 91 #[Value.pointer (some ⟨b0, 0, none⟩), Value.agg #[Value.int .i64 a1.Kind, Value.int .i64 a1.Ns, Value.int .i64 a1.Nr, Value.bool a1.Poll], Value.slice sa2 a2.length sc2] w (Ret fun u w => u = Value.tuple #[] ∧ Sep.St [arq_Arq.at b0 r, R] w0 w) := by
  unfold arq_Arq_come.f at H
  refine calls_enter Try.func91 rfl rfl ?_
  have H : _ = some r := H
  refine V.seq ?_
  refine V.region ?_
  refine W.ev (Y.box HS rfl) rfl rfl rfl ?_
  rintro _ w ⟨nb1, rfl, HS⟩
  refine W.nil ?_
  refine At.next ?_
  refine V.meet (σ := arq_Arq) (fun st w => match st with | x4 => Sep.St [api_Ctl.at nb1 a1, arq_Arq.at b0 x4, R] w0 w ∧ ∃ kf5, kf5 ≤ k ∧ arq_Arq_come.j0 kf5 a1 x4 = some r) (fun st => match st with | x4 => [(0, Value.pointer (some ⟨b0, 0, none⟩)), (4, Value.pointer (some ⟨nb1, 0, none⟩))]) ?_ ?_
  · refine V.seq ?_
    replace HS := HS.front 1 rfl
    obtain ⟨b8_45, b9_45, b10_45, a11_45, c11_45, d11_45, a12_45, c12_45, hi46, HS⟩ := arq_Arq.open HS
    refine V.draw (es := [7]) (bl := [8]) (f := [(7, Value.pointer (some ⟨b0, 0, none⟩)), (8, Value.pointer (some ⟨b0, 0, none⟩)), (9, Value.pointer (some ⟨b0, 0 + 9, none⟩)), (10, Value.pointer (some ⟨b9_45, 0, none⟩)), (11, Value.pointer (some ⟨nb1, 0 + 1, none⟩)), (12, Value.int .i64 a1.Ns), (13, Value.slice sa2 a2.length sc2)]) (fun w => Sep.St [blk b0 (#[Value.int .i64 a0.m, Value.int .i64 a0.t1, Value.int .i64 a0.n2, Value.int .i64 a0.size, Value.int .i64 a0.state, Value.int .i64 a0.tag, Value.int .i64 a0.tries, Value.bool a0.rejected, Value.pointer (some ⟨b8_45, 0, none⟩), Value.pointer (some ⟨b9_45, 0, none⟩), Value.pointer (some ⟨b10_45, 0, none⟩), Value.slice a11_45 a0.out.length c11_45, Value.slice a12_45 a0.inds.length c12_45, Value.int .i64 a0.sent, Value.int .i64 a0.acked, Value.int .i64 a0.lost]) 82, backlog_Log.at b8_45 a0.log, reorder_Order.at b9_45 a0.order, clock_Set.at b10_45 a0.timers, row 39 1 (.slice a11_45 a0.out.length c11_45) a0.out.length d11_45, tie (El.sl (El.int .u8)) d11_45 a0.out, row 3 1 (.slice a12_45 a0.inds.length c12_45) a0.inds.length (a0.inds.map (Value.int .i64)), blk nb1 (#[Value.int .i64 a1.Kind, Value.int .i64 a1.Ns, Value.int .i64 a1.Nr, Value.bool a1.Poll]) 42, R] w0 w) mo HS.drew rfl ?_
    refine T.event _ [(10, Value.pointer (some ⟨b9_45, 0, none⟩)), (12, Value.int .i64 a1.Ns), (13, Value.slice sa2 a2.length sc2)] rfl rfl ⟨.m1 0 rfl (.l rfl rfl) (fun w HS => X.move rfl) rfl rfl rfl rfl rfl, .m1 7 rfl (.r rfl rfl) (fun w HS => X.nilCheck rfl) rfl rfl rfl rfl rfl, .m1 8 rfl (.r rfl rfl) (fun w HS => X.fieldAddr 9 fo82_9 rfl) rfl rfl rfl rfl rfl, .m1 9 rfl (.r rfl rfl) (fun w HS => X.loadAt 0 HS rfl Try.underlying76 rfl rfl rfl) rfl rfl rfl rfl rfl, .m1 4 rfl (.l rfl rfl) (fun w HS => X.fieldAddr 1 fo42_1 rfl) rfl rfl rfl rfl rfl, .m1 11 rfl (.r rfl rfl) (fun w HS => X.loadAt 7 HS rfl Try.underlying3 rfl rfl rfl) rfl rfl rfl rfl rfl, .m1 2 rfl (.l rfl rfl) (fun w HS => X.move rfl) rfl rfl rfl rfl rfl, trivial⟩ rfl ⟨.inr ⟨rfl, rfl⟩, ⟨.inr ⟨rfl, rfl⟩, ⟨.inr ⟨rfl, rfl⟩, trivial⟩⟩⟩ (Or.inl rfl) (by intro d hd; cases hd; exact ⟨by decide, rfl, rfl⟩) [] [0, 1, 2, 3, 4, 5, 6] rfl rfl (fun w HS => ?_)
    obtain ⟨t47, A48, H⟩ := bind_s H
    replace HS := HS.re [2, 0, 1, 3, 4, 5, 6, 7, 8] (by kernel_rfl)
    refine ⟨_, Y.call Try.func102 (by kernel_rfl) rfl (vs := [Value.pointer (some ⟨b9_45, 0, none⟩), Value.int .i64 a1.Ns, Value.slice sa2 a2.length sc2]) rfl (reorder_Order_Put.calls k a0.order a1.Ns a2 _ w0 _ b9_45 sa2 sc2 t47 (rdC.part 7 hr2 rfl) A48 (Sep.St.tailJoin (m := [reorder_Order.at b9_45 a0.order]) (r := [blk b0 (#[Value.int .i64 a0.m, Value.int .i64 a0.t1, Value.int .i64 a0.n2, Value.int .i64 a0.size, Value.int .i64 a0.state, Value.int .i64 a0.tag, Value.int .i64 a0.tries, Value.bool a0.rejected, Value.pointer (some ⟨b8_45, 0, none⟩), Value.pointer (some ⟨b9_45, 0, none⟩), Value.pointer (some ⟨b10_45, 0, none⟩), Value.slice a11_45 a0.out.length c11_45, Value.slice a12_45 a0.inds.length c12_45, Value.int .i64 a0.sent, Value.int .i64 a0.acked, Value.int .i64 a0.lost]) 82, backlog_Log.at b8_45 a0.log, clock_Set.at b10_45 a0.timers, row 39 1 (.slice a11_45 a0.out.length c11_45) a0.out.length d11_45, tie (El.sl (El.int .u8)) d11_45 a0.out, row 3 1 (.slice a12_45 a0.inds.length c12_45) a0.inds.length (a0.inds.map (Value.int .i64)), blk nb1 (#[Value.int .i64 a1.Kind, Value.int .i64 a1.Ns, Value.int .i64 a1.Nr, Value.bool a1.Poll]) 42, R]) HS)), ?_⟩
    rintro _ w ⟨rfl, HS⟩
    replace HS := Sep.St.tailOpen (m := [reorder_Order.at b9_45 t47.2]) (r := [blk b0 (#[Value.int .i64 a0.m, Value.int .i64 a0.t1, Value.int .i64 a0.n2, Value.int .i64 a0.size, Value.int .i64 a0.state, Value.int .i64 a0.tag, Value.int .i64 a0.tries, Value.bool a0.rejected, Value.pointer (some ⟨b8_45, 0, none⟩), Value.pointer (some ⟨b9_45, 0, none⟩), Value.pointer (some ⟨b10_45, 0, none⟩), Value.slice a11_45 a0.out.length c11_45, Value.slice a12_45 a0.inds.length c12_45, Value.int .i64 a0.sent, Value.int .i64 a0.acked, Value.int .i64 a0.lost]) 82, backlog_Log.at b8_45 a0.log, clock_Set.at b10_45 a0.timers, row 39 1 (.slice a11_45 a0.out.length c11_45) a0.out.length d11_45, tie (El.sl (El.int .u8)) d11_45 a0.out, row 3 1 (.slice a12_45 a0.inds.length c12_45) a0.inds.length (a0.inds.map (Value.int .i64)), blk nb1 (#[Value.int .i64 a1.Kind, Value.int .i64 a1.Ns, Value.int .i64 a1.Nr, Value.bool a1.Poll]) 42, R]) HS
    refine ⟨[(14, Value.int .i64 t47.1), (15, Value.bool (decide (t47.1 > 0)))], _, ⟨.inl ⟨rfl, rfl⟩, ⟨.inr ⟨by decide, rfl⟩, trivial⟩⟩, ?_, HS⟩
    refine T.fin [(0, Value.pointer (some ⟨b0, 0, none⟩)), (4, Value.pointer (some ⟨nb1, 0, none⟩)), (15, Value.bool (decide (t47.1 > 0)))] rfl ⟨.m1 14 rfl (.r rfl rfl) (fun w HS => X.cmp (decide (t47.1 > 0)) rfl rfl rfl rfl) rfl rfl rfl rfl rfl, trivial⟩ ⟨.inl ⟨rfl, rfl⟩, ⟨.inl ⟨rfl, rfl⟩, ⟨.inr ⟨rfl, rfl⟩, trivial⟩⟩⟩ (fun w HS => ?_)
    refine At.next ?_
    by_cases c49 : t47.1 > 0
    · replace H := ite_t c49 H
      refine V.condT (sb (decide_eq_true c49)) ?_
      refine V.region ?_
      refine W.rd (X.move rfl) rfl rfl rfl ?_
      refine W.rd (X.nilCheck rfl) rfl rfl rfl ?_
      refine W.rd (X.fieldAddr 7 fo82_7 rfl) rfl rfl rfl ?_
      refine W.ev_none (Y.storeAt 1 HS rfl inf4 rfl rfl rfl rfl rfl rfl) rfl rfl ?_
      rintro _ w HS
      refine W.nil ?_
      replace HS := HS.re [7, 0, 1, 2, 3, 4, 5, 6, 8] (by kernel_rfl)
      replace HS := api_Ctl.close a1 trivial HS
      replace HS := HS.re [2, 3, 1, 4, 5, 6, 7, 0, 8] (by kernel_rfl)
      replace HS := arq_Arq.close ({ m := a0.m, t1 := a0.t1, n2 := a0.n2, size := a0.size, state := a0.state, tag := a0.tag, tries := a0.tries, rejected := false, log := a0.log, order := t47.2, timers := a0.timers, out := a0.out, inds := a0.inds, sent := a0.sent, acked := a0.acked, lost := a0.lost } : arq_Arq) trivial HS
      replace HS := HS.sel [1, 0, 2] [] (by kernel_rfl)
      exact At.meet ({ m := a0.m, t1 := a0.t1, n2 := a0.n2, size := a0.size, state := a0.state, tag := a0.tag, tries := a0.tries, rejected := false, log := a0.log, order := t47.2, timers := a0.timers, out := a0.out, inds := a0.inds, sent := a0.sent, acked := a0.acked, lost := a0.lost } : arq_Arq) ⟨rfl, rfl, trivial⟩ ⟨HS, k, by omega, H⟩
    · replace H := ite_f c49 H
      refine V.condF (sb (decide_eq_false c49)) ?_
      refine V.skip ?_
      replace HS := HS.re [7, 0, 1, 2, 3, 4, 5, 6, 8] (by kernel_rfl)
      replace HS := api_Ctl.close a1 trivial HS
      replace HS := HS.re [2, 3, 1, 4, 5, 6, 7, 0, 8] (by kernel_rfl)
      replace HS := arq_Arq.close ({ m := a0.m, t1 := a0.t1, n2 := a0.n2, size := a0.size, state := a0.state, tag := a0.tag, tries := a0.tries, rejected := a0.rejected, log := a0.log, order := t47.2, timers := a0.timers, out := a0.out, inds := a0.inds, sent := a0.sent, acked := a0.acked, lost := a0.lost } : arq_Arq) trivial HS
      replace HS := HS.sel [1, 0, 2] [] (by kernel_rfl)
      exact At.meet ({ m := a0.m, t1 := a0.t1, n2 := a0.n2, size := a0.size, state := a0.state, tag := a0.tag, tries := a0.tries, rejected := a0.rejected, log := a0.log, order := t47.2, timers := a0.timers, out := a0.out, inds := a0.inds, sent := a0.sent, acked := a0.acked, lost := a0.lost } : arq_Arq) ⟨rfl, rfl, trivial⟩ ⟨HS, k, by omega, H⟩
  · rintro x4 w ⟨HS, kf5, hkkf5, H⟩
    unfold arq_Arq_come.j0 at H
    refine V.meet (σ := Nat × api_Ctl) (fun st w => match st with | (nb6, x7) => Sep.St [api_Ctl.at nb6 x7, api_Ctl.at nb1 a1, arq_Arq.at b0 x4, R] w0 w ∧ ∃ kf8, kf8 ≤ kf5 ∧ arq_Arq_come.j1 kf8 x4 x7 = some r) (fun st => match st with | (nb6, x7) => [(0, Value.pointer (some ⟨b0, 0, none⟩)), (6, Value.pointer (some ⟨nb6, 0, none⟩))]) ?_ ?_
    · replace HS := HS.front 1 rfl
      obtain ⟨b8_31, b9_31, b10_31, a11_31, c11_31, d11_31, a12_31, c12_31, hi32, HS⟩ := arq_Arq.open HS
      replace HS := HS.front 7 rfl
      obtain ⟨hi34, HS⟩ := api_Ctl.open HS
      refine V.draw (es := [4, 8, 9]) (bl := [7]) (f := [(19, Value.pointer (some ⟨b0, 0, none⟩)), (20, Value.pointer (some ⟨b0, 0, none⟩)), (21, Value.pointer (some ⟨b0, 0 + 9, none⟩)), (22, Value.pointer (some ⟨b9_31, 0, none⟩)), (24, Value.pointer (some ⟨nb1, 0 + 3, none⟩)), (25, Value.bool a1.Poll)]) (fun w => Sep.St [blk nb1 (#[Value.int .i64 a1.Kind, Value.int .i64 a1.Ns, Value.int .i64 a1.Nr, Value.bool a1.Poll]) 42, blk b0 (#[Value.int .i64 x4.m, Value.int .i64 x4.t1, Value.int .i64 x4.n2, Value.int .i64 x4.size, Value.int .i64 x4.state, Value.int .i64 x4.tag, Value.int .i64 x4.tries, Value.bool x4.rejected, Value.pointer (some ⟨b8_31, 0, none⟩), Value.pointer (some ⟨b9_31, 0, none⟩), Value.pointer (some ⟨b10_31, 0, none⟩), Value.slice a11_31 x4.out.length c11_31, Value.slice a12_31 x4.inds.length c12_31, Value.int .i64 x4.sent, Value.int .i64 x4.acked, Value.int .i64 x4.lost]) 82, backlog_Log.at b8_31 x4.log, reorder_Order.at b9_31 x4.order, clock_Set.at b10_31 x4.timers, row 39 1 (.slice a11_31 x4.out.length c11_31) x4.out.length d11_31, tie (El.sl (El.int .u8)) d11_31 x4.out, row 3 1 (.slice a12_31 x4.inds.length c12_31) x4.inds.length (x4.inds.map (Value.int .i64)), R] w0 w) mo HS.drew rfl ?_
      refine T.two rfl rfl ⟨.m1 0 rfl (.l rfl rfl) (fun w HS => X.move rfl) rfl rfl rfl rfl rfl, .m1 19 rfl (.r rfl rfl) (fun w HS => X.nilCheck rfl) rfl rfl rfl rfl rfl, .m1 20 rfl (.r rfl rfl) (fun w HS => X.fieldAddr 9 fo82_9 rfl) rfl rfl rfl rfl rfl, .m1 21 rfl (.r rfl rfl) (fun w HS => X.loadAt 1 HS rfl Try.underlying76 rfl rfl rfl) rfl rfl rfl rfl rfl, .m1 4 rfl (.l rfl rfl) (fun w HS => X.fieldAddr 3 fo42_3 rfl) rfl rfl rfl rfl rfl, .m1 24 rfl (.r rfl rfl) (fun w HS => X.loadAt 0 HS rfl Try.underlying4 rfl rfl rfl) rfl rfl rfl rfl rfl, trivial⟩ (T.step (es := [8, 9]) _ [(22, Value.pointer (some ⟨b9_31, 0, none⟩))] rfl ⟨.inr ⟨rfl, rfl⟩, trivial⟩ (Or.inl rfl) (by intro d hd; cases hd; exact ⟨by decide, rfl, rfl⟩) [] [0, 1, 2, 3] rfl rfl rfl rfl rfl (fun w HS => ?_)) (T.step (es := [4, 9]) _ [] rfl trivial (Or.inl rfl) (by intro d hd; cases hd; exact ⟨by decide, rfl, rfl⟩) [7] [] rfl rfl rfl rfl rfl (fun w HS => ?_))
      · have HS : Sep.St [blk nb1 (#[Value.int .i64 a1.Kind, Value.int .i64 a1.Ns, Value.int .i64 a1.Nr, Value.bool a1.Poll]) 42, blk b0 (#[Value.int .i64 x4.m, Value.int .i64 x4.t1, Value.int .i64 x4.n2, Value.int .i64 x4.size, Value.int .i64 x4.state, Value.int .i64 x4.tag, Value.int .i64 x4.tries, Value.bool x4.rejected, Value.pointer (some ⟨b8_31, 0, none⟩), Value.pointer (some ⟨b9_31, 0, none⟩), Value.pointer (some ⟨b10_31, 0, none⟩), Value.slice a11_31 x4.out.length c11_31, Value.slice a12_31 x4.inds.length c12_31, Value.int .i64 x4.sent, Value.int .i64 x4.acked, Value.int .i64 x4.lost]) 82, backlog_Log.at b8_31 x4.log, reorder_Order.at b9_31 x4.order, clock_Set.at b10_31 x4.timers, row 39 1 (.slice a11_31 x4.out.length c11_31) x4.out.length d11_31, tie (El.sl (El.int .u8)) d11_31 x4.out, row 3 1 (.slice a12_31 x4.inds.length c12_31) x4.inds.length (x4.inds.map (Value.int .i64)), R] w0 w := HS
        replace HS := HS.front 3 rfl
        obtain ⟨b3_35, k3_35, a4_35, c4_35, d4_35, hi36, HS⟩ := reorder_Order.open HS
        obtain ⟨t37, A38, H⟩ := bind_s H
        refine ⟨_, Y.call Try.func103 (by kernel_rfl) rfl (vs := [Value.pointer (some ⟨b9_31, 0, none⟩)]) rfl (reorder_Order_Next.calls x4.order _ w0 _ b9_31 b3_35 k3_35 a4_35 c4_35 d4_35 t37  A38 (Sep.St.tailJoin (m := [blk b9_31 (#[Value.int .i64 x4.order.m, Value.int .i64 x4.order.window, Value.int .i64 x4.order.next, Value.map (some b3_35), Value.slice a4_35 x4.order.ready.length c4_35]) 106, mblk b3_35 k3_35, tieM (El.sl (El.int .u8)) k3_35 x4.order.kept, row 39 1 (.slice a4_35 x4.order.ready.length c4_35) x4.order.ready.length d4_35, tie (El.sl (El.int .u8)) d4_35 x4.order.ready]) (r := [blk nb1 (#[Value.int .i64 a1.Kind, Value.int .i64 a1.Ns, Value.int .i64 a1.Nr, Value.bool a1.Poll]) 42, blk b0 (#[Value.int .i64 x4.m, Value.int .i64 x4.t1, Value.int .i64 x4.n2, Value.int .i64 x4.size, Value.int .i64 x4.state, Value.int .i64 x4.tag, Value.int .i64 x4.tries, Value.bool x4.rejected, Value.pointer (some ⟨b8_31, 0, none⟩), Value.pointer (some ⟨b9_31, 0, none⟩), Value.pointer (some ⟨b10_31, 0, none⟩), Value.slice a11_31 x4.out.length c11_31, Value.slice a12_31 x4.inds.length c12_31, Value.int .i64 x4.sent, Value.int .i64 x4.acked, Value.int .i64 x4.lost]) 82, backlog_Log.at b8_31 x4.log, clock_Set.at b10_31 x4.timers, row 39 1 (.slice a11_31 x4.out.length c11_31) x4.out.length d11_31, tie (El.sl (El.int .u8)) d11_31 x4.out, row 3 1 (.slice a12_31 x4.inds.length c12_31) x4.inds.length (x4.inds.map (Value.int .i64)), R]) HS)), ?_⟩
        rintro _ w ⟨rfl, HS⟩
        replace HS := Sep.St.tailOpen (m := [blk b9_31 (#[Value.int .i64 x4.order.m, Value.int .i64 x4.order.window, Value.int .i64 x4.order.next, Value.map (some b3_35), Value.slice a4_35 x4.order.ready.length c4_35]) 106, mblk b3_35 k3_35, tieM (El.sl (El.int .u8)) k3_35 x4.order.kept, row 39 1 (.slice a4_35 x4.order.ready.length c4_35) x4.order.ready.length d4_35, tie (El.sl (El.int .u8)) d4_35 x4.order.ready]) (r := [blk nb1 (#[Value.int .i64 a1.Kind, Value.int .i64 a1.Ns, Value.int .i64 a1.Nr, Value.bool a1.Poll]) 42, blk b0 (#[Value.int .i64 x4.m, Value.int .i64 x4.t1, Value.int .i64 x4.n2, Value.int .i64 x4.size, Value.int .i64 x4.state, Value.int .i64 x4.tag, Value.int .i64 x4.tries, Value.bool x4.rejected, Value.pointer (some ⟨b8_31, 0, none⟩), Value.pointer (some ⟨b9_31, 0, none⟩), Value.pointer (some ⟨b10_31, 0, none⟩), Value.slice a11_31 x4.out.length c11_31, Value.slice a12_31 x4.inds.length c12_31, Value.int .i64 x4.sent, Value.int .i64 x4.acked, Value.int .i64 x4.lost]) 82, backlog_Log.at b8_31 x4.log, clock_Set.at b10_31 x4.timers, row 39 1 (.slice a11_31 x4.out.length c11_31) x4.out.length d11_31, tie (El.sl (El.int .u8)) d11_31 x4.out, row 3 1 (.slice a12_31 x4.inds.length c12_31) x4.inds.length (x4.inds.map (Value.int .i64)), R]) HS
        refine ⟨[(23, Value.int .i64 t37), (26, Value.agg #[Value.int .i64 (1), Value.int .i64 (0), Value.int .i64 t37, Value.bool a1.Poll])], _, ⟨.inl ⟨rfl, rfl⟩, ⟨.inr ⟨by decide, rfl⟩, trivial⟩⟩, ?_, HS⟩
        refine T.event _ [] rfl rfl ⟨.m1 4 rfl (.l rfl rfl) (fun w HS => X.fieldAddr 3 fo42_3 rfl) rfl rfl rfl rfl rfl, .m1 24 rfl (.r rfl rfl) (fun w HS => X.loadAt 5 HS rfl Try.underlying4 rfl rfl rfl) rfl rfl rfl rfl rfl, .m2 23 25 rfl (.r rfl rfl) (.r rfl rfl) (fun w HS => X.build (vs := #[(0, Value.int .i64 (1)), (2, Value.int .i64 t37), (3, Value.bool a1.Poll)]) (v := Value.agg #[Value.int .i64 (1), Value.int .i64 (0), Value.int .i64 t37, Value.bool a1.Poll]) (fun a ha => by simp only [List.map_toArray, List.map_cons, List.map_nil]; rw [ha.ev (x := .tmp 23) (v := Value.int .i64 t37) rfl]; rw [ha.ev (x := .tmp 25) (v := Value.bool a1.Poll) rfl]; try rfl) (fun _ => by kernel_rfl)) rfl rfl rfl rfl rfl, trivial⟩ rfl trivial (Or.inl rfl) (by intro d hd; cases hd; exact ⟨by decide, rfl, rfl⟩) [] [] rfl rfl (fun w HS => ?_)
        refine ⟨_, Y.alloc (z := Value.agg (#[Value.int .i64 (0), Value.int .i64 (0), Value.int .i64 (0), Value.bool false])) HS ze42, ?_⟩
        rintro _ w ⟨nb39, rfl, HS⟩
        refine ⟨[(6, Value.pointer (some ⟨nb39, 0, none⟩))], _, ⟨.inl ⟨rfl, rfl⟩, trivial⟩, ?_, HS⟩
        refine T.event _ [(6, Value.pointer (some ⟨nb39, 0, none⟩)), (26, Value.agg #[Value.int .i64 (1), Value.int .i64 (0), Value.int .i64 t37, Value.bool a1.Poll])] rfl rfl ⟨.m1 4 rfl (.l rfl rfl) (fun w HS => X.fieldAddr 3 fo42_3 rfl) rfl rfl rfl rfl rfl, .m1 24 rfl (.r rfl rfl) (fun w HS => X.loadAt 6 HS rfl Try.underlying4 rfl rfl rfl) rfl rfl rfl rfl rfl, .m2 23 25 rfl (.r rfl rfl) (.r rfl rfl) (fun w HS => X.build (vs := #[(0, Value.int .i64 (1)), (2, Value.int .i64 t37), (3, Value.bool a1.Poll)]) (v := Value.agg #[Value.int .i64 (1), Value.int .i64 (0), Value.int .i64 t37, Value.bool a1.Poll]) (fun a ha => by simp only [List.map_toArray, List.map_cons, List.map_nil]; rw [ha.ev (x := .tmp 23) (v := Value.int .i64 t37) rfl]; rw [ha.ev (x := .tmp 25) (v := Value.bool a1.Poll) rfl]; try rfl) (fun _ => by kernel_rfl)) rfl rfl rfl rfl rfl, trivial⟩ rfl ⟨.inr ⟨rfl, rfl⟩, ⟨.inr ⟨rfl, rfl⟩, trivial⟩⟩ (Or.inl rfl) (by intro d hd; cases hd) [] [5, 6, 7] rfl rfl (fun w HS => ?_)
        refine ⟨_, Y.storeSt (c' := #[Value.int .i64 (1), Value.int .i64 (0), Value.int .i64 t37, Value.bool a1.Poll]) 0 [Value.int .i64 (1), Value.int .i64 (0), Value.int .i64 t37, Value.bool a1.Poll] HS rfl inf42 rfl rfl rfl rfl rfl rfl, ?_⟩
        rintro _ w HS
        refine ⟨[], _, trivial, ?_, HS⟩
        refine T.fin [(0, Value.pointer (some ⟨b0, 0, none⟩)), (6, Value.pointer (some ⟨nb39, 0, none⟩))] rfl trivial ⟨.inl ⟨rfl, rfl⟩, ⟨.inr ⟨rfl, rfl⟩, trivial⟩⟩ (fun w HS => ?_)
        replace HS := api_Ctl.close ({ Kind := 1, Ns := 0, Nr := t37, Poll := a1.Poll } : api_Ctl) trivial HS
        replace HS := HS.re [6, 0, 1, 2, 3, 4, 5, 7, 8, 9, 10, 11, 12, 13] (by kernel_rfl)
        replace HS := api_Ctl.close a1 trivial HS
        replace HS := HS.re [2, 3, 4, 5, 6, 0, 1, 7, 8, 9, 10, 11, 12, 13] (by kernel_rfl)
        replace HS := reorder_Order.close x4.order trivial HS
        replace HS := HS.re [3, 4, 0, 5, 6, 7, 8, 1, 2, 9] (by kernel_rfl)
        replace HS := arq_Arq.close x4 trivial HS
        replace HS := HS.sel [2, 1, 0, 3] [] (by kernel_rfl)
        exact At.meet (nb39, ({ Kind := 1, Ns := 0, Nr := t37, Poll := a1.Poll } : api_Ctl)) ⟨rfl, rfl, trivial⟩ ⟨HS, kf5, by omega, H⟩
      · have HS : Sep.St [blk nb1 (#[Value.int .i64 a1.Kind, Value.int .i64 a1.Ns, Value.int .i64 a1.Nr, Value.bool a1.Poll]) 42, blk b0 (#[Value.int .i64 x4.m, Value.int .i64 x4.t1, Value.int .i64 x4.n2, Value.int .i64 x4.size, Value.int .i64 x4.state, Value.int .i64 x4.tag, Value.int .i64 x4.tries, Value.bool x4.rejected, Value.pointer (some ⟨b8_31, 0, none⟩), Value.pointer (some ⟨b9_31, 0, none⟩), Value.pointer (some ⟨b10_31, 0, none⟩), Value.slice a11_31 x4.out.length c11_31, Value.slice a12_31 x4.inds.length c12_31, Value.int .i64 x4.sent, Value.int .i64 x4.acked, Value.int .i64 x4.lost]) 82, backlog_Log.at b8_31 x4.log, reorder_Order.at b9_31 x4.order, clock_Set.at b10_31 x4.timers, row 39 1 (.slice a11_31 x4.out.length c11_31) x4.out.length d11_31, tie (El.sl (El.int .u8)) d11_31 x4.out, row 3 1 (.slice a12_31 x4.inds.length c12_31) x4.inds.length (x4.inds.map (Value.int .i64)), R] w0 w := HS
        refine ⟨_, Y.alloc (z := Value.agg (#[Value.int .i64 (0), Value.int .i64 (0), Value.int .i64 (0), Value.bool false])) HS ze42, ?_⟩
        rintro _ w ⟨nb40, rfl, HS⟩
        refine ⟨[(6, Value.pointer (some ⟨nb40, 0, none⟩))], _, ⟨.inl ⟨rfl, rfl⟩, trivial⟩, ?_, HS⟩
        refine T.event _ [(22, Value.pointer (some ⟨b9_31, 0, none⟩))] rfl rfl ⟨.m1 0 rfl (.l rfl rfl) (fun w HS => X.move rfl) rfl rfl rfl rfl rfl, .m1 19 rfl (.r rfl rfl) (fun w HS => X.nilCheck rfl) rfl rfl rfl rfl rfl, .m1 20 rfl (.r rfl rfl) (fun w HS => X.fieldAddr 9 fo82_9 rfl) rfl rfl rfl rfl rfl, .m1 21 rfl (.r rfl rfl) (fun w HS => X.loadAt 2 HS rfl Try.underlying76 rfl rfl rfl) rfl rfl rfl rfl rfl, .m1 4 rfl (.l rfl rfl) (fun w HS => X.fieldAddr 3 fo42_3 rfl) rfl rfl rfl rfl rfl, .m1 24 rfl (.r rfl rfl) (fun w HS => X.loadAt 1 HS rfl Try.underlying4 rfl rfl rfl) rfl rfl rfl rfl rfl, trivial⟩ rfl ⟨.inr ⟨rfl, rfl⟩, trivial⟩ (Or.inl rfl) (by intro d hd; cases hd; exact ⟨by decide, rfl, rfl⟩) [] [0, 1, 2, 3] rfl rfl (fun w HS => ?_)
        replace HS := HS.front 4 rfl
        obtain ⟨b3_41, k3_41, a4_41, c4_41, d4_41, hi42, HS⟩ := reorder_Order.open HS
        obtain ⟨t43, A44, H⟩ := bind_s H
        refine ⟨_, Y.call Try.func103 (by kernel_rfl) rfl (vs := [Value.pointer (some ⟨b9_31, 0, none⟩)]) rfl (reorder_Order_Next.calls x4.order _ w0 _ b9_31 b3_41 k3_41 a4_41 c4_41 d4_41 t43  A44 (Sep.St.tailJoin (m := [blk b9_31 (#[Value.int .i64 x4.order.m, Value.int .i64 x4.order.window, Value.int .i64 x4.order.next, Value.map (some b3_41), Value.slice a4_41 x4.order.ready.length c4_41]) 106, mblk b3_41 k3_41, tieM (El.sl (El.int .u8)) k3_41 x4.order.kept, row 39 1 (.slice a4_41 x4.order.ready.length c4_41) x4.order.ready.length d4_41, tie (El.sl (El.int .u8)) d4_41 x4.order.ready]) (r := [blk nb40 (#[Value.int .i64 (0), Value.int .i64 (0), Value.int .i64 (0), Value.bool false]) 42, blk nb1 (#[Value.int .i64 a1.Kind, Value.int .i64 a1.Ns, Value.int .i64 a1.Nr, Value.bool a1.Poll]) 42, blk b0 (#[Value.int .i64 x4.m, Value.int .i64 x4.t1, Value.int .i64 x4.n2, Value.int .i64 x4.size, Value.int .i64 x4.state, Value.int .i64 x4.tag, Value.int .i64 x4.tries, Value.bool x4.rejected, Value.pointer (some ⟨b8_31, 0, none⟩), Value.pointer (some ⟨b9_31, 0, none⟩), Value.pointer (some ⟨b10_31, 0, none⟩), Value.slice a11_31 x4.out.length c11_31, Value.slice a12_31 x4.inds.length c12_31, Value.int .i64 x4.sent, Value.int .i64 x4.acked, Value.int .i64 x4.lost]) 82, backlog_Log.at b8_31 x4.log, clock_Set.at b10_31 x4.timers, row 39 1 (.slice a11_31 x4.out.length c11_31) x4.out.length d11_31, tie (El.sl (El.int .u8)) d11_31 x4.out, row 3 1 (.slice a12_31 x4.inds.length c12_31) x4.inds.length (x4.inds.map (Value.int .i64)), R]) HS)), ?_⟩
        rintro _ w ⟨rfl, HS⟩
        replace HS := Sep.St.tailOpen (m := [blk b9_31 (#[Value.int .i64 x4.order.m, Value.int .i64 x4.order.window, Value.int .i64 x4.order.next, Value.map (some b3_41), Value.slice a4_41 x4.order.ready.length c4_41]) 106, mblk b3_41 k3_41, tieM (El.sl (El.int .u8)) k3_41 x4.order.kept, row 39 1 (.slice a4_41 x4.order.ready.length c4_41) x4.order.ready.length d4_41, tie (El.sl (El.int .u8)) d4_41 x4.order.ready]) (r := [blk nb40 (#[Value.int .i64 (0), Value.int .i64 (0), Value.int .i64 (0), Value.bool false]) 42, blk nb1 (#[Value.int .i64 a1.Kind, Value.int .i64 a1.Ns, Value.int .i64 a1.Nr, Value.bool a1.Poll]) 42, blk b0 (#[Value.int .i64 x4.m, Value.int .i64 x4.t1, Value.int .i64 x4.n2, Value.int .i64 x4.size, Value.int .i64 x4.state, Value.int .i64 x4.tag, Value.int .i64 x4.tries, Value.bool x4.rejected, Value.pointer (some ⟨b8_31, 0, none⟩), Value.pointer (some ⟨b9_31, 0, none⟩), Value.pointer (some ⟨b10_31, 0, none⟩), Value.slice a11_31 x4.out.length c11_31, Value.slice a12_31 x4.inds.length c12_31, Value.int .i64 x4.sent, Value.int .i64 x4.acked, Value.int .i64 x4.lost]) 82, backlog_Log.at b8_31 x4.log, clock_Set.at b10_31 x4.timers, row 39 1 (.slice a11_31 x4.out.length c11_31) x4.out.length d11_31, tie (El.sl (El.int .u8)) d11_31 x4.out, row 3 1 (.slice a12_31 x4.inds.length c12_31) x4.inds.length (x4.inds.map (Value.int .i64)), R]) HS
        refine ⟨[(23, Value.int .i64 t43), (26, Value.agg #[Value.int .i64 (1), Value.int .i64 (0), Value.int .i64 t43, Value.bool a1.Poll])], _, ⟨.inl ⟨rfl, rfl⟩, ⟨.inr ⟨by decide, rfl⟩, trivial⟩⟩, ?_, HS⟩
        refine T.event _ [(6, Value.pointer (some ⟨nb40, 0, none⟩)), (26, Value.agg #[Value.int .i64 (1), Value.int .i64 (0), Value.int .i64 t43, Value.bool a1.Poll])] rfl rfl ⟨.m1 4 rfl (.l rfl rfl) (fun w HS => X.fieldAddr 3 fo42_3 rfl) rfl rfl rfl rfl rfl, .m1 24 rfl (.r rfl rfl) (fun w HS => X.loadAt 6 HS rfl Try.underlying4 rfl rfl rfl) rfl rfl rfl rfl rfl, .m2 23 25 rfl (.r rfl rfl) (.r rfl rfl) (fun w HS => X.build (vs := #[(0, Value.int .i64 (1)), (2, Value.int .i64 t43), (3, Value.bool a1.Poll)]) (v := Value.agg #[Value.int .i64 (1), Value.int .i64 (0), Value.int .i64 t43, Value.bool a1.Poll]) (fun a ha => by simp only [List.map_toArray, List.map_cons, List.map_nil]; rw [ha.ev (x := .tmp 23) (v := Value.int .i64 t43) rfl]; rw [ha.ev (x := .tmp 25) (v := Value.bool a1.Poll) rfl]; try rfl) (fun _ => by kernel_rfl)) rfl rfl rfl rfl rfl, trivial⟩ rfl ⟨.inr ⟨rfl, rfl⟩, ⟨.inr ⟨rfl, rfl⟩, trivial⟩⟩ (Or.inl rfl) (by intro d hd; cases hd) [] [5, 6, 7] rfl rfl (fun w HS => ?_)
        refine ⟨_, Y.storeSt (c' := #[Value.int .i64 (1), Value.int .i64 (0), Value.int .i64 t43, Value.bool a1.Poll]) 5 [Value.int .i64 (1), Value.int .i64 (0), Value.int .i64 t43, Value.bool a1.Poll] HS rfl inf42 rfl rfl rfl rfl rfl rfl, ?_⟩
        rintro _ w HS
        refine ⟨[], _, trivial, ?_, HS⟩
        refine T.fin [(0, Value.pointer (some ⟨b0, 0, none⟩)), (6, Value.pointer (some ⟨nb40, 0, none⟩))] rfl trivial ⟨.inl ⟨rfl, rfl⟩, ⟨.inr ⟨rfl, rfl⟩, trivial⟩⟩ (fun w HS => ?_)
        replace HS := HS.re [5, 0, 1, 2, 3, 4, 6, 7, 8, 9, 10, 11, 12, 13] (by kernel_rfl)
        replace HS := api_Ctl.close ({ Kind := 1, Ns := 0, Nr := t43, Poll := a1.Poll } : api_Ctl) trivial HS
        replace HS := HS.re [6, 0, 1, 2, 3, 4, 5, 7, 8, 9, 10, 11, 12, 13] (by kernel_rfl)
        replace HS := api_Ctl.close a1 trivial HS
        replace HS := HS.re [2, 3, 4, 5, 6, 0, 1, 7, 8, 9, 10, 11, 12, 13] (by kernel_rfl)
        replace HS := reorder_Order.close x4.order trivial HS
        replace HS := HS.re [3, 4, 0, 5, 6, 7, 8, 1, 2, 9] (by kernel_rfl)
        replace HS := arq_Arq.close x4 trivial HS
        replace HS := HS.sel [2, 1, 0, 3] [] (by kernel_rfl)
        exact At.meet (nb40, ({ Kind := 1, Ns := 0, Nr := t43, Poll := a1.Poll } : api_Ctl)) ⟨rfl, rfl, trivial⟩ ⟨HS, kf5, by omega, H⟩
    · rintro ⟨nb6, x7⟩ w ⟨HS, kf8, hkkf8, H⟩
      unfold arq_Arq_come.j1 at H
      refine V.meet (σ := arq_Arq × api_Ctl) (fun st w => match st with | (x10, x11) => Sep.St [api_Ctl.at nb6 x11, api_Ctl.at nb1 a1, arq_Arq.at b0 x10, R] w0 w ∧ ∃ kf12, kf12 ≤ kf8 ∧ arq_Arq_come.j2 kf12 x10 x11 = some r) (fun st => match st with | (x10, x11) => [(0, Value.pointer (some ⟨b0, 0, none⟩)), (6, Value.pointer (some ⟨nb6, 0, none⟩))]) ?_ ?_
      · refine V.meet (σ := Bool) (fun st w => match st with | x17 => Sep.St [api_Ctl.at nb6 x7, api_Ctl.at nb1 a1, arq_Arq.at b0 x4, R] w0 w ∧ ∃ kf18, kf18 ≤ kf8 ∧ arq_Arq_come.j3 kf18 x4 x7 x17 = some r) (fun st => match st with | x17 => [(0, Value.pointer (some ⟨b0, 0, none⟩)), (6, Value.pointer (some ⟨nb6, 0, none⟩)), (38, Value.bool x17)]) ?_ ?_
        · refine V.region ?_
          refine W.rd (X.move rfl) rfl rfl rfl ?_
          refine W.rd (X.nilCheck rfl) rfl rfl rfl ?_
          replace HS := HS.front 2 rfl
          obtain ⟨b8_24, b9_24, b10_24, a11_24, c11_24, d11_24, a12_24, c12_24, hi25, HS⟩ := arq_Arq.open HS
          refine W.rd (X.fieldAddr 9 fo82_9 rfl) rfl rfl rfl ?_
          refine W.rd (X.loadAt 0 HS rfl Try.underlying76 rfl rfl rfl) rfl rfl rfl ?_
          replace HS := HS.front 2 rfl
          obtain ⟨b3_26, k3_26, a4_26, c4_26, d4_26, hi27, HS⟩ := reorder_Order.open HS
          obtain ⟨t28, A29, H⟩ := bind_s H
          refine W.ev (Y.call Try.func104 (by kernel_rfl) rfl (vs := [Value.pointer (some ⟨b9_24, 0, none⟩)]) rfl (reorder_Order_Gap.calls x4.order _ w0 _ b9_24 b3_26 k3_26 a4_26 c4_26 d4_26 t28  A29 (Sep.St.tailJoin (m := [blk b9_24 (#[Value.int .i64 x4.order.m, Value.int .i64 x4.order.window, Value.int .i64 x4.order.next, Value.map (some b3_26), Value.slice a4_26 x4.order.ready.length c4_26]) 106, mblk b3_26 k3_26, tieM (El.sl (El.int .u8)) k3_26 x4.order.kept, row 39 1 (.slice a4_26 x4.order.ready.length c4_26) x4.order.ready.length d4_26, tie (El.sl (El.int .u8)) d4_26 x4.order.ready]) (r := [blk b0 (#[Value.int .i64 x4.m, Value.int .i64 x4.t1, Value.int .i64 x4.n2, Value.int .i64 x4.size, Value.int .i64 x4.state, Value.int .i64 x4.tag, Value.int .i64 x4.tries, Value.bool x4.rejected, Value.pointer (some ⟨b8_24, 0, none⟩), Value.pointer (some ⟨b9_24, 0, none⟩), Value.pointer (some ⟨b10_24, 0, none⟩), Value.slice a11_24 x4.out.length c11_24, Value.slice a12_24 x4.inds.length c12_24, Value.int .i64 x4.sent, Value.int .i64 x4.acked, Value.int .i64 x4.lost]) 82, backlog_Log.at b8_24 x4.log, clock_Set.at b10_24 x4.timers, row 39 1 (.slice a11_24 x4.out.length c11_24) x4.out.length d11_24, tie (El.sl (El.int .u8)) d11_24 x4.out, row 3 1 (.slice a12_24 x4.inds.length c12_24) x4.inds.length (x4.inds.map (Value.int .i64)), api_Ctl.at nb6 x7, api_Ctl.at nb1 a1, R]) HS))) rfl rfl rfl ?_
          rintro _ w ⟨rfl, HS⟩
          replace HS := Sep.St.tailOpen (m := [blk b9_24 (#[Value.int .i64 x4.order.m, Value.int .i64 x4.order.window, Value.int .i64 x4.order.next, Value.map (some b3_26), Value.slice a4_26 x4.order.ready.length c4_26]) 106, mblk b3_26 k3_26, tieM (El.sl (El.int .u8)) k3_26 x4.order.kept, row 39 1 (.slice a4_26 x4.order.ready.length c4_26) x4.order.ready.length d4_26, tie (El.sl (El.int .u8)) d4_26 x4.order.ready]) (r := [blk b0 (#[Value.int .i64 x4.m, Value.int .i64 x4.t1, Value.int .i64 x4.n2, Value.int .i64 x4.size, Value.int .i64 x4.state, Value.int .i64 x4.tag, Value.int .i64 x4.tries, Value.bool x4.rejected, Value.pointer (some ⟨b8_24, 0, none⟩), Value.pointer (some ⟨b9_24, 0, none⟩), Value.pointer (some ⟨b10_24, 0, none⟩), Value.slice a11_24 x4.out.length c11_24, Value.slice a12_24 x4.inds.length c12_24, Value.int .i64 x4.sent, Value.int .i64 x4.acked, Value.int .i64 x4.lost]) 82, backlog_Log.at b8_24 x4.log, clock_Set.at b10_24 x4.timers, row 39 1 (.slice a11_24 x4.out.length c11_24) x4.out.length d11_24, tie (El.sl (El.int .u8)) d11_24 x4.out, row 3 1 (.slice a12_24 x4.inds.length c12_24) x4.inds.length (x4.inds.map (Value.int .i64)), api_Ctl.at nb6 x7, api_Ctl.at nb1 a1, R]) HS
          refine W.rd (X.move rfl) rfl rfl rfl ?_
          by_cases c30 : t28 = true
          · replace H := ite_t c30 H
            refine W.want 32 rfl (sb c30) ?_
            refine W.rd (X.move rfl) rfl rfl rfl ?_
            refine W.want 32 rfl (sb c30) ?_
            refine W.rd (X.nilCheck rfl) rfl rfl rfl ?_
            refine W.want 32 rfl (sb c30) ?_
            refine W.rd (X.fieldAddr 7 fo82_7 rfl) rfl rfl rfl ?_
            refine W.want 32 rfl (sb c30) ?_
            refine W.rd (X.loadAt 5 HS rfl Try.underlying4 rfl rfl rfl) rfl rfl rfl ?_
            refine W.want 32 rfl (sb c30) ?_
            refine W.rd (X.not rfl) rfl rfl rfl ?_
            refine W.rd (X.pickT (sb c30) rfl) rfl rfl rfl ?_
            refine W.nil ?_
            replace HS := reorder_Order.close x4.order trivial HS
            replace HS := HS.re [1, 2, 0, 3, 4, 5, 6, 7, 8, 9] (by kernel_rfl)
            replace HS := arq_Arq.close x4 trivial HS
            replace HS := HS.sel [1, 2, 0, 3] [] (by kernel_rfl)
            exact At.meet (!x4.rejected) ⟨rfl, rfl, rfl, trivial⟩ ⟨HS, kf8, by omega, H⟩
          · replace H := ite_f c30 H
            refine W.pass 32 rfl (sb (b_f c30)) rfl rfl ?_
            refine W.pass 32 rfl (sb (b_f c30)) rfl rfl ?_
            refine W.pass 32 rfl (sb (b_f c30)) rfl rfl ?_
            refine W.pass 32 rfl (sb (b_f c30)) rfl rfl ?_
            refine W.pass 32 rfl (sb (b_f c30)) rfl rfl ?_
            refine W.rd (X.pickF (sb (b_f c30)) rfl) rfl rfl rfl ?_
            refine W.nil ?_
            replace HS := reorder_Order.close x4.order trivial HS
            replace HS := HS.re [1, 2, 0, 3, 4, 5, 6, 7, 8, 9] (by kernel_rfl)
            replace HS := arq_Arq.close x4 trivial HS
            replace HS := HS.sel [1, 2, 0, 3] [] (by kernel_rfl)
            exact At.meet false ⟨rfl, rfl, rfl, trivial⟩ ⟨HS, kf8, by omega, H⟩
        · rintro x17 w ⟨HS, kf18, hkkf18, H⟩
          unfold arq_Arq_come.j3 at H
          by_cases c19 : x17 = true
          · replace H := ite_t c19 H
            refine V.condT (sb c19) ?_
            refine V.seq ?_
            refine V.region ?_
            refine W.rd (X.move rfl) rfl rfl rfl ?_
            refine W.rd (X.nilCheck rfl) rfl rfl rfl ?_
            replace HS := HS.front 2 rfl
            obtain ⟨b8_20, b9_20, b10_20, a11_20, c11_20, d11_20, a12_20, c12_20, hi21, HS⟩ := arq_Arq.open HS
            refine W.rd (X.fieldAddr 7 fo82_7 rfl) rfl rfl rfl ?_
            refine W.ev_none (Y.storeAt 0 HS rfl inf4 rfl rfl rfl rfl rfl rfl) rfl rfl ?_
            rintro _ w HS
            refine W.nil ?_
            refine At.next ?_
            refine V.region ?_
            replace HS := HS.front 7 rfl
            obtain ⟨hi23, HS⟩ := api_Ctl.open HS
            refine W.rd (X.fieldAddr 0 fo42_0 rfl) rfl rfl rfl ?_
            refine W.ev_none (Y.storeAt 0 HS rfl inf3 rfl rfl rfl rfl rfl rfl) rfl rfl ?_
            rintro _ w HS
            refine W.rd (X.fieldAddr 3 fo42_3 rfl) rfl rfl rfl ?_
            refine W.ev_none (Y.storeAt 0 HS rfl inf4 rfl rfl rfl rfl rfl rfl) rfl rfl ?_
            rintro _ w HS
            refine W.nil ?_
            replace HS := api_Ctl.close ({ Kind := 2, Ns := x7.Ns, Nr := x7.Nr, Poll := false } : api_Ctl) trivial HS
            replace HS := HS.re [1, 2, 3, 4, 5, 6, 7, 0, 8, 9] (by kernel_rfl)
            replace HS := arq_Arq.close ({ m := x4.m, t1 := x4.t1, n2 := x4.n2, size := x4.size, state := x4.state, tag := x4.tag, tries := x4.tries, rejected := true, log := x4.log, order := x4.order, timers := x4.timers, out := x4.out, inds := x4.inds, sent := x4.sent, acked := x4.acked, lost := x4.lost } : arq_Arq) trivial HS
            replace HS := HS.sel [1, 2, 0, 3] [] (by kernel_rfl)
            exact At.meet (({ m := x4.m, t1 := x4.t1, n2 := x4.n2, size := x4.size, state := x4.state, tag := x4.tag, tries := x4.tries, rejected := true, log := x4.log, order := x4.order, timers := x4.timers, out := x4.out, inds := x4.inds, sent := x4.sent, acked := x4.acked, lost := x4.lost } : arq_Arq), ({ Kind := 2, Ns := x7.Ns, Nr := x7.Nr, Poll := false } : api_Ctl)) ⟨rfl, rfl, trivial⟩ ⟨HS, kf18, by omega, H⟩
          · replace H := ite_f c19 H
            refine V.condF (sb (b_f c19)) ?_
            refine V.skip ?_
            exact At.meet (x4, x7) ⟨rfl, rfl, trivial⟩ ⟨HS, kf18, by omega, H⟩
      · rintro ⟨x10, x11⟩ w ⟨HS, kf12, hkkf12, H⟩
        unfold arq_Arq_come.j2 at H
        refine V.region ?_
        refine W.rd (X.move rfl) rfl rfl rfl ?_
        obtain ⟨hi14, HS⟩ := api_Ctl.open HS
        refine W.rd (X.loadSt 0 [Value.int .i64 x11.Kind, Value.int .i64 x11.Ns, Value.int .i64 x11.Nr, Value.bool x11.Poll] HS rfl Try.underlying42 rfl inf42 rfl rfl) rfl rfl rfl ?_
        obtain ⟨t15, A16, H⟩ := bind_s H
        replace HS := HS.re [2, 0, 1, 3] (by kernel_rfl)
        refine W.ev (Y.call Try.func46 (by kernel_rfl) rfl (vs := [Value.pointer (some ⟨b0, 0, none⟩), Value.agg #[Value.int .i64 x11.Kind, Value.int .i64 x11.Ns, Value.int .i64 x11.Nr, Value.bool x11.Poll]]) rfl (arq_Arq_tell.calls kf12 x10 x11 _ w0 _ b0 t15  A16 (Sep.St.tailJoin (m := [arq_Arq.at b0 x10]) (r := [blk nb6 (#[Value.int .i64 x11.Kind, Value.int .i64 x11.Ns, Value.int .i64 x11.Nr, Value.bool x11.Poll]) 42, api_Ctl.at nb1 a1, R]) HS))) rfl rfl rfl ?_
        rintro _ w ⟨rfl, HS⟩
        replace HS := Sep.St.tailOpen (m := [arq_Arq.at b0 t15]) (r := [blk nb6 (#[Value.int .i64 x11.Kind, Value.int .i64 x11.Ns, Value.int .i64 x11.Nr, Value.bool x11.Poll]) 42, api_Ctl.at nb1 a1, R]) HS
        refine W.nil ?_
        replace HS := HS.sel [0, 3] [1, 2] (by kernel_rfl)
        cases H
        exact At.end0 rfl ⟨_, rfl, rfl, HS⟩

/-! ### (*signalman/arq.Arq).numbered: function 58 -/
mutual
def arq_Arq_numbered.j3 (k : Nat)  (x27 : arq_Arq) : Option arq_Arq := ((arq_Arq_pump.f k x27).bind fun t29 => some t29)
def arq_Arq_numbered.j2 (k : Nat) (a2 : api_Ctl) (a3 : List Int) (x25 : arq_Arq) : Option arq_Arq := (if a2.Kind = 0 then ((arq_Arq_come.f k x25 a2 a3).bind fun t34 => (arq_Arq_numbered.j3 k t34)) else (arq_Arq_numbered.j3 k x25))
def arq_Arq_numbered.j4 (k : Nat) (a2 : api_Ctl) (a3 : List Int) (x36 : arq_Arq) (x37 : Bool) : Option arq_Arq := (if x37 = true then ((arq_Arq_resend.f k x36).bind fun t40 => (arq_Arq_numbered.j2 k a2 a3 t40)) else (arq_Arq_numbered.j2 k a2 a3 x36))
def arq_Arq_numbered.j1 (k : Nat) (a0 : arq_Arq) (a2 : api_Ctl) (a3 : List Int) (x18 : Bool) : Option arq_Arq := (if x18 = true then ((arq_Arq_tell.f k a0 ({ Kind := 7, Ns := 0, Nr := 0, Poll := false } : api_Ctl)).bind fun t21 => ((arq_Arq_end.f t21).bind fun t23 => some t23)) else ((arq_Arq_acknowledged.f k a0 a2.Nr).bind fun t44 => (if t44.1 = true then (arq_Arq_numbered.j4 k a2 a3 t44.2 (decide (a2.Kind = 2))) else (arq_Arq_numbered.j4 k a2 a3 t44.2 false))))
def arq_Arq_numbered.j0 (k : Nat) (a0 : arq_Arq) (a2 : api_Ctl) (a3 : List Int) (x15 : Bool) : Option arq_Arq := (if x15 = true then some a0 else (if a2.Kind = 0 then (arq_Arq_numbered.j1 k a0 a2 a3 (decide ((a3.length : Int) > a0.size))) else (arq_Arq_numbered.j1 k a0 a2 a3 false)))
end
def arq_Arq_numbered.f (k : Nat) (a0 : arq_Arq) (a1 : Int) (a2 : api_Ctl) (a3 : List Int) : Option arq_Arq := (if a0.state = 0 then ((arq_Arq_put.f k a0 a1 ({ Kind := 6, Ns := 0, Nr := 0, Poll := false } : api_Ctl) ([] : List Int)).bind fun t7 => some t7) else (if a0.state = 2 then (arq_Arq_numbered.j0 k a0 a2 a3 (!(decide (a1 = a0.tag)))) else (arq_Arq_numbered.j0 k a0 a2 a3 true)))
set_option maxRecDepth 100000 in
set_option maxHeartbeats 4000000 in
theorem arq_Arq_numbered.calls (k : Nat) (a0 : arq_Arq) (a1 : Int) (a2 : api_Ctl) (a3 : List Int) (R : As) (w0 w : World) (b0 : Nat) (sa3 : Option Addr) (sc3 : Nat) (r : arq_Arq) (hr3 : rdC R 1 (.slice sa3 a3.length sc3) a3.length (a3.map (Value.int .u8))) (H : arq_Arq_numbered.f k a0 a1 a2 a3 = some r) (HS : Sep.St [arq_Arq.at b0 a0, R] w0 w) : Calls Try.prog 58 #[Value.pointer (some ⟨b0, 0, none⟩), Value.int .i64 a1, Value.agg #[Value.int .i64 a2.Kind, Value.int .i64 a2.Ns, Value.int .i64 a2.Nr, Value.bool a2.Poll], Value.slice sa3 a3.length sc3] w (Ret fun u w => u = Value.tuple #[] ∧ Sep.St [arq_Arq.at b0 r, R] w0 w) := by
  unfold arq_Arq_numbered.f at H
  refine calls_enter Try.func58 rfl rfl ?_
  have H : _ = some r := H
  refine V.seq ?_
  refine V.region ?_
  refine W.ev (Y.box HS rfl) rfl rfl rfl ?_
  rintro _ w ⟨nb1, rfl, HS⟩
  refine W.nil ?_
  refine At.next ?_
  refine V.seq ?_
  refine V.block ?_
  refine V.seq ?_
  refine V.region ?_
  refine W.rd (X.move rfl) rfl rfl rfl ?_
  refine W.rd (X.nilCheck rfl) rfl rfl rfl ?_
  replace HS := HS.front 1 rfl
  obtain ⟨b8_4, b9_4, b10_4, a11_4, c11_4, d11_4, a12_4, c12_4, hi5, HS⟩ := arq_Arq.open HS
  refine W.rd (X.fieldAddr 4 fo82_4 rfl) rfl rfl rfl ?_
  refine W.rd (X.loadAt 0 HS rfl Try.underlying3 rfl rfl rfl) rfl rfl rfl ?_
  refine W.rd (X.cmp (decide (a0.state = 0)) rfl rfl rfl rfl) rfl rfl rfl ?_
  refine W.rd (X.assign rfl) rfl rfl rfl ?_
  refine W.nil ?_
  refine At.next ?_
  by_cases c6 : a0.state = 0
  · replace H := ite_t c6 H
    refine V.condT (sb (decide_eq_true c6)) ?_
    refine V.seq ?_
    refine V.region ?_
    refine W.rd (X.move rfl) rfl rfl rfl ?_
    refine W.rd (X.move rfl) rfl rfl rfl ?_
    refine W.rd (X.build (vs := #[(0, Value.int .i64 (6))]) (v := Value.agg #[Value.int .i64 (6), Value.int .i64 (0), Value.int .i64 (0), Value.bool false]) (fun a ha => by simp only [List.map_toArray, List.map_cons, List.map_nil]; try rfl) (fun _ => by kernel_rfl)) rfl rfl rfl ?_
    replace HS := arq_Arq.close a0 trivial HS
    replace HS := row_nil' (e := 5) 1 none HS
    have HS : Sep.St [row 5 1 (.slice none ([] : List Int).length 0) ([] : List Int).length (([] : List Int).map (Value.int .u8)), arq_Arq.at b0 a0, blk nb1 (#[Value.int .i64 a2.Kind, Value.int .i64 a2.Ns, Value.int .i64 a2.Nr, Value.bool a2.Poll]) 42, R] w0 w := HS
    replace HS := St.row_freeze HS
    obtain ⟨t7, A8, H⟩ := bind_s H
    replace HS := HS.re [1, 0, 2, 3] (by kernel_rfl)
    refine W.ev (Y.call Try.func74 (by kernel_rfl) rfl (vs := [Value.pointer (some ⟨b0, 0, none⟩), Value.int .i64 a1, Value.agg #[Value.int .i64 (6), Value.int .i64 (0), Value.int .i64 (0), Value.bool false], Value.slice none ([] : List Int).length 0]) rfl (arq_Arq_put.calls k a0 a1 ({ Kind := 6, Ns := 0, Nr := 0, Poll := false } : api_Ctl) ([] : List Int) _ w0 _ b0 none 0 t7  A8 (Sep.St.tailJoin (m := [arq_Arq.at b0 a0, fsl 1 (.slice none ([] : List Int).length 0) ([] : List Int).length (([] : List Int).map (Value.int .u8))]) (r := [blk nb1 (#[Value.int .i64 a2.Kind, Value.int .i64 a2.Ns, Value.int .i64 a2.Nr, Value.bool a2.Poll]) 42, R]) HS))) rfl rfl rfl ?_
    rintro _ w ⟨rfl, HS⟩
    replace HS := Sep.St.tailOpen (m := [arq_Arq.at b0 t7]) (r := [blk nb1 (#[Value.int .i64 a2.Kind, Value.int .i64 a2.Ns, Value.int .i64 a2.Nr, Value.bool a2.Poll]) 42, R]) HS
    refine W.nil ?_
    refine At.next ?_
    refine V.ret ?_
    refine At.blockRet ?_
    refine At.thenRet ?_
    replace HS := HS.sel [0, 2] [1] (by kernel_rfl)
    cases H
    exact At.ret0 rfl ⟨_, rfl, rfl, HS⟩
  · replace H := ite_f c6 H
    refine V.condF (sb (decide_eq_false c6)) ?_
    refine V.meet (σ := Bool) (fun st w => match st with | x15 => Sep.St [api_Ctl.at nb1 a2, arq_Arq.at b0 a0, R] w0 w ∧ ∃ kf16, kf16 ≤ k ∧ arq_Arq_numbered.j0 kf16 a0 a2 a3 x15 = some r) (fun st => match st with | x15 => [(0, Value.pointer (some ⟨b0, 0, none⟩)), (3, Value.slice sa3 a3.length sc3), (6, Value.pointer (some ⟨nb1, 0, none⟩)), (18, Value.bool x15)]) ?_ ?_
    · refine V.region ?_
      refine W.rd (X.move rfl) rfl rfl rfl ?_
      refine W.rd (X.nilCheck rfl) rfl rfl rfl ?_
      refine W.rd (X.fieldAddr 4 fo82_4 rfl) rfl rfl rfl ?_
      refine W.rd (X.loadAt 0 HS rfl Try.underlying3 rfl rfl rfl) rfl rfl rfl ?_
      refine W.rd (X.cmp (!(decide (a0.state = 2))) rfl rfl rfl rfl) rfl rfl rfl ?_
      refine W.rd (X.move rfl) rfl rfl rfl ?_
      by_cases c52 : a0.state = 2
      · replace H := ite_t c52 H
        refine W.want 24 rfl (sb (n_t (decide_eq_true c52))) ?_
        refine W.rd (X.move rfl) rfl rfl rfl ?_
        refine W.want 24 rfl (sb (n_t (decide_eq_true c52))) ?_
        refine W.rd (X.move rfl) rfl rfl rfl ?_
        refine W.want 24 rfl (sb (n_t (decide_eq_true c52))) ?_
        refine W.rd (X.nilCheck rfl) rfl rfl rfl ?_
        refine W.want 24 rfl (sb (n_t (decide_eq_true c52))) ?_
        refine W.rd (X.fieldAddr 5 fo82_5 rfl) rfl rfl rfl ?_
        refine W.want 24 rfl (sb (n_t (decide_eq_true c52))) ?_
        refine W.rd (X.loadAt 0 HS rfl Try.underlying3 rfl rfl rfl) rfl rfl rfl ?_
        refine W.want 24 rfl (sb (n_t (decide_eq_true c52))) ?_
        refine W.rd (X.cmp (!(decide (a1 = a0.tag))) rfl rfl rfl rfl) rfl rfl rfl ?_
        refine W.rd (X.pickF (sb (n_t (decide_eq_true c52))) rfl) rfl rfl rfl ?_
        refine W.rd (X.assign rfl) rfl rfl rfl ?_
        refine W.nil ?_
        replace HS := HS.re [7, 0, 1, 2, 3, 4, 5, 6, 8] (by kernel_rfl)
        replace HS := api_Ctl.close a2 trivial HS
        replace HS := HS.re [1, 2, 3, 4, 5, 6, 7, 0, 8] (by kernel_rfl)
        replace HS := arq_Arq.close a0 trivial HS
        replace HS := HS.sel [1, 0, 2] [] (by kernel_rfl)
        exact At.meet (!(decide (a1 = a0.tag))) ⟨rfl, rfl, rfl, rfl, trivial⟩ ⟨HS, k, by omega, H⟩
      · replace H := ite_f c52 H
        refine W.pass 24 rfl (sb (n_f (decide_eq_false c52))) rfl rfl ?_
        refine W.pass 24 rfl (sb (n_f (decide_eq_false c52))) rfl rfl ?_
        refine W.pass 24 rfl (sb (n_f (decide_eq_false c52))) rfl rfl ?_
        refine W.pass 24 rfl (sb (n_f (decide_eq_false c52))) rfl rfl ?_
        refine W.pass 24 rfl (sb (n_f (decide_eq_false c52))) rfl rfl ?_
        refine W.pass 24 rfl (sb (n_f (decide_eq_false c52))) rfl rfl ?_
        refine W.rd (X.pickT (sb (n_f (decide_eq_false c52))) rfl) rfl rfl rfl ?_
        refine W.rd (X.assign rfl) rfl rfl rfl ?_
        refine W.nil ?_
        replace HS := HS.re [7, 0, 1, 2, 3, 4, 5, 6, 8] (by kernel_rfl)
        replace HS := api_Ctl.close a2 trivial HS
        replace HS := HS.re [1, 2, 3, 4, 5, 6, 7, 0, 8] (by kernel_rfl)
        replace HS := arq_Arq.close a0 trivial HS
        replace HS := HS.sel [1, 0, 2] [] (by kernel_rfl)
        exact At.meet true ⟨rfl, rfl, rfl, rfl, trivial⟩ ⟨HS, k, by omega, H⟩
    · rintro x15 w ⟨HS, kf16, hkkf16, H⟩
      unfold arq_Arq_numbered.j0 at H
      by_cases c17 : x15 = true
      · replace H := ite_t c17 H
        refine V.condT (sb c17) ?_
        refine V.ret ?_
        refine At.blockRet ?_
        refine At.thenRet ?_
        replace HS := HS.sel [1, 2] [0] (by kernel_rfl)
        cases H
        exact At.ret0 rfl ⟨_, rfl, rfl, HS⟩
      · replace H := ite_f c17 H
        refine V.condF (sb (b_f c17)) ?_
        refine V.meet (σ := Bool) (fun st w => match st with | x18 => Sep.St [api_Ctl.at nb1 a2, arq_Arq.at b0 a0, R] w0 w ∧ ∃ kf19, kf19 ≤ kf16 ∧ arq_Arq_numbered.j1 kf19 a0 a2 a3 x18 = some r) (fun st => match st with | x18 => [(0, Value.pointer (some ⟨b0, 0, none⟩)), (3, Value.slice sa3 a3.length sc3), (6, Value.pointer (some ⟨nb1, 0, none⟩)), (32, Value.bool x18)]) ?_ ?_
        · refine V.region ?_
          obtain ⟨hi48, HS⟩ := api_Ctl.open HS
          refine W.rd (X.fieldAddr 0 fo42_0 rfl) rfl rfl rfl ?_
          refine W.rd (X.loadAt 0 HS rfl Try.underlying3 rfl rfl rfl) rfl rfl rfl ?_
          refine W.rd (X.cmp (decide (a2.Kind = 0)) rfl rfl rfl rfl) rfl rfl rfl ?_
          refine W.rd (X.move rfl) rfl rfl rfl ?_
          by_cases c49 : a2.Kind = 0
          · replace H := ite_t c49 H
            refine W.want 36 rfl (sb (decide_eq_true c49)) ?_
            refine W.rd (X.move rfl) rfl rfl rfl ?_
            refine W.want 36 rfl (sb (decide_eq_true c49)) ?_
            refine W.rd (X.lenSl Try.underlying39 rfl) rfl rfl rfl ?_
            refine W.want 36 rfl (sb (decide_eq_true c49)) ?_
            refine W.rd (X.move rfl) rfl rfl rfl ?_
            refine W.want 36 rfl (sb (decide_eq_true c49)) ?_
            refine W.rd (X.nilCheck rfl) rfl rfl rfl ?_
            refine W.want 36 rfl (sb (decide_eq_true c49)) ?_
            replace HS := HS.front 1 rfl
            obtain ⟨b8_50, b9_50, b10_50, a11_50, c11_50, d11_50, a12_50, c12_50, hi51, HS⟩ := arq_Arq.open HS
            refine W.rd (X.fieldAddr 3 fo82_3 rfl) rfl rfl rfl ?_
            refine W.want 36 rfl (sb (decide_eq_true c49)) ?_
            refine W.rd (X.loadAt 0 HS rfl Try.underlying3 rfl rfl rfl) rfl rfl rfl ?_
            refine W.want 36 rfl (sb (decide_eq_true c49)) ?_
            refine W.rd (X.cmp (decide ((a3.length : Int) > a0.size)) rfl rfl rfl rfl) rfl rfl rfl ?_
            refine W.rd (X.pickT (sb (decide_eq_true c49)) rfl) rfl rfl rfl ?_
            refine W.rd (X.assign rfl) rfl rfl rfl ?_
            refine W.nil ?_
            replace HS := HS.re [7, 0, 1, 2, 3, 4, 5, 6, 8] (by kernel_rfl)
            replace HS := api_Ctl.close a2 trivial HS
            replace HS := HS.re [1, 2, 3, 4, 5, 6, 7, 0, 8] (by kernel_rfl)
            replace HS := arq_Arq.close a0 trivial HS
            replace HS := HS.sel [1, 0, 2] [] (by kernel_rfl)
            exact At.meet (decide ((a3.length : Int) > a0.size)) ⟨rfl, rfl, rfl, rfl, trivial⟩ ⟨HS, kf16, by omega, H⟩
          · replace H := ite_f c49 H
            refine W.pass 36 rfl (sb (decide_eq_false c49)) rfl rfl ?_
            refine W.pass 36 rfl (sb (decide_eq_false c49)) rfl rfl ?_
            refine W.pass 36 rfl (sb (decide_eq_false c49)) rfl rfl ?_
            refine W.pass 36 rfl (sb (decide_eq_false c49)) rfl rfl ?_
            refine W.pass 36 rfl (sb (decide_eq_false c49)) rfl rfl ?_
            refine W.pass 36 rfl (sb (decide_eq_false c49)) rfl rfl ?_
            refine W.pass 36 rfl (sb (decide_eq_false c49)) rfl rfl ?_
            refine W.rd (X.pickF (sb (decide_eq_false c49)) rfl) rfl rfl rfl ?_
            refine W.rd (X.assign rfl) rfl rfl rfl ?_
            refine W.nil ?_
            replace HS := api_Ctl.close a2 trivial HS
            exact At.meet false ⟨rfl, rfl, rfl, rfl, trivial⟩ ⟨HS, kf16, by omega, H⟩
        · rintro x18 w ⟨HS, kf19, hkkf19, H⟩
          unfold arq_Arq_numbered.j1 at H
          by_cases c20 : x18 = true
          · replace H := ite_t c20 H
            refine V.condT (sb c20) ?_
            refine V.seq ?_
            refine V.region ?_
            refine W.rd (X.move rfl) rfl rfl rfl ?_
            refine W.rd (X.build (vs := #[(0, Value.int .i64 (7))]) (v := Value.agg #[Value.int .i64 (7), Value.int .i64 (0), Value.int .i64 (0), Value.bool false]) (fun a ha => by simp only [List.map_toArray, List.map_cons, List.map_nil]; try rfl) (fun _ => by kernel_rfl)) rfl rfl rfl ?_
            obtain ⟨t21, A22, H⟩ := bind_s H
            replace HS := HS.re [1, 0, 2] (by kernel_rfl)
            refine W.ev (Y.call Try.func46 (by kernel_rfl) rfl (vs := [Value.pointer (some ⟨b0, 0, none⟩), Value.agg #[Value.int .i64 (7), Value.int .i64 (0), Value.int .i64 (0), Value.bool false]]) rfl (arq_Arq_tell.calls kf19 a0 ({ Kind := 7, Ns := 0, Nr := 0, Poll := false } : api_Ctl) _ w0 _ b0 t21  A22 (Sep.St.tailJoin (m := [arq_Arq.at b0 a0]) (r := [api_Ctl.at nb1 a2, R]) HS))) rfl rfl rfl ?_
            rintro _ w ⟨rfl, HS⟩
            replace HS := Sep.St.tailOpen (m := [arq_Arq.at b0 t21]) (r := [api_Ctl.at nb1 a2, R]) HS
            refine W.nil ?_
            refine At.next ?_
            refine V.seq ?_
            refine V.region ?_
            refine W.rd (X.move rfl) rfl rfl rfl ?_
            obtain ⟨t23, A24, H⟩ := bind_s H
            refine W.ev (Y.call Try.func57 (by kernel_rfl) rfl (vs := [Value.pointer (some ⟨b0, 0, none⟩)]) rfl (arq_Arq_end.calls t21 _ w0 _ b0 t23  A24 (Sep.St.tailJoin (m := [arq_Arq.at b0 t21]) (r := [api_Ctl.at nb1 a2, R]) HS))) rfl rfl rfl ?_
            rintro _ w ⟨rfl, HS⟩
            replace HS := Sep.St.tailOpen (m := [arq_Arq.at b0 t23]) (r := [api_Ctl.at nb1 a2, R]) HS
            refine W.nil ?_
            refine At.next ?_
            refine V.ret ?_
            refine At.blockRet ?_
            refine At.thenRet ?_
            replace HS := HS.sel [0, 2] [1] (by kernel_rfl)
            cases H
            exact At.ret0 rfl ⟨_, rfl, rfl, HS⟩
          · replace H := ite_f c20 H
            refine V.condF (sb (b_f c20)) ?_
            refine V.skip ?_
            refine At.blockEnd ?_
            refine At.next ?_
            refine V.meet (σ := arq_Arq) (fun st w => match st with | x25 => Sep.St [api_Ctl.at nb1 a2, arq_Arq.at b0 x25, R] w0 w ∧ ∃ kf26, kf26 ≤ kf19 ∧ arq_Arq_numbered.j2 kf26 a2 a3 x25 = some r) (fun st => match st with | x25 => [(0, Value.pointer (some ⟨b0, 0, none⟩)), (3, Value.slice sa3 a3.length sc3), (6, Value.pointer (some ⟨nb1, 0, none⟩))]) ?_ ?_
            · refine V.meet (σ := arq_Arq × Bool) (fun st w => match st with | (x36, x37) => Sep.St [api_Ctl.at nb1 a2, arq_Arq.at b0 x36, R] w0 w ∧ ∃ kf38, kf38 ≤ kf19 ∧ arq_Arq_numbered.j4 kf38 a2 a3 x36 x37 = some r) (fun st => match st with | (x36, x37) => [(0, Value.pointer (some ⟨b0, 0, none⟩)), (3, Value.slice sa3 a3.length sc3), (6, Value.pointer (some ⟨nb1, 0, none⟩)), (58, Value.bool x37)]) ?_ ?_
              · refine V.region ?_
                refine W.rd (X.move rfl) rfl rfl rfl ?_
                obtain ⟨hi43, HS⟩ := api_Ctl.open HS
                refine W.rd (X.fieldAddr 2 fo42_2 rfl) rfl rfl rfl ?_
                refine W.rd (X.loadAt 0 HS rfl Try.underlying3 rfl rfl rfl) rfl rfl rfl ?_
                obtain ⟨t44, A45, H⟩ := bind_s H
                replace HS := HS.re [1, 0, 2] (by kernel_rfl)
                refine W.ev (Y.call Try.func90 (by kernel_rfl) rfl (vs := [Value.pointer (some ⟨b0, 0, none⟩), Value.int .i64 a2.Nr]) rfl (arq_Arq_acknowledged.calls kf19 a0 a2.Nr _ w0 _ b0 t44  A45 (Sep.St.tailJoin (m := [arq_Arq.at b0 a0]) (r := [blk nb1 (#[Value.int .i64 a2.Kind, Value.int .i64 a2.Ns, Value.int .i64 a2.Nr, Value.bool a2.Poll]) 42, R]) HS))) rfl rfl rfl ?_
                rintro _ w ⟨rfl, HS⟩
                replace HS := Sep.St.tailOpen (m := [arq_Arq.at b0 t44.2]) (r := [blk nb1 (#[Value.int .i64 a2.Kind, Value.int .i64 a2.Ns, Value.int .i64 a2.Nr, Value.bool a2.Poll]) 42, R]) HS
                refine W.rd (X.move rfl) rfl rfl rfl ?_
                by_cases c46 : t44.1 = true
                · replace H := ite_t c46 H
                  refine W.want 54 rfl (sb c46) ?_
                  refine W.rd (X.fieldAddr 0 fo42_0 rfl) rfl rfl rfl ?_
                  refine W.want 54 rfl (sb c46) ?_
                  refine W.rd (X.loadAt 1 HS rfl Try.underlying3 rfl rfl rfl) rfl rfl rfl ?_
                  refine W.want 54 rfl (sb c46) ?_
                  refine W.rd (X.cmp (decide (a2.Kind = 2)) rfl rfl rfl rfl) rfl rfl rfl ?_
                  refine W.rd (X.pickT (sb c46) rfl) rfl rfl rfl ?_
                  refine W.nil ?_
                  replace HS := HS.re [1, 0, 2] (by kernel_rfl)
                  replace HS := api_Ctl.close a2 trivial HS
                  exact At.meet (t44.2, decide (a2.Kind = 2)) ⟨rfl, rfl, rfl, rfl, trivial⟩ ⟨HS, kf19, by omega, H⟩
                · replace H := ite_f c46 H
                  refine W.pass 54 rfl (sb (b_f c46)) rfl rfl ?_
                  refine W.pass 54 rfl (sb (b_f c46)) rfl rfl ?_
                  refine W.pass 54 rfl (sb (b_f c46)) rfl rfl ?_
                  refine W.rd (X.pickF (sb (b_f c46)) rfl) rfl rfl rfl ?_
                  refine W.nil ?_
                  replace HS := HS.re [1, 0, 2] (by kernel_rfl)
                  replace HS := api_Ctl.close a2 trivial HS
                  exact At.meet (t44.2, false) ⟨rfl, rfl, rfl, rfl, trivial⟩ ⟨HS, kf19, by omega, H⟩
              · rintro ⟨x36, x37⟩ w ⟨HS, kf38, hkkf38, H⟩
                unfold arq_Arq_numbered.j4 at H
                by_cases c39 : x37 = true
                · replace H := ite_t c39 H
                  refine V.condT (sb c39) ?_
                  refine V.region ?_
                  refine W.rd (X.move rfl) rfl rfl rfl ?_
                  obtain ⟨t40, A41, H⟩ := bind_s H
                  replace HS := HS.re [1, 0, 2] (by kernel_rfl)
                  refine W.ev (Y.call Try.func71 (by kernel_rfl) rfl (vs := [Value.pointer (some ⟨b0, 0, none⟩)]) rfl (arq_Arq_resend.calls kf38 x36 _ w0 _ b0 t40  A41 (Sep.St.tailJoin (m := [arq_Arq.at b0 x36]) (r := [api_Ctl.at nb1 a2, R]) HS))) rfl rfl rfl ?_
                  rintro _ w ⟨rfl, HS⟩
                  replace HS := Sep.St.tailOpen (m := [arq_Arq.at b0 t40]) (r := [api_Ctl.at nb1 a2, R]) HS
                  refine W.nil ?_
                  replace HS := HS.sel [1, 0, 2] [] (by kernel_rfl)
                  exact At.meet t40 ⟨rfl, rfl, rfl, trivial⟩ ⟨HS, kf38, by omega, H⟩
                · replace H := ite_f c39 H
                  refine V.condF (sb (b_f c39)) ?_
                  refine V.skip ?_
                  exact At.meet x36 ⟨rfl, rfl, rfl, trivial⟩ ⟨HS, kf38, by omega, H⟩
            · rintro x25 w ⟨HS, kf26, hkkf26, H⟩
              unfold arq_Arq_numbered.j2 at H
              refine V.meet (σ := arq_Arq) (fun st w => match st with | x27 => Sep.St [api_Ctl.at nb1 a2, arq_Arq.at b0 x27, R] w0 w ∧ ∃ kf28, kf28 ≤ kf26 ∧ arq_Arq_numbered.j3 kf28 x27 = some r) (fun st => match st with | x27 => [(0, Value.pointer (some ⟨b0, 0, none⟩))]) ?_ ?_
              · refine V.seq ?_
                refine V.region ?_
                obtain ⟨hi32, HS⟩ := api_Ctl.open HS
                refine W.rd (X.fieldAddr 0 fo42_0 rfl) rfl rfl rfl ?_
                refine W.rd (X.loadAt 0 HS rfl Try.underlying3 rfl rfl rfl) rfl rfl rfl ?_
                refine W.rd (X.cmp (decide (a2.Kind = 0)) rfl rfl rfl rfl) rfl rfl rfl ?_
                refine W.nil ?_
                refine At.next ?_
                by_cases c33 : a2.Kind = 0
                · replace H := ite_t c33 H
                  refine V.condT (sb (decide_eq_true c33)) ?_
                  refine V.region ?_
                  refine W.rd (X.move rfl) rfl rfl rfl ?_
                  refine W.rd (X.loadSt 0 [Value.int .i64 a2.Kind, Value.int .i64 a2.Ns, Value.int .i64 a2.Nr, Value.bool a2.Poll] HS rfl Try.underlying42 rfl inf42 rfl rfl) rfl rfl rfl ?_
                  refine W.rd (X.move rfl) rfl rfl rfl ?_
                  obtain ⟨t34, A35, H⟩ := bind_s H
                  replace HS := HS.re [1, 0, 2] (by kernel_rfl)
                  refine W.ev (Y.call Try.func91 (by kernel_rfl) rfl (vs := [Value.pointer (some ⟨b0, 0, none⟩), Value.agg #[Value.int .i64 a2.Kind, Value.int .i64 a2.Ns, Value.int .i64 a2.Nr, Value.bool a2.Poll], Value.slice sa3 a3.length sc3]) rfl (arq_Arq_come.calls kf26 x25 a2 a3 _ w0 _ b0 sa3 sc3 t34 (rdC.part 1 hr3 rfl) A35 (Sep.St.tailJoin (m := [arq_Arq.at b0 x25]) (r := [blk nb1 (#[Value.int .i64 a2.Kind, Value.int .i64 a2.Ns, Value.int .i64 a2.Nr, Value.bool a2.Poll]) 42, R]) HS))) rfl rfl rfl ?_
                  rintro _ w ⟨rfl, HS⟩
                  replace HS := Sep.St.tailOpen (m := [arq_Arq.at b0 t34]) (r := [blk nb1 (#[Value.int .i64 a2.Kind, Value.int .i64 a2.Ns, Value.int .i64 a2.Nr, Value.bool a2.Poll]) 42, R]) HS
                  refine W.nil ?_
                  replace HS := HS.re [1, 0, 2] (by kernel_rfl)
                  replace HS := api_Ctl.close a2 trivial HS
                  exact At.meet t34 ⟨rfl, trivial⟩ ⟨HS, kf26, by omega, H⟩
                · replace H := ite_f c33 H
                  refine V.condF (sb (decide_eq_false c33)) ?_
                  refine V.skip ?_
                  replace HS := api_Ctl.close a2 trivial HS
                  exact At.meet x25 ⟨rfl, trivial⟩ ⟨HS, kf26, by omega, H⟩
              · rintro x27 w ⟨HS, kf28, hkkf28, H⟩
                unfold arq_Arq_numbered.j3 at H
                refine V.region ?_
                refine W.rd (X.move rfl) rfl rfl rfl ?_
                obtain ⟨t29, A30, H⟩ := bind_s H
                replace HS := HS.re [1, 0, 2] (by kernel_rfl)
                refine W.ev (Y.call Try.func70 (by kernel_rfl) rfl (vs := [Value.pointer (some ⟨b0, 0, none⟩)]) rfl (arq_Arq_pump.calls kf28 x27 _ w0 _ b0 t29  A30 (Sep.St.tailJoin (m := [arq_Arq.at b0 x27]) (r := [api_Ctl.at nb1 a2, R]) HS))) rfl rfl rfl ?_
                rintro _ w ⟨rfl, HS⟩
                replace HS := Sep.St.tailOpen (m := [arq_Arq.at b0 t29]) (r := [api_Ctl.at nb1 a2, R]) HS
                refine W.nil ?_
                replace HS := HS.sel [0, 2] [1] (by kernel_rfl)
                cases H
                exact At.end0 rfl ⟨_, rfl, rfl, HS⟩

/-! ### (*signalman/arq.Arq).Input: function 24 -/
mutual
def arq_Arq_Input.j1 (a0 : arq_Arq) (x33 : Bool) : Option arq_Arq := (if x33 = true then ((arq_Arq_end.f a0).bind fun t36 => some t36) else some a0)
def arq_Arq_Input.j0 (k : Nat) (a0 : arq_Arq) (a1 : List Int) (x7 : Int) (x9 : api_Ctl) (x10 : Int) (x11 : Int) : Option arq_Arq := (if x11 = 0 then (if x9.Kind = 3 then ((arq_Arq_asked.f k a0 x7 x9.Poll).bind fun t18 => some t18) else (if x9.Kind = 4 then (if x7 = a0.tag then ((arq_Arq_accepted.f k a0).bind fun t24 => some t24) else some a0) else (if x9.Kind = 5 then ((arq_Arq_closed.f k a0 x7 x9.Poll).bind fun t27 => some t27) else (if x9.Kind = 6 then ((arq_Arq_refused.f a0 x7).bind fun t30 => some t30) else (if x9.Kind = 7 then (if x7 = a0.tag then (arq_Arq_Input.j1 a0 (decide (a0.state = 2))) else (arq_Arq_Input.j1 a0 false)) else (if 0 ≤ w64 (2 + x10) ∧ w64 (2 + x10) ≤ (a1.length : Int) ∧ (a1.length : Int) ≤ (a1.length : Int) then ((arq_Arq_numbered.f k a0 x7 x9 (cut a1 (w64 (2 + x10)) (a1.length : Int))).bind fun t42 => some t42) else none)))))) else some a0)
end
def arq_Arq_Input.f (k : Nat) (a0 : arq_Arq) (a1 : List Int) : Option arq_Arq := (if (a1.length : Int) < 2 then some a0 else (if 0 ≤ (0 : Int) ∧ (0 : Int) < (a1.length : Int) then (if 0 ≤ (1 : Int) ∧ (1 : Int) < (a1.length : Int) then (if 0 ≤ (2 : Int) ∧ (2 : Int) ≤ (a1.length : Int) ∧ (a1.length : Int) ≤ (a1.length : Int) then ((control_Read.f k (cut a1 (2 : Int) (a1.length : Int)) a0.m).bind fun t47 => (arq_Arq_Input.j0 k a0 a1 (ior .i64 (w64 ((w64 (a1.getD (0 : Int).toNat 0)) * 2 ^ (min (8 : Int).toNat IntKind.i64.bits))) (w64 (a1.getD (1 : Int).toNat 0))) t47.1 t47.2.1 t47.2.2)) else none) else none) else none))
set_option maxRecDepth 100000 in
set_option maxHeartbeats 4000000 in
theorem arq_Arq_Input.calls (k : Nat) (a0 : arq_Arq) (a1 : List Int) (R : As) (w0 w : World) (b0 : Nat) (sa1 : Option Addr) (sc1 : Nat) (r : arq_Arq) (hr1 : rdC R 1 (.slice sa1 a1.length sc1) a1.length (a1.map (Value.int .u8))) (H : arq_Arq_Input.f k a0 a1 = some r) (HS : Sep.St [arq_Arq.at b0 a0, R] w0 w) : Calls Try.prog 24 #[Value.pointer (some ⟨b0, 0, none⟩), Value.slice sa1 a1.length sc1] w (Ret fun u w => u = Value.tuple #[] ∧ Sep.St [arq_Arq.at b0 r, R] w0 w) := by
  unfold arq_Arq_Input.f at H
  refine calls_enter Try.func24 rfl rfl ?_
  have H : _ = some r := H
  refine V.seq ?_
  refine V.seq ?_
  refine V.region ?_
  refine W.rd (X.move rfl) rfl rfl rfl ?_
  refine W.rd (X.lenSl Try.underlying39 rfl) rfl rfl rfl ?_
  refine W.rd (X.cmp (decide ((a1.length : Int) < 2)) rfl rfl rfl rfl) rfl rfl rfl ?_
  refine W.nil ?_
  refine At.next ?_
  by_cases c2 : (a1.length : Int) < 2
  · replace H := ite_t c2 H
    refine V.condT (sb (decide_eq_true c2)) ?_
    refine V.ret ?_
    refine At.thenRet ?_
    cases H
    exact At.ret0 rfl ⟨_, rfl, rfl, HS⟩
  · replace H := ite_f c2 H
    refine V.condF (sb (decide_eq_false c2)) ?_
    refine V.skip ?_
    refine At.next ?_
    refine V.seq ?_
    obtain ⟨c3, H⟩ := ite_n H
    obtain ⟨eb4, eo5, hh⟩ := (rdC.at 1 hr1 HS rfl).some (by decide) c3.1 c3.2; subst hh
    obtain ⟨c6, H⟩ := ite_n H
    refine V.draw (es := []) (bl := []) (f := [(11, Value.slice (some ⟨eb4, eo5, none⟩) a1.length sc1), (12, Value.pointer (some ⟨eb4, eo5 + (0 : Int).toNat * 1, none⟩)), (13, Value.int .u8 (a1.getD (0 : Int).toNat 0)), (14, Value.int .i64 (w64 (a1.getD (0 : Int).toNat 0))), (15, Value.int .i64 (w64 ((w64 (a1.getD (0 : Int).toNat 0)) * 2 ^ (min (8 : Int).toNat IntKind.i64.bits)))), (16, Value.slice (some ⟨eb4, eo5, none⟩) a1.length sc1), (17, Value.pointer (some ⟨eb4, eo5 + (1 : Int).toNat * 1, none⟩)), (18, Value.int .u8 (a1.getD (1 : Int).toNat 0)), (19, Value.int .i64 (w64 (a1.getD (1 : Int).toNat 0))), (20, Value.int .i64 (ior .i64 (w64 ((w64 (a1.getD (0 : Int).toNat 0)) * 2 ^ (min (8 : Int).toNat IntKind.i64.bits))) (w64 (a1.getD (1 : Int).toNat 0)))), (4, Value.int .i64 (ior .i64 (w64 ((w64 (a1.getD (0 : Int).toNat 0)) * 2 ^ (min (8 : Int).toNat IntKind.i64.bits))) (w64 (a1.getD (1 : Int).toNat 0))))]) (fun w => Sep.St [arq_Arq.at b0 a0, R] w0 w) mo HS.drew rfl ?_
    refine T.fin [(0, Value.pointer (some ⟨b0, 0, none⟩)), (1, Value.slice (some ⟨eb4, eo5, none⟩) a1.length sc1), (4, Value.int .i64 (ior .i64 (w64 ((w64 (a1.getD (0 : Int).toNat 0)) * 2 ^ (min (8 : Int).toNat IntKind.i64.bits))) (w64 (a1.getD (1 : Int).toNat 0))))] rfl ⟨.m1 1 rfl (.l rfl rfl) (fun w HS => X.move rfl) rfl rfl rfl rfl rfl, .m1 11 rfl (.r rfl rfl) (fun w HS => X.indexSl Try.underlying39 inf5 rfl rfl c3.1 c3.2) rfl rfl rfl rfl rfl, .m1 12 rfl (.r rfl rfl) (fun w HS => X.load Try.underlying5 rfl rfl ((rdC.at 1 hr1 HS rfl).cellI c3.1 c3.2)) rfl rfl rfl rfl rfl, .m1 13 rfl (.r rfl rfl) (fun w HS => X.conv Try.underlying5 Try.underlying3 rfl) rfl rfl rfl rfl rfl, .m1 14 rfl (.r rfl rfl) (fun w HS => X.shl rfl rfl (by decide)) rfl rfl rfl rfl rfl, .m1 1 rfl (.l rfl rfl) (fun w HS => X.move rfl) rfl rfl rfl rfl rfl, .m1 16 rfl (.r rfl rfl) (fun w HS => X.indexSl Try.underlying39 inf5 rfl rfl c6.1 c6.2) rfl rfl rfl rfl rfl, .m1 17 rfl (.r rfl rfl) (fun w HS => X.load Try.underlying5 rfl rfl ((rdC.at 1 hr1 HS rfl).cellI c6.1 c6.2)) rfl rfl rfl rfl rfl, .m1 18 rfl (.r rfl rfl) (fun w HS => X.conv Try.underlying5 Try.underlying3 rfl) rfl rfl rfl rfl rfl, .m2 15 19 rfl (.r rfl rfl) (.r rfl rfl) (fun w HS => X.or rfl rfl) rfl rfl rfl rfl rfl, .m1 20 rfl (.r rfl rfl) (fun w HS => X.assign rfl) rfl rfl rfl rfl rfl, trivial⟩ ⟨.inl ⟨rfl, rfl⟩, ⟨.inl ⟨rfl, rfl⟩, ⟨.inr ⟨rfl, rfl⟩, trivial⟩⟩⟩ (fun w HS => ?_)
    refine At.next ?_
    refine V.meet (σ := Int × Nat × api_Ctl × Int × Int) (fun st w => match st with | (x7, nb8, x9, x10, x11) => Sep.St [api_Ctl.at nb8 x9, arq_Arq.at b0 a0, R] w0 w ∧ ∃ kf12, kf12 ≤ k ∧ arq_Arq_Input.j0 kf12 a0 a1 x7 x9 x10 x11 = some r) (fun st => match st with | (x7, nb8, x9, x10, x11) => [(0, Value.pointer (some ⟨b0, 0, none⟩)), (1, Value.slice (some ⟨eb4, eo5, none⟩) a1.length sc1), (4, Value.int .i64 x7), (5, Value.pointer (some ⟨nb8, 0, none⟩)), (6, Value.int .i64 x10), (7, Value.int .i64 x11)]) ?_ ?_
    · obtain ⟨c44, H⟩ := ite_n H
      obtain ⟨b8_45, b9_45, b10_45, a11_45, c11_45, d11_45, a12_45, c12_45, hi46, HS⟩ := arq_Arq.open HS
      refine V.draw (es := [6, 11, 12]) (bl := [7, 8, 9, 10, 13, 14]) (f := [(22, Value.slice (some ⟨eb4, eo5, none⟩) a1.length sc1), (23, Value.slice (vaddr (some ⟨eb4, eo5, none⟩) sc1 (2 : Int).toNat 1) (cut a1 (2 : Int) (a1.length : Int)).length (sc1 - (2 : Int).toNat)), (24, Value.pointer (some ⟨b0, 0, none⟩)), (25, Value.pointer (some ⟨b0, 0, none⟩)), (26, Value.pointer (some ⟨b0, 0 + 0, none⟩)), (27, Value.int .i64 a0.m)]) (fun w => Sep.St [blk b0 (#[Value.int .i64 a0.m, Value.int .i64 a0.t1, Value.int .i64 a0.n2, Value.int .i64 a0.size, Value.int .i64 a0.state, Value.int .i64 a0.tag, Value.int .i64 a0.tries, Value.bool a0.rejected, Value.pointer (some ⟨b8_45, 0, none⟩), Value.pointer (some ⟨b9_45, 0, none⟩), Value.pointer (some ⟨b10_45, 0, none⟩), Value.slice a11_45 a0.out.length c11_45, Value.slice a12_45 a0.inds.length c12_45, Value.int .i64 a0.sent, Value.int .i64 a0.acked, Value.int .i64 a0.lost]) 82, backlog_Log.at b8_45 a0.log, reorder_Order.at b9_45 a0.order, clock_Set.at b10_45 a0.timers, row 39 1 (.slice a11_45 a0.out.length c11_45) a0.out.length d11_45, tie (El.sl (El.int .u8)) d11_45 a0.out, row 3 1 (.slice a12_45 a0.inds.length c12_45) a0.inds.length (a0.inds.map (Value.int .i64)), R] w0 w) mo HS.drew rfl ?_
      refine T.two rfl rfl ⟨.m1 1 rfl (.l rfl rfl) (fun w HS => X.move rfl) rfl rfl rfl rfl rfl, .m1 22 rfl (.r rfl rfl) (fun w HS => X.slL Try.underlying39 inf5 rfl rfl c44) rfl rfl rfl rfl rfl, .m1 0 rfl (.l rfl rfl) (fun w HS => X.move rfl) rfl rfl rfl rfl rfl, .m1 24 rfl (.r rfl rfl) (fun w HS => X.nilCheck rfl) rfl rfl rfl rfl rfl, .m1 25 rfl (.r rfl rfl) (fun w HS => X.fieldAddr 0 fo82_0 rfl) rfl rfl rfl rfl rfl, .m1 26 rfl (.r rfl rfl) (fun w HS => X.loadAt 0 HS rfl Try.underlying3 rfl rfl rfl) rfl rfl rfl rfl rfl, trivial⟩ (T.step (es := [11, 12]) _ [(23, Value.slice (vaddr (some ⟨eb4, eo5, none⟩) sc1 (2 : Int).toNat 1) (cut a1 (2 : Int) (a1.length : Int)).length (sc1 - (2 : Int).toNat)), (27, Value.int .i64 a0.m)] rfl ⟨.inr ⟨rfl, rfl⟩, ⟨.inr ⟨rfl, rfl⟩, trivial⟩⟩ (Or.inl rfl) (by intro d hd; cases hd; exact ⟨by decide, rfl, rfl⟩) [13, 14] [0, 1, 2, 3, 4, 5] rfl rfl rfl rfl rfl (fun w HS => ?_)) (T.step (es := [6, 12]) _ [] rfl trivial (Or.inl rfl) (by intro d hd; cases hd; exact ⟨by decide, rfl, rfl⟩) [7, 8, 9, 10, 13, 14] [] rfl rfl rfl rfl rfl (fun w HS => ?_))
      · have HS : Sep.St [blk b0 (#[Value.int .i64 a0.m, Value.int .i64 a0.t1, Value.int .i64 a0.n2, Value.int .i64 a0.size, Value.int .i64 a0.state, Value.int .i64 a0.tag, Value.int .i64 a0.tries, Value.bool a0.rejected, Value.pointer (some ⟨b8_45, 0, none⟩), Value.pointer (some ⟨b9_45, 0, none⟩), Value.pointer (some ⟨b10_45, 0, none⟩), Value.slice a11_45 a0.out.length c11_45, Value.slice a12_45 a0.inds.length c12_45, Value.int .i64 a0.sent, Value.int .i64 a0.acked, Value.int .i64 a0.lost]) 82, backlog_Log.at b8_45 a0.log, reorder_Order.at b9_45 a0.order, clock_Set.at b10_45 a0.timers, row 39 1 (.slice a11_45 a0.out.length c11_45) a0.out.length d11_45, tie (El.sl (El.int .u8)) d11_45 a0.out, row 3 1 (.slice a12_45 a0.inds.length c12_45) a0.inds.length (a0.inds.map (Value.int .i64)), R] w0 w := HS
        obtain ⟨t47, A48, H⟩ := bind_s H
        refine ⟨_, Y.call Try.func52 (by kernel_rfl) rfl (vs := [Value.slice (vaddr (some ⟨eb4, eo5, none⟩) sc1 (2 : Int).toNat 1) (cut a1 (2 : Int) (a1.length : Int)).length (sc1 - (2 : Int).toNat), Value.int .i64 a0.m]) rfl (control_Read.calls k (cut a1 (2 : Int) (a1.length : Int)) a0.m _ w0 _ (vaddr (some ⟨eb4, eo5, none⟩) sc1 (2 : Int).toNat 1) (sc1 - (2 : Int).toNat) t47 (rdC.part 7 (rdC.subM hr1 c44) rfl) A48 (Sep.St.tailJoin (m := []) (r := [blk b0 (#[Value.int .i64 a0.m, Value.int .i64 a0.t1, Value.int .i64 a0.n2, Value.int .i64 a0.size, Value.int .i64 a0.state, Value.int .i64 a0.tag, Value.int .i64 a0.tries, Value.bool a0.rejected, Value.pointer (some ⟨b8_45, 0, none⟩), Value.pointer (some ⟨b9_45, 0, none⟩), Value.pointer (some ⟨b10_45, 0, none⟩), Value.slice a11_45 a0.out.length c11_45, Value.slice a12_45 a0.inds.length c12_45, Value.int .i64 a0.sent, Value.int .i64 a0.acked, Value.int .i64 a0.lost]) 82, backlog_Log.at b8_45 a0.log, reorder_Order.at b9_45 a0.order, clock_Set.at b10_45 a0.timers, row 39 1 (.slice a11_45 a0.out.length c11_45) a0.out.length d11_45, tie (El.sl (El.int .u8)) d11_45 a0.out, row 3 1 (.slice a12_45 a0.inds.length c12_45) a0.inds.length (a0.inds.map (Value.int .i64)), R]) HS)), ?_⟩
        rintro _ w ⟨rfl, HS⟩
        replace HS := Sep.St.tailOpen (m := []) (r := [blk b0 (#[Value.int .i64 a0.m, Value.int .i64 a0.t1, Value.int .i64 a0.n2, Value.int .i64 a0.size, Value.int .i64 a0.state, Value.int .i64 a0.tag, Value.int .i64 a0.tries, Value.bool a0.rejected, Value.pointer (some ⟨b8_45, 0, none⟩), Value.pointer (some ⟨b9_45, 0, none⟩), Value.pointer (some ⟨b10_45, 0, none⟩), Value.slice a11_45 a0.out.length c11_45, Value.slice a12_45 a0.inds.length c12_45, Value.int .i64 a0.sent, Value.int .i64 a0.acked, Value.int .i64 a0.lost]) 82, backlog_Log.at b8_45 a0.log, reorder_Order.at b9_45 a0.order, clock_Set.at b10_45 a0.timers, row 39 1 (.slice a11_45 a0.out.length c11_45) a0.out.length d11_45, tie (El.sl (El.int .u8)) d11_45 a0.out, row 3 1 (.slice a12_45 a0.inds.length c12_45) a0.inds.length (a0.inds.map (Value.int .i64)), R]) HS
        refine ⟨[(28, Value.tuple #[Value.agg #[Value.int .i64 t47.1.Kind, Value.int .i64 t47.1.Ns, Value.int .i64 t47.1.Nr, Value.bool t47.1.Poll], Value.int .i64 t47.2.1, Value.int .i64 t47.2.2]), (21, Value.tuple #[Value.agg #[Value.int .i64 t47.1.Kind, Value.int .i64 t47.1.Ns, Value.int .i64 t47.1.Nr, Value.bool t47.1.Poll], Value.int .i64 t47.2.1, Value.int .i64 t47.2.2]), (29, Value.agg #[Value.int .i64 t47.1.Kind, Value.int .i64 t47.1.Ns, Value.int .i64 t47.1.Nr, Value.bool t47.1.Poll]), (30, Value.int .i64 t47.2.1), (31, Value.int .i64 t47.2.2)], _, ⟨.inl ⟨rfl, rfl⟩, ⟨.inr ⟨by decide, rfl⟩, ⟨.inr ⟨by decide, rfl⟩, ⟨.inr ⟨by decide, rfl⟩, ⟨.inr ⟨by decide, rfl⟩, trivial⟩⟩⟩⟩⟩, ?_, HS⟩
        refine T.event _ [] rfl rfl ⟨.m1 28 rfl (.r rfl rfl) (fun w HS => X.move rfl) rfl rfl rfl rfl rfl, .m1 21 rfl (.r rfl rfl) (fun w HS => X.extract rfl rfl) rfl rfl rfl rfl rfl, .m1 21 rfl (.r rfl rfl) (fun w HS => X.extract rfl rfl) rfl rfl rfl rfl rfl, .m1 21 rfl (.r rfl rfl) (fun w HS => X.extract rfl rfl) rfl rfl rfl rfl rfl, trivial⟩ rfl trivial (Or.inl rfl) (by intro d hd; cases hd; exact ⟨by decide, rfl, rfl⟩) [13, 14] [] rfl rfl (fun w HS => ?_)
        refine ⟨_, Y.alloc (z := Value.agg (#[Value.int .i64 (0), Value.int .i64 (0), Value.int .i64 (0), Value.bool false])) HS ze42, ?_⟩
        rintro _ w ⟨nb49, rfl, HS⟩
        refine ⟨[(5, Value.pointer (some ⟨nb49, 0, none⟩))], _, ⟨.inl ⟨rfl, rfl⟩, trivial⟩, ?_, HS⟩
        refine T.event _ [(5, Value.pointer (some ⟨nb49, 0, none⟩)), (29, Value.agg #[Value.int .i64 t47.1.Kind, Value.int .i64 t47.1.Ns, Value.int .i64 t47.1.Nr, Value.bool t47.1.Poll])] rfl rfl ⟨.m1 28 rfl (.r rfl rfl) (fun w HS => X.move rfl) rfl rfl rfl rfl rfl, .m1 21 rfl (.r rfl rfl) (fun w HS => X.extract rfl rfl) rfl rfl rfl rfl rfl, .m1 21 rfl (.r rfl rfl) (fun w HS => X.extract rfl rfl) rfl rfl rfl rfl rfl, .m1 21 rfl (.r rfl rfl) (fun w HS => X.extract rfl rfl) rfl rfl rfl rfl rfl, trivial⟩ rfl ⟨.inr ⟨rfl, rfl⟩, ⟨.inr ⟨rfl, rfl⟩, trivial⟩⟩ (Or.inl rfl) (by intro d hd; cases hd) [] [7, 8] rfl rfl (fun w HS => ?_)
        refine ⟨_, Y.storeSt (c' := #[Value.int .i64 t47.1.Kind, Value.int .i64 t47.1.Ns, Value.int .i64 t47.1.Nr, Value.bool t47.1.Poll]) 0 [Value.int .i64 t47.1.Kind, Value.int .i64 t47.1.Ns, Value.int .i64 t47.1.Nr, Value.bool t47.1.Poll] HS rfl inf42 rfl rfl rfl rfl rfl rfl, ?_⟩
        rintro _ w HS
        refine ⟨[(6, Value.int .i64 t47.2.1), (7, Value.int .i64 t47.2.2)], _, ⟨.inr ⟨by decide, rfl⟩, ⟨.inr ⟨by decide, rfl⟩, trivial⟩⟩, ?_, HS⟩
        refine T.fin [(0, Value.pointer (some ⟨b0, 0, none⟩)), (1, Value.slice (some ⟨eb4, eo5, none⟩) a1.length sc1), (4, Value.int .i64 (ior .i64 (w64 ((w64 (a1.getD (0 : Int).toNat 0)) * 2 ^ (min (8 : Int).toNat IntKind.i64.bits))) (w64 (a1.getD (1 : Int).toNat 0)))), (5, Value.pointer (some ⟨nb49, 0, none⟩)), (6, Value.int .i64 t47.2.1), (7, Value.int .i64 t47.2.2)] rfl ⟨.m1 21 rfl (.r rfl rfl) (fun w HS => X.extract rfl rfl) rfl rfl rfl rfl rfl, .m1 21 rfl (.r rfl rfl) (fun w HS => X.extract rfl rfl) rfl rfl rfl rfl rfl, .m1 30 rfl (.r rfl rfl) (fun w HS => X.assign rfl) rfl rfl rfl rfl rfl, .m1 31 rfl (.r rfl rfl) (fun w HS => X.assign rfl) rfl rfl rfl rfl rfl, trivial⟩ ⟨.inl ⟨rfl, rfl⟩, ⟨.inl ⟨rfl, rfl⟩, ⟨.inl ⟨rfl, rfl⟩, ⟨.inr ⟨rfl, rfl⟩, ⟨.inr ⟨rfl, rfl⟩, ⟨.inr ⟨rfl, rfl⟩, trivial⟩⟩⟩⟩⟩⟩ (fun w HS => ?_)
        replace HS := api_Ctl.close t47.1 trivial HS
        replace HS := HS.re [1, 2, 3, 4, 5, 6, 7, 0, 8] (by kernel_rfl)
        replace HS := arq_Arq.close a0 trivial HS
        replace HS := HS.sel [1, 0, 2] [] (by kernel_rfl)
        exact At.meet (ior .i64 (w64 ((w64 (a1.getD (0 : Int).toNat 0)) * 2 ^ (min (8 : Int).toNat IntKind.i64.bits))) (w64 (a1.getD (1 : Int).toNat 0)), nb49, t47.1, t47.2.1, t47.2.2) ⟨rfl, rfl, rfl, rfl, rfl, rfl, trivial⟩ ⟨HS, k, by omega, H⟩
      · have HS : Sep.St [blk b0 (#[Value.int .i64 a0.m, Value.int .i64 a0.t1, Value.int .i64 a0.n2, Value.int .i64 a0.size, Value.int .i64 a0.state, Value.int .i64 a0.tag, Value.int .i64 a0.tries, Value.bool a0.rejected, Value.pointer (some ⟨b8_45, 0, none⟩), Value.pointer (some ⟨b9_45, 0, none⟩), Value.pointer (some ⟨b10_45, 0, none⟩), Value.slice a11_45 a0.out.length c11_45, Value.slice a12_45 a0.inds.length c12_45, Value.int .i64 a0.sent, Value.int .i64 a0.acked, Value.int .i64 a0.lost]) 82, backlog_Log.at b8_45 a0.log, reorder_Order.at b9_45 a0.order, clock_Set.at b10_45 a0.timers, row 39 1 (.slice a11_45 a0.out.length c11_45) a0.out.length d11_45, tie (El.sl (El.int .u8)) d11_45 a0.out, row 3 1 (.slice a12_45 a0.inds.length c12_45) a0.inds.length (a0.inds.map (Value.int .i64)), R] w0 w := HS
        refine ⟨_, Y.alloc (z := Value.agg (#[Value.int .i64 (0), Value.int .i64 (0), Value.int .i64 (0), Value.bool false])) HS ze42, ?_⟩
        rintro _ w ⟨nb50, rfl, HS⟩
        refine ⟨[(5, Value.pointer (some ⟨nb50, 0, none⟩))], _, ⟨.inl ⟨rfl, rfl⟩, trivial⟩, ?_, HS⟩
        refine T.event _ [(23, Value.slice (vaddr (some ⟨eb4, eo5, none⟩) sc1 (2 : Int).toNat 1) (cut a1 (2 : Int) (a1.length : Int)).length (sc1 - (2 : Int).toNat)), (27, Value.int .i64 a0.m)] rfl rfl ⟨.m1 1 rfl (.l rfl rfl) (fun w HS => X.move rfl) rfl rfl rfl rfl rfl, .m1 22 rfl (.r rfl rfl) (fun w HS => X.slL Try.underlying39 inf5 rfl rfl c44) rfl rfl rfl rfl rfl, .m1 0 rfl (.l rfl rfl) (fun w HS => X.move rfl) rfl rfl rfl rfl rfl, .m1 24 rfl (.r rfl rfl) (fun w HS => X.nilCheck rfl) rfl rfl rfl rfl rfl, .m1 25 rfl (.r rfl rfl) (fun w HS => X.fieldAddr 0 fo82_0 rfl) rfl rfl rfl rfl rfl, .m1 26 rfl (.r rfl rfl) (fun w HS => X.loadAt 1 HS rfl Try.underlying3 rfl rfl rfl) rfl rfl rfl rfl rfl, trivial⟩ rfl ⟨.inr ⟨rfl, rfl⟩, ⟨.inr ⟨rfl, rfl⟩, trivial⟩⟩ (Or.inl rfl) (by intro d hd; cases hd; exact ⟨by decide, rfl, rfl⟩) [13, 14] [0, 1, 2, 3, 4, 5] rfl rfl (fun w HS => ?_)
        obtain ⟨t51, A52, H⟩ := bind_s H
        refine ⟨_, Y.call Try.func52 (by kernel_rfl) rfl (vs := [Value.slice (vaddr (some ⟨eb4, eo5, none⟩) sc1 (2 : Int).toNat 1) (cut a1 (2 : Int) (a1.length : Int)).length (sc1 - (2 : Int).toNat), Value.int .i64 a0.m]) rfl (control_Read.calls k (cut a1 (2 : Int) (a1.length : Int)) a0.m _ w0 _ (vaddr (some ⟨eb4, eo5, none⟩) sc1 (2 : Int).toNat 1) (sc1 - (2 : Int).toNat) t51 (rdC.part 8 (rdC.subM hr1 c44) rfl) A52 (Sep.St.tailJoin (m := []) (r := [blk nb50 (#[Value.int .i64 (0), Value.int .i64 (0), Value.int .i64 (0), Value.bool false]) 42, blk b0 (#[Value.int .i64 a0.m, Value.int .i64 a0.t1, Value.int .i64 a0.n2, Value.int .i64 a0.size, Value.int .i64 a0.state, Value.int .i64 a0.tag, Value.int .i64 a0.tries, Value.bool a0.rejected, Value.pointer (some ⟨b8_45, 0, none⟩), Value.pointer (some ⟨b9_45, 0, none⟩), Value.pointer (some ⟨b10_45, 0, none⟩), Value.slice a11_45 a0.out.length c11_45, Value.slice a12_45 a0.inds.length c12_45, Value.int .i64 a0.sent, Value.int .i64 a0.acked, Value.int .i64 a0.lost]) 82, backlog_Log.at b8_45 a0.log, reorder_Order.at b9_45 a0.order, clock_Set.at b10_45 a0.timers, row 39 1 (.slice a11_45 a0.out.length c11_45) a0.out.length d11_45, tie (El.sl (El.int .u8)) d11_45 a0.out, row 3 1 (.slice a12_45 a0.inds.length c12_45) a0.inds.length (a0.inds.map (Value.int .i64)), R]) HS)), ?_⟩
        rintro _ w ⟨rfl, HS⟩
        replace HS := Sep.St.tailOpen (m := []) (r := [blk nb50 (#[Value.int .i64 (0), Value.int .i64 (0), Value.int .i64 (0), Value.bool false]) 42, blk b0 (#[Value.int .i64 a0.m, Value.int .i64 a0.t1, Value.int .i64 a0.n2, Value.int .i64 a0.size, Value.int .i64 a0.state, Value.int .i64 a0.tag, Value.int .i64 a0.tries, Value.bool a0.rejected, Value.pointer (some ⟨b8_45, 0, none⟩), Value.pointer (some ⟨b9_45, 0, none⟩), Value.pointer (some ⟨b10_45, 0, none⟩), Value.slice a11_45 a0.out.length c11_45, Value.slice a12_45 a0.inds.length c12_45, Value.int .i64 a0.sent, Value.int .i64 a0.acked, Value.int .i64 a0.lost]) 82, backlog_Log.at b8_45 a0.log, reorder_Order.at b9_45 a0.order, clock_Set.at b10_45 a0.timers, row 39 1 (.slice a11_45 a0.out.length c11_45) a0.out.length d11_45, tie (El.sl (El.int .u8)) d11_45 a0.out, row 3 1 (.slice a12_45 a0.inds.length c12_45) a0.inds.length (a0.inds.map (Value.int .i64)), R]) HS
        refine ⟨[(28, Value.tuple #[Value.agg #[Value.int .i64 t51.1.Kind, Value.int .i64 t51.1.Ns, Value.int .i64 t51.1.Nr, Value.bool t51.1.Poll], Value.int .i64 t51.2.1, Value.int .i64 t51.2.2]), (21, Value.tuple #[Value.agg #[Value.int .i64 t51.1.Kind, Value.int .i64 t51.1.Ns, Value.int .i64 t51.1.Nr, Value.bool t51.1.Poll], Value.int .i64 t51.2.1, Value.int .i64 t51.2.2]), (29, Value.agg #[Value.int .i64 t51.1.Kind, Value.int .i64 t51.1.Ns, Value.int .i64 t51.1.Nr, Value.bool t51.1.Poll]), (30, Value.int .i64 t51.2.1), (31, Value.int .i64 t51.2.2)], _, ⟨.inl ⟨rfl, rfl⟩, ⟨.inr ⟨by decide, rfl⟩, ⟨.inr ⟨by decide, rfl⟩, ⟨.inr ⟨by decide, rfl⟩, ⟨.inr ⟨by decide, rfl⟩, trivial⟩⟩⟩⟩⟩, ?_, HS⟩
        refine T.event _ [(5, Value.pointer (some ⟨nb50, 0, none⟩)), (29, Value.agg #[Value.int .i64 t51.1.Kind, Value.int .i64 t51.1.Ns, Value.int .i64 t51.1.Nr, Value.bool t51.1.Poll])] rfl rfl ⟨.m1 28 rfl (.r rfl rfl) (fun w HS => X.move rfl) rfl rfl rfl rfl rfl, .m1 21 rfl (.r rfl rfl) (fun w HS => X.extract rfl rfl) rfl rfl rfl rfl rfl, .m1 21 rfl (.r rfl rfl) (fun w HS => X.extract rfl rfl) rfl rfl rfl rfl rfl, .m1 21 rfl (.r rfl rfl) (fun w HS => X.extract rfl rfl) rfl rfl rfl rfl rfl, trivial⟩ rfl ⟨.inr ⟨rfl, rfl⟩, ⟨.inr ⟨rfl, rfl⟩, trivial⟩⟩ (Or.inl rfl) (by intro d hd; cases hd) [] [7, 8] rfl rfl (fun w HS => ?_)
        refine ⟨_, Y.storeSt (c' := #[Value.int .i64 t51.1.Kind, Value.int .i64 t51.1.Ns, Value.int .i64 t51.1.Nr, Value.bool t51.1.Poll]) 0 [Value.int .i64 t51.1.Kind, Value.int .i64 t51.1.Ns, Value.int .i64 t51.1.Nr, Value.bool t51.1.Poll] HS rfl inf42 rfl rfl rfl rfl rfl rfl, ?_⟩
        rintro _ w HS
        refine ⟨[(6, Value.int .i64 t51.2.1), (7, Value.int .i64 t51.2.2)], _, ⟨.inr ⟨by decide, rfl⟩, ⟨.inr ⟨by decide, rfl⟩, trivial⟩⟩, ?_, HS⟩
        refine T.fin [(0, Value.pointer (some ⟨b0, 0, none⟩)), (1, Value.slice (some ⟨eb4, eo5, none⟩) a1.length sc1), (4, Value.int .i64 (ior .i64 (w64 ((w64 (a1.getD (0 : Int).toNat 0)) * 2 ^ (min (8 : Int).toNat IntKind.i64.bits))) (w64 (a1.getD (1 : Int).toNat 0)))), (5, Value.pointer (some ⟨nb50, 0, none⟩)), (6, Value.int .i64 t51.2.1), (7, Value.int .i64 t51.2.2)] rfl ⟨.m1 21 rfl (.r rfl rfl) (fun w HS => X.extract rfl rfl) rfl rfl rfl rfl rfl, .m1 21 rfl (.r rfl rfl) (fun w HS => X.extract rfl rfl) rfl rfl rfl rfl rfl, .m1 30 rfl (.r rfl rfl) (fun w HS => X.assign rfl) rfl rfl rfl rfl rfl, .m1 31 rfl (.r rfl rfl) (fun w HS => X.assign rfl) rfl rfl rfl rfl rfl, trivial⟩ ⟨.inl ⟨rfl, rfl⟩, ⟨.inl ⟨rfl, rfl⟩, ⟨.inl ⟨rfl, rfl⟩, ⟨.inr ⟨rfl, rfl⟩, ⟨.inr ⟨rfl, rfl⟩, ⟨.inr ⟨rfl, rfl⟩, trivial⟩⟩⟩⟩⟩⟩ (fun w HS => ?_)
        replace HS := api_Ctl.close t51.1 trivial HS
        replace HS := HS.re [1, 2, 3, 4, 5, 6, 7, 0, 8] (by kernel_rfl)
        replace HS := arq_Arq.close a0 trivial HS
        replace HS := HS.sel [1, 0, 2] [] (by kernel_rfl)
        exact At.meet (ior .i64 (w64 ((w64 (a1.getD (0 : Int).toNat 0)) * 2 ^ (min (8 : Int).toNat IntKind.i64.bits))) (w64 (a1.getD (1 : Int).toNat 0)), nb50, t51.1, t51.2.1, t51.2.2) ⟨rfl, rfl, rfl, rfl, rfl, rfl, trivial⟩ ⟨HS, k, by omega, H⟩
    · rintro ⟨x7, nb8, x9, x10, x11⟩ w ⟨HS, kf12, hkkf12, H⟩
      unfold arq_Arq_Input.j0 at H
      refine V.seq ?_
      refine V.seq ?_
      refine V.region ?_
      refine W.rd (X.move rfl) rfl rfl rfl ?_
      refine W.rd (X.cmp (!(decide (x11 = 0))) rfl rfl rfl rfl) rfl rfl rfl ?_
      refine W.nil ?_
      refine At.next ?_
      by_cases c14 : x11 = 0
      · replace H := ite_t c14 H
        refine V.condF (sb (n_t (decide_eq_true c14))) ?_
        refine V.skip ?_
        refine At.next ?_
        refine V.seq ?_
        refine V.region ?_
        obtain ⟨hi16, HS⟩ := api_Ctl.open HS
        refine W.rd (X.fieldAddr 0 fo42_0 rfl) rfl rfl rfl ?_
        refine W.rd (X.loadAt 0 HS rfl Try.underlying3 rfl rfl rfl) rfl rfl rfl ?_
        refine W.nil ?_
        refine At.next ?_
        refine V.block ?_
        refine V.seq ?_
        refine V.region ?_
        refine W.rd (X.cmp (decide (x9.Kind = 3)) rfl rfl rfl rfl) rfl rfl rfl ?_
        refine W.rd (X.assign rfl) rfl rfl rfl ?_
        refine W.nil ?_
        refine At.next ?_
        by_cases c17 : x9.Kind = 3
        · replace H := ite_t c17 H
          refine V.condT (sb (decide_eq_true c17)) ?_
          refine V.region ?_
          refine W.rd (X.move rfl) rfl rfl rfl ?_
          refine W.rd (X.move rfl) rfl rfl rfl ?_
          refine W.rd (X.fieldAddr 3 fo42_3 rfl) rfl rfl rfl ?_
          refine W.rd (X.loadAt 0 HS rfl Try.underlying4 rfl rfl rfl) rfl rfl rfl ?_
          obtain ⟨t18, A19, H⟩ := bind_s H
          replace HS := HS.re [1, 0, 2] (by kernel_rfl)
          refine W.ev (Y.call Try.func53 (by kernel_rfl) rfl (vs := [Value.pointer (some ⟨b0, 0, none⟩), Value.int .i64 x7, Value.bool x9.Poll]) rfl (arq_Arq_asked.calls kf12 a0 x7 x9.Poll _ w0 _ b0 t18  A19 (Sep.St.tailJoin (m := [arq_Arq.at b0 a0]) (r := [blk nb8 (#[Value.int .i64 x9.Kind, Value.int .i64 x9.Ns, Value.int .i64 x9.Nr, Value.bool x9.Poll]) 42, R]) HS))) rfl rfl rfl ?_
          rintro _ w ⟨rfl, HS⟩
          replace HS := Sep.St.tailOpen (m := [arq_Arq.at b0 t18]) (r := [blk nb8 (#[Value.int .i64 x9.Kind, Value.int .i64 x9.Ns, Value.int .i64 x9.Nr, Value.bool x9.Poll]) 42, R]) HS
          refine W.nil ?_
          refine At.blockEnd ?_
          replace HS := HS.sel [0, 2] [1] (by kernel_rfl)
          cases H
          exact At.end0 rfl ⟨_, rfl, rfl, HS⟩
        · replace H := ite_f c17 H
          refine V.condF (sb (decide_eq_false c17)) ?_
          refine V.seq ?_
          refine V.region ?_
          refine W.rd (X.cmp (decide (x9.Kind = 4)) rfl rfl rfl rfl) rfl rfl rfl ?_
          refine W.rd (X.assign rfl) rfl rfl rfl ?_
          refine W.nil ?_
          refine At.next ?_
          by_cases c20 : x9.Kind = 4
          · replace H := ite_t c20 H
            refine V.condT (sb (decide_eq_true c20)) ?_
            refine V.seq ?_
            refine V.region ?_
            refine W.rd (X.move rfl) rfl rfl rfl ?_
            refine W.rd (X.move rfl) rfl rfl rfl ?_
            refine W.rd (X.nilCheck rfl) rfl rfl rfl ?_
            replace HS := HS.front 1 rfl
            obtain ⟨b8_21, b9_21, b10_21, a11_21, c11_21, d11_21, a12_21, c12_21, hi22, HS⟩ := arq_Arq.open HS
            refine W.rd (X.fieldAddr 5 fo82_5 rfl) rfl rfl rfl ?_
            refine W.rd (X.loadAt 0 HS rfl Try.underlying3 rfl rfl rfl) rfl rfl rfl ?_
            refine W.rd (X.cmp (decide (x7 = a0.tag)) rfl rfl rfl rfl) rfl rfl rfl ?_
            refine W.nil ?_
            refine At.next ?_
            by_cases c23 : x7 = a0.tag
            · replace H := ite_t c23 H
              refine V.condT (sb (decide_eq_true c23)) ?_
              refine V.region ?_
              refine W.rd (X.move rfl) rfl rfl rfl ?_
              replace HS := arq_Arq.close a0 trivial HS
              obtain ⟨t24, A25, H⟩ := bind_s H
              refine W.ev (Y.call Try.func54 (by kernel_rfl) rfl (vs := [Value.pointer (some ⟨b0, 0, none⟩)]) rfl (arq_Arq_accepted.calls kf12 a0 _ w0 _ b0 t24  A25 (Sep.St.tailJoin (m := [arq_Arq.at b0 a0]) (r := [blk nb8 (#[Value.int .i64 x9.Kind, Value.int .i64 x9.Ns, Value.int .i64 x9.Nr, Value.bool x9.Poll]) 42, R]) HS))) rfl rfl rfl ?_
              rintro _ w ⟨rfl, HS⟩
              replace HS := Sep.St.tailOpen (m := [arq_Arq.at b0 t24]) (r := [blk nb8 (#[Value.int .i64 x9.Kind, Value.int .i64 x9.Ns, Value.int .i64 x9.Nr, Value.bool x9.Poll]) 42, R]) HS
              refine W.nil ?_
              refine At.blockEnd ?_
              replace HS := HS.sel [0, 2] [1] (by kernel_rfl)
              cases H
              exact At.end0 rfl ⟨_, rfl, rfl, HS⟩
            · replace H := ite_f c23 H
              refine V.condF (sb (decide_eq_false c23)) ?_
              refine V.skip ?_
              refine At.blockEnd ?_
              replace HS := arq_Arq.close a0 trivial HS
              replace HS := HS.sel [0, 2] [1] (by kernel_rfl)
              cases H
              exact At.end0 rfl ⟨_, rfl, rfl, HS⟩
          · replace H := ite_f c20 H
            refine V.condF (sb (decide_eq_false c20)) ?_
            refine V.seq ?_
            refine V.region ?_
            refine W.rd (X.cmp (decide (x9.Kind = 5)) rfl rfl rfl rfl) rfl rfl rfl ?_
            refine W.rd (X.assign rfl) rfl rfl rfl ?_
            refine W.nil ?_
            refine At.next ?_
            by_cases c26 : x9.Kind = 5
            · replace H := ite_t c26 H
              refine V.condT (sb (decide_eq_true c26)) ?_
              refine V.region ?_
              refine W.rd (X.move rfl) rfl rfl rfl ?_
              refine W.rd (X.move rfl) rfl rfl rfl ?_
              refine W.rd (X.fieldAddr 3 fo42_3 rfl) rfl rfl rfl ?_
              refine W.rd (X.loadAt 0 HS rfl Try.underlying4 rfl rfl rfl) rfl rfl rfl ?_
              obtain ⟨t27, A28, H⟩ := bind_s H
              replace HS := HS.re [1, 0, 2] (by kernel_rfl)
              refine W.ev (Y.call Try.func55 (by kernel_rfl) rfl (vs := [Value.pointer (some ⟨b0, 0, none⟩), Value.int .i64 x7, Value.bool x9.Poll]) rfl (arq_Arq_closed.calls kf12 a0 x7 x9.Poll _ w0 _ b0 t27  A28 (Sep.St.tailJoin (m := [arq_Arq.at b0 a0]) (r := [blk nb8 (#[Value.int .i64 x9.Kind, Value.int .i64 x9.Ns, Value.int .i64 x9.Nr, Value.bool x9.Poll]) 42, R]) HS))) rfl rfl rfl ?_
              rintro _ w ⟨rfl, HS⟩
              replace HS := Sep.St.tailOpen (m := [arq_Arq.at b0 t27]) (r := [blk nb8 (#[Value.int .i64 x9.Kind, Value.int .i64 x9.Ns, Value.int .i64 x9.Nr, Value.bool x9.Poll]) 42, R]) HS
              refine W.nil ?_
              refine At.blockEnd ?_
              replace HS := HS.sel [0, 2] [1] (by kernel_rfl)
              cases H
              exact At.end0 rfl ⟨_, rfl, rfl, HS⟩
            · replace H := ite_f c26 H
              refine V.condF (sb (decide_eq_false c26)) ?_
              refine V.seq ?_
              refine V.region ?_
              refine W.rd (X.cmp (decide (x9.Kind = 6)) rfl rfl rfl rfl) rfl rfl rfl ?_
              refine W.rd (X.assign rfl) rfl rfl rfl ?_
              refine W.nil ?_
              refine At.next ?_
              by_cases c29 : x9.Kind = 6
              · replace H := ite_t c29 H
                refine V.condT (sb (decide_eq_true c29)) ?_
                refine V.region ?_
                refine W.rd (X.move rfl) rfl rfl rfl ?_
                refine W.rd (X.move rfl) rfl rfl rfl ?_
                obtain ⟨t30, A31, H⟩ := bind_s H
                replace HS := HS.re [1, 0, 2] (by kernel_rfl)
                refine W.ev (Y.call Try.func56 (by kernel_rfl) rfl (vs := [Value.pointer (some ⟨b0, 0, none⟩), Value.int .i64 x7]) rfl (arq_Arq_refused.calls a0 x7 _ w0 _ b0 t30  A31 (Sep.St.tailJoin (m := [arq_Arq.at b0 a0]) (r := [blk nb8 (#[Value.int .i64 x9.Kind, Value.int .i64 x9.Ns, Value.int .i64 x9.Nr, Value.bool x9.Poll]) 42, R]) HS))) rfl rfl rfl ?_
                rintro _ w ⟨rfl, HS⟩
                replace HS := Sep.St.tailOpen (m := [arq_Arq.at b0 t30]) (r := [blk nb8 (#[Value.int .i64 x9.Kind, Value.int .i64 x9.Ns, Value.int .i64 x9.Nr, Value.bool x9.Poll]) 42, R]) HS
                refine W.nil ?_
                refine At.blockEnd ?_
                replace HS := HS.sel [0, 2] [1] (by kernel_rfl)
                cases H
                exact At.end0 rfl ⟨_, rfl, rfl, HS⟩
              · replace H := ite_f c29 H
                refine V.condF (sb (decide_eq_false c29)) ?_
                refine V.seq ?_
                refine V.region ?_
                refine W.rd (X.cmp (decide (x9.Kind = 7)) rfl rfl rfl rfl) rfl rfl rfl ?_
                refine W.rd (X.assign rfl) rfl rfl rfl ?_
                refine W.nil ?_
                refine At.next ?_
                by_cases c32 : x9.Kind = 7
                · replace H := ite_t c32 H
                  refine V.condT (sb (decide_eq_true c32)) ?_
                  refine V.meet (σ := Bool) (fun st w => match st with | x33 => Sep.St [api_Ctl.at nb8 x9, arq_Arq.at b0 a0, R] w0 w ∧ arq_Arq_Input.j1 a0 x33 = some r) (fun st => match st with | x33 => [(0, Value.pointer (some ⟨b0, 0, none⟩)), (87, Value.bool x33)]) ?_ ?_
                  · refine V.region ?_
                    refine W.rd (X.move rfl) rfl rfl rfl ?_
                    refine W.rd (X.move rfl) rfl rfl rfl ?_
                    refine W.rd (X.nilCheck rfl) rfl rfl rfl ?_
                    replace HS := HS.front 1 rfl
                    obtain ⟨b8_38, b9_38, b10_38, a11_38, c11_38, d11_38, a12_38, c12_38, hi39, HS⟩ := arq_Arq.open HS
                    refine W.rd (X.fieldAddr 5 fo82_5 rfl) rfl rfl rfl ?_
                    refine W.rd (X.loadAt 0 HS rfl Try.underlying3 rfl rfl rfl) rfl rfl rfl ?_
                    refine W.rd (X.cmp (decide (x7 = a0.tag)) rfl rfl rfl rfl) rfl rfl rfl ?_
                    refine W.rd (X.move rfl) rfl rfl rfl ?_
                    by_cases c40 : x7 = a0.tag
                    · replace H := ite_t c40 H
                      refine W.want 81 rfl (sb (decide_eq_true c40)) ?_
                      refine W.rd (X.move rfl) rfl rfl rfl ?_
                      refine W.want 81 rfl (sb (decide_eq_true c40)) ?_
                      refine W.rd (X.nilCheck rfl) rfl rfl rfl ?_
                      refine W.want 81 rfl (sb (decide_eq_true c40)) ?_
                      refine W.rd (X.fieldAddr 4 fo82_4 rfl) rfl rfl rfl ?_
                      refine W.want 81 rfl (sb (decide_eq_true c40)) ?_
                      refine W.rd (X.loadAt 0 HS rfl Try.underlying3 rfl rfl rfl) rfl rfl rfl ?_
                      refine W.want 81 rfl (sb (decide_eq_true c40)) ?_
                      refine W.rd (X.cmp (decide (a0.state = 2)) rfl rfl rfl rfl) rfl rfl rfl ?_
                      refine W.rd (X.pickT (sb (decide_eq_true c40)) rfl) rfl rfl rfl ?_
                      refine W.nil ?_
                      replace HS := HS.re [7, 0, 1, 2, 3, 4, 5, 6, 8] (by kernel_rfl)
                      replace HS := api_Ctl.close x9 trivial HS
                      replace HS := HS.re [1, 2, 3, 4, 5, 6, 7, 0, 8] (by kernel_rfl)
                      replace HS := arq_Arq.close a0 trivial HS
                      replace HS := HS.sel [1, 0, 2] [] (by kernel_rfl)
                      exact At.meet (decide (a0.state = 2)) ⟨rfl, rfl, trivial⟩ ⟨HS, H⟩
                    · replace H := ite_f c40 H
                      refine W.pass 81 rfl (sb (decide_eq_false c40)) rfl rfl ?_
                      refine W.pass 81 rfl (sb (decide_eq_false c40)) rfl rfl ?_
                      refine W.pass 81 rfl (sb (decide_eq_false c40)) rfl rfl ?_
                      refine W.pass 81 rfl (sb (decide_eq_false c40)) rfl rfl ?_
                      refine W.pass 81 rfl (sb (decide_eq_false c40)) rfl rfl ?_
                      refine W.rd (X.pickF (sb (decide_eq_false c40)) rfl) rfl rfl rfl ?_
                      refine W.nil ?_
                      replace HS := HS.re [7, 0, 1, 2, 3, 4, 5, 6, 8] (by kernel_rfl)
                      replace HS := api_Ctl.close x9 trivial HS
                      replace HS := HS.re [1, 2, 3, 4, 5, 6, 7, 0, 8] (by kernel_rfl)
                      replace HS := arq_Arq.close a0 trivial HS
                      replace HS := HS.sel [1, 0, 2] [] (by kernel_rfl)
                      exact At.meet false ⟨rfl, rfl, trivial⟩ ⟨HS, H⟩
                  · rintro x33 w ⟨HS, H⟩
                    unfold arq_Arq_Input.j1 at H
                    by_cases c35 : x33 = true
                    · replace H := ite_t c35 H
                      refine V.condT (sb c35) ?_
                      refine V.region ?_
                      refine W.rd (X.move rfl) rfl rfl rfl ?_
                      obtain ⟨t36, A37, H⟩ := bind_s H
                      replace HS := HS.re [1, 0, 2] (by kernel_rfl)
                      refine W.ev (Y.call Try.func57 (by kernel_rfl) rfl (vs := [Value.pointer (some ⟨b0, 0, none⟩)]) rfl (arq_Arq_end.calls a0 _ w0 _ b0 t36  A37 (Sep.St.tailJoin (m := [arq_Arq.at b0 a0]) (r := [api_Ctl.at nb8 x9, R]) HS))) rfl rfl rfl ?_
                      rintro _ w ⟨rfl, HS⟩
                      replace HS := Sep.St.tailOpen (m := [arq_Arq.at b0 t36]) (r := [api_Ctl.at nb8 x9, R]) HS
                      refine W.nil ?_
                      refine At.blockEnd ?_
                      replace HS := HS.sel [0, 2] [1] (by kernel_rfl)
                      cases H
                      exact At.end0 rfl ⟨_, rfl, rfl, HS⟩
                    · replace H := ite_f c35 H
                      refine V.condF (sb (b_f c35)) ?_
                      refine V.skip ?_
                      refine At.blockEnd ?_
                      replace HS := HS.sel [1, 2] [0] (by kernel_rfl)
                      cases H
                      exact At.end0 rfl ⟨_, rfl, rfl, HS⟩
                · replace H := ite_f c32 H
                  refine V.condF (sb (decide_eq_false c32)) ?_
                  obtain ⟨c41, H⟩ := ite_n H
                  refine V.draw (es := [7]) (bl := []) (f := [(36, Value.pointer (some ⟨b0, 0, none⟩)), (37, Value.int .i64 x7), (38, Value.agg #[Value.int .i64 x9.Kind, Value.int .i64 x9.Ns, Value.int .i64 x9.Nr, Value.bool x9.Poll]), (39, Value.slice (some ⟨eb4, eo5, none⟩) a1.length sc1), (40, Value.int .i64 x10), (41, Value.int .i64 (w64 (2 + x10))), (42, Value.slice (vaddr (some ⟨eb4, eo5, none⟩) sc1 (w64 (2 + x10)).toNat 1) (cut a1 (w64 (2 + x10)) (a1.length : Int)).length (sc1 - (w64 (2 + x10)).toNat))]) (fun w => Sep.St [blk nb8 (#[Value.int .i64 x9.Kind, Value.int .i64 x9.Ns, Value.int .i64 x9.Nr, Value.bool x9.Poll]) 42, arq_Arq.at b0 a0, R] w0 w) mo HS.drew rfl ?_
                  refine T.event _ [(36, Value.pointer (some ⟨b0, 0, none⟩)), (37, Value.int .i64 x7), (38, Value.agg #[Value.int .i64 x9.Kind, Value.int .i64 x9.Ns, Value.int .i64 x9.Nr, Value.bool x9.Poll]), (42, Value.slice (vaddr (some ⟨eb4, eo5, none⟩) sc1 (w64 (2 + x10)).toNat 1) (cut a1 (w64 (2 + x10)) (a1.length : Int)).length (sc1 - (w64 (2 + x10)).toNat))] rfl rfl ⟨.m1 0 rfl (.l rfl rfl) (fun w HS => X.move rfl) rfl rfl rfl rfl rfl, .m1 4 rfl (.l rfl rfl) (fun w HS => X.move rfl) rfl rfl rfl rfl rfl, .m1 5 rfl (.l rfl rfl) (fun w HS => X.loadSt 0 [Value.int .i64 x9.Kind, Value.int .i64 x9.Ns, Value.int .i64 x9.Nr, Value.bool x9.Poll] HS rfl Try.underlying42 rfl inf42 rfl rfl) rfl rfl rfl rfl rfl, .m1 1 rfl (.l rfl rfl) (fun w HS => X.move rfl) rfl rfl rfl rfl rfl, .m1 6 rfl (.l rfl rfl) (fun w HS => X.move rfl) rfl rfl rfl rfl rfl, .m1 40 rfl (.r rfl rfl) (fun w HS => X.add rfl rfl) rfl rfl rfl rfl rfl, .m2 39 41 rfl (.r rfl rfl) (.r rfl rfl) (fun w HS => X.slL Try.underlying39 inf5 rfl rfl c41) rfl rfl rfl rfl rfl, trivial⟩ rfl ⟨.inr ⟨rfl, rfl⟩, ⟨.inr ⟨rfl, rfl⟩, ⟨.inr ⟨rfl, rfl⟩, ⟨.inr ⟨rfl, rfl⟩, trivial⟩⟩⟩⟩ (Or.inl rfl) (by intro d hd; cases hd; exact ⟨by decide, rfl, rfl⟩) [] [0, 1, 2, 3, 4, 5, 6] rfl rfl (fun w HS => ?_)
                  obtain ⟨t42, A43, H⟩ := bind_s H
                  replace HS := HS.re [1, 0, 2] (by kernel_rfl)
                  refine ⟨_, Y.call Try.func58 (by kernel_rfl) rfl (vs := [Value.pointer (some ⟨b0, 0, none⟩), Value.int .i64 x7, Value.agg #[Value.int .i64 x9.Kind, Value.int .i64 x9.Ns, Value.int .i64 x9.Nr, Value.bool x9.Poll], Value.slice (vaddr (some ⟨eb4, eo5, none⟩) sc1 (w64 (2 + x10)).toNat 1) (cut a1 (w64 (2 + x10)) (a1.length : Int)).length (sc1 - (w64 (2 + x10)).toNat)]) rfl (arq_Arq_numbered.calls kf12 a0 x7 x9 (cut a1 (w64 (2 + x10)) (a1.length : Int)) _ w0 _ b0 (vaddr (some ⟨eb4, eo5, none⟩) sc1 (w64 (2 + x10)).toNat 1) (sc1 - (w64 (2 + x10)).toNat) t42 (rdC.part 1 (rdC.subM hr1 c41) rfl) A43 (Sep.St.tailJoin (m := [arq_Arq.at b0 a0]) (r := [blk nb8 (#[Value.int .i64 x9.Kind, Value.int .i64 x9.Ns, Value.int .i64 x9.Nr, Value.bool x9.Poll]) 42, R]) HS)), ?_⟩
                  rintro _ w ⟨rfl, HS⟩
                  replace HS := Sep.St.tailOpen (m := [arq_Arq.at b0 t42]) (r := [blk nb8 (#[Value.int .i64 x9.Kind, Value.int .i64 x9.Ns, Value.int .i64 x9.Nr, Value.bool x9.Poll]) 42, R]) HS
                  refine ⟨[(43, Value.tuple #[])], _, ⟨.inl ⟨rfl, rfl⟩, trivial⟩, ?_, HS⟩
                  refine T.fin [] rfl trivial trivial (fun w HS => ?_)
                  refine At.blockEnd ?_
                  replace HS := HS.sel [0, 2] [1] (by kernel_rfl)
                  cases H
                  exact At.end0 rfl ⟨_, rfl, rfl, HS⟩
      · replace H := ite_f c14 H
        refine V.condT (sb (n_f (decide_eq_false c14))) ?_
        refine V.ret ?_
        refine At.thenRet ?_
        replace HS := HS.sel [1, 2] [0] (by kernel_rfl)
        cases H
        exact At.ret0 rfl ⟨_, rfl, rfl, HS⟩

/-! ### (*signalman/signalmanlaw15.pair).carry: function 33 -/
mutual
def signalmanlaw15_pair_carry.j3 (k : Nat)  (x13 : signalmanlaw15_pair) : Option signalmanlaw15_pair := ((signalmanlaw15_pair_collect.f k x13).bind fun t15 => some t15)
def signalmanlaw15_pair_carry.j2 (k : Nat) (a1 : Int) (x2 : Bool) (x8 : List Int) (x11 : signalmanlaw15_pair) : Option signalmanlaw15_pair := (if x2 = true then (signalmanlaw15_pair_carry.j3 k x11) else (if 0 ≤ w64 (1 - a1) ∧ w64 (1 - a1) < 2 then (if w64 (1 - a1) = 0 then ((arq_Arq_Input.f k x11.a.1 x8).bind fun t22 => (signalmanlaw15_pair_carry.j3 k ({ a := (t22, x11.a.2), way := (x11.way.1, x11.way.2), heard := (x11.heard.1, x11.heard.2), said := (x11.said.1, x11.said.2), downs := x11.downs } : signalmanlaw15_pair))) else ((arq_Arq_Input.f k x11.a.2 x8).bind fun t25 => (signalmanlaw15_pair_carry.j3 k ({ a := (x11.a.1, t25), way := (x11.way.1, x11.way.2), heard := (x11.heard.1, x11.heard.2), said := (x11.said.1, x11.said.2), downs := x11.downs } : signalmanlaw15_pair)))) else none))
def signalmanlaw15_pair_carry.j1 (k : Nat) (a0 : signalmanlaw15_pair) (a1 : Int) (x2 : Bool) (x8 : List Int) : Option signalmanlaw15_pair := (if 0 ≤ a1 ∧ a1 < 2 then (if a1 = 0 then (if 0 ≤ (1 : Int) ∧ (1 : Int) ≤ (a0.way.1.length : Int) ∧ (a0.way.1.length : Int) ≤ (a0.way.1.length : Int) then (signalmanlaw15_pair_carry.j2 k a1 x2 x8 ({ a := (a0.a.1, a0.a.2), way := (cut a0.way.1 (1 : Int) (a0.way.1.length : Int), a0.way.2), heard := (a0.heard.1, a0.heard.2), said := (a0.said.1, a0.said.2), downs := a0.downs } : signalmanlaw15_pair)) else none) else (if 0 ≤ (1 : Int) ∧ (1 : Int) ≤ (a0.way.2.length : Int) ∧ (a0.way.2.length : Int) ≤ (a0.way.2.length : Int) then (signalmanlaw15_pair_carry.j2 k a1 x2 x8 ({ a := (a0.a.1, a0.a.2), way := (a0.way.1, cut a0.way.2 (1 : Int) (a0.way.2.length : Int)), heard := (a0.heard.1, a0.heard.2), said := (a0.said.1, a0.said.2), downs := a0.downs } : signalmanlaw15_pair)) else none)) else none)
def signalmanlaw15_pair_carry.j0 (k : Nat) (a0 : signalmanlaw15_pair) (a1 : Int) (x2 : Bool) (x3 : Bool) : Option signalmanlaw15_pair := (if x3 = true then (if 0 ≤ a1 ∧ a1 < 2 then (if a1 = 0 then (if 0 ≤ (0 : Int) ∧ (0 : Int) < (a0.way.1.length : Int) then (signalmanlaw15_pair_carry.j1 k a0 a1 x2 (a0.way.1.getD (0 : Int).toNat [])) else none) else (if 0 ≤ (0 : Int) ∧ (0 : Int) < (a0.way.2.length : Int) then (signalmanlaw15_pair_carry.j1 k a0 a1 x2 (a0.way.2.getD (0 : Int).toNat [])) else none)) else none) else some a0)
end
def signalmanlaw15_pair_carry.f (k : Nat) (a0 : signalmanlaw15_pair) (a1 : Int) (a2 : Bool) : Option signalmanlaw15_pair := (if 0 ≤ a1 ∧ a1 < 2 then (if a1 = 0 then (signalmanlaw15_pair_carry.j0 k a0 a1 a2 (decide ((a0.way.1.length : Int) > 0))) else (signalmanlaw15_pair_carry.j0 k a0 a1 a2 (decide ((a0.way.2.length : Int) > 0)))) else none)
set_option maxRecDepth 100000 in
set_option maxHeartbeats 4000000 in
theorem signalmanlaw15_pair_carry.calls (k : Nat) (a0 : signalmanlaw15_pair) (a1 : Int) (a2 : Bool) (R : As) (w0 w : World) (b0 : Nat) (r : signalmanlaw15_pair)  (H : signalmanlaw15_pair_carry.f k a0 a1 a2 = some r) (HS : Sep.St [signalmanlaw15_pair.at b0 a0, R] w0 w) : Calls Try.prog 33 #[Value.pointer (some ⟨b0, 0, none⟩), Value.int .i64 a1, Value.bool a2] w (Ret fun u w => u = Value.tuple #[] ∧ Sep.St [signalmanlaw15_pair.at b0 r, R] w0 w) := by
  unfold signalmanlaw15_pair_carry.f at H
  refine calls_enter Try.func33 rfl rfl ?_
  have H : _ = some r := H
  refine V.meet (σ := Bool × Bool) (fun st w => match st with | (x2, x3) => Sep.St [signalmanlaw15_pair.at b0 a0, R] w0 w ∧ ∃ kf4, kf4 ≤ k ∧ signalmanlaw15_pair_carry.j0 kf4 a0 a1 x2 x3 = some r) (fun st => match st with | (x2, x3) => [(0, Value.pointer (some ⟨b0, 0, none⟩)), (1, Value.int .i64 a1), (2, Value.bool x2), (14, Value.bool x3)]) ?_ ?_
  · refine V.region ?_
    refine W.rd (X.move rfl) rfl rfl rfl ?_
    refine W.rd (X.move rfl) rfl rfl rfl ?_
    refine W.rd (X.nilCheck rfl) rfl rfl rfl ?_
    obtain ⟨b0_57, b1_57, a2_57, c2_57, d2_57, a3_57, c3_57, d3_57, a4_57, c4_57, a5_57, c5_57, a6_57, c6_57, a7_57, c7_57, hi58, HS⟩ := signalmanlaw15_pair.open HS
    refine W.rd (X.fieldAddr 2 fo59_1 rfl) rfl rfl rfl ?_
    obtain ⟨c59, H⟩ := ite_n H
    by_cases c60 : a1 = 0
    · replace H := ite_t c60 H
      refine W.rd (X.indexArK 0 c60 Try.underlying55 inf30 rfl rfl c59.1 c59.2) rfl rfl rfl ?_
      refine W.rd (X.loadAt 0 HS rfl Try.underlying30 rfl rfl rfl) rfl rfl rfl ?_
      refine W.rd (X.lenSl Try.underlying30 rfl) rfl rfl rfl ?_
      refine W.rd (X.cmp (decide ((a0.way.1.length : Int) > 0)) rfl rfl rfl rfl) rfl rfl rfl ?_
      refine W.nil ?_
      replace HS := signalmanlaw15_pair.close a0 trivial HS
      exact At.meet (a2, decide ((a0.way.1.length : Int) > 0)) ⟨rfl, rfl, rfl, rfl, trivial⟩ ⟨HS, k, by omega, H⟩
    · replace H := ite_f c60 H
      have hk61 : a1 = 1 := by omega
      refine W.rd (X.indexArK 1 hk61 Try.underlying55 inf30 rfl rfl c59.1 c59.2) rfl rfl rfl ?_
      refine W.rd (X.loadAt 0 HS rfl Try.underlying30 rfl rfl rfl) rfl rfl rfl ?_
      refine W.rd (X.lenSl Try.underlying30 rfl) rfl rfl rfl ?_
      refine W.rd (X.cmp (decide ((a0.way.2.length : Int) > 0)) rfl rfl rfl rfl) rfl rfl rfl ?_
      refine W.nil ?_
      replace HS := signalmanlaw15_pair.close a0 trivial HS
      exact At.meet (a2, decide ((a0.way.2.length : Int) > 0)) ⟨rfl, rfl, rfl, rfl, trivial⟩ ⟨HS, k, by omega, H⟩
  · rintro ⟨x2, x3⟩ w ⟨HS, kf4, hkkf4, H⟩
    unfold signalmanlaw15_pair_carry.j0 at H
    by_cases c5 : x3 = true
    · replace H := ite_t c5 H
      refine V.condT (sb c5) ?_
      refine V.meet (σ := Option Addr × Nat × List Int) (fun st w => match st with | (ra6, rc7, x8) => Sep.St [fsl 1 (.slice ra6 x8.length rc7) x8.length (x8.map (Value.int .u8)), signalmanlaw15_pair.at b0 a0, R] w0 w ∧ ∃ kf9, kf9 ≤ kf4 ∧ signalmanlaw15_pair_carry.j1 kf9 a0 a1 x2 x8 = some r) (fun st => match st with | (ra6, rc7, x8) => [(0, Value.pointer (some ⟨b0, 0, none⟩)), (1, Value.int .i64 a1), (2, Value.bool x2), (6, Value.slice ra6 x8.length rc7)]) ?_ ?_
      · refine V.region ?_
        refine W.rd (X.move rfl) rfl rfl rfl ?_
        refine W.rd (X.move rfl) rfl rfl rfl ?_
        refine W.rd (X.nilCheck rfl) rfl rfl rfl ?_
        obtain ⟨b0_34, b1_34, a2_34, c2_34, d2_34, a3_34, c3_34, d3_34, a4_34, c4_34, a5_34, c5_34, a6_34, c6_34, a7_34, c7_34, hi35, HS⟩ := signalmanlaw15_pair.open HS
        refine W.rd (X.fieldAddr 2 fo59_1 rfl) rfl rfl rfl ?_
        obtain ⟨c36, H⟩ := ite_n H
        by_cases c37 : a1 = 0
        · replace H := ite_t c37 H
          refine W.rd (X.indexArK 0 c37 Try.underlying55 inf30 rfl rfl c36.1 c36.2) rfl rfl rfl ?_
          refine W.rd (X.loadAt 0 HS rfl Try.underlying30 rfl rfl rfl) rfl rfl rfl ?_
          obtain ⟨c38, H⟩ := ite_n H
          obtain ⟨eb39, eo40, hh⟩ := (rdC.at 3 row_rd HS rfl).some (by decide) c38.1 c38.2; subst hh
          refine W.rd (X.indexSl Try.underlying30 inf39 rfl rfl c38.1 c38.2) rfl rfl rfl ?_
          obtain ⟨ec41, hc42, HS⟩ := St.tie_at 4 HS rfl ([]) c38.1 c38.2
          obtain ⟨ea43, em44, he46, HN⟩ := St.sl_openF (Value.int .u8) (fun t => tie_int t) HS; clear HS; subst he46; have HS := HN
          refine W.rd (X.load Try.underlying39 rfl rfl ((rdC.at 4 row_rd HS rfl).cellEl0 (hc42 0 _ rfl))) rfl rfl rfl ?_
          refine W.rd (X.assign rfl) rfl rfl rfl ?_
          refine W.nil ?_
          replace HS := HS.re [1, 2, 3, 4, 5, 6, 7, 8, 9, 10, 11, 0, 12] (by kernel_rfl)
          replace HS := signalmanlaw15_pair.close a0 trivial HS
          replace HS := HS.sel [1, 0, 2] [] (by kernel_rfl)
          exact At.meet (ea43, em44, a0.way.1.getD (0 : Int).toNat []) ⟨rfl, rfl, rfl, rfl, trivial⟩ ⟨HS, kf4, by omega, H⟩
        · replace H := ite_f c37 H
          have hk47 : a1 = 1 := by omega
          refine W.rd (X.indexArK 1 hk47 Try.underlying55 inf30 rfl rfl c36.1 c36.2) rfl rfl rfl ?_
          refine W.rd (X.loadAt 0 HS rfl Try.underlying30 rfl rfl rfl) rfl rfl rfl ?_
          obtain ⟨c48, H⟩ := ite_n H
          obtain ⟨eb49, eo50, hh⟩ := (rdC.at 5 row_rd HS rfl).some (by decide) c48.1 c48.2; subst hh
          refine W.rd (X.indexSl Try.underlying30 inf39 rfl rfl c48.1 c48.2) rfl rfl rfl ?_
          obtain ⟨ec51, hc52, HS⟩ := St.tie_at 6 HS rfl ([]) c48.1 c48.2
          obtain ⟨ea53, em54, he56, HN⟩ := St.sl_openF (Value.int .u8) (fun t => tie_int t) HS; clear HS; subst he56; have HS := HN
          refine W.rd (X.load Try.underlying39 rfl rfl ((rdC.at 6 row_rd HS rfl).cellEl0 (hc52 0 _ rfl))) rfl rfl rfl ?_
          refine W.rd (X.assign rfl) rfl rfl rfl ?_
          refine W.nil ?_
          replace HS := HS.re [1, 2, 3, 4, 5, 6, 7, 8, 9, 10, 11, 0, 12] (by kernel_rfl)
          replace HS := signalmanlaw15_pair.close a0 trivial HS
          replace HS := HS.sel [1, 0, 2] [] (by kernel_rfl)
          exact At.meet (ea53, em54, a0.way.2.getD (0 : Int).toNat []) ⟨rfl, rfl, rfl, rfl, trivial⟩ ⟨HS, kf4, by omega, H⟩
      · rintro ⟨ra6, rc7, x8⟩ w ⟨HS, kf9, hkkf9, H⟩
        unfold signalmanlaw15_pair_carry.j1 at H
        refine V.meet (σ := signalmanlaw15_pair) (fun st w => match st with | x11 => Sep.St [fsl 1 (.slice ra6 x8.length rc7) x8.length (x8.map (Value.int .u8)), signalmanlaw15_pair.at b0 x11, R] w0 w ∧ ∃ kf12, kf12 ≤ kf9 ∧ signalmanlaw15_pair_carry.j2 kf12 a1 x2 x8 x11 = some r) (fun st => match st with | x11 => [(0, Value.pointer (some ⟨b0, 0, none⟩)), (1, Value.int .i64 a1), (2, Value.bool x2), (6, Value.slice ra6 x8.length rc7)]) ?_ ?_
        · replace HS := HS.front 1 rfl
          obtain ⟨b0_27, b1_27, a2_27, c2_27, d2_27, a3_27, c3_27, d3_27, a4_27, c4_27, a5_27, c5_27, a6_27, c6_27, a7_27, c7_27, hi28, HS⟩ := signalmanlaw15_pair.open HS
          obtain ⟨c29, H⟩ := ite_n H
          by_cases c30 : a1 = 0
          · replace H := ite_t c30 H
            obtain ⟨c31, H⟩ := ite_n H
            refine V.draw (es := [12]) (bl := []) (f := [(23, Value.pointer (some ⟨b0, 0, none⟩)), (24, Value.int .i64 a1), (25, Value.pointer (some ⟨b0, 0, none⟩)), (26, Value.int .i64 a1), (27, Value.pointer (some ⟨b0, 0, none⟩)), (28, Value.pointer (some ⟨b0, 0 + 2, none⟩)), (29, Value.pointer (some ⟨b0, 0 + 2 + 0 * 1, none⟩)), (30, Value.slice a2_27 a0.way.1.length c2_27), (31, Value.slice (vaddr a2_27 c2_27 (1 : Int).toNat 1) (cut a0.way.1 (1 : Int) (a0.way.1.length : Int)).length (c2_27 - (1 : Int).toNat)), (32, Value.pointer (some ⟨b0, 0, none⟩)), (33, Value.pointer (some ⟨b0, 0 + 2, none⟩)), (34, Value.pointer (some ⟨b0, 0 + 2 + 0 * 1, none⟩))]) (fun w => Sep.St [blk b0 (#[Value.pointer (some ⟨b0_27, 0, none⟩), Value.pointer (some ⟨b1_27, 0, none⟩), Value.slice a2_27 a0.way.1.length c2_27, Value.slice a3_27 a0.way.2.length c3_27, Value.slice a4_27 a0.heard.1.length c4_27, Value.slice a5_27 a0.heard.2.length c5_27, Value.slice a6_27 a0.said.1.length c6_27, Value.slice a7_27 a0.said.2.length c7_27, Value.int .i64 a0.downs]) 59, arq_Arq.at b0_27 a0.a.1, arq_Arq.at b1_27 a0.a.2, row 39 1 (.slice a2_27 a0.way.1.length c2_27) a0.way.1.length d2_27, tie (El.sl (El.int .u8)) d2_27 a0.way.1, row 39 1 (.slice a3_27 a0.way.2.length c3_27) a0.way.2.length d3_27, tie (El.sl (El.int .u8)) d3_27 a0.way.2, row 9 1 (.slice a4_27 a0.heard.1.length c4_27) a0.heard.1.length (a0.heard.1.map (fun x => Value.string (strOf x))), row 9 1 (.slice a5_27 a0.heard.2.length c5_27) a0.heard.2.length (a0.heard.2.map (fun x => Value.string (strOf x))), row 9 1 (.slice a6_27 a0.said.1.length c6_27) a0.said.1.length (a0.said.1.map (fun x => Value.string (strOf x))), row 9 1 (.slice a7_27 a0.said.2.length c7_27) a0.said.2.length (a0.said.2.map (fun x => Value.string (strOf x))), fsl 1 (.slice ra6 x8.length rc7) x8.length (x8.map (Value.int .u8)), R] w0 w) mo HS.drew rfl ?_
            refine T.event _ [(31, Value.slice (vaddr a2_27 c2_27 (1 : Int).toNat 1) (cut a0.way.1 (1 : Int) (a0.way.1.length : Int)).length (c2_27 - (1 : Int).toNat)), (34, Value.pointer (some ⟨b0, 0 + 2 + 0 * 1, none⟩))] rfl rfl ⟨.m1 0 rfl (.l rfl rfl) (fun w HS => X.move rfl) rfl rfl rfl rfl rfl, .m1 1 rfl (.l rfl rfl) (fun w HS => X.move rfl) rfl rfl rfl rfl rfl, .m1 0 rfl (.l rfl rfl) (fun w HS => X.move rfl) rfl rfl rfl rfl rfl, .m1 1 rfl (.l rfl rfl) (fun w HS => X.move rfl) rfl rfl rfl rfl rfl, .m1 25 rfl (.r rfl rfl) (fun w HS => X.nilCheck rfl) rfl rfl rfl rfl rfl, .m1 27 rfl (.r rfl rfl) (fun w HS => X.fieldAddr 2 fo59_1 rfl) rfl rfl rfl rfl rfl, .m2 26 28 rfl (.r rfl rfl) (.r rfl rfl) (fun w HS => X.indexArK 0 c30 Try.underlying55 inf30 rfl rfl c29.1 c29.2) rfl rfl rfl rfl rfl, .m1 29 rfl (.r rfl rfl) (fun w HS => X.loadAt 0 HS rfl Try.underlying30 rfl rfl rfl) rfl rfl rfl rfl rfl, .m1 30 rfl (.r rfl rfl) (fun w HS => X.slL Try.underlying30 inf39 rfl rfl c31) rfl rfl rfl rfl rfl, .m1 23 rfl (.r rfl rfl) (fun w HS => X.nilCheck rfl) rfl rfl rfl rfl rfl, .m1 32 rfl (.r rfl rfl) (fun w HS => X.fieldAddr 2 fo59_1 rfl) rfl rfl rfl rfl rfl, .m2 24 33 rfl (.r rfl rfl) (.r rfl rfl) (fun w HS => X.indexArK 0 c30 Try.underlying55 inf30 rfl rfl c29.1 c29.2) rfl rfl rfl rfl rfl, trivial⟩ rfl ⟨.inr ⟨rfl, rfl⟩, ⟨.inr ⟨rfl, rfl⟩, trivial⟩⟩ (Or.inl rfl) (by intro d hd; cases hd) [] [0, 1, 2, 3, 4, 5, 6, 7, 8, 9, 10, 11] rfl rfl (fun w HS => ?_)
            refine ⟨_, Y.storeAt 0 HS rfl inf30 rfl rfl rfl rfl rfl rfl, ?_⟩
            rintro _ w HS
            refine ⟨[], _, trivial, ?_, HS⟩
            refine T.fin [(0, Value.pointer (some ⟨b0, 0, none⟩)), (1, Value.int .i64 a1), (2, Value.bool x2), (6, Value.slice ra6 x8.length rc7)] rfl trivial ⟨.inl ⟨rfl, rfl⟩, ⟨.inl ⟨rfl, rfl⟩, ⟨.inl ⟨rfl, rfl⟩, ⟨.inl ⟨rfl, rfl⟩, trivial⟩⟩⟩⟩ (fun w HS => ?_)
            replace HS := HS.front 3 rfl
            replace HS := St.row_sub HS c31
            replace HS := HS.front 4 rfl
            replace HS := St.tie_cut (1 : Int) (a0.way.1.length : Int) HS
            replace HS := HS.re [2, 3, 4, 1, 0, 5, 6, 7, 8, 9, 10, 11, 12] (by kernel_rfl)
            replace HS := signalmanlaw15_pair.close (({ a := (a0.a.1, a0.a.2), way := (cut a0.way.1 (1 : Int) (a0.way.1.length : Int), a0.way.2), heard := (a0.heard.1, a0.heard.2), said := (a0.said.1, a0.said.2), downs := a0.downs } : signalmanlaw15_pair)) trivial HS
            replace HS := HS.sel [1, 0, 2] [] (by kernel_rfl)
            exact At.meet (({ a := (a0.a.1, a0.a.2), way := (cut a0.way.1 (1 : Int) (a0.way.1.length : Int), a0.way.2), heard := (a0.heard.1, a0.heard.2), said := (a0.said.1, a0.said.2), downs := a0.downs } : signalmanlaw15_pair)) ⟨rfl, rfl, rfl, rfl, trivial⟩ ⟨HS, kf9, by omega, H⟩
          · replace H := ite_f c30 H
            have hk32 : a1 = 1 := by omega
            obtain ⟨c33, H⟩ := ite_n H
            refine V.draw (es := [12]) (bl := []) (f := [(23, Value.pointer (some ⟨b0, 0, none⟩)), (24, Value.int .i64 a1), (25, Value.pointer (some ⟨b0, 0, none⟩)), (26, Value.int .i64 a1), (27, Value.pointer (some ⟨b0, 0, none⟩)), (28, Value.pointer (some ⟨b0, 0 + 2, none⟩)), (29, Value.pointer (some ⟨b0, 0 + 2 + 1 * 1, none⟩)), (30, Value.slice a3_27 a0.way.2.length c3_27), (31, Value.slice (vaddr a3_27 c3_27 (1 : Int).toNat 1) (cut a0.way.2 (1 : Int) (a0.way.2.length : Int)).length (c3_27 - (1 : Int).toNat)), (32, Value.pointer (some ⟨b0, 0, none⟩)), (33, Value.pointer (some ⟨b0, 0 + 2, none⟩)), (34, Value.pointer (some ⟨b0, 0 + 2 + 1 * 1, none⟩))]) (fun w => Sep.St [blk b0 (#[Value.pointer (some ⟨b0_27, 0, none⟩), Value.pointer (some ⟨b1_27, 0, none⟩), Value.slice a2_27 a0.way.1.length c2_27, Value.slice a3_27 a0.way.2.length c3_27, Value.slice a4_27 a0.heard.1.length c4_27, Value.slice a5_27 a0.heard.2.length c5_27, Value.slice a6_27 a0.said.1.length c6_27, Value.slice a7_27 a0.said.2.length c7_27, Value.int .i64 a0.downs]) 59, arq_Arq.at b0_27 a0.a.1, arq_Arq.at b1_27 a0.a.2, row 39 1 (.slice a2_27 a0.way.1.length c2_27) a0.way.1.length d2_27, tie (El.sl (El.int .u8)) d2_27 a0.way.1, row 39 1 (.slice a3_27 a0.way.2.length c3_27) a0.way.2.length d3_27, tie (El.sl (El.int .u8)) d3_27 a0.way.2, row 9 1 (.slice a4_27 a0.heard.1.length c4_27) a0.heard.1.length (a0.heard.1.map (fun x => Value.string (strOf x))), row 9 1 (.slice a5_27 a0.heard.2.length c5_27) a0.heard.2.length (a0.heard.2.map (fun x => Value.string (strOf x))), row 9 1 (.slice a6_27 a0.said.1.length c6_27) a0.said.1.length (a0.said.1.map (fun x => Value.string (strOf x))), row 9 1 (.slice a7_27 a0.said.2.length c7_27) a0.said.2.length (a0.said.2.map (fun x => Value.string (strOf x))), fsl 1 (.slice ra6 x8.length rc7) x8.length (x8.map (Value.int .u8)), R] w0 w) mo HS.drew rfl ?_
            refine T.event _ [(31, Value.slice (vaddr a3_27 c3_27 (1 : Int).toNat 1) (cut a0.way.2 (1 : Int) (a0.way.2.length : Int)).length (c3_27 - (1 : Int).toNat)), (34, Value.pointer (some ⟨b0, 0 + 2 + 1 * 1, none⟩))] rfl rfl ⟨.m1 0 rfl (.l rfl rfl) (fun w HS => X.move rfl) rfl rfl rfl rfl rfl, .m1 1 rfl (.l rfl rfl) (fun w HS => X.move rfl) rfl rfl rfl rfl rfl, .m1 0 rfl (.l rfl rfl) (fun w HS => X.move rfl) rfl rfl rfl rfl rfl, .m1 1 rfl (.l rfl rfl) (fun w HS => X.move rfl) rfl rfl rfl rfl rfl, .m1 25 rfl (.r rfl rfl) (fun w HS => X.nilCheck rfl) rfl rfl rfl rfl rfl, .m1 27 rfl (.r rfl rfl) (fun w HS => X.fieldAddr 2 fo59_1 rfl) rfl rfl rfl rfl rfl, .m2 26 28 rfl (.r rfl rfl) (.r rfl rfl) (fun w HS => X.indexArK 1 hk32 Try.underlying55 inf30 rfl rfl c29.1 c29.2) rfl rfl rfl rfl rfl, .m1 29 rfl (.r rfl rfl) (fun w HS => X.loadAt 0 HS rfl Try.underlying30 rfl rfl rfl) rfl rfl rfl rfl rfl, .m1 30 rfl (.r rfl rfl) (fun w HS => X.slL Try.underlying30 inf39 rfl rfl c33) rfl rfl rfl rfl rfl, .m1 23 rfl (.r rfl rfl) (fun w HS => X.nilCheck rfl) rfl rfl rfl rfl rfl, .m1 32 rfl (.r rfl rfl) (fun w HS => X.fieldAddr 2 fo59_1 rfl) rfl rfl rfl rfl rfl, .m2 24 33 rfl (.r rfl rfl) (.r rfl rfl) (fun w HS => X.indexArK 1 hk32 Try.underlying55 inf30 rfl rfl c29.1 c29.2) rfl rfl rfl rfl rfl, trivial⟩ rfl ⟨.inr ⟨rfl, rfl⟩, ⟨.inr ⟨rfl, rfl⟩, trivial⟩⟩ (Or.inl rfl) (by intro d hd; cases hd) [] [0, 1, 2, 3, 4, 5, 6, 7, 8, 9, 10, 11] rfl rfl (fun w HS => ?_)
            refine ⟨_, Y.storeAt 0 HS rfl inf30 rfl rfl rfl rfl rfl rfl, ?_⟩
            rintro _ w HS
            refine ⟨[], _, trivial, ?_, HS⟩
            refine T.fin [(0, Value.pointer (some ⟨b0, 0, none⟩)), (1, Value.int .i64 a1), (2, Value.bool x2), (6, Value.slice ra6 x8.length rc7)] rfl trivial ⟨.inl ⟨rfl, rfl⟩, ⟨.inl ⟨rfl, rfl⟩, ⟨.inl ⟨rfl, rfl⟩, ⟨.inl ⟨rfl, rfl⟩, trivial⟩⟩⟩⟩ (fun w HS => ?_)
            replace HS := HS.front 5 rfl
            replace HS := St.row_sub HS c33
            replace HS := HS.front 6 rfl
            replace HS := St.tie_cut (1 : Int) (a0.way.2.length : Int) HS
            replace HS := HS.re [2, 3, 4, 5, 6, 1, 0, 7, 8, 9, 10, 11, 12] (by kernel_rfl)
            replace HS := signalmanlaw15_pair.close (({ a := (a0.a.1, a0.a.2), way := (a0.way.1, cut a0.way.2 (1 : Int) (a0.way.2.length : Int)), heard := (a0.heard.1, a0.heard.2), said := (a0.said.1, a0.said.2), downs := a0.downs } : signalmanlaw15_pair)) trivial HS
            replace HS := HS.sel [1, 0, 2] [] (by kernel_rfl)
            exact At.meet (({ a := (a0.a.1, a0.a.2), way := (a0.way.1, cut a0.way.2 (1 : Int) (a0.way.2.length : Int)), heard := (a0.heard.1, a0.heard.2), said := (a0.said.1, a0.said.2), downs := a0.downs } : signalmanlaw15_pair)) ⟨rfl, rfl, rfl, rfl, trivial⟩ ⟨HS, kf9, by omega, H⟩
        · rintro x11 w ⟨HS, kf12, hkkf12, H⟩
          unfold signalmanlaw15_pair_carry.j2 at H
          refine V.meet (σ := signalmanlaw15_pair) (fun st w => match st with | x13 => Sep.St [fsl 1 (.slice ra6 x8.length rc7) x8.length (x8.map (Value.int .u8)), signalmanlaw15_pair.at b0 x13, R] w0 w ∧ ∃ kf14, kf14 ≤ kf12 ∧ signalmanlaw15_pair_carry.j3 kf14 x13 = some r) (fun st => match st with | x13 => [(0, Value.pointer (some ⟨b0, 0, none⟩))]) ?_ ?_
          · refine V.seq ?_
            refine V.region ?_
            refine W.rd (X.move rfl) rfl rfl rfl ?_
            refine W.rd (X.not rfl) rfl rfl rfl ?_
            refine W.nil ?_
            refine At.next ?_
            by_cases c17 : x2 = true
            · replace H := ite_t c17 H
              refine V.condF (sb (n_t c17)) ?_
              refine V.skip ?_
              exact At.meet x11 ⟨rfl, trivial⟩ ⟨HS, kf12, by omega, H⟩
            · replace H := ite_f c17 H
              refine V.condT (sb (n_f (b_f c17))) ?_
              refine V.region ?_
              refine W.rd (X.move rfl) rfl rfl rfl ?_
              refine W.rd (X.move rfl) rfl rfl rfl ?_
              refine W.rd (X.sub rfl rfl) rfl rfl rfl ?_
              refine W.rd (X.nilCheck rfl) rfl rfl rfl ?_
              replace HS := HS.front 1 rfl
              obtain ⟨b0_18, b1_18, a2_18, c2_18, d2_18, a3_18, c3_18, d3_18, a4_18, c4_18, a5_18, c5_18, a6_18, c6_18, a7_18, c7_18, hi19, HS⟩ := signalmanlaw15_pair.open HS
              refine W.rd (X.fieldAddr 0 fo59_0 rfl) rfl rfl rfl ?_
              obtain ⟨c20, H⟩ := ite_n H
              by_cases c21 : w64 (1 - a1) = 0
              · replace H := ite_t c21 H
                refine W.rd (X.indexArK 0 c21 Try.underlying54 inf26 rfl rfl c20.1 c20.2) rfl rfl rfl ?_
                refine W.rd (X.loadAt 0 HS rfl Try.underlying26 rfl rfl rfl) rfl rfl rfl ?_
                refine W.rd (X.move rfl) rfl rfl rfl ?_
                obtain ⟨t22, A23, H⟩ := bind_s H
                replace HS := HS.re [1, 0, 2, 3, 4, 5, 6, 7, 8, 9, 10, 11, 12] (by kernel_rfl)
                refine W.ev (Y.call Try.func24 (by kernel_rfl) rfl (vs := [Value.pointer (some ⟨b0_18, 0, none⟩), Value.slice ra6 x8.length rc7]) rfl (arq_Arq_Input.calls kf12 x11.a.1 x8 _ w0 _ b0_18 ra6 rc7 t22 (rdC.part 10 fsl.rd rfl) A23 (Sep.St.tailJoin (m := [arq_Arq.at b0_18 x11.a.1]) (r := [blk b0 (#[Value.pointer (some ⟨b0_18, 0, none⟩), Value.pointer (some ⟨b1_18, 0, none⟩), Value.slice a2_18 x11.way.1.length c2_18, Value.slice a3_18 x11.way.2.length c3_18, Value.slice a4_18 x11.heard.1.length c4_18, Value.slice a5_18 x11.heard.2.length c5_18, Value.slice a6_18 x11.said.1.length c6_18, Value.slice a7_18 x11.said.2.length c7_18, Value.int .i64 x11.downs]) 59, arq_Arq.at b1_18 x11.a.2, row 39 1 (.slice a2_18 x11.way.1.length c2_18) x11.way.1.length d2_18, tie (El.sl (El.int .u8)) d2_18 x11.way.1, row 39 1 (.slice a3_18 x11.way.2.length c3_18) x11.way.2.length d3_18, tie (El.sl (El.int .u8)) d3_18 x11.way.2, row 9 1 (.slice a4_18 x11.heard.1.length c4_18) x11.heard.1.length (x11.heard.1.map (fun x => Value.string (strOf x))), row 9 1 (.slice a5_18 x11.heard.2.length c5_18) x11.heard.2.length (x11.heard.2.map (fun x => Value.string (strOf x))), row 9 1 (.slice a6_18 x11.said.1.length c6_18) x11.said.1.length (x11.said.1.map (fun x => Value.string (strOf x))), row 9 1 (.slice a7_18 x11.said.2.length c7_18) x11.said.2.length (x11.said.2.map (fun x => Value.string (strOf x))), fsl 1 (.slice ra6 x8.length rc7) x8.length (x8.map (Value.int .u8)), R]) HS))) rfl rfl rfl ?_
                rintro _ w ⟨rfl, HS⟩
                replace HS := Sep.St.tailOpen (m := [arq_Arq.at b0_18 t22]) (r := [blk b0 (#[Value.pointer (some ⟨b0_18, 0, none⟩), Value.pointer (some ⟨b1_18, 0, none⟩), Value.slice a2_18 x11.way.1.length c2_18, Value.slice a3_18 x11.way.2.length c3_18, Value.slice a4_18 x11.heard.1.length c4_18, Value.slice a5_18 x11.heard.2.length c5_18, Value.slice a6_18 x11.said.1.length c6_18, Value.slice a7_18 x11.said.2.length c7_18, Value.int .i64 x11.downs]) 59, arq_Arq.at b1_18 x11.a.2, row 39 1 (.slice a2_18 x11.way.1.length c2_18) x11.way.1.length d2_18, tie (El.sl (El.int .u8)) d2_18 x11.way.1, row 39 1 (.slice a3_18 x11.way.2.length c3_18) x11.way.2.length d3_18, tie (El.sl (El.int .u8)) d3_18 x11.way.2, row 9 1 (.slice a4_18 x11.heard.1.length c4_18) x11.heard.1.length (x11.heard.1.map (fun x => Value.string (strOf x))), row 9 1 (.slice a5_18 x11.heard.2.length c5_18) x11.heard.2.length (x11.heard.2.map (fun x => Value.string (strOf x))), row 9 1 (.slice a6_18 x11.said.1.length c6_18) x11.said.1.length (x11.said.1.map (fun x => Value.string (strOf x))), row 9 1 (.slice a7_18 x11.said.2.length c7_18) x11.said.2.length (x11.said.2.map (fun x => Value.string (strOf x))), fsl 1 (.slice ra6 x8.length rc7) x8.length (x8.map (Value.int .u8)), R]) HS
                refine W.nil ?_
                replace HS := HS.re [1, 0, 2, 3, 4, 5, 6, 7, 8, 9, 10, 11, 12] (by kernel_rfl)
                replace HS := signalmanlaw15_pair.close (({ a := (t22, x11.a.2), way := (x11.way.1, x11.way.2), heard := (x11.heard.1, x11.heard.2), said := (x11.said.1, x11.said.2), downs := x11.downs } : signalmanlaw15_pair)) trivial HS
                replace HS := HS.sel [1, 0, 2] [] (by kernel_rfl)
                exact At.meet (({ a := (t22, x11.a.2), way := (x11.way.1, x11.way.2), heard := (x11.heard.1, x11.heard.2), said := (x11.said.1, x11.said.2), downs := x11.downs } : signalmanlaw15_pair)) ⟨rfl, trivial⟩ ⟨HS, kf12, by omega, H⟩
              · replace H := ite_f c21 H
                have hk24 : w64 (1 - a1) = 1 := by omega
                refine W.rd (X.indexArK 1 hk24 Try.underlying54 inf26 rfl rfl c20.1 c20.2) rfl rfl rfl ?_
                refine W.rd (X.loadAt 0 HS rfl Try.underlying26 rfl rfl rfl) rfl rfl rfl ?_
                refine W.rd (X.move rfl) rfl rfl rfl ?_
                obtain ⟨t25, A26, H⟩ := bind_s H
                replace HS := HS.re [2, 0, 1, 3, 4, 5, 6, 7, 8, 9, 10, 11, 12] (by kernel_rfl)
                refine W.ev (Y.call Try.func24 (by kernel_rfl) rfl (vs := [Value.pointer (some ⟨b1_18, 0, none⟩), Value.slice ra6 x8.length rc7]) rfl (arq_Arq_Input.calls kf12 x11.a.2 x8 _ w0 _ b1_18 ra6 rc7 t25 (rdC.part 10 fsl.rd rfl) A26 (Sep.St.tailJoin (m := [arq_Arq.at b1_18 x11.a.2]) (r := [blk b0 (#[Value.pointer (some ⟨b0_18, 0, none⟩), Value.pointer (some ⟨b1_18, 0, none⟩), Value.slice a2_18 x11.way.1.length c2_18, Value.slice a3_18 x11.way.2.length c3_18, Value.slice a4_18 x11.heard.1.length c4_18, Value.slice a5_18 x11.heard.2.length c5_18, Value.slice a6_18 x11.said.1.length c6_18, Value.slice a7_18 x11.said.2.length c7_18, Value.int .i64 x11.downs]) 59, arq_Arq.at b0_18 x11.a.1, row 39 1 (.slice a2_18 x11.way.1.length c2_18) x11.way.1.length d2_18, tie (El.sl (El.int .u8)) d2_18 x11.way.1, row 39 1 (.slice a3_18 x11.way.2.length c3_18) x11.way.2.length d3_18, tie (El.sl (El.int .u8)) d3_18 x11.way.2, row 9 1 (.slice a4_18 x11.heard.1.length c4_18) x11.heard.1.length (x11.heard.1.map (fun x => Value.string (strOf x))), row 9 1 (.slice a5_18 x11.heard.2.length c5_18) x11.heard.2.length (x11.heard.2.map (fun x => Value.string (strOf x))), row 9 1 (.slice a6_18 x11.said.1.length c6_18) x11.said.1.length (x11.said.1.map (fun x => Value.string (strOf x))), row 9 1 (.slice a7_18 x11.said.2.length c7_18) x11.said.2.length (x11.said.2.map (fun x => Value.string (strOf x))), fsl 1 (.slice ra6 x8.length rc7) x8.length (x8.map (Value.int .u8)), R]) HS))) rfl rfl rfl ?_
                rintro _ w ⟨rfl, HS⟩
                replace HS := Sep.St.tailOpen (m := [arq_Arq.at b1_18 t25]) (r := [blk b0 (#[Value.pointer (some ⟨b0_18, 0, none⟩), Value.pointer (some ⟨b1_18, 0, none⟩), Value.slice a2_18 x11.way.1.length c2_18, Value.slice a3_18 x11.way.2.length c3_18, Value.slice a4_18 x11.heard.1.length c4_18, Value.slice a5_18 x11.heard.2.length c5_18, Value.slice a6_18 x11.said.1.length c6_18, Value.slice a7_18 x11.said.2.length c7_18, Value.int .i64 x11.downs]) 59, arq_Arq.at b0_18 x11.a.1, row 39 1 (.slice a2_18 x11.way.1.length c2_18) x11.way.1.length d2_18, tie (El.sl (El.int .u8)) d2_18 x11.way.1, row 39 1 (.slice a3_18 x11.way.2.length c3_18) x11.way.2.length d3_18, tie (El.sl (El.int .u8)) d3_18 x11.way.2, row 9 1 (.slice a4_18 x11.heard.1.length c4_18) x11.heard.1.length (x11.heard.1.map (fun x => Value.string (strOf x))), row 9 1 (.slice a5_18 x11.heard.2.length c5_18) x11.heard.2.length (x11.heard.2.map (fun x => Value.string (strOf x))), row 9 1 (.slice a6_18 x11.said.1.length c6_18) x11.said.1.length (x11.said.1.map (fun x => Value.string (strOf x))), row 9 1 (.slice a7_18 x11.said.2.length c7_18) x11.said.2.length (x11.said.2.map (fun x => Value.string (strOf x))), fsl 1 (.slice ra6 x8.length rc7) x8.length (x8.map (Value.int .u8)), R]) HS
                refine W.nil ?_
                replace HS := HS.re [1, 2, 0, 3, 4, 5, 6, 7, 8, 9, 10, 11, 12] (by kernel_rfl)
                replace HS := signalmanlaw15_pair.close (({ a := (x11.a.1, t25), way := (x11.way.1, x11.way.2), heard := (x11.heard.1, x11.heard.2), said := (x11.said.1, x11.said.2), downs := x11.downs } : signalmanlaw15_pair)) trivial HS
                replace HS := HS.sel [1, 0, 2] [] (by kernel_rfl)
                exact At.meet (({ a := (x11.a.1, t25), way := (x11.way.1, x11.way.2), heard := (x11.heard.1, x11.heard.2), said := (x11.said.1, x11.said.2), downs := x11.downs } : signalmanlaw15_pair)) ⟨rfl, trivial⟩ ⟨HS, kf12, by omega, H⟩
          · rintro x13 w ⟨HS, kf14, hkkf14, H⟩
            unfold signalmanlaw15_pair_carry.j3 at H
            refine V.region ?_
            refine W.rd (X.move rfl) rfl rfl rfl ?_
            obtain ⟨t15, A16, H⟩ := bind_s H
            replace HS := HS.re [1, 0, 2] (by kernel_rfl)
            refine W.ev (Y.call Try.func32 (by kernel_rfl) rfl (vs := [Value.pointer (some ⟨b0, 0, none⟩)]) rfl (signalmanlaw15_pair_collect.calls kf14 x13 _ w0 _ b0 t15  A16 (Sep.St.tailJoin (m := [signalmanlaw15_pair.at b0 x13]) (r := [fsl 1 (.slice ra6 x8.length rc7) x8.length (x8.map (Value.int .u8)), R]) HS))) rfl rfl rfl ?_
            rintro _ w ⟨rfl, HS⟩
            replace HS := Sep.St.tailOpen (m := [signalmanlaw15_pair.at b0 t15]) (r := [fsl 1 (.slice ra6 x8.length rc7) x8.length (x8.map (Value.int .u8)), R]) HS
            refine W.nil ?_
            replace HS := HS.sel [0, 2] [1] (by kernel_rfl)
            cases H
            exact At.end0 rfl ⟨_, rfl, rfl, HS⟩
    · replace H := ite_f c5 H
      refine V.condF (sb (b_f c5)) ?_
      refine V.skip ?_
      cases H
      exact At.end0 rfl ⟨_, rfl, rfl, HS⟩

/-! ### signalman/signalmanlaw15.up: function 36 -/
mutual
def signalmanlaw15_up.l0 : Nat → Int → signalmanlaw15_pair → Option signalmanlaw15_pair
  | 0, _, _ => none
  | k + 1, x15, x16 => (if x15 < 4 then ((signalmanlaw15_pair_carry.f k x16 (iand .i64 x15 (1)) false).bind fun t20 => (signalmanlaw15_up.l0 k (w64 (x15 + 1)) t20)) else some x16)
end
def signalmanlaw15_up.f (k : Nat) (a0 : api_Config) : Option signalmanlaw15_pair := ((arq_New.f a0).bind fun t5 => ((arq_New.f a0).bind fun t8 => ((arq_Arq_Connect.f k t5).bind fun t11 => ((signalmanlaw15_pair_collect.f k ({ a := (t11.2, t8), way := (([] : List (List Int)), ([] : List (List Int))), heard := (([] : List (List Int)), ([] : List (List Int))), said := (([] : List (List Int)), ([] : List (List Int))), downs := 0 } : signalmanlaw15_pair)).bind fun t13 => (signalmanlaw15_up.l0 k 0 t13)))))
set_option maxRecDepth 100000 in
set_option maxHeartbeats 4000000 in
theorem signalmanlaw15_up.calls (k : Nat) (a0 : api_Config) (R : As) (w0 w : World)  (r : signalmanlaw15_pair)  (H : signalmanlaw15_up.f k a0 = some r) (HS : Sep.St [R] w0 w) : Calls Try.prog 36 #[Value.agg #[Value.int .i64 a0.Mode, Value.int .i64 a0.Modulus, Value.int .i64 a0.Window, Value.int .i64 a0.T1, Value.int .i64 a0.N2, Value.int .i64 a0.Hold, Value.int .i64 a0.Wait, Value.int .i64 a0.Keep, Value.int .i64 a0.Queue, Value.int .i64 a0.Size, Value.int .i64 a0.Ring, Value.int .i64 a0.Rate, Value.int .i64 a0.Bad, Value.int .i64 a0.Good, Value.bool a0.Revert, Value.bool a0.Wide]] w (Ret fun u w => ∃ (bq0 : Nat), u = Value.pointer (some ⟨bq0, 0, none⟩) ∧ Sep.St [signalmanlaw15_pair.at bq0 r, R] w0 w) := by
  unfold signalmanlaw15_up.f at H
  refine calls_enter Try.func36 rfl rfl ?_
  have H : _ = some r := H
  refine V.seq ?_
  refine V.region ?_
  refine W.ev (Y.box HS rfl) rfl rfl rfl ?_
  rintro _ w ⟨nb1, rfl, HS⟩
  refine W.rd (X.assign rfl) rfl rfl rfl ?_
  refine W.nil ?_
  refine At.next ?_
  refine V.seq ?_
  refine V.region ?_
  refine W.rd (X.build (vs := #[]) (v := Value.agg #[Value.pointer none, Value.pointer none, Value.slice none 0 0, Value.slice none 0 0, Value.slice none 0 0, Value.slice none 0 0, Value.slice none 0 0, Value.slice none 0 0, Value.int .i64 (0)]) (fun a ha => by simp only [List.map_toArray, List.map_cons, List.map_nil]; try rfl) (fun _ => by kernel_rfl)) rfl rfl rfl ?_
  refine W.ev (Y.box HS rfl) rfl rfl rfl ?_
  rintro _ w ⟨nb2, rfl, HS⟩
  refine W.rd (X.assign rfl) rfl rfl rfl ?_
  refine W.nil ?_
  refine At.next ?_
  refine V.seq ?_
  refine V.draw (es := [2, 6]) (bl := [5]) (f := [(7, Value.pointer (some ⟨nb2, 0, none⟩)), (8, Value.agg #[Value.int .i64 a0.Mode, Value.int .i64 a0.Modulus, Value.int .i64 a0.Window, Value.int .i64 a0.T1, Value.int .i64 a0.N2, Value.int .i64 a0.Hold, Value.int .i64 a0.Wait, Value.int .i64 a0.Keep, Value.int .i64 a0.Queue, Value.int .i64 a0.Size, Value.int .i64 a0.Ring, Value.int .i64 a0.Rate, Value.int .i64 a0.Bad, Value.int .i64 a0.Good, Value.bool a0.Revert, Value.bool a0.Wide]), (10, Value.pointer (some ⟨nb2, 0, none⟩)), (11, Value.pointer (some ⟨nb2, 0 + 0, none⟩))]) (fun w => Sep.St [blk nb2 (#[Value.pointer none, Value.pointer none, Value.slice none 0 0, Value.slice none 0 0, Value.slice none 0 0, Value.slice none 0 0, Value.slice none 0 0, Value.slice none 0 0, Value.int .i64 (0)]) 59, blk nb1 (#[Value.int .i64 a0.Mode, Value.int .i64 a0.Modulus, Value.int .i64 a0.Window, Value.int .i64 a0.T1, Value.int .i64 a0.N2, Value.int .i64 a0.Hold, Value.int .i64 a0.Wait, Value.int .i64 a0.Keep, Value.int .i64 a0.Queue, Value.int .i64 a0.Size, Value.int .i64 a0.Ring, Value.int .i64 a0.Rate, Value.int .i64 a0.Bad, Value.int .i64 a0.Good, Value.bool a0.Revert, Value.bool a0.Wide]) 24, R] w0 w) mo HS.drew rfl ?_
  refine T.event _ [(8, Value.agg #[Value.int .i64 a0.Mode, Value.int .i64 a0.Modulus, Value.int .i64 a0.Window, Value.int .i64 a0.T1, Value.int .i64 a0.N2, Value.int .i64 a0.Hold, Value.int .i64 a0.Wait, Value.int .i64 a0.Keep, Value.int .i64 a0.Queue, Value.int .i64 a0.Size, Value.int .i64 a0.Ring, Value.int .i64 a0.Rate, Value.int .i64 a0.Bad, Value.int .i64 a0.Good, Value.bool a0.Revert, Value.bool a0.Wide])] rfl rfl ⟨.m1 3 rfl (.l rfl rfl) (fun w HS => X.move rfl) rfl rfl rfl rfl rfl, .m1 1 rfl (.l rfl rfl) (fun w HS => X.loadSt 1 [Value.int .i64 a0.Mode, Value.int .i64 a0.Modulus, Value.int .i64 a0.Window, Value.int .i64 a0.T1, Value.int .i64 a0.N2, Value.int .i64 a0.Hold, Value.int .i64 a0.Wait, Value.int .i64 a0.Keep, Value.int .i64 a0.Queue, Value.int .i64 a0.Size, Value.int .i64 a0.Ring, Value.int .i64 a0.Rate, Value.int .i64 a0.Bad, Value.int .i64 a0.Good, Value.bool a0.Revert, Value.bool a0.Wide] HS rfl Try.underlying24 rfl inf24 rfl rfl) rfl rfl rfl rfl rfl, .m1 7 rfl (.r rfl rfl) (fun w HS => X.nilCheck rfl) rfl rfl rfl rfl rfl, .m1 10 rfl (.r rfl rfl) (fun w HS => X.fieldAddr 0 fo59_0 rfl) rfl rfl rfl rfl rfl, trivial⟩ rfl ⟨.inr ⟨rfl, rfl⟩, trivial⟩ (Or.inl rfl) (by intro d hd; cases hd; exact ⟨by decide, rfl, rfl⟩) [] [1] rfl rfl (fun w HS => ?_)
  obtain ⟨t5, A6, H⟩ := bind_s H
  refine ⟨_, Y.call Try.func17 (by kernel_rfl) rfl (vs := [Value.agg #[Value.int .i64 a0.Mode, Value.int .i64 a0.Modulus, Value.int .i64 a0.Window, Value.int .i64 a0.T1, Value.int .i64 a0.N2, Value.int .i64 a0.Hold, Value.int .i64 a0.Wait, Value.int .i64 a0.Keep, Value.int .i64 a0.Queue, Value.int .i64 a0.Size, Value.int .i64 a0.Ring, Value.int .i64 a0.Rate, Value.int .i64 a0.Bad, Value.int .i64 a0.Good, Value.bool a0.Revert, Value.bool a0.Wide]]) rfl (arq_New.calls a0 _ w0 _  t5  A6 (Sep.St.tailJoin (m := []) (r := [blk nb2 (#[Value.pointer none, Value.pointer none, Value.slice none 0 0, Value.slice none 0 0, Value.slice none 0 0, Value.slice none 0 0, Value.slice none 0 0, Value.slice none 0 0, Value.int .i64 (0)]) 59, blk nb1 (#[Value.int .i64 a0.Mode, Value.int .i64 a0.Modulus, Value.int .i64 a0.Window, Value.int .i64 a0.T1, Value.int .i64 a0.N2, Value.int .i64 a0.Hold, Value.int .i64 a0.Wait, Value.int .i64 a0.Keep, Value.int .i64 a0.Queue, Value.int .i64 a0.Size, Value.int .i64 a0.Ring, Value.int .i64 a0.Rate, Value.int .i64 a0.Bad, Value.int .i64 a0.Good, Value.bool a0.Revert, Value.bool a0.Wide]) 24, R]) HS)), ?_⟩
  rintro _ w ⟨bt5_0, rfl, HS⟩
  replace HS := Sep.St.tailOpen (m := [arq_Arq.at bt5_0 t5]) (r := [blk nb2 (#[Value.pointer none, Value.pointer none, Value.slice none 0 0, Value.slice none 0 0, Value.slice none 0 0, Value.slice none 0 0, Value.slice none 0 0, Value.slice none 0 0, Value.int .i64 (0)]) 59, blk nb1 (#[Value.int .i64 a0.Mode, Value.int .i64 a0.Modulus, Value.int .i64 a0.Window, Value.int .i64 a0.T1, Value.int .i64 a0.N2, Value.int .i64 a0.Hold, Value.int .i64 a0.Wait, Value.int .i64 a0.Keep, Value.int .i64 a0.Queue, Value.int .i64 a0.Size, Value.int .i64 a0.Ring, Value.int .i64 a0.Rate, Value.int .i64 a0.Bad, Value.int .i64 a0.Good, Value.bool a0.Revert, Value.bool a0.Wide]) 24, R]) HS
  refine ⟨[(9, Value.pointer (some ⟨bt5_0, 0, none⟩)), (12, Value.pointer (some ⟨nb2, 0 + 0 + (0 : Int).toNat * 1, none⟩))], _, ⟨.inl ⟨rfl, rfl⟩, ⟨.inr ⟨by decide, rfl⟩, trivial⟩⟩, ?_, HS⟩
  refine T.event _ [(9, Value.pointer (some ⟨bt5_0, 0, none⟩)), (12, Value.pointer (some ⟨nb2, 0 + 0 + (0 : Int).toNat * 1, none⟩))] rfl rfl ⟨.m1 3 rfl (.l rfl rfl) (fun w HS => X.move rfl) rfl rfl rfl rfl rfl, .m1 7 rfl (.r rfl rfl) (fun w HS => X.nilCheck rfl) rfl rfl rfl rfl rfl, .m1 10 rfl (.r rfl rfl) (fun w HS => X.fieldAddr 0 fo59_0 rfl) rfl rfl rfl rfl rfl, .m1 11 rfl (.r rfl rfl) (fun w HS => X.indexAr Try.underlying54 inf26 rfl rfl (by decide) (by decide)) rfl rfl rfl rfl rfl, trivial⟩ rfl ⟨.inr ⟨rfl, rfl⟩, ⟨.inr ⟨rfl, rfl⟩, trivial⟩⟩ (Or.inl rfl) (by intro d hd; cases hd) [] [0, 3, 4, 5] rfl rfl (fun w HS => ?_)
  refine ⟨_, Y.storeAt 1 HS rfl inf26 rfl rfl rfl rfl rfl rfl, ?_⟩
  rintro _ w HS
  refine ⟨[], _, trivial, ?_, HS⟩
  refine T.fin [(1, Value.pointer (some ⟨nb1, 0, none⟩)), (3, Value.pointer (some ⟨nb2, 0, none⟩))] rfl trivial ⟨.inl ⟨rfl, rfl⟩, ⟨.inl ⟨rfl, rfl⟩, trivial⟩⟩ (fun w HS => ?_)
  refine At.next ?_
  refine V.seq ?_
  refine V.draw (es := [2, 6]) (bl := [5]) (f := [(13, Value.pointer (some ⟨nb2, 0, none⟩)), (14, Value.agg #[Value.int .i64 a0.Mode, Value.int .i64 a0.Modulus, Value.int .i64 a0.Window, Value.int .i64 a0.T1, Value.int .i64 a0.N2, Value.int .i64 a0.Hold, Value.int .i64 a0.Wait, Value.int .i64 a0.Keep, Value.int .i64 a0.Queue, Value.int .i64 a0.Size, Value.int .i64 a0.Ring, Value.int .i64 a0.Rate, Value.int .i64 a0.Bad, Value.int .i64 a0.Good, Value.bool a0.Revert, Value.bool a0.Wide]), (16, Value.pointer (some ⟨nb2, 0, none⟩)), (17, Value.pointer (some ⟨nb2, 0 + 0, none⟩))]) (fun w => Sep.St [arq_Arq.at bt5_0 t5, blk nb2 (#[Value.pointer (some ⟨bt5_0, 0, none⟩), Value.pointer none, Value.slice none 0 0, Value.slice none 0 0, Value.slice none 0 0, Value.slice none 0 0, Value.slice none 0 0, Value.slice none 0 0, Value.int .i64 (0)]) 59, blk nb1 (#[Value.int .i64 a0.Mode, Value.int .i64 a0.Modulus, Value.int .i64 a0.Window, Value.int .i64 a0.T1, Value.int .i64 a0.N2, Value.int .i64 a0.Hold, Value.int .i64 a0.Wait, Value.int .i64 a0.Keep, Value.int .i64 a0.Queue, Value.int .i64 a0.Size, Value.int .i64 a0.Ring, Value.int .i64 a0.Rate, Value.int .i64 a0.Bad, Value.int .i64 a0.Good, Value.bool a0.Revert, Value.bool a0.Wide]) 24, R] w0 w) mo HS.drew rfl ?_
  refine T.event _ [(14, Value.agg #[Value.int .i64 a0.Mode, Value.int .i64 a0.Modulus, Value.int .i64 a0.Window, Value.int .i64 a0.T1, Value.int .i64 a0.N2, Value.int .i64 a0.Hold, Value.int .i64 a0.Wait, Value.int .i64 a0.Keep, Value.int .i64 a0.Queue, Value.int .i64 a0.Size, Value.int .i64 a0.Ring, Value.int .i64 a0.Rate, Value.int .i64 a0.Bad, Value.int .i64 a0.Good, Value.bool a0.Revert, Value.bool a0.Wide])] rfl rfl ⟨.m1 3 rfl (.l rfl rfl) (fun w HS => X.move rfl) rfl rfl rfl rfl rfl, .m1 1 rfl (.l rfl rfl) (fun w HS => X.loadSt 2 [Value.int .i64 a0.Mode, Value.int .i64 a0.Modulus, Value.int .i64 a0.Window, Value.int .i64 a0.T1, Value.int .i64 a0.N2, Value.int .i64 a0.Hold, Value.int .i64 a0.Wait, Value.int .i64 a0.Keep, Value.int .i64 a0.Queue, Value.int .i64 a0.Size, Value.int .i64 a0.Ring, Value.int .i64 a0.Rate, Value.int .i64 a0.Bad, Value.int .i64 a0.Good, Value.bool a0.Revert, Value.bool a0.Wide] HS rfl Try.underlying24 rfl inf24 rfl rfl) rfl rfl rfl rfl rfl, .m1 13 rfl (.r rfl rfl) (fun w HS => X.nilCheck rfl) rfl rfl rfl rfl rfl, .m1 16 rfl (.r rfl rfl) (fun w HS => X.fieldAddr 0 fo59_0 rfl) rfl rfl rfl rfl rfl, trivial⟩ rfl ⟨.inr ⟨rfl, rfl⟩, trivial⟩ (Or.inl rfl) (by intro d hd; cases hd; exact ⟨by decide, rfl, rfl⟩) [] [1] rfl rfl (fun w HS => ?_)
  obtain ⟨t8, A9, H⟩ := bind_s H
  refine ⟨_, Y.call Try.func17 (by kernel_rfl) rfl (vs := [Value.agg #[Value.int .i64 a0.Mode, Value.int .i64 a0.Modulus, Value.int .i64 a0.Window, Value.int .i64 a0.T1, Value.int .i64 a0.N2, Value.int .i64 a0.Hold, Value.int .i64 a0.Wait, Value.int .i64 a0.Keep, Value.int .i64 a0.Queue, Value.int .i64 a0.Size, Value.int .i64 a0.Ring, Value.int .i64 a0.Rate, Value.int .i64 a0.Bad, Value.int .i64 a0.Good, Value.bool a0.Revert, Value.bool a0.Wide]]) rfl (arq_New.calls a0 _ w0 _  t8  A9 (Sep.St.tailJoin (m := []) (r := [arq_Arq.at bt5_0 t5, blk nb2 (#[Value.pointer (some ⟨bt5_0, 0, none⟩), Value.pointer none, Value.slice none 0 0, Value.slice none 0 0, Value.slice none 0 0, Value.slice none 0 0, Value.slice none 0 0, Value.slice none 0 0, Value.int .i64 (0)]) 59, blk nb1 (#[Value.int .i64 a0.Mode, Value.int .i64 a0.Modulus, Value.int .i64 a0.Window, Value.int .i64 a0.T1, Value.int .i64 a0.N2, Value.int .i64 a0.Hold, Value.int .i64 a0.Wait, Value.int .i64 a0.Keep, Value.int .i64 a0.Queue, Value.int .i64 a0.Size, Value.int .i64 a0.Ring, Value.int .i64 a0.Rate, Value.int .i64 a0.Bad, Value.int .i64 a0.Good, Value.bool a0.Revert, Value.bool a0.Wide]) 24, R]) HS)), ?_⟩
  rintro _ w ⟨bt8_0, rfl, HS⟩
  replace HS := Sep.St.tailOpen (m := [arq_Arq.at bt8_0 t8]) (r := [arq_Arq.at bt5_0 t5, blk nb2 (#[Value.pointer (some ⟨bt5_0, 0, none⟩), Value.pointer none, Value.slice none 0 0, Value.slice none 0 0, Value.slice none 0 0, Value.slice none 0 0, Value.slice none 0 0, Value.slice none 0 0, Value.int .i64 (0)]) 59, blk nb1 (#[Value.int .i64 a0.Mode, Value.int .i64 a0.Modulus, Value.int .i64 a0.Window, Value.int .i64 a0.T1, Value.int .i64 a0.N2, Value.int .i64 a0.Hold, Value.int .i64 a0.Wait, Value.int .i64 a0.Keep, Value.int .i64 a0.Queue, Value.int .i64 a0.Size, Value.int .i64 a0.Ring, Value.int .i64 a0.Rate, Value.int .i64 a0.Bad, Value.int .i64 a0.Good, Value.bool a0.Revert, Value.bool a0.Wide]) 24, R]) HS
  refine ⟨[(15, Value.pointer (some ⟨bt8_0, 0, none⟩)), (18, Value.pointer (some ⟨nb2, 0 + 0 + (1 : Int).toNat * 1, none⟩))], _, ⟨.inl ⟨rfl, rfl⟩, ⟨.inr ⟨by decide, rfl⟩, trivial⟩⟩, ?_, HS⟩
  refine T.event _ [(15, Value.pointer (some ⟨bt8_0, 0, none⟩)), (18, Value.pointer (some ⟨nb2, 0 + 0 + (1 : Int).toNat * 1, none⟩))] rfl rfl ⟨.m1 3 rfl (.l rfl rfl) (fun w HS => X.move rfl) rfl rfl rfl rfl rfl, .m1 13 rfl (.r rfl rfl) (fun w HS => X.nilCheck rfl) rfl rfl rfl rfl rfl, .m1 16 rfl (.r rfl rfl) (fun w HS => X.fieldAddr 0 fo59_0 rfl) rfl rfl rfl rfl rfl, .m1 17 rfl (.r rfl rfl) (fun w HS => X.indexAr Try.underlying54 inf26 rfl rfl (by decide) (by decide)) rfl rfl rfl rfl rfl, trivial⟩ rfl ⟨.inr ⟨rfl, rfl⟩, ⟨.inr ⟨rfl, rfl⟩, trivial⟩⟩ (Or.inl rfl) (by intro d hd; cases hd) [] [0, 3, 4, 5] rfl rfl (fun w HS => ?_)
  refine ⟨_, Y.storeAt 2 HS rfl inf26 rfl rfl rfl rfl rfl rfl, ?_⟩
  rintro _ w HS
  refine ⟨[], _, trivial, ?_, HS⟩
  refine T.fin [(3, Value.pointer (some ⟨nb2, 0, none⟩))] rfl trivial ⟨.inl ⟨rfl, rfl⟩, trivial⟩ (fun w HS => ?_)
  refine At.next ?_
  refine V.seq ?_
  refine V.region ?_
  refine W.rd (X.move rfl) rfl rfl rfl ?_
  refine W.rd (X.nilCheck rfl) rfl rfl rfl ?_
  refine W.rd (X.fieldAddr 0 fo59_0 rfl) rfl rfl rfl ?_
  refine W.rd (X.indexAr Try.underlying54 inf26 rfl rfl (by decide) (by decide)) rfl rfl rfl ?_
  refine W.rd (X.loadAt 2 HS rfl Try.underlying26 rfl rfl rfl) rfl rfl rfl ?_
  obtain ⟨t11, A12, H⟩ := bind_s H
  replace HS := HS.re [1, 0, 2, 3, 4] (by kernel_rfl)
  refine W.ev (Y.call Try.func18 (by kernel_rfl) rfl (vs := [Value.pointer (some ⟨bt5_0, 0, none⟩)]) rfl (arq_Arq_Connect.calls k t5 _ w0 _ bt5_0 t11  A12 (Sep.St.tailJoin (m := [arq_Arq.at bt5_0 t5]) (r := [arq_Arq.at bt8_0 t8, blk nb2 (#[Value.pointer (some ⟨bt5_0, 0, none⟩), Value.pointer (some ⟨bt8_0, 0, none⟩), Value.slice none 0 0, Value.slice none 0 0, Value.slice none 0 0, Value.slice none 0 0, Value.slice none 0 0, Value.slice none 0 0, Value.int .i64 (0)]) 59, blk nb1 (#[Value.int .i64 a0.Mode, Value.int .i64 a0.Modulus, Value.int .i64 a0.Window, Value.int .i64 a0.T1, Value.int .i64 a0.N2, Value.int .i64 a0.Hold, Value.int .i64 a0.Wait, Value.int .i64 a0.Keep, Value.int .i64 a0.Queue, Value.int .i64 a0.Size, Value.int .i64 a0.Ring, Value.int .i64 a0.Rate, Value.int .i64 a0.Bad, Value.int .i64 a0.Good, Value.bool a0.Revert, Value.bool a0.Wide]) 24, R]) HS))) rfl rfl rfl ?_
  rintro _ w ⟨rfl, HS⟩
  replace HS := Sep.St.tailOpen (m := [arq_Arq.at bt5_0 t11.2]) (r := [arq_Arq.at bt8_0 t8, blk nb2 (#[Value.pointer (some ⟨bt5_0, 0, none⟩), Value.pointer (some ⟨bt8_0, 0, none⟩), Value.slice none 0 0, Value.slice none 0 0, Value.slice none 0 0, Value.slice none 0 0, Value.slice none 0 0, Value.slice none 0 0, Value.int .i64 (0)]) 59, blk nb1 (#[Value.int .i64 a0.Mode, Value.int .i64 a0.Modulus, Value.int .i64 a0.Window, Value.int .i64 a0.T1, Value.int .i64 a0.N2, Value.int .i64 a0.Hold, Value.int .i64 a0.Wait, Value.int .i64 a0.Keep, Value.int .i64 a0.Queue, Value.int .i64 a0.Size, Value.int .i64 a0.Ring, Value.int .i64 a0.Rate, Value.int .i64 a0.Bad, Value.int .i64 a0.Good, Value.bool a0.Revert, Value.bool a0.Wide]) 24, R]) HS
  refine W.nil ?_
  refine At.next ?_
  refine V.seq ?_
  refine V.region ?_
  refine W.rd (X.move rfl) rfl rfl rfl ?_
  replace HS := row_nil' (e := 39) 1 none (St.put (A := tie (El.sl (El.int .u8)) ([]) (([] : List (List Int)))) (fun _ => tie.nil) HS)
  have HS : Sep.St [row 39 1 (.slice none (([] : List (List Int))).length 0) (([] : List (List Int))).length ([]), tie (El.sl (El.int .u8)) ([]) (([] : List (List Int))), arq_Arq.at bt5_0 t11.2, arq_Arq.at bt8_0 t8, blk nb2 (#[Value.pointer (some ⟨bt5_0, 0, none⟩), Value.pointer (some ⟨bt8_0, 0, none⟩), Value.slice none 0 0, Value.slice none 0 0, Value.slice none 0 0, Value.slice none 0 0, Value.slice none 0 0, Value.slice none 0 0, Value.int .i64 (0)]) 59, blk nb1 (#[Value.int .i64 a0.Mode, Value.int .i64 a0.Modulus, Value.int .i64 a0.Window, Value.int .i64 a0.T1, Value.int .i64 a0.N2, Value.int .i64 a0.Hold, Value.int .i64 a0.Wait, Value.int .i64 a0.Keep, Value.int .i64 a0.Queue, Value.int .i64 a0.Size, Value.int .i64 a0.Ring, Value.int .i64 a0.Rate, Value.int .i64 a0.Bad, Value.int .i64 a0.Good, Value.bool a0.Revert, Value.bool a0.Wide]) 24, R] w0 w := HS
  replace HS := row_nil' (e := 39) 1 none (St.put (A := tie (El.sl (El.int .u8)) ([]) (([] : List (List Int)))) (fun _ => tie.nil) HS)
  have HS : Sep.St [row 39 1 (.slice none (([] : List (List Int))).length 0) (([] : List (List Int))).length ([]), tie (El.sl (El.int .u8)) ([]) (([] : List (List Int))), row 39 1 (.slice none (([] : List (List Int))).length 0) (([] : List (List Int))).length ([]), tie (El.sl (El.int .u8)) ([]) (([] : List (List Int))), arq_Arq.at bt5_0 t11.2, arq_Arq.at bt8_0 t8, blk nb2 (#[Value.pointer (some ⟨bt5_0, 0, none⟩), Value.pointer (some ⟨bt8_0, 0, none⟩), Value.slice none 0 0, Value.slice none 0 0, Value.slice none 0 0, Value.slice none 0 0, Value.slice none 0 0, Value.slice none 0 0, Value.int .i64 (0)]) 59, blk nb1 (#[Value.int .i64 a0.Mode, Value.int .i64 a0.Modulus, Value.int .i64 a0.Window, Value.int .i64 a0.T1, Value.int .i64 a0.N2, Value.int .i64 a0.Hold, Value.int .i64 a0.Wait, Value.int .i64 a0.Keep, Value.int .i64 a0.Queue, Value.int .i64 a0.Size, Value.int .i64 a0.Ring, Value.int .i64 a0.Rate, Value.int .i64 a0.Bad, Value.int .i64 a0.Good, Value.bool a0.Revert, Value.bool a0.Wide]) 24, R] w0 w := HS
  replace HS := row_nil' (e := 9) 1 none HS
  have HS : Sep.St [row 9 1 (.slice none (([] : List (List Int))).length 0) (([] : List (List Int))).length ((([] : List (List Int))).map (fun x => Value.string (strOf x))), row 39 1 (.slice none (([] : List (List Int))).length 0) (([] : List (List Int))).length ([]), tie (El.sl (El.int .u8)) ([]) (([] : List (List Int))), row 39 1 (.slice none (([] : List (List Int))).length 0) (([] : List (List Int))).length ([]), tie (El.sl (El.int .u8)) ([]) (([] : List (List Int))), arq_Arq.at bt5_0 t11.2, arq_Arq.at bt8_0 t8, blk nb2 (#[Value.pointer (some ⟨bt5_0, 0, none⟩), Value.pointer (some ⟨bt8_0, 0, none⟩), Value.slice none 0 0, Value.slice none 0 0, Value.slice none 0 0, Value.slice none 0 0, Value.slice none 0 0, Value.slice none 0 0, Value.int .i64 (0)]) 59, blk nb1 (#[Value.int .i64 a0.Mode, Value.int .i64 a0.Modulus, Value.int .i64 a0.Window, Value.int .i64 a0.T1, Value.int .i64 a0.N2, Value.int .i64 a0.Hold, Value.int .i64 a0.Wait, Value.int .i64 a0.Keep, Value.int .i64 a0.Queue, Value.int .i64 a0.Size, Value.int .i64 a0.Ring, Value.int .i64 a0.Rate, Value.int .i64 a0.Bad, Value.int .i64 a0.Good, Value.bool a0.Revert, Value.bool a0.Wide]) 24, R] w0 w := HS
  replace HS := row_nil' (e := 9) 1 none HS
  have HS : Sep.St [row 9 1 (.slice none (([] : List (List Int))).length 0) (([] : List (List Int))).length ((([] : List (List Int))).map (fun x => Value.string (strOf x))), row 9 1 (.slice none (([] : List (List Int))).length 0) (([] : List (List Int))).length ((([] : List (List Int))).map (fun x => Value.string (strOf x))), row 39 1 (.slice none (([] : List (List Int))).length 0) (([] : List (List Int))).length ([]), tie (El.sl (El.int .u8)) ([]) (([] : List (List Int))), row 39 1 (.slice none (([] : List (List Int))).length 0) (([] : List (List Int))).length ([]), tie (El.sl (El.int .u8)) ([]) (([] : List (List Int))), arq_Arq.at bt5_0 t11.2, arq_Arq.at bt8_0 t8, blk nb2 (#[Value.pointer (some ⟨bt5_0, 0, none⟩), Value.pointer (some ⟨bt8_0, 0, none⟩), Value.slice none 0 0, Value.slice none 0 0, Value.slice none 0 0, Value.slice none 0 0, Value.slice none 0 0, Value.slice none 0 0, Value.int .i64 (0)]) 59, blk nb1 (#[Value.int .i64 a0.Mode, Value.int .i64 a0.Modulus, Value.int .i64 a0.Window, Value.int .i64 a0.T1, Value.int .i64 a0.N2, Value.int .i64 a0.Hold, Value.int .i64 a0.Wait, Value.int .i64 a0.Keep, Value.int .i64 a0.Queue, Value.int .i64 a0.Size, Value.int .i64 a0.Ring, Value.int .i64 a0.Rate, Value.int .i64 a0.Bad, Value.int .i64 a0.Good, Value.bool a0.Revert, Value.bool a0.Wide]) 24, R] w0 w := HS
  replace HS := row_nil' (e := 9) 1 none HS
  have HS : Sep.St [row 9 1 (.slice none (([] : List (List Int))).length 0) (([] : List (List Int))).length ((([] : List (List Int))).map (fun x => Value.string (strOf x))), row 9 1 (.slice none (([] : List (List Int))).length 0) (([] : List (List Int))).length ((([] : List (List Int))).map (fun x => Value.string (strOf x))), row 9 1 (.slice none (([] : List (List Int))).length 0) (([] : List (List Int))).length ((([] : List (List Int))).map (fun x => Value.string (strOf x))), row 39 1 (.slice none (([] : List (List Int))).length 0) (([] : List (List Int))).length ([]), tie (El.sl (El.int .u8)) ([]) (([] : List (List Int))), row 39 1 (.slice none (([] : List (List Int))).length 0) (([] : List (List Int))).length ([]), tie (El.sl (El.int .u8)) ([]) (([] : List (List Int))), arq_Arq.at bt5_0 t11.2, arq_Arq.at bt8_0 t8, blk nb2 (#[Value.pointer (some ⟨bt5_0, 0, none⟩), Value.pointer (some ⟨bt8_0, 0, none⟩), Value.slice none 0 0, Value.slice none 0 0, Value.slice none 0 0, Value.slice none 0 0, Value.slice none 0 0, Value.slice none 0 0, Value.int .i64 (0)]) 59, blk nb1 (#[Value.int .i64 a0.Mode, Value.int .i64 a0.Modulus, Value.int .i64 a0.Window, Value.int .i64 a0.T1, Value.int .i64 a0.N2, Value.int .i64 a0.Hold, Value.int .i64 a0.Wait, Value.int .i64 a0.Keep, Value.int .i64 a0.Queue, Value.int .i64 a0.Size, Value.int .i64 a0.Ring, Value.int .i64 a0.Rate, Value.int .i64 a0.Bad, Value.int .i64 a0.Good, Value.bool a0.Revert, Value.bool a0.Wide]) 24, R] w0 w := HS
  replace HS := row_nil' (e := 9) 1 none HS
  have HS : Sep.St [row 9 1 (.slice none (([] : List (List Int))).length 0) (([] : List (List Int))).length ((([] : List (List Int))).map (fun x => Value.string (strOf x))), row 9 1 (.slice none (([] : List (List Int))).length 0) (([] : List (List Int))).length ((([] : List (List Int))).map (fun x => Value.string (strOf x))), row 9 1 (.slice none (([] : List (List Int))).length 0) (([] : List (List Int))).length ((([] : List (List Int))).map (fun x => Value.string (strOf x))), row 9 1 (.slice none (([] : List (List Int))).length 0) (([] : List (List Int))).length ((([] : List (List Int))).map (fun x => Value.string (strOf x))), row 39 1 (.slice none (([] : List (List Int))).length 0) (([] : List (List Int))).length ([]), tie (El.sl (El.int .u8)) ([]) (([] : List (List Int))), row 39 1 (.slice none (([] : List (List Int))).length 0) (([] : List (List Int))).length ([]), tie (El.sl (El.int .u8)) ([]) (([] : List (List Int))), arq_Arq.at bt5_0 t11.2, arq_Arq.at bt8_0 t8, blk nb2 (#[Value.pointer (some ⟨bt5_0, 0, none⟩), Value.pointer (some ⟨bt8_0, 0, none⟩), Value.slice none 0 0, Value.slice none 0 0, Value.slice none 0 0, Value.slice none 0 0, Value.slice none 0 0, Value.slice none 0 0, Value.int .i64 (0)]) 59, blk nb1 (#[Value.int .i64 a0.Mode, Value.int .i64 a0.Modulus, Value.int .i64 a0.Window, Value.int .i64 a0.T1, Value.int .i64 a0.N2, Value.int .i64 a0.Hold, Value.int .i64 a0.Wait, Value.int .i64 a0.Keep, Value.int .i64 a0.Queue, Value.int .i64 a0.Size, Value.int .i64 a0.Ring, Value.int .i64 a0.Rate, Value.int .i64 a0.Bad, Value.int .i64 a0.Good, Value.bool a0.Revert, Value.bool a0.Wide]) 24, R] w0 w := HS
  replace HS := HS.re [10, 8, 9, 6, 7, 4, 5, 3, 2, 1, 0, 11, 12] (by kernel_rfl)
  replace HS := signalmanlaw15_pair.close (({ a := (t11.2, t8), way := (([] : List (List Int)), ([] : List (List Int))), heard := (([] : List (List Int)), ([] : List (List Int))), said := (([] : List (List Int)), ([] : List (List Int))), downs := 0 } : signalmanlaw15_pair)) trivial HS
  obtain ⟨t13, A14, H⟩ := bind_s H
  refine W.ev (Y.call Try.func32 (by kernel_rfl) rfl (vs := [Value.pointer (some ⟨nb2, 0, none⟩)]) rfl (signalmanlaw15_pair_collect.calls k ({ a := (t11.2, t8), way := (([] : List (List Int)), ([] : List (List Int))), heard := (([] : List (List Int)), ([] : List (List Int))), said := (([] : List (List Int)), ([] : List (List Int))), downs := 0 } : signalmanlaw15_pair) _ w0 _ nb2 t13  A14 (Sep.St.tailJoin (m := [signalmanlaw15_pair.at nb2 (({ a := (t11.2, t8), way := (([] : List (List Int)), ([] : List (List Int))), heard := (([] : List (List Int)), ([] : List (List Int))), said := (([] : List (List Int)), ([] : List (List Int))), downs := 0 } : signalmanlaw15_pair))]) (r := [blk nb1 (#[Value.int .i64 a0.Mode, Value.int .i64 a0.Modulus, Value.int .i64 a0.Window, Value.int .i64 a0.T1, Value.int .i64 a0.N2, Value.int .i64 a0.Hold, Value.int .i64 a0.Wait, Value.int .i64 a0.Keep, Value.int .i64 a0.Queue, Value.int .i64 a0.Size, Value.int .i64 a0.Ring, Value.int .i64 a0.Rate, Value.int .i64 a0.Bad, Value.int .i64 a0.Good, Value.bool a0.Revert, Value.bool a0.Wide]) 24, R]) HS))) rfl rfl rfl ?_
  rintro _ w ⟨rfl, HS⟩
  replace HS := Sep.St.tailOpen (m := [signalmanlaw15_pair.at nb2 t13]) (r := [blk nb1 (#[Value.int .i64 a0.Mode, Value.int .i64 a0.Modulus, Value.int .i64 a0.Window, Value.int .i64 a0.T1, Value.int .i64 a0.N2, Value.int .i64 a0.Hold, Value.int .i64 a0.Wait, Value.int .i64 a0.Keep, Value.int .i64 a0.Queue, Value.int .i64 a0.Size, Value.int .i64 a0.Ring, Value.int .i64 a0.Rate, Value.int .i64 a0.Bad, Value.int .i64 a0.Good, Value.bool a0.Revert, Value.bool a0.Wide]) 24, R]) HS
  refine W.nil ?_
  refine At.next ?_
  refine V.seq ?_
  refine V.seq ?_
  refine V.region ?_
  refine W.rd (X.assign rfl) rfl rfl rfl ?_
  refine W.nil ?_
  refine At.next ?_
  refine V.block ?_
  replace HS := HS.re [1, 0, 2] (by kernel_rfl)
  replace HS := api_Config.close a0 trivial HS
  refine V.loop (σ := Int × signalmanlaw15_pair) (fun kq (st : Int × signalmanlaw15_pair) w => match st with | (x15, x16) => Sep.St [api_Config.at nb1 a0, signalmanlaw15_pair.at nb2 x16, R] w0 w ∧ signalmanlaw15_up.l0 kq x15 x16 = some r ∧ kq ≤ k) (fun st => match st with | (x15, x16) => [(3, Value.pointer (some ⟨nb2, 0, none⟩)), (4, Value.int .i64 x15)]) k (0, t13) ⟨rfl, rfl, trivial⟩ ⟨HS, H, Nat.le_refl _⟩ ?_
  rintro kq17 ⟨x15, x16⟩ w ⟨HS, H, hk18⟩
  cases kq17 with
  | zero => exact absurd H (by simp [signalmanlaw15_up.l0])
  | succ kq17 =>
    simp only [signalmanlaw15_up.l0] at H
    refine V.seq ?_
    refine V.seq ?_
    refine V.region ?_
    refine W.rd (X.move rfl) rfl rfl rfl ?_
    refine W.rd (X.cmp (decide (x15 < 4)) rfl rfl rfl rfl) rfl rfl rfl ?_
    refine W.nil ?_
    refine At.next ?_
    by_cases c19 : x15 < 4
    · replace H := ite_t c19 H
      refine V.condT (sb (decide_eq_true c19)) ?_
      refine V.skip ?_
      refine At.next ?_
      refine V.seq ?_
      refine V.block ?_
      refine V.region ?_
      refine W.rd (X.move rfl) rfl rfl rfl ?_
      refine W.rd (X.move rfl) rfl rfl rfl ?_
      refine W.rd (X.and rfl rfl) rfl rfl rfl ?_
      obtain ⟨t20, A21, H⟩ := bind_s H
      replace HS := HS.re [1, 0, 2] (by kernel_rfl)
      refine W.ev (Y.call Try.func33 (by kernel_rfl) rfl (vs := [Value.pointer (some ⟨nb2, 0, none⟩), Value.int .i64 (iand .i64 x15 (1)), Value.bool false]) rfl (signalmanlaw15_pair_carry.calls kq17 x16 (iand .i64 x15 (1)) false _ w0 _ nb2 t20  A21 (Sep.St.tailJoin (m := [signalmanlaw15_pair.at nb2 x16]) (r := [api_Config.at nb1 a0, R]) HS))) rfl rfl rfl ?_
      rintro _ w ⟨rfl, HS⟩
      replace HS := Sep.St.tailOpen (m := [signalmanlaw15_pair.at nb2 t20]) (r := [api_Config.at nb1 a0, R]) HS
      refine W.nil ?_
      refine At.blockEnd ?_
      refine At.next ?_
      refine V.region ?_
      refine W.rd (X.move rfl) rfl rfl rfl ?_
      refine W.rd (X.add rfl rfl) rfl rfl rfl ?_
      refine W.rd (X.assign rfl) rfl rfl rfl ?_
      refine W.nil ?_
      replace HS := HS.sel [1, 0, 2] [] (by kernel_rfl)
      exact At.round kq17 (by omega) (w64 (x15 + 1), t20) ⟨rfl, rfl, trivial⟩ ⟨HS, H, by omega⟩
    · replace H := ite_f c19 H
      refine V.condF (sb (decide_eq_false c19)) ?_
      refine V.exit ?_
      refine At.thenExit ?_
      refine At.thenExit ?_
      refine At.blockExit ?_
      refine At.next ?_
      refine V.seq ?_
      refine V.region ?_
      refine W.rd (X.move rfl) rfl rfl rfl ?_
      refine W.rd (X.assign rfl) rfl rfl rfl ?_
      refine W.nil ?_
      refine At.next ?_
      refine V.ret ?_
      replace HS := HS.sel [1, 2] [0] (by kernel_rfl)
      cases H
      exact At.ret1 rfl rfl ⟨_, rfl, nb2, rfl, HS⟩

/-! ### (*signalman/backlog.Log).Add: function 69 -/
def backlog_Log_Add.f (a0 : backlog_Log) (a1 : List Int) : Option (Int × backlog_Log) := (if (w64 ((a0.l.length : Int) - a0.out)) ≥ a0.queue then some (6, a0) else ((slices_Clone_Sbytebyte.f a1).bind fun t5 => (if (a0.l.length : Int) + (([t5] : List (List Int))).length ≤ 1099511627776 then some (0, ({ m := a0.m, window := a0.window, queue := a0.queue, first := a0.first, out := a0.out, l := a0.l ++ ([t5] : List (List Int)) } : backlog_Log)) else none)))
set_option maxRecDepth 100000 in
set_option maxHeartbeats 4000000 in
theorem backlog_Log_Add.calls (a0 : backlog_Log) (a1 : List Int) (R : As) (w0 w : World) (b0 : Nat) (sa1 : Option Addr) (sc1 : Nat) (r : Int × backlog_Log) (hr1 : rdC R 1 (.slice sa1 a1.length sc1) a1.length (a1.map (Value.int .u8))) (H : backlog_Log_Add.f a0 a1 = some r) (HS : Sep.St [backlog_Log.at b0 a0, R] w0 w) : Calls Try.prog 69 #[Value.pointer (some ⟨b0, 0, none⟩), Value.slice sa1 a1.length sc1] w (Ret fun u w => u = Value.int .i64 r.1 ∧ Sep.St [backlog_Log.at b0 r.2, R] w0 w) := by
  unfold backlog_Log_Add.f at H
  refine calls_enter Try.func69 rfl rfl ?_
  have H : _ = some r := H
  refine V.seq ?_
  refine V.region ?_
  refine W.rd (X.assign rfl) rfl rfl rfl ?_
  refine W.nil ?_
  refine At.next ?_
  refine V.seq ?_
  refine V.seq ?_
  obtain ⟨a5_2, c5_2, d5_2, hi3, HS⟩ := backlog_Log.open HS
  refine V.draw (es := []) (bl := []) (f := [(5, Value.pointer (some ⟨b0, 0, none⟩)), (6, Value.pointer (some ⟨b0, 0, none⟩)), (7, Value.pointer (some ⟨b0, 0 + 5, none⟩)), (8, Value.slice a5_2 a0.l.length c5_2), (9, Value.int .i64 (a0.l.length : Int)), (10, Value.pointer (some ⟨b0, 0, none⟩)), (11, Value.pointer (some ⟨b0, 0, none⟩)), (12, Value.pointer (some ⟨b0, 0 + 4, none⟩)), (13, Value.int .i64 a0.out), (14, Value.int .i64 (w64 ((a0.l.length : Int) - a0.out))), (15, Value.pointer (some ⟨b0, 0, none⟩)), (16, Value.pointer (some ⟨b0, 0, none⟩)), (17, Value.pointer (some ⟨b0, 0 + 2, none⟩)), (18, Value.int .i64 a0.queue), (19, Value.bool (decide ((w64 ((a0.l.length : Int) - a0.out)) ≥ a0.queue)))]) (fun w => Sep.St [blk b0 (#[Value.int .i64 a0.m, Value.int .i64 a0.window, Value.int .i64 a0.queue, Value.int .i64 a0.first, Value.int .i64 a0.out, Value.slice a5_2 a0.l.length c5_2]) 103, row 39 1 (.slice a5_2 a0.l.length c5_2) a0.l.length d5_2, tie (El.sl (El.int .u8)) d5_2 a0.l, R] w0 w) mo HS.drew rfl ?_
  refine T.fin [(0, Value.pointer (some ⟨b0, 0, none⟩)), (1, Value.slice sa1 a1.length sc1), (19, Value.bool (decide ((w64 ((a0.l.length : Int) - a0.out)) ≥ a0.queue)))] rfl ⟨.m1 0 rfl (.l rfl rfl) (fun w HS => X.move rfl) rfl rfl rfl rfl rfl, .m1 5 rfl (.r rfl rfl) (fun w HS => X.nilCheck rfl) rfl rfl rfl rfl rfl, .m1 6 rfl (.r rfl rfl) (fun w HS => X.fieldAddr 5 fo103_5 rfl) rfl rfl rfl rfl rfl, .m1 7 rfl (.r rfl rfl) (fun w HS => X.loadAt 0 HS rfl Try.underlying30 rfl rfl rfl) rfl rfl rfl rfl rfl, .m1 8 rfl (.r rfl rfl) (fun w HS => X.lenSl Try.underlying30 rfl) rfl rfl rfl rfl rfl, .m1 0 rfl (.l rfl rfl) (fun w HS => X.move rfl) rfl rfl rfl rfl rfl, .m1 10 rfl (.r rfl rfl) (fun w HS => X.nilCheck rfl) rfl rfl rfl rfl rfl, .m1 11 rfl (.r rfl rfl) (fun w HS => X.fieldAddr 4 fo103_4 rfl) rfl rfl rfl rfl rfl, .m1 12 rfl (.r rfl rfl) (fun w HS => X.loadAt 0 HS rfl Try.underlying3 rfl rfl rfl) rfl rfl rfl rfl rfl, .m2 9 13 rfl (.r rfl rfl) (.r rfl rfl) (fun w HS => X.sub rfl rfl) rfl rfl rfl rfl rfl, .m1 0 rfl (.l rfl rfl) (fun w HS => X.move rfl) rfl rfl rfl rfl rfl, .m1 15 rfl (.r rfl rfl) (fun w HS => X.nilCheck rfl) rfl rfl rfl rfl rfl, .m1 16 rfl (.r rfl rfl) (fun w HS => X.fieldAddr 2 fo103_2 rfl) rfl rfl rfl rfl rfl, .m1 17 rfl (.r rfl rfl) (fun w HS => X.loadAt 0 HS rfl Try.underlying3 rfl rfl rfl) rfl rfl rfl rfl rfl, .m2 14 18 rfl (.r rfl rfl) (.r rfl rfl) (fun w HS => X.cmp (decide ((w64 ((a0.l.length : Int) - a0.out)) ≥ a0.queue)) rfl rfl rfl rfl) rfl rfl rfl rfl rfl, trivial⟩ ⟨.inl ⟨rfl, rfl⟩, ⟨.inl ⟨rfl, rfl⟩, ⟨.inr ⟨rfl, rfl⟩, trivial⟩⟩⟩ (fun w HS => ?_)
  refine At.next ?_
  by_cases c4 : (w64 ((a0.l.length : Int) - a0.out)) ≥ a0.queue
  · replace H := ite_t c4 H
    refine V.condT (sb (decide_eq_true c4)) ?_
    refine V.seq ?_
    refine V.region ?_
    refine W.rd (X.assign rfl) rfl rfl rfl ?_
    refine W.nil ?_
    refine At.next ?_
    refine V.ret ?_
    refine At.thenRet ?_
    replace HS := backlog_Log.close a0 trivial HS
    cases H
    exact At.ret1 rfl rfl ⟨_, rfl, rfl, HS⟩
  · replace H := ite_f c4 H
    refine V.condF (sb (decide_eq_false c4)) ?_
    refine V.skip ?_
    refine At.next ?_
    refine V.seq ?_
    refine V.draw (es := [6, 7, 8, 11]) (bl := [9, 10]) (f := [(20, Value.pointer (some ⟨b0, 0, none⟩)), (21, Value.pointer (some ⟨b0, 0, none⟩)), (22, Value.pointer (some ⟨b0, 0, none⟩)), (23, Value.pointer (some ⟨b0, 0 + 5, none⟩)), (24, Value.slice a5_2 a0.l.length c5_2), (25, Value.slice sa1 a1.length sc1)]) (fun w => Sep.St [blk b0 (#[Value.int .i64 a0.m, Value.int .i64 a0.window, Value.int .i64 a0.queue, Value.int .i64 a0.first, Value.int .i64 a0.out, Value.slice a5_2 a0.l.length c5_2]) 103, row 39 1 (.slice a5_2 a0.l.length c5_2) a0.l.length d5_2, tie (El.sl (El.int .u8)) d5_2 a0.l, R] w0 w) mo HS.drew rfl ?_
    refine T.event _ [(25, Value.slice sa1 a1.length sc1)] rfl rfl ⟨.m1 0 rfl (.l rfl rfl) (fun w HS => X.move rfl) rfl rfl rfl rfl rfl, .m1 0 rfl (.l rfl rfl) (fun w HS => X.move rfl) rfl rfl rfl rfl rfl, .m1 21 rfl (.r rfl rfl) (fun w HS => X.nilCheck rfl) rfl rfl rfl rfl rfl, .m1 22 rfl (.r rfl rfl) (fun w HS => X.fieldAddr 5 fo103_5 rfl) rfl rfl rfl rfl rfl, .m1 23 rfl (.r rfl rfl) (fun w HS => X.loadAt 0 HS rfl Try.underlying30 rfl rfl rfl) rfl rfl rfl rfl rfl, .m1 1 rfl (.l rfl rfl) (fun w HS => X.move rfl) rfl rfl rfl rfl rfl, trivial⟩ rfl ⟨.inr ⟨rfl, rfl⟩, trivial⟩ (Or.inl rfl) (by intro d hd; cases hd; exact ⟨by decide, rfl, rfl⟩) [9, 10] [5] rfl rfl (fun w HS => ?_)
    obtain ⟨t5, A6, H⟩ := bind_s H
    refine ⟨_, Y.call Try.func93 (by kernel_rfl) rfl (vs := [Value.slice sa1 a1.length sc1]) rfl (slices_Clone_Sbytebyte.calls a1 _ w0 _ sa1 sc1 t5 (rdC.part 3 hr1 rfl) A6 (Sep.St.tailJoin (m := []) (r := [blk b0 (#[Value.int .i64 a0.m, Value.int .i64 a0.window, Value.int .i64 a0.queue, Value.int .i64 a0.first, Value.int .i64 a0.out, Value.slice a5_2 a0.l.length c5_2]) 103, row 39 1 (.slice a5_2 a0.l.length c5_2) a0.l.length d5_2, tie (El.sl (El.int .u8)) d5_2 a0.l, R]) HS)), ?_⟩
    rintro _ w ⟨at5_0, ct5_0, rfl, HS⟩
    replace HS := Sep.St.tailOpen (m := [row 5 1 (.slice at5_0 t5.length ct5_0) t5.length (t5.map (Value.int .u8))]) (r := [blk b0 (#[Value.int .i64 a0.m, Value.int .i64 a0.window, Value.int .i64 a0.queue, Value.int .i64 a0.first, Value.int .i64 a0.out, Value.slice a5_2 a0.l.length c5_2]) 103, row 39 1 (.slice a5_2 a0.l.length c5_2) a0.l.length d5_2, tie (El.sl (El.int .u8)) d5_2 a0.l, R]) HS
    refine ⟨[(26, Value.slice at5_0 t5.length ct5_0)], _, ⟨.inl ⟨rfl, rfl⟩, trivial⟩, ?_, HS⟩
    refine T.event _ [(26, Value.slice at5_0 t5.length ct5_0)] rfl rfl ⟨.m1 0 rfl (.l rfl rfl) (fun w HS => X.move rfl) rfl rfl rfl rfl rfl, .m1 0 rfl (.l rfl rfl) (fun w HS => X.move rfl) rfl rfl rfl rfl rfl, .m1 21 rfl (.r rfl rfl) (fun w HS => X.nilCheck rfl) rfl rfl rfl rfl rfl, .m1 22 rfl (.r rfl rfl) (fun w HS => X.fieldAddr 5 fo103_5 rfl) rfl rfl rfl rfl rfl, .m1 23 rfl (.r rfl rfl) (fun w HS => X.loadAt 1 HS rfl Try.underlying30 rfl rfl rfl) rfl rfl rfl rfl rfl, trivial⟩ rfl ⟨.inr ⟨rfl, rfl⟩, trivial⟩ (Or.inl rfl) (by intro d hd; cases hd; exact ⟨by decide, rfl, rfl⟩) [9, 10] [] rfl rfl (fun w HS => ?_)
    replace HS := St.row_freeze HS
    refine ⟨_, Y.litB (e := 39) (sz := 1) (vs := #[(0, Value.slice at5_0 t5.length ct5_0)]) [Value.slice at5_0 t5.length ct5_0] HS (fun a ha => by simp only [List.map_toArray, List.map_cons, List.map_nil]; rw [ha.ev (x := .tmp 26) (v := Value.slice at5_0 t5.length ct5_0) rfl]; try rfl) rfl (by decide) (fun _ => by kernel_rfl), ?_⟩
    rintro _ w ⟨lb7, rfl, HS⟩
    have HS : Sep.St [row 39 1 (.slice (some ⟨lb7, 0, none⟩) (([t5] : List (List Int))).length 1) (([t5] : List (List Int))).length ([Value.slice at5_0 t5.length ct5_0]), fsl 1 (.slice at5_0 t5.length ct5_0) t5.length (t5.map (Value.int .u8)), blk b0 (#[Value.int .i64 a0.m, Value.int .i64 a0.window, Value.int .i64 a0.queue, Value.int .i64 a0.first, Value.int .i64 a0.out, Value.slice a5_2 a0.l.length c5_2]) 103, row 39 1 (.slice a5_2 a0.l.length c5_2) a0.l.length d5_2, tie (El.sl (El.int .u8)) d5_2 a0.l, R] w0 w := HS
    replace HS := St.put (A := tie (El.sl (El.int .u8)) ([]) (([] : List (List Int)))) (fun _ => tie.nil) HS
    replace HS := HS.more 2 rfl (fun _ t => t) fsl.pers
    replace HS := St.put (A := tie (El.int .u8) (t5.map (Value.int .u8)) t5) (fun _ => int_tie) HS
    replace HS := St.swap HS
    replace HS := St.sl_close (E := (El.int .u8)) HS
    replace HS := HS.front 1 rfl
    replace HS := HS.front 1 rfl
    replace HS := St.tie_cons HS
    refine ⟨[(27, Value.slice (some ⟨lb7, 0, none⟩) (([t5] : List (List Int))).length 1)], _, ⟨.inl ⟨rfl, rfl⟩, trivial⟩, ?_, HS⟩
    refine T.event _ [(24, Value.slice a5_2 a0.l.length c5_2), (27, Value.slice (some ⟨lb7, 0, none⟩) (([t5] : List (List Int))).length 1)] rfl rfl ⟨.m1 0 rfl (.l rfl rfl) (fun w HS => X.move rfl) rfl rfl rfl rfl rfl, .m1 0 rfl (.l rfl rfl) (fun w HS => X.move rfl) rfl rfl rfl rfl rfl, .m1 21 rfl (.r rfl rfl) (fun w HS => X.nilCheck rfl) rfl rfl rfl rfl rfl, .m1 22 rfl (.r rfl rfl) (fun w HS => X.fieldAddr 5 fo103_5 rfl) rfl rfl rfl rfl rfl, .m1 23 rfl (.r rfl rfl) (fun w HS => X.loadAt 3 HS rfl Try.underlying30 rfl rfl rfl) rfl rfl rfl rfl rfl, trivial⟩ rfl ⟨.inr ⟨rfl, rfl⟩, ⟨.inr ⟨rfl, rfl⟩, trivial⟩⟩ (Or.inl rfl) (by intro d hd; cases hd; exact ⟨by decide, rfl, rfl⟩) [] [1, 2, 3, 4] rfl rfl (fun w HS => ?_)
    obtain ⟨c10, H⟩ := ite_n H
    refine ⟨_, Y.app (xs := a0.l) (ys := ([t5] : List (List Int))) 4 Try.underlying30 ap39 rfl (by decide) HS rfl rfl rfl (rdC.at 1 row_rd HS rfl) (St.tie_one 0 HS rfl) (by omega) (by omega), ?_⟩
    rintro _ w ⟨ra11, rc12, rfl, HS⟩
    replace HS := HS.front 5 rfl
    replace HS := St.tie_app 1 HS rfl
    refine ⟨[(28, Value.slice ra11 (a0.l ++ ([t5] : List (List Int))).length rc12), (29, Value.pointer (some ⟨b0, 0, none⟩)), (30, Value.pointer (some ⟨b0, 0 + 5, none⟩))], _, ⟨.inl ⟨rfl, rfl⟩, ⟨.inr ⟨by decide, rfl⟩, ⟨.inr ⟨by decide, rfl⟩, trivial⟩⟩⟩, ?_, HS⟩
    refine T.event _ [(28, Value.slice ra11 (a0.l ++ ([t5] : List (List Int))).length rc12), (30, Value.pointer (some ⟨b0, 0 + 5, none⟩))] rfl rfl ⟨.m1 0 rfl (.l rfl rfl) (fun w HS => X.move rfl) rfl rfl rfl rfl rfl, .m1 20 rfl (.r rfl rfl) (fun w HS => X.nilCheck rfl) rfl rfl rfl rfl rfl, .m1 29 rfl (.r rfl rfl) (fun w HS => X.fieldAddr 5 fo103_5 rfl) rfl rfl rfl rfl rfl, trivial⟩ rfl ⟨.inr ⟨rfl, rfl⟩, ⟨.inr ⟨rfl, rfl⟩, trivial⟩⟩ (Or.inl rfl) (by intro d hd; cases hd) [] [0, 9, 10] rfl rfl (fun w HS => ?_)
    refine ⟨_, Y.storeAt 4 HS rfl inf30 rfl rfl rfl rfl rfl rfl, ?_⟩
    rintro _ w HS
    refine ⟨[], _, trivial, ?_, HS⟩
    refine T.fin [] rfl trivial trivial (fun w HS => ?_)
    refine At.next ?_
    refine V.seq ?_
    refine V.region ?_
    refine W.rd (X.assign rfl) rfl rfl rfl ?_
    refine W.nil ?_
    refine At.next ?_
    refine V.ret ?_
    replace HS := HS.re [4, 5, 0, 1, 2, 3, 6] (by kernel_rfl)
    replace HS := backlog_Log.close (({ m := a0.m, window := a0.window, queue := a0.queue, first := a0.first, out := a0.out, l := a0.l ++ ([t5] : List (List Int)) } : backlog_Log)) trivial HS
    replace HS := HS.sel [0, 4] [1, 2, 3] (by kernel_rfl)
    cases H
    exact At.ret1 rfl rfl ⟨_, rfl, rfl, HS⟩

/-! ### (*signalman/arq.Arq).Send: function 34 -/
def arq_Arq_Send.f (k : Nat) (a0 : arq_Arq) (a1 : List Int) : Option (Int × arq_Arq) := (if (a1.length : Int) > a0.size then some (5, a0) else (if a0.state = 2 then ((backlog_Log_Add.f a0.log a1).bind fun t12 => (if t12.1 = 0 then ((arq_Arq_pump.f k ({ m := a0.m, t1 := a0.t1, n2 := a0.n2, size := a0.size, state := a0.state, tag := a0.tag, tries := a0.tries, rejected := a0.rejected, log := t12.2, order := a0.order, timers := a0.timers, out := a0.out, inds := a0.inds, sent := w64 (a0.sent + 1), acked := a0.acked, lost := a0.lost } : arq_Arq)).bind fun t15 => some (0, t15)) else some (t12.1, ({ m := a0.m, t1 := a0.t1, n2 := a0.n2, size := a0.size, state := a0.state, tag := a0.tag, tries := a0.tries, rejected := a0.rejected, log := t12.2, order := a0.order, timers := a0.timers, out := a0.out, inds := a0.inds, sent := a0.sent, acked := a0.acked, lost := a0.lost } : arq_Arq)))) else some (7, a0)))
set_option maxRecDepth 100000 in
set_option maxHeartbeats 4000000 in
theorem arq_Arq_Send.calls (k : Nat) (a0 : arq_Arq) (a1 : List Int) (R : As) (w0 w : World) (b0 : Nat) (sa1 : Option Addr) (sc1 : Nat) (r : Int × arq_Arq) (hr1 : rdC R 1 (.slice sa1 a1.length sc1) a1.length (a1.map (Value.int .u8))) (H : arq_Arq_Send.f k a0 a1 = some r) (HS : Sep.St [arq_Arq.at b0 a0, R] w0 w) : Calls Try.prog 34 #[Value.pointer (some ⟨b0, 0, none⟩), Value.slice sa1 a1.length sc1] w (Ret fun u w => u = Value.int .i64 r.1 ∧ Sep.St [arq_Arq.at b0 r.2, R] w0 w) := by
  unfold arq_Arq_Send.f at H
  refine calls_enter Try.func34 rfl rfl ?_
  have H : _ = some r := H
  refine V.seq ?_
  refine V.region ?_
  refine W.rd (X.assign rfl) rfl rfl rfl ?_
  refine W.nil ?_
  refine At.next ?_
  refine V.seq ?_
  refine V.block ?_
  refine V.seq ?_
  refine V.region ?_
  refine W.rd (X.move rfl) rfl rfl rfl ?_
  refine W.rd (X.lenSl Try.underlying39 rfl) rfl rfl rfl ?_
  refine W.rd (X.move rfl) rfl rfl rfl ?_
  refine W.rd (X.nilCheck rfl) rfl rfl rfl ?_
  obtain ⟨b8_2, b9_2, b10_2, a11_2, c11_2, d11_2, a12_2, c12_2, hi3, HS⟩ := arq_Arq.open HS
  refine W.rd (X.fieldAddr 3 fo82_3 rfl) rfl rfl rfl ?_
  refine W.rd (X.loadAt 0 HS rfl Try.underlying3 rfl rfl rfl) rfl rfl rfl ?_
  refine W.rd (X.cmp (decide ((a1.length : Int) > a0.size)) rfl rfl rfl rfl) rfl rfl rfl ?_
  refine W.rd (X.assign rfl) rfl rfl rfl ?_
  refine W.nil ?_
  refine At.next ?_
  by_cases c4 : (a1.length : Int) > a0.size
  · replace H := ite_t c4 H
    refine V.condT (sb (decide_eq_true c4)) ?_
    refine V.seq ?_
    refine V.region ?_
    refine W.rd (X.assign rfl) rfl rfl rfl ?_
    refine W.nil ?_
    refine At.next ?_
    refine V.ret ?_
    refine At.blockRet ?_
    refine At.thenRet ?_
    replace HS := arq_Arq.close a0 trivial HS
    cases H
    exact At.ret1 rfl rfl ⟨_, rfl, rfl, HS⟩
  · replace H := ite_f c4 H
    refine V.condF (sb (decide_eq_false c4)) ?_
    refine V.seq ?_
    refine V.region ?_
    refine W.rd (X.move rfl) rfl rfl rfl ?_
    refine W.rd (X.nilCheck rfl) rfl rfl rfl ?_
    refine W.rd (X.fieldAddr 4 fo82_4 rfl) rfl rfl rfl ?_
    refine W.rd (X.loadAt 0 HS rfl Try.underlying3 rfl rfl rfl) rfl rfl rfl ?_
    refine W.rd (X.cmp (!(decide (a0.state = 2))) rfl rfl rfl rfl) rfl rfl rfl ?_
    refine W.rd (X.assign rfl) rfl rfl rfl ?_
    refine W.nil ?_
    refine At.next ?_
    by_cases c5 : a0.state = 2
    · replace H := ite_t c5 H
      refine V.condF (sb (n_t (decide_eq_true c5))) ?_
      refine V.skip ?_
      refine At.blockEnd ?_
      refine At.next ?_
      refine V.seq ?_
      refine V.seq ?_
      refine V.region ?_
      refine W.rd (X.move rfl) rfl rfl rfl ?_
      refine W.rd (X.nilCheck rfl) rfl rfl rfl ?_
      refine W.rd (X.fieldAddr 8 fo82_8 rfl) rfl rfl rfl ?_
      refine W.rd (X.loadAt 0 HS rfl Try.underlying74 rfl rfl rfl) rfl rfl rfl ?_
      refine W.rd (X.move rfl) rfl rfl rfl ?_
      obtain ⟨t12, A13, H⟩ := bind_s H
      replace HS := HS.re [1, 0, 2, 3, 4, 5, 6, 7] (by kernel_rfl)
      refine W.ev (Y.call Try.func69 (by kernel_rfl) rfl (vs := [Value.pointer (some ⟨b8_2, 0, none⟩), Value.slice sa1 a1.length sc1]) rfl (backlog_Log_Add.calls a0.log a1 _ w0 _ b8_2 sa1 sc1 t12 (rdC.part 6 hr1 rfl) A13 (Sep.St.tailJoin (m := [backlog_Log.at b8_2 a0.log]) (r := [blk b0 (#[Value.int .i64 a0.m, Value.int .i64 a0.t1, Value.int .i64 a0.n2, Value.int .i64 a0.size, Value.int .i64 a0.state, Value.int .i64 a0.tag, Value.int .i64 a0.tries, Value.bool a0.rejected, Value.pointer (some ⟨b8_2, 0, none⟩), Value.pointer (some ⟨b9_2, 0, none⟩), Value.pointer (some ⟨b10_2, 0, none⟩), Value.slice a11_2 a0.out.length c11_2, Value.slice a12_2 a0.inds.length c12_2, Value.int .i64 a0.sent, Value.int .i64 a0.acked, Value.int .i64 a0.lost]) 82, reorder_Order.at b9_2 a0.order, clock_Set.at b10_2 a0.timers, row 39 1 (.slice a11_2 a0.out.length c11_2) a0.out.length d11_2, tie (El.sl (El.int .u8)) d11_2 a0.out, row 3 1 (.slice a12_2 a0.inds.length c12_2) a0.inds.length (a0.inds.map (Value.int .i64)), R]) HS))) rfl rfl rfl ?_
      rintro _ w ⟨rfl, HS⟩
      replace HS := Sep.St.tailOpen (m := [backlog_Log.at b8_2 t12.2]) (r := [blk b0 (#[Value.int .i64 a0.m, Value.int .i64 a0.t1, Value.int .i64 a0.n2, Value.int .i64 a0.size, Value.int .i64 a0.state, Value.int .i64 a0.tag, Value.int .i64 a0.tries, Value.bool a0.rejected, Value.pointer (some ⟨b8_2, 0, none⟩), Value.pointer (some ⟨b9_2, 0, none⟩), Value.pointer (some ⟨b10_2, 0, none⟩), Value.slice a11_2 a0.out.length c11_2, Value.slice a12_2 a0.inds.length c12_2, Value.int .i64 a0.sent, Value.int .i64 a0.acked, Value.int .i64 a0.lost]) 82, reorder_Order.at b9_2 a0.order, clock_Set.at b10_2 a0.timers, row 39 1 (.slice a11_2 a0.out.length c11_2) a0.out.length d11_2, tie (El.sl (El.int .u8)) d11_2 a0.out, row 3 1 (.slice a12_2 a0.inds.length c12_2) a0.inds.length (a0.inds.map (Value.int .i64)), R]) HS
      refine W.rd (X.assign rfl) rfl rfl rfl ?_
      refine W.nil ?_
      refine At.next ?_
      refine V.seq ?_
      refine V.region ?_
      refine W.rd (X.move rfl) rfl rfl rfl ?_
      refine W.rd (X.cmp (!(decide (t12.1 = 0))) rfl rfl rfl rfl) rfl rfl rfl ?_
      refine W.nil ?_
      refine At.next ?_
      by_cases c14 : t12.1 = 0
      · replace H := ite_t c14 H
        refine V.condF (sb (n_t (decide_eq_true c14))) ?_
        refine V.skip ?_
        refine At.next ?_
        refine V.seq ?_
        refine V.region ?_
        refine W.rd (X.move rfl) rfl rfl rfl ?_
        refine W.rd (X.nilCheck rfl) rfl rfl rfl ?_
        refine W.rd (X.fieldAddr 13 fo82_13 rfl) rfl rfl rfl ?_
        refine W.rd (X.loadAt 1 HS rfl Try.underlying3 rfl rfl rfl) rfl rfl rfl ?_
        refine W.rd (X.add rfl rfl) rfl rfl rfl ?_
        refine W.rd (X.nilCheck rfl) rfl rfl rfl ?_
        refine W.rd (X.fieldAddr 13 fo82_13 rfl) rfl rfl rfl ?_
        refine W.ev_none (Y.storeAt 1 HS rfl inf3 rfl rfl rfl rfl rfl rfl) rfl rfl ?_
        rintro _ w HS
        refine W.nil ?_
        refine At.next ?_
        refine V.seq ?_
        refine V.region ?_
        refine W.rd (X.move rfl) rfl rfl rfl ?_
        replace HS := HS.re [1, 0, 2, 3, 4, 5, 6, 7] (by kernel_rfl)
        replace HS := arq_Arq.close (({ m := a0.m, t1 := a0.t1, n2 := a0.n2, size := a0.size, state := a0.state, tag := a0.tag, tries := a0.tries, rejected := a0.rejected, log := t12.2, order := a0.order, timers := a0.timers, out := a0.out, inds := a0.inds, sent := w64 (a0.sent + 1), acked := a0.acked, lost := a0.lost } : arq_Arq)) trivial HS
        obtain ⟨t15, A16, H⟩ := bind_s H
        refine W.ev (Y.call Try.func70 (by kernel_rfl) rfl (vs := [Value.pointer (some ⟨b0, 0, none⟩)]) rfl (arq_Arq_pump.calls k ({ m := a0.m, t1 := a0.t1, n2 := a0.n2, size := a0.size, state := a0.state, tag := a0.tag, tries := a0.tries, rejected := a0.rejected, log := t12.2, order := a0.order, timers := a0.timers, out := a0.out, inds := a0.inds, sent := w64 (a0.sent + 1), acked := a0.acked, lost := a0.lost } : arq_Arq) _ w0 _ b0 t15  A16 (Sep.St.tailJoin (m := [arq_Arq.at b0 (({ m := a0.m, t1 := a0.t1, n2 := a0.n2, size := a0.size, state := a0.state, tag := a0.tag, tries := a0.tries, rejected := a0.rejected, log := t12.2, order := a0.order, timers := a0.timers, out := a0.out, inds := a0.inds, sent := w64 (a0.sent + 1), acked := a0.acked, lost := a0.lost } : arq_Arq))]) (r := [R]) HS))) rfl rfl rfl ?_
        rintro _ w ⟨rfl, HS⟩
        replace HS := Sep.St.tailOpen (m := [arq_Arq.at b0 t15]) (r := [R]) HS
        refine W.nil ?_
        refine At.next ?_
        refine V.seq ?_
        refine V.region ?_
        refine W.rd (X.assign rfl) rfl rfl rfl ?_
        refine W.nil ?_
        refine At.next ?_
        refine V.ret ?_
        cases H
        exact At.ret1 rfl rfl ⟨_, rfl, rfl, HS⟩
      · replace H := ite_f c14 H
        refine V.condT (sb (n_f (decide_eq_false c14))) ?_
        refine V.seq ?_
        refine V.region ?_
        refine W.rd (X.move rfl) rfl rfl rfl ?_
        refine W.rd (X.assign rfl) rfl rfl rfl ?_
        refine W.nil ?_
        refine At.next ?_
        refine V.ret ?_
        refine At.thenRet ?_
        replace HS := HS.re [1, 0, 2, 3, 4, 5, 6, 7] (by kernel_rfl)
        replace HS := arq_Arq.close ({ m := a0.m, t1 := a0.t1, n2 := a0.n2, size := a0.size, state := a0.state, tag := a0.tag, tries := a0.tries, rejected := a0.rejected, log := t12.2, order := a0.order, timers := a0.timers, out := a0.out, inds := a0.inds, sent := a0.sent, acked := a0.acked, lost := a0.lost } : arq_Arq) trivial HS
        cases H
        exact At.ret1 rfl rfl ⟨_, rfl, rfl, HS⟩
    · replace H := ite_f c5 H
      refine V.condT (sb (n_f (decide_eq_false c5))) ?_
      refine V.seq ?_
      refine V.region ?_
      refine W.rd (X.assign rfl) rfl rfl rfl ?_
      refine W.nil ?_
      refine At.next ?_
      refine V.ret ?_
      refine At.blockRet ?_
      refine At.thenRet ?_
      replace HS := arq_Arq.close a0 trivial HS
      cases H
      exact At.ret1 rfl rfl ⟨_, rfl, rfl, HS⟩

/-! ### (*signalman/arq.Arq).Again: function 38 -/
def arq_Arq_Again.f (k : Nat) (a0 : arq_Arq) : Option arq_Arq := (if a0.state = 2 then ((arq_Arq_resend.f k a0).bind fun t4 => some t4) else some a0)
set_option maxRecDepth 100000 in
set_option maxHeartbeats 4000000 in
theorem arq_Arq_Again.calls (k : Nat) (a0 : arq_Arq) (R : As) (w0 w : World) (b0 : Nat) (r : arq_Arq)  (H : arq_Arq_Again.f k a0 = some r) (HS : Sep.St [arq_Arq.at b0 a0, R] w0 w) : Calls Try.prog 38 #[Value.pointer (some ⟨b0, 0, none⟩)] w (Ret fun u w => u = Value.tuple #[] ∧ Sep.St [arq_Arq.at b0 r, R] w0 w) := by
  unfold arq_Arq_Again.f at H
  refine calls_enter Try.func38 rfl rfl ?_
  have H : _ = some r := H
  refine V.seq ?_
  refine V.region ?_
  refine W.rd (X.move rfl) rfl rfl rfl ?_
  refine W.rd (X.nilCheck rfl) rfl rfl rfl ?_
  obtain ⟨b8_1, b9_1, b10_1, a11_1, c11_1, d11_1, a12_1, c12_1, hi2, HS⟩ := arq_Arq.open HS
  refine W.rd (X.fieldAddr 4 fo82_4 rfl) rfl rfl rfl ?_
  refine W.rd (X.loadAt 0 HS rfl Try.underlying3 rfl rfl rfl) rfl rfl rfl ?_
  refine W.rd (X.cmp (decide (a0.state = 2)) rfl rfl rfl rfl) rfl rfl rfl ?_
  refine W.nil ?_
  refine At.next ?_
  by_cases c3 : a0.state = 2
  · replace H := ite_t c3 H
    refine V.condT (sb (decide_eq_true c3)) ?_
    refine V.region ?_
    refine W.rd (X.move rfl) rfl rfl rfl ?_
    replace HS := arq_Arq.close a0 trivial HS
    obtain ⟨t4, A5, H⟩ := bind_s H
    refine W.ev (Y.call Try.func71 (by kernel_rfl) rfl (vs := [Value.pointer (some ⟨b0, 0, none⟩)]) rfl (arq_Arq_resend.calls k a0 _ w0 _ b0 t4  A5 (Sep.St.tailJoin (m := [arq_Arq.at b0 a0]) (r := [R]) HS))) rfl rfl rfl ?_
    rintro _ w ⟨rfl, HS⟩
    replace HS := Sep.St.tailOpen (m := [arq_Arq.at b0 t4]) (r := [R]) HS
    refine W.nil ?_
    cases H
    exact At.end0 rfl ⟨_, rfl, rfl, HS⟩
  · replace H := ite_f c3 H
    refine V.condF (sb (decide_eq_false c3)) ?_
    refine V.skip ?_
    replace HS := arq_Arq.close a0 trivial HS
    cases H
    exact At.end0 rfl ⟨_, rfl, rfl, HS⟩
end Go.Proofs.Ytnlcafmkmfnobaa

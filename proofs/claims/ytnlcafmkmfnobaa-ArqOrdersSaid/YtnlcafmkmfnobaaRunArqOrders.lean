/- ArqOrders: the functions that its law reaches, as plain functions, and that the machine's calls come to what these say. Conditions: those that stand at each. -/
import Derived.Test.YtnlcafmkmfnobaaRunArqOrdersP2
set_option linter.all false
set_option maxRecDepth 100000
set_option maxHeartbeats 4000000
set_option synthInstance.maxSize 100000
set_option synthInstance.maxHeartbeats 1000000
namespace Go.Proofs.Ytnlcafmkmfnobaa
open Go.RowKit Go.Proofs.Ytnlcafmkmfnobaa.Sep Go.Proofs.Ytnlcafmkmfnobaa.Walk
mutual
def signalmanlaw15_pair_collect.l0 : Nat → Int → signalmanlaw15_pair → Option signalmanlaw15_pair
 | 0, _, _ => none
 | k + 1, x2, x3 => (if x2 < 2 then (if 0 ≤ x2 ∧ x2 < 2 then (if x2 = 0 then ((arq_Arq_Output.f x3.a.1).bind fun t84 => (if (x3.way.1.length : Int) + t84.1.length ≤ 1099511627776 then (signalmanlaw15_pair_collect.j1 k x2 (signalmanlaw15_pair_collect.l0 k) ({ a := (t84.2, x3.a.2), way := (x3.way.1 ++ t84.1, x3.way.2), heard := (x3.heard.1, x3.heard.2), said := (x3.said.1, x3.said.2), downs := x3.downs } : signalmanlaw15_pair)) else none)) else ((arq_Arq_Output.f x3.a.2).bind fun t90 => (if (x3.way.2.length : Int) + t90.1.length ≤ 1099511627776 then (signalmanlaw15_pair_collect.j1 k x2 (signalmanlaw15_pair_collect.l0 k) ({ a := (x3.a.1, t90.2), way := (x3.way.1, x3.way.2 ++ t90.1), heard := (x3.heard.1, x3.heard.2), said := (x3.said.1, x3.said.2), downs := x3.downs } : signalmanlaw15_pair)) else none))) else none) else some x3)
def signalmanlaw15_pair_collect.l2 : Nat → Int → (Int → signalmanlaw15_pair → Option signalmanlaw15_pair) → signalmanlaw15_pair → Option signalmanlaw15_pair
 | 0, _, _, _ => none
 | k + 1, x2, Lq9, x11 => (if 0 ≤ x2 ∧ x2 < 2 then (if x2 = 0 then ((arq_Arq_Recv.f x11.a.1).bind fun t75 => (signalmanlaw15_pair_collect.j3 k x2 Lq9 (signalmanlaw15_pair_collect.l2 k x2 Lq9) ({ a := (t75.2.2, x11.a.2), way := (x11.way.1, x11.way.2), heard := (x11.heard.1, x11.heard.2), said := (x11.said.1, x11.said.2), downs := x11.downs } : signalmanlaw15_pair) t75.1 t75.2.1)) else ((arq_Arq_Recv.f x11.a.2).bind fun t78 => (signalmanlaw15_pair_collect.j3 k x2 Lq9 (signalmanlaw15_pair_collect.l2 k x2 Lq9) ({ a := (x11.a.1, t78.2.2), way := (x11.way.1, x11.way.2), heard := (x11.heard.1, x11.heard.2), said := (x11.said.1, x11.said.2), downs := x11.downs } : signalmanlaw15_pair) t78.1 t78.2.1))) else none)
def signalmanlaw15_pair_collect.l5 : Nat → Int → (Int → signalmanlaw15_pair → Option signalmanlaw15_pair) → (List Int) → Int → signalmanlaw15_pair → Option signalmanlaw15_pair
 | 0, _, _, _, _, _ => none
 | k + 1, x2, Lq48, x46, x51, x52 => (if x51 < (x46.length : Int) then (if 0 ≤ x51 ∧ x51 < (x46.length : Int) then (if (x46.getD x51.toNat 0) = 1 then (signalmanlaw15_pair_collect.l5 k x2 Lq48 x46 (w64 (x51 + 1)) x52) else (signalmanlaw15_pair_collect.l5 k x2 Lq48 x46 (w64 (x51 + 1)) ({ a := (x52.a.1, x52.a.2), way := (x52.way.1, x52.way.2), heard := (x52.heard.1, x52.heard.2), said := (x52.said.1, x52.said.2), downs := w64 (x52.downs + 1) } : signalmanlaw15_pair))) else none) else (Lq48 (w64 (x2 + 1)) x52))
def signalmanlaw15_pair_collect.j4 (k : Nat) (x2 : Int) (Lq48 : Int → signalmanlaw15_pair → Option signalmanlaw15_pair) (x43 : signalmanlaw15_pair) (x46 : List Int) : Option signalmanlaw15_pair := (signalmanlaw15_pair_collect.l5 k x2 Lq48 x46 0 x43)
def signalmanlaw15_pair_collect.j3 (k : Nat) (x2 : Int) (Lq20 : Int → signalmanlaw15_pair → Option signalmanlaw15_pair) (Lq22 : signalmanlaw15_pair → Option signalmanlaw15_pair) (x14 : signalmanlaw15_pair) (x17 : List Int) (x18 : Bool) : Option signalmanlaw15_pair := (if x18 = true then (if 0 ≤ x2 ∧ x2 < 2 then (if x2 = 0 then (if (x14.heard.1.length : Int) + (([x17] : List (List Int))).length ≤ 1099511627776 then (Lq22 ({ a := (x14.a.1, x14.a.2), way := (x14.way.1, x14.way.2), heard := (x14.heard.1 ++ ([x17] : List (List Int)), x14.heard.2), said := (x14.said.1, x14.said.2), downs := x14.downs } : signalmanlaw15_pair)) else none) else (if (x14.heard.2.length : Int) + (([x17] : List (List Int))).length ≤ 1099511627776 then (Lq22 ({ a := (x14.a.1, x14.a.2), way := (x14.way.1, x14.way.2), heard := (x14.heard.1, x14.heard.2 ++ ([x17] : List (List Int))), said := (x14.said.1, x14.said.2), downs := x14.downs } : signalmanlaw15_pair)) else none)) else none) else (if 0 ≤ x2 ∧ x2 < 2 then (if x2 = 0 then ((arq_Arq_Inds.f x14.a.1).bind fun t66 => (signalmanlaw15_pair_collect.j4 k x2 Lq20 ({ a := (t66.2, x14.a.2), way := (x14.way.1, x14.way.2), heard := (x14.heard.1, x14.heard.2), said := (x14.said.1, x14.said.2), downs := x14.downs } : signalmanlaw15_pair) t66.1)) else ((arq_Arq_Inds.f x14.a.2).bind fun t69 => (signalmanlaw15_pair_collect.j4 k x2 Lq20 ({ a := (x14.a.1, t69.2), way := (x14.way.1, x14.way.2), heard := (x14.heard.1, x14.heard.2), said := (x14.said.1, x14.said.2), downs := x14.downs } : signalmanlaw15_pair) t69.1))) else none))
def signalmanlaw15_pair_collect.j1 (k : Nat) (x2 : Int) (Lq9 : Int → signalmanlaw15_pair → Option signalmanlaw15_pair) (x7 : signalmanlaw15_pair) : Option signalmanlaw15_pair := (signalmanlaw15_pair_collect.l2 k x2 Lq9 x7)
end
def signalmanlaw15_pair_collect.f (k : Nat) (a0 : signalmanlaw15_pair) : Option signalmanlaw15_pair := (signalmanlaw15_pair_collect.l0 k 0 a0)
theorem signalmanlaw15_pair_collect.calls {k : Nat} {a0 : signalmanlaw15_pair} {R : As} {w0 w : World} {b0 : Nat} {r : signalmanlaw15_pair} (H : signalmanlaw15_pair_collect.f k a0 = some r) (HS : Sep.St [signalmanlaw15_pair.at b0 a0, R] w0 w)  : Calls Try.prog 32 #[Value.pointer (some ⟨b0, 0, none⟩)] w (Ret fun u w => u = Value.tuple #[] ∧ Sep.St [signalmanlaw15_pair.at b0 r, R] w0 w) := by
 unfold signalmanlaw15_pair_collect.f at H
 refine calls_enter Try.func32 rfl rfl ?_
 have H : _ = some r := H
 refine V.seq (V.region (W.as rfl (W.nx (V.block (V.loop (σ := Int × signalmanlaw15_pair) (fun kq (st : Int × signalmanlaw15_pair) w => match st with | (x2, x3) => Sep.St [signalmanlaw15_pair.at b0 x3, R] w0 w ∧ signalmanlaw15_pair_collect.l0 kq x2 x3 = some r ∧ kq ≤ k) (fun st => match st with | (x2, x3) => [(0, Value.pointer (some ⟨b0, 0, none⟩)), (2, Value.int .i64 x2)]) k (0, a0) ⟨rfl, rfl, trivial⟩ ⟨HS, H, Nat.le_refl _⟩ ?_)))))
 rintro kq4 ⟨x2, x3⟩ w ⟨HS, H, hk5⟩
 cases kq4 with
 | zero => exact absurd H (by simp [signalmanlaw15_pair_collect.l0])
 | succ kq4 =>
  simp only [signalmanlaw15_pair_collect.l0] at H
  refine V.seq (V.seq (V.region (W.mv rfl (W.r (X.cmp (decide (x2 < 2)) rfl rfl rfl rfl) rfl (W.nx ?_)))))
  by_cases c6 : x2 < 2
  ·replace H := ite_t c6 H
   refine V.condT (sb (decide_eq_true c6)) (V.skip (At.next (V.seq (V.block (V.meet (σ := signalmanlaw15_pair) (fun st w => match st with | x7 => Sep.St [signalmanlaw15_pair.at b0 x7, R] w0 w ∧ ∃ kf8 kl10, kf8 ≤ kq4 ∧ kl10 ≤ kq4 ∧ signalmanlaw15_pair_collect.j1 kf8 x2 (signalmanlaw15_pair_collect.l0 kl10) x7 = some r) (fun st => match st with | x7 => [(0, Value.pointer (some ⟨b0, 0, none⟩)), (2, Value.int .i64 x2)]) ?_ ?_)))))
   ·obtain ⟨b0_80, b1_80, a2_80, c2_80, d2_80, a3_80, c3_80, d3_80, a4_80, c4_80, a5_80, c5_80, a6_80, c6_80, a7_80, c7_80, hi81, HS⟩ := signalmanlaw15_pair.open HS
    obtain ⟨c82, H⟩ := ite_n H
    by_cases c83 : x2 = 0
    ·replace H := ite_t c83 H
     refine V.dr [14, 15, 19] [18] [(11, Value.pointer (some ⟨b0, 0, none⟩)), (12, Value.int .i64 x2), (13, Value.pointer (some ⟨b0, 0, none⟩)), (14, Value.int .i64 x2), (15, Value.pointer (some ⟨b0, 0, none⟩)), (16, Value.pointer (some ⟨b0, 0 + 2, none⟩)), (17, Value.pointer (some ⟨b0, 0 + 2 + 0 * 1, none⟩)), (18, Value.slice a2_80 x3.way.1.length c2_80), (19, Value.pointer (some ⟨b0, 0, none⟩)), (20, Value.int .i64 x2), (21, Value.pointer (some ⟨b0, 0, none⟩)), (22, Value.pointer (some ⟨b0, 0 + 0, none⟩)), (23, Value.pointer (some ⟨b0, 0 + 0 + 0 * 1, none⟩)), (24, Value.pointer (some ⟨b0_80, 0, none⟩)), (27, Value.pointer (some ⟨b0, 0, none⟩)), (28, Value.pointer (some ⟨b0, 0 + 2, none⟩))] mo HS ?_
     refine T.ev [(24, _)] [18] [8, 9, 10, 11, 12, 13] ⟨rfl, trivial⟩ ⟨.mv 0, .mv 2, .mv 0, .mv 2, .nc 13, .fa 15 fo59_1, .n2 14 16 rfl rfl rfl (fun w HS => X.indexArK 0 c83 Try.underlying55 inf30 rfl rfl c82.1 c82.2), .ld 17 0 Try.underlying30, .mv 0, .mv 2, .nc 19, .fa 21 fo59_0, .n2 20 22 rfl rfl rfl (fun w HS => X.indexArK 0 c83 Try.underlying54 inf26 rfl rfl c82.1 c82.2), .ld 23 0 Try.underlying26, .nc 11, .fa 27 fo59_1, trivial⟩ rfl (fun w HS => ?_)
     obtain ⟨t84, A85, H⟩ := bind_s H
     replace HS := HS.pm [1, 0, 2, 3, 4, 5, 6, 7, 8, 9, 10, 11]
     refine ⟨_, Y.cl Try.func20 (arq_Arq_Output.calls A85 HS.j1), ?_⟩
     rintro _ w ⟨at84_0, ct84_0, dt84_0, rfl, HS⟩
     replace HS := HS.o3
     refine T.nw HS ?_
     refine T.ev [(18, _), (25, _)] [] [2, 3, 4, 5, 6, 7] ⟨rfl, rfl, trivial⟩ ⟨.mv 0, .mv 2, .mv 0, .mv 2, .nc 13, .fa 15 fo59_1, .n2 14 16 rfl rfl rfl (fun w HS => X.indexArK 0 c83 Try.underlying55 inf30 rfl rfl c82.1 c82.2), .ld 17 3 Try.underlying30, .nc 11, .fa 27 fo59_1, trivial⟩ rfl (fun w HS => ?_)
     obtain ⟨c86, H⟩ := ite_n H
     refine ⟨_, Y.app (xs := x3.way.1) (ys := t84.1) 5 Try.underlying30 ap39 rfl (by decide) HS rfl rfl rfl (rdC.at 0 row_rd HS rfl) (St.tie_one 1 HS rfl) (by omega) (by omega), ?_⟩
     rintro _ w ⟨ra87, rc88, rfl, HS⟩
     replace HS := HS.fr 6
     replace HS := St.tie_app 2 HS rfl
     refine T.nm [(26, Value.slice ra87 (x3.way.1 ++ t84.1).length rc88), (29, Value.pointer (some ⟨b0, 0 + 2 + 0 * 1, none⟩))] HS ⟨.inl ⟨rfl, rfl⟩, ⟨.inr ⟨by decide, rfl⟩, trivial⟩⟩ ?_
     refine T.ev [(26, _), (29, _)] [] [0, 1, 16, 17, 18] ⟨rfl, rfl, trivial⟩ ⟨.mv 0, .mv 2, .nc 11, .fa 27 fo59_1, .n2 12 28 rfl rfl rfl (fun w HS => X.indexArK 0 c83 Try.underlying55 inf30 rfl rfl c82.1 c82.2), trivial⟩ rfl (fun w HS => ?_)
     refine ⟨_, Y.sto 4 2 HS inf30 rfl rfl rfl rfl rfl rfl, ?_⟩
     rintro _ w HS
     refine T.nn HS ?_
     refine T.fn [(0, _), (2, _)] ⟨rfl, rfl, trivial⟩ trivial (fun w HS => ?_)
     replace HS := HS.pm [4, 3, 5, 6, 0, 7, 8, 9, 10, 11, 12, 1, 2, 13]
     replace HS := signalmanlaw15_pair.close trivial HS
     replace HS := HS.pk [0, 3] [1, 2]
     exact At.meet (({ a := (t84.2, x3.a.2), way := (x3.way.1 ++ t84.1, x3.way.2), heard := (x3.heard.1, x3.heard.2), said := (x3.said.1, x3.said.2), downs := x3.downs } : signalmanlaw15_pair)) ⟨rfl, rfl, trivial⟩ ⟨HS, kq4, kq4, by omega, by omega, H⟩
    ·replace H := ite_f c83 H
     have hk89 : x2 = 1 := by omega
     refine V.dr [14, 15, 19] [18] [(11, Value.pointer (some ⟨b0, 0, none⟩)), (12, Value.int .i64 x2), (13, Value.pointer (some ⟨b0, 0, none⟩)), (14, Value.int .i64 x2), (15, Value.pointer (some ⟨b0, 0, none⟩)), (16, Value.pointer (some ⟨b0, 0 + 2, none⟩)), (17, Value.pointer (some ⟨b0, 0 + 2 + 1 * 1, none⟩)), (18, Value.slice a3_80 x3.way.2.length c3_80), (19, Value.pointer (some ⟨b0, 0, none⟩)), (20, Value.int .i64 x2), (21, Value.pointer (some ⟨b0, 0, none⟩)), (22, Value.pointer (some ⟨b0, 0 + 0, none⟩)), (23, Value.pointer (some ⟨b0, 0 + 0 + 1 * 1, none⟩)), (24, Value.pointer (some ⟨b1_80, 0, none⟩)), (27, Value.pointer (some ⟨b0, 0, none⟩)), (28, Value.pointer (some ⟨b0, 0 + 2, none⟩))] mo HS ?_
     refine T.ev [(24, _)] [18] [8, 9, 10, 11, 12, 13] ⟨rfl, trivial⟩ ⟨.mv 0, .mv 2, .mv 0, .mv 2, .nc 13, .fa 15 fo59_1, .n2 14 16 rfl rfl rfl (fun w HS => X.indexArK 1 hk89 Try.underlying55 inf30 rfl rfl c82.1 c82.2), .ld 17 0 Try.underlying30, .mv 0, .mv 2, .nc 19, .fa 21 fo59_0, .n2 20 22 rfl rfl rfl (fun w HS => X.indexArK 1 hk89 Try.underlying54 inf26 rfl rfl c82.1 c82.2), .ld 23 0 Try.underlying26, .nc 11, .fa 27 fo59_1, trivial⟩ rfl (fun w HS => ?_)
     obtain ⟨t90, A91, H⟩ := bind_s H
     replace HS := HS.pm [2, 0, 1, 3, 4, 5, 6, 7, 8, 9, 10, 11]
     refine ⟨_, Y.cl Try.func20 (arq_Arq_Output.calls A91 HS.j1), ?_⟩
     rintro _ w ⟨at90_0, ct90_0, dt90_0, rfl, HS⟩
     replace HS := HS.o3
     refine T.nw HS ?_
     refine T.ev [(18, _), (25, _)] [] [2, 3, 4, 5, 6, 7] ⟨rfl, rfl, trivial⟩ ⟨.mv 0, .mv 2, .mv 0, .mv 2, .nc 13, .fa 15 fo59_1, .n2 14 16 rfl rfl rfl (fun w HS => X.indexArK 1 hk89 Try.underlying55 inf30 rfl rfl c82.1 c82.2), .ld 17 3 Try.underlying30, .nc 11, .fa 27 fo59_1, trivial⟩ rfl (fun w HS => ?_)
     obtain ⟨c92, H⟩ := ite_n H
     refine ⟨_, Y.app (xs := x3.way.2) (ys := t90.1) 7 Try.underlying30 ap39 rfl (by decide) HS rfl rfl rfl (rdC.at 0 row_rd HS rfl) (St.tie_one 1 HS rfl) (by omega) (by omega), ?_⟩
     rintro _ w ⟨ra93, rc94, rfl, HS⟩
     replace HS := HS.fr 8
     replace HS := St.tie_app 2 HS rfl
     refine T.nm [(26, Value.slice ra93 (x3.way.2 ++ t90.1).length rc94), (29, Value.pointer (some ⟨b0, 0 + 2 + 1 * 1, none⟩))] HS ⟨.inl ⟨rfl, rfl⟩, ⟨.inr ⟨by decide, rfl⟩, trivial⟩⟩ ?_
     refine T.ev [(26, _), (29, _)] [] [0, 1, 16, 17, 18] ⟨rfl, rfl, trivial⟩ ⟨.mv 0, .mv 2, .nc 11, .fa 27 fo59_1, .n2 12 28 rfl rfl rfl (fun w HS => X.indexArK 1 hk89 Try.underlying55 inf30 rfl rfl c82.1 c82.2), trivial⟩ rfl (fun w HS => ?_)
     refine ⟨_, Y.sto 4 3 HS inf30 rfl rfl rfl rfl rfl rfl, ?_⟩
     rintro _ w HS
     refine T.nn HS ?_
     refine T.fn [(0, _), (2, _)] ⟨rfl, rfl, trivial⟩ trivial (fun w HS => ?_)
     replace HS := HS.pm [4, 5, 3, 6, 7, 8, 0, 9, 10, 11, 12, 1, 2, 13]
     replace HS := signalmanlaw15_pair.close trivial HS
     replace HS := HS.pk [0, 3] [1, 2]
     exact At.meet (({ a := (x3.a.1, t90.2), way := (x3.way.1, x3.way.2 ++ t90.1), heard := (x3.heard.1, x3.heard.2), said := (x3.said.1, x3.said.2), downs := x3.downs } : signalmanlaw15_pair)) ⟨rfl, rfl, trivial⟩ ⟨HS, kq4, kq4, by omega, by omega, H⟩
   ·rintro x7 w ⟨HS, kf8, kl10, hkkf8, hkkl10, H⟩
    unfold signalmanlaw15_pair_collect.j1 at H
    refine V.seq (V.block (V.loop (σ := signalmanlaw15_pair) (fun kq (st : signalmanlaw15_pair) w => match st with | x11 => Sep.St [signalmanlaw15_pair.at b0 x11, R] w0 w ∧ signalmanlaw15_pair_collect.l2 kq x2 (signalmanlaw15_pair_collect.l0 kl10) x11 = some r ∧ kq ≤ kf8) (fun st => match st with | x11 => [(0, Value.pointer (some ⟨b0, 0, none⟩)), (2, Value.int .i64 x2)]) kf8 x7 ⟨rfl, rfl, trivial⟩ ⟨HS, H, Nat.le_refl _⟩ ?_))
    rintro kq12 x11 w ⟨HS, H, hk13⟩
    cases kq12 with
    | zero => exact absurd H (by simp [signalmanlaw15_pair_collect.l2])
    | succ kq12 =>
     simp only [signalmanlaw15_pair_collect.l2] at H
     refine V.block (V.meet (σ := signalmanlaw15_pair × Option Addr × Nat × List Int × Bool) (fun st w => match st with | (x14, ra15, rc16, x17, x18) => Sep.St [fsl 1 (.slice ra15 x17.length rc16) x17.length (x17.map (Value.int .u8)), signalmanlaw15_pair.at b0 x14, R] w0 w ∧ ∃ kf19 kl21 kl23, kf19 ≤ kq12 ∧ kl21 ≤ kl10 ∧ kl23 ≤ kq12 ∧ signalmanlaw15_pair_collect.j3 kf19 x2 (signalmanlaw15_pair_collect.l0 kl21) (signalmanlaw15_pair_collect.l2 kl23 x2 (signalmanlaw15_pair_collect.l0 kl10)) x14 x17 x18 = some r) (fun st => match st with | (x14, ra15, rc16, x17, x18) => [(0, Value.pointer (some ⟨b0, 0, none⟩)), (2, Value.int .i64 x2), (3, Value.slice ra15 x17.length rc16), (4, Value.bool x18)]) ?_ ?_)
     ·refine V.region (W.mv rfl (W.mv rfl (W.nc rfl ?_)))
      obtain ⟨b0_71, b1_71, a2_71, c2_71, d2_71, a3_71, c3_71, d3_71, a4_71, c4_71, a5_71, c5_71, a6_71, c6_71, a7_71, c7_71, hi72, HS⟩ := signalmanlaw15_pair.open HS
      refine W.fa fo59_0 rfl ?_
      obtain ⟨c73, H⟩ := ite_n H
      by_cases c74 : x2 = 0
      ·replace H := ite_t c74 H
       refine W.r (X.indexArK 0 c74 Try.underlying54 inf26 rfl rfl c73.1 c73.2) rfl (W.ld 0 HS Try.underlying26 rfl rfl rfl rfl ?_)
       obtain ⟨t75, A76, H⟩ := bind_s H
       replace HS := HS.pm [1, 0, 2, 3, 4, 5, 6, 7, 8, 9, 10, 11]
       refine W.e (Y.cl Try.func31 (arq_Arq_Recv.calls A76 HS.j1)) rfl ?_
       rintro _ w ⟨at75_0, ct75_0, rfl, HS⟩
       replace HS := HS.o2
       refine W.mv rfl (W.r (X.extract rfl rfl) rfl (W.r (X.extract rfl rfl) rfl (W.as rfl (W.as rfl (W.nil ?_)))))
       replace HS := HS.pm [2, 1, 3, 4, 5, 6, 7, 8, 9, 10, 11, 0, 12]
       replace HS := signalmanlaw15_pair.close trivial HS
       replace HS := HS.pk [1, 0, 2] []
       exact At.meet (({ a := (t75.2.2, x11.a.2), way := (x11.way.1, x11.way.2), heard := (x11.heard.1, x11.heard.2), said := (x11.said.1, x11.said.2), downs := x11.downs } : signalmanlaw15_pair), at75_0, ct75_0, t75.1, t75.2.1) ⟨rfl, rfl, rfl, rfl, trivial⟩ ⟨HS, kq12, kl10, kq12, by omega, by omega, by omega, H⟩
      ·replace H := ite_f c74 H
       have hk77 : x2 = 1 := by omega
       refine W.r (X.indexArK 1 hk77 Try.underlying54 inf26 rfl rfl c73.1 c73.2) rfl (W.ld 0 HS Try.underlying26 rfl rfl rfl rfl ?_)
       obtain ⟨t78, A79, H⟩ := bind_s H
       replace HS := HS.pm [2, 0, 1, 3, 4, 5, 6, 7, 8, 9, 10, 11]
       refine W.e (Y.cl Try.func31 (arq_Arq_Recv.calls A79 HS.j1)) rfl ?_
       rintro _ w ⟨at78_0, ct78_0, rfl, HS⟩
       replace HS := HS.o2
       refine W.mv rfl (W.r (X.extract rfl rfl) rfl (W.r (X.extract rfl rfl) rfl (W.as rfl (W.as rfl (W.nil ?_)))))
       replace HS := HS.pm [2, 3, 1, 4, 5, 6, 7, 8, 9, 10, 11, 0, 12]
       replace HS := signalmanlaw15_pair.close trivial HS
       replace HS := HS.pk [1, 0, 2] []
       exact At.meet (({ a := (x11.a.1, t78.2.2), way := (x11.way.1, x11.way.2), heard := (x11.heard.1, x11.heard.2), said := (x11.said.1, x11.said.2), downs := x11.downs } : signalmanlaw15_pair), at78_0, ct78_0, t78.1, t78.2.1) ⟨rfl, rfl, rfl, rfl, trivial⟩ ⟨HS, kq12, kl10, kq12, by omega, by omega, by omega, H⟩
     ·rintro ⟨x14, ra15, rc16, x17, x18⟩ w ⟨HS, kf19, kl21, kl23, hkkf19, hkkl21, hkkl23, H⟩
      unfold signalmanlaw15_pair_collect.j3 at H
      refine V.seq (V.seq (V.region (W.mv rfl (W.r (X.not rfl) rfl (W.nx ?_)))))
      by_cases c25 : x18 = true
      ·replace H := ite_t c25 H
       refine V.condF (sb (n_t c25)) (V.skip (At.next ?_))
       replace HS := HS.fr 1
       obtain ⟨b0_26, b1_26, a2_26, c2_26, d2_26, a3_26, c3_26, d3_26, a4_26, c4_26, a5_26, c5_26, a6_26, c6_26, a7_26, c7_26, hi27, HS⟩ := signalmanlaw15_pair.open HS
       obtain ⟨c28, H⟩ := ite_n H
       by_cases c29 : x2 = 0
       ·replace H := ite_t c29 H
        refine V.dr [10, 11, 15] [14] [(42, Value.pointer (some ⟨b0, 0, none⟩)), (43, Value.int .i64 x2), (44, Value.pointer (some ⟨b0, 0, none⟩)), (45, Value.int .i64 x2), (46, Value.pointer (some ⟨b0, 0, none⟩)), (47, Value.pointer (some ⟨b0, 0 + 4, none⟩)), (48, Value.pointer (some ⟨b0, 0 + 4 + 0 * 1, none⟩)), (49, Value.slice a4_26 x14.heard.1.length c4_26), (50, Value.slice ra15 x17.length rc16), (51, Value.string (strOf x17)), (54, Value.pointer (some ⟨b0, 0, none⟩)), (55, Value.pointer (some ⟨b0, 0 + 4, none⟩))] mo HS ?_
        refine T.ev [(51, _)] [14] [8, 9] ⟨rfl, trivial⟩ ⟨.mv 0, .mv 2, .mv 0, .mv 2, .nc 44, .fa 46 fo59_2, .n2 45 47 rfl rfl rfl (fun w HS => X.indexArK 0 c29 Try.underlying57 inf56 rfl rfl c28.1 c28.2), .ld 48 0 Try.underlying56, .mv 3, .n1 50 rfl rfl (fun w HS => X.bytesStr Try.underlying39 Try.underlying5 Try.underlying9 rfl (rdC.at 11 fsl.rd HS rfl)), .nc 42, .fa 54 fo59_2, trivial⟩ rfl (fun w HS => ?_)
        refine ⟨_, Y.ls (e := 9) (fun x => Value.string (strOf x)) ([x17] : List (List Int)) HS rfl rfl (fun _ => by kernel_rfl), ?_⟩
        rintro _ w ⟨lb32, rfl, HS⟩
        refine T.nw HS ?_
        refine T.ev [(49, _), (52, _)] [] [2, 3, 4, 5, 6, 7] ⟨rfl, rfl, trivial⟩ ⟨.mv 0, .mv 2, .mv 0, .mv 2, .nc 44, .fa 46 fo59_2, .n2 45 47 rfl rfl rfl (fun w HS => X.indexArK 0 c29 Try.underlying57 inf56 rfl rfl c28.1 c28.2), .ld 48 1 Try.underlying56, .nc 42, .fa 54 fo59_2, trivial⟩ rfl (fun w HS => ?_)
        obtain ⟨c33, H⟩ := ite_n H
        refine ⟨_, Y.appF (fun x => Value.string (strOf x)) (fun _ => rfl) 8 Try.underlying56 ap9 rfl HS rfl rfl rfl (rdC.at 0 row_rd HS rfl) (by omega) (by omega), ?_⟩
        rintro _ w ⟨ra34, rc35, rfl, HS⟩
        refine T.nm [(53, Value.slice ra34 (x14.heard.1 ++ ([x17] : List (List Int))).length rc35), (56, Value.pointer (some ⟨b0, 0 + 4 + 0 * 1, none⟩))] HS ⟨.inl ⟨rfl, rfl⟩, ⟨.inr ⟨by decide, rfl⟩, trivial⟩⟩ ?_
        refine T.ev [(53, _), (56, _)] [] [0, 1, 12, 13, 14] ⟨rfl, rfl, trivial⟩ ⟨.mv 0, .mv 2, .nc 42, .fa 54 fo59_2, .n2 43 55 rfl rfl rfl (fun w HS => X.indexArK 0 c29 Try.underlying57 inf56 rfl rfl c28.1 c28.2), trivial⟩ rfl (fun w HS => ?_)
        refine ⟨_, Y.sto 1 4 HS inf56 rfl rfl rfl rfl rfl rfl, ?_⟩
        rintro _ w HS
        refine T.nn HS ?_
        refine T.fn [(0, _), (2, _)] ⟨rfl, rfl, trivial⟩ trivial (fun w HS => ?_)
        refine At.blockEnd ?_
        replace HS := HS.pm [1, 2, 3, 4, 5, 6, 7, 8, 9, 10, 11, 0, 12, 13]
        replace HS := signalmanlaw15_pair.close trivial HS
        replace HS := HS.pk [0, 3] [1, 2]
        exact At.round kl23 (by omega) (({ a := (x14.a.1, x14.a.2), way := (x14.way.1, x14.way.2), heard := (x14.heard.1 ++ ([x17] : List (List Int)), x14.heard.2), said := (x14.said.1, x14.said.2), downs := x14.downs } : signalmanlaw15_pair)) ⟨rfl, rfl, trivial⟩ ⟨HS, H, by omega⟩
       ·replace H := ite_f c29 H
        have hk36 : x2 = 1 := by omega
        refine V.dr [10, 11, 15] [14] [(42, Value.pointer (some ⟨b0, 0, none⟩)), (43, Value.int .i64 x2), (44, Value.pointer (some ⟨b0, 0, none⟩)), (45, Value.int .i64 x2), (46, Value.pointer (some ⟨b0, 0, none⟩)), (47, Value.pointer (some ⟨b0, 0 + 4, none⟩)), (48, Value.pointer (some ⟨b0, 0 + 4 + 1 * 1, none⟩)), (49, Value.slice a5_26 x14.heard.2.length c5_26), (50, Value.slice ra15 x17.length rc16), (51, Value.string (strOf x17)), (54, Value.pointer (some ⟨b0, 0, none⟩)), (55, Value.pointer (some ⟨b0, 0 + 4, none⟩))] mo HS ?_
        refine T.ev [(51, _)] [14] [8, 9] ⟨rfl, trivial⟩ ⟨.mv 0, .mv 2, .mv 0, .mv 2, .nc 44, .fa 46 fo59_2, .n2 45 47 rfl rfl rfl (fun w HS => X.indexArK 1 hk36 Try.underlying57 inf56 rfl rfl c28.1 c28.2), .ld 48 0 Try.underlying56, .mv 3, .n1 50 rfl rfl (fun w HS => X.bytesStr Try.underlying39 Try.underlying5 Try.underlying9 rfl (rdC.at 11 fsl.rd HS rfl)), .nc 42, .fa 54 fo59_2, trivial⟩ rfl (fun w HS => ?_)
        refine ⟨_, Y.ls (e := 9) (fun x => Value.string (strOf x)) ([x17] : List (List Int)) HS rfl rfl (fun _ => by kernel_rfl), ?_⟩
        rintro _ w ⟨lb39, rfl, HS⟩
        refine T.nw HS ?_
        refine T.ev [(49, _), (52, _)] [] [2, 3, 4, 5, 6, 7] ⟨rfl, rfl, trivial⟩ ⟨.mv 0, .mv 2, .mv 0, .mv 2, .nc 44, .fa 46 fo59_2, .n2 45 47 rfl rfl rfl (fun w HS => X.indexArK 1 hk36 Try.underlying57 inf56 rfl rfl c28.1 c28.2), .ld 48 1 Try.underlying56, .nc 42, .fa 54 fo59_2, trivial⟩ rfl (fun w HS => ?_)
        obtain ⟨c40, H⟩ := ite_n H
        refine ⟨_, Y.appF (fun x => Value.string (strOf x)) (fun _ => rfl) 9 Try.underlying56 ap9 rfl HS rfl rfl rfl (rdC.at 0 row_rd HS rfl) (by omega) (by omega), ?_⟩
        rintro _ w ⟨ra41, rc42, rfl, HS⟩
        refine T.nm [(53, Value.slice ra41 (x14.heard.2 ++ ([x17] : List (List Int))).length rc42), (56, Value.pointer (some ⟨b0, 0 + 4 + 1 * 1, none⟩))] HS ⟨.inl ⟨rfl, rfl⟩, ⟨.inr ⟨by decide, rfl⟩, trivial⟩⟩ ?_
        refine T.ev [(53, _), (56, _)] [] [0, 1, 12, 13, 14] ⟨rfl, rfl, trivial⟩ ⟨.mv 0, .mv 2, .nc 42, .fa 54 fo59_2, .n2 43 55 rfl rfl rfl (fun w HS => X.indexArK 1 hk36 Try.underlying57 inf56 rfl rfl c28.1 c28.2), trivial⟩ rfl (fun w HS => ?_)
        refine ⟨_, Y.sto 1 5 HS inf56 rfl rfl rfl rfl rfl rfl, ?_⟩
        rintro _ w HS
        refine T.nn HS ?_
        refine T.fn [(0, _), (2, _)] ⟨rfl, rfl, trivial⟩ trivial (fun w HS => ?_)
        refine At.blockEnd ?_
        replace HS := HS.pm [1, 2, 3, 4, 5, 6, 7, 8, 9, 10, 11, 0, 12, 13]
        replace HS := signalmanlaw15_pair.close trivial HS
        replace HS := HS.pk [0, 3] [1, 2]
        exact At.round kl23 (by omega) (({ a := (x14.a.1, x14.a.2), way := (x14.way.1, x14.way.2), heard := (x14.heard.1, x14.heard.2 ++ ([x17] : List (List Int))), said := (x14.said.1, x14.said.2), downs := x14.downs } : signalmanlaw15_pair)) ⟨rfl, rfl, trivial⟩ ⟨HS, H, by omega⟩
      ·replace H := ite_f c25 H
       refine V.condT (sb (n_f (b_f c25))) (V.exit (At.thenExit (At.blockPast rfl (At.thenExit (At.blockExit (At.next (V.meet (σ := signalmanlaw15_pair × Option Addr × Nat × List Int) (fun st w => match st with | (x43, ra44, rc45, x46) => Sep.St [row 3 1 (.slice ra44 x46.length rc45) x46.length (x46.map (Value.int .i64)), fsl 1 (.slice ra15 x17.length rc16) x17.length (x17.map (Value.int .u8)), signalmanlaw15_pair.at b0 x43, R] w0 w ∧ ∃ kf47 kl49, kf47 ≤ kf19 ∧ kl49 ≤ kl21 ∧ signalmanlaw15_pair_collect.j4 kf47 x2 (signalmanlaw15_pair_collect.l0 kl49) x43 x46 = some r) (fun st => match st with | (x43, ra44, rc45, x46) => [(0, Value.pointer (some ⟨b0, 0, none⟩)), (2, Value.int .i64 x2), (5, Value.slice ra44 x46.length rc45)]) ?_ ?_)))))))
       ·refine V.region (W.mv rfl (W.mv rfl (W.nc rfl ?_)))
        replace HS := HS.fr 1
        obtain ⟨b0_62, b1_62, a2_62, c2_62, d2_62, a3_62, c3_62, d3_62, a4_62, c4_62, a5_62, c5_62, a6_62, c6_62, a7_62, c7_62, hi63, HS⟩ := signalmanlaw15_pair.open HS
        refine W.fa fo59_0 rfl ?_
        obtain ⟨c64, H⟩ := ite_n H
        by_cases c65 : x2 = 0
        ·replace H := ite_t c65 H
         refine W.r (X.indexArK 0 c65 Try.underlying54 inf26 rfl rfl c64.1 c64.2) rfl (W.ld 0 HS Try.underlying26 rfl rfl rfl rfl ?_)
         obtain ⟨t66, A67, H⟩ := bind_s H
         replace HS := HS.pm [1, 0, 2, 3, 4, 5, 6, 7, 8, 9, 10, 11, 12]
         refine W.e (Y.cl Try.func23 (arq_Arq_Inds.calls A67 HS.j1)) rfl ?_
         rintro _ w ⟨at66_0, ct66_0, rfl, HS⟩
         replace HS := HS.o2
         refine W.as rfl (W.nil ?_)
         replace HS := HS.pm [2, 1, 3, 4, 5, 6, 7, 8, 9, 10, 11, 0, 12, 13]
         replace HS := signalmanlaw15_pair.close trivial HS
         replace HS := HS.pk [1, 2, 0, 3] []
         exact At.meet (({ a := (t66.2, x14.a.2), way := (x14.way.1, x14.way.2), heard := (x14.heard.1, x14.heard.2), said := (x14.said.1, x14.said.2), downs := x14.downs } : signalmanlaw15_pair), at66_0, ct66_0, t66.1) ⟨rfl, rfl, rfl, trivial⟩ ⟨HS, kf19, kl21, by omega, by omega, H⟩
        ·replace H := ite_f c65 H
         have hk68 : x2 = 1 := by omega
         refine W.r (X.indexArK 1 hk68 Try.underlying54 inf26 rfl rfl c64.1 c64.2) rfl (W.ld 0 HS Try.underlying26 rfl rfl rfl rfl ?_)
         obtain ⟨t69, A70, H⟩ := bind_s H
         replace HS := HS.pm [2, 0, 1, 3, 4, 5, 6, 7, 8, 9, 10, 11, 12]
         refine W.e (Y.cl Try.func23 (arq_Arq_Inds.calls A70 HS.j1)) rfl ?_
         rintro _ w ⟨at69_0, ct69_0, rfl, HS⟩
         replace HS := HS.o2
         refine W.as rfl (W.nil ?_)
         replace HS := HS.pm [2, 3, 1, 4, 5, 6, 7, 8, 9, 10, 11, 0, 12, 13]
         replace HS := signalmanlaw15_pair.close trivial HS
         replace HS := HS.pk [1, 2, 0, 3] []
         exact At.meet (({ a := (x14.a.1, t69.2), way := (x14.way.1, x14.way.2), heard := (x14.heard.1, x14.heard.2), said := (x14.said.1, x14.said.2), downs := x14.downs } : signalmanlaw15_pair), at69_0, ct69_0, t69.1) ⟨rfl, rfl, rfl, trivial⟩ ⟨HS, kf19, kl21, by omega, by omega, H⟩
       ·rintro ⟨x43, ra44, rc45, x46⟩ w ⟨HS, kf47, kl49, hkkf47, hkkl49, H⟩
        unfold signalmanlaw15_pair_collect.j4 at H
        refine V.seq (V.region (W.as rfl (W.nx (V.block (V.loop (σ := Int × signalmanlaw15_pair) (fun kq (st : Int × signalmanlaw15_pair) w => match st with | (x51, x52) => Sep.St [row 3 1 (.slice ra44 x46.length rc45) x46.length (x46.map (Value.int .i64)), fsl 1 (.slice ra15 x17.length rc16) x17.length (x17.map (Value.int .u8)), signalmanlaw15_pair.at b0 x52, R] w0 w ∧ signalmanlaw15_pair_collect.l5 kq x2 (signalmanlaw15_pair_collect.l0 kl49) x46 x51 x52 = some r ∧ kq ≤ kf47) (fun st => match st with | (x51, x52) => [(0, Value.pointer (some ⟨b0, 0, none⟩)), (2, Value.int .i64 x2), (5, Value.slice ra44 x46.length rc45), (6, Value.int .i64 x51)]) kf47 (0, x43) ⟨rfl, rfl, rfl, rfl, trivial⟩ ⟨HS, H, Nat.le_refl _⟩ ?_)))))
        rintro kq53 ⟨x51, x52⟩ w ⟨HS, H, hk54⟩
        cases kq53 with
        | zero => exact absurd H (by simp [signalmanlaw15_pair_collect.l5])
        | succ kq53 =>
         simp only [signalmanlaw15_pair_collect.l5] at H
         refine V.seq (V.seq (V.region (W.mv rfl (W.mv rfl (W.r (X.lenSl Try.underlying34 rfl) rfl (W.r (X.cmp (decide (x51 < (x46.length : Int))) rfl rfl rfl rfl) rfl (W.nx ?_)))))))
         by_cases c55 : x51 < (x46.length : Int)
         ·replace H := ite_t c55 H
          refine V.condT (sb (decide_eq_true c55)) (V.skip (At.next (V.seq (V.block (V.seq (V.region (W.mv rfl (W.mv rfl ?_))))))))
          obtain ⟨c56, H⟩ := ite_n H
          obtain ⟨eb57, eo58, hh⟩ := (rdC.at 0 row_rd HS rfl).some (by decide) c56.1 c56.2; subst hh
          refine W.r (X.indexSl Try.underlying34 inf3 rfl rfl c56.1 c56.2) rfl (W.r (X.load Try.underlying3 rfl rfl ((rdC.at 0 row_rd HS rfl).cellI c56.1 c56.2)) rfl (W.r (X.cmp (!(decide ((x46.getD x51.toNat 0) = 1))) rfl rfl rfl rfl) rfl (W.nx ?_)))
          by_cases c59 : (x46.getD x51.toNat 0) = 1
          ·replace H := ite_t c59 H
           refine V.condF (sb (n_t (decide_eq_true c59))) (V.skip (At.blockEnd (At.next (V.region (W.mv rfl (W.r (X.add rfl rfl) rfl (W.as rfl (W.nil ?_))))))))
           exact At.round kq53 (by omega) (w64 (x51 + 1), x52) ⟨rfl, rfl, rfl, rfl, trivial⟩ ⟨HS, H, by omega⟩
          ·replace H := ite_f c59 H
           refine V.condT (sb (n_f (decide_eq_false c59))) (V.region (W.mv rfl (W.nc rfl ?_)))
           replace HS := HS.fr 2
           obtain ⟨b0_60, b1_60, a2_60, c2_60, d2_60, a3_60, c3_60, d3_60, a4_60, c4_60, a5_60, c5_60, a6_60, c6_60, a7_60, c7_60, hi61, HS⟩ := signalmanlaw15_pair.open HS
           refine W.fa fo59_4 rfl (W.ld 0 HS Try.underlying3 rfl rfl rfl rfl (W.r (X.add rfl rfl) rfl (W.nc rfl (W.fa fo59_4 rfl (W.st 0 8 HS inf3 rfl rfl rfl rfl rfl rfl fun w HS => ?_)))))
           refine W.nil (At.blockEnd (At.next (V.region (W.mv rfl (W.r (X.add rfl rfl) rfl (W.as rfl (W.nil ?_)))))))
           replace HS := signalmanlaw15_pair.close trivial HS
           replace HS := HS.pk [1, 2, 0, 3] []
           exact At.round kq53 (by omega) (w64 (x51 + 1), ({ a := (x52.a.1, x52.a.2), way := (x52.way.1, x52.way.2), heard := (x52.heard.1, x52.heard.2), said := (x52.said.1, x52.said.2), downs := w64 (x52.downs + 1) } : signalmanlaw15_pair)) ⟨rfl, rfl, rfl, rfl, trivial⟩ ⟨HS, H, by omega⟩
         ·replace H := ite_f c55 H
          refine V.condF (sb (decide_eq_false c55)) (V.exit (At.thenExit (At.thenExit (At.blockExit (At.blockEnd (At.next (V.region (W.mv rfl (W.r (X.add rfl rfl) rfl (W.as rfl (W.nil ?_)))))))))))
          replace HS := HS.pk [2, 3] [0, 1]
          exact At.round kl49 (by omega) (w64 (x2 + 1), x52) ⟨rfl, rfl, trivial⟩ ⟨HS, H, by omega⟩
  ·replace H := ite_f c6 H
   refine V.condF (sb (decide_eq_false c6)) (V.exit (At.thenExit (At.thenExit (At.blockExit ?_))))
   cases H
   exact At.end0 rfl ⟨_, rfl, rfl, HS⟩
mutual
def signalmanlaw15_pair_carry.j3 (k : Nat)  (x13 : signalmanlaw15_pair) : Option signalmanlaw15_pair := ((signalmanlaw15_pair_collect.f k x13).bind fun t15 => some t15)
def signalmanlaw15_pair_carry.j2 (k : Nat) (a1 : Int) (x2 : Bool) (x8 : List Int) (x11 : signalmanlaw15_pair) : Option signalmanlaw15_pair := (if x2 = true then (signalmanlaw15_pair_carry.j3 k x11) else (if 0 ≤ w64 (1 - a1) ∧ w64 (1 - a1) < 2 then (if w64 (1 - a1) = 0 then ((arq_Arq_Input.f k x11.a.1 x8).bind fun t22 => (signalmanlaw15_pair_carry.j3 k ({ a := (t22, x11.a.2), way := (x11.way.1, x11.way.2), heard := (x11.heard.1, x11.heard.2), said := (x11.said.1, x11.said.2), downs := x11.downs } : signalmanlaw15_pair))) else ((arq_Arq_Input.f k x11.a.2 x8).bind fun t25 => (signalmanlaw15_pair_carry.j3 k ({ a := (x11.a.1, t25), way := (x11.way.1, x11.way.2), heard := (x11.heard.1, x11.heard.2), said := (x11.said.1, x11.said.2), downs := x11.downs } : signalmanlaw15_pair)))) else none))
def signalmanlaw15_pair_carry.j1 (k : Nat) (a0 : signalmanlaw15_pair) (a1 : Int) (x2 : Bool) (x8 : List Int) : Option signalmanlaw15_pair := (if 0 ≤ a1 ∧ a1 < 2 then (if a1 = 0 then (if 0 ≤ (1 : Int) ∧ (1 : Int) ≤ (a0.way.1.length : Int) ∧ (a0.way.1.length : Int) ≤ (a0.way.1.length : Int) then (signalmanlaw15_pair_carry.j2 k a1 x2 x8 ({ a := (a0.a.1, a0.a.2), way := (cut a0.way.1 (1 : Int) (a0.way.1.length : Int), a0.way.2), heard := (a0.heard.1, a0.heard.2), said := (a0.said.1, a0.said.2), downs := a0.downs } : signalmanlaw15_pair)) else none) else (if 0 ≤ (1 : Int) ∧ (1 : Int) ≤ (a0.way.2.length : Int) ∧ (a0.way.2.length : Int) ≤ (a0.way.2.length : Int) then (signalmanlaw15_pair_carry.j2 k a1 x2 x8 ({ a := (a0.a.1, a0.a.2), way := (a0.way.1, cut a0.way.2 (1 : Int) (a0.way.2.length : Int)), heard := (a0.heard.1, a0.heard.2), said := (a0.said.1, a0.said.2), downs := a0.downs } : signalmanlaw15_pair)) else none)) else none)
def signalmanlaw15_pair_carry.j0 (k : Nat) (a0 : signalmanlaw15_pair) (a1 : Int) (x2 : Bool) (x3 : Bool) : Option signalmanlaw15_pair := (if x3 = true then (if 0 ≤ a1 ∧ a1 < 2 then (if a1 = 0 then (if 0 ≤ (0 : Int) ∧ (0 : Int) < (a0.way.1.length : Int) then (signalmanlaw15_pair_carry.j1 k a0 a1 x2 (a0.way.1.getD (0 : Int).toNat [])) else none) else (if 0 ≤ (0 : Int) ∧ (0 : Int) < (a0.way.2.length : Int) then (signalmanlaw15_pair_carry.j1 k a0 a1 x2 (a0.way.2.getD (0 : Int).toNat [])) else none)) else none) else some a0)
end
def signalmanlaw15_pair_carry.f (k : Nat) (a0 : signalmanlaw15_pair) (a1 : Int) (a2 : Bool) : Option signalmanlaw15_pair := (if 0 ≤ a1 ∧ a1 < 2 then (if a1 = 0 then (signalmanlaw15_pair_carry.j0 k a0 a1 a2 (decide ((a0.way.1.length : Int) > 0))) else (signalmanlaw15_pair_carry.j0 k a0 a1 a2 (decide ((a0.way.2.length : Int) > 0)))) else none)
theorem signalmanlaw15_pair_carry.calls {k : Nat} {a0 : signalmanlaw15_pair} {a1 : Int} {a2 : Bool} {R : As} {w0 w : World} {b0 : Nat} {r : signalmanlaw15_pair} (H : signalmanlaw15_pair_carry.f k a0 a1 a2 = some r) (HS : Sep.St [signalmanlaw15_pair.at b0 a0, R] w0 w)  : Calls Try.prog 33 #[Value.pointer (some ⟨b0, 0, none⟩), Value.int .i64 a1, Value.bool a2] w (Ret fun u w => u = Value.tuple #[] ∧ Sep.St [signalmanlaw15_pair.at b0 r, R] w0 w) := by
 unfold signalmanlaw15_pair_carry.f at H
 refine calls_enter Try.func33 rfl rfl ?_
 have H : _ = some r := H
 refine V.meet (σ := Bool × Bool) (fun st w => match st with | (x2, x3) => Sep.St [signalmanlaw15_pair.at b0 a0, R] w0 w ∧ ∃ kf4, kf4 ≤ k ∧ signalmanlaw15_pair_carry.j0 kf4 a0 a1 x2 x3 = some r) (fun st => match st with | (x2, x3) => [(0, Value.pointer (some ⟨b0, 0, none⟩)), (1, Value.int .i64 a1), (2, Value.bool x2), (14, Value.bool x3)]) ?_ ?_
 ·refine V.region (W.mv rfl (W.mv rfl (W.nc rfl ?_)))
  obtain ⟨b0_57, b1_57, a2_57, c2_57, d2_57, a3_57, c3_57, d3_57, a4_57, c4_57, a5_57, c5_57, a6_57, c6_57, a7_57, c7_57, hi58, HS⟩ := signalmanlaw15_pair.open HS
  refine W.fa fo59_1 rfl ?_
  obtain ⟨c59, H⟩ := ite_n H
  by_cases c60 : a1 = 0
  ·replace H := ite_t c60 H
   refine W.r (X.indexArK 0 c60 Try.underlying55 inf30 rfl rfl c59.1 c59.2) rfl (W.ld 0 HS Try.underlying30 rfl rfl rfl rfl (W.r (X.lenSl Try.underlying30 rfl) rfl (W.r (X.cmp (decide ((a0.way.1.length : Int) > 0)) rfl rfl rfl rfl) rfl (W.nil ?_))))
   replace HS := signalmanlaw15_pair.close trivial HS
   exact At.meet (a2, decide ((a0.way.1.length : Int) > 0)) ⟨rfl, rfl, rfl, rfl, trivial⟩ ⟨HS, k, by omega, H⟩
  ·replace H := ite_f c60 H
   have hk61 : a1 = 1 := by omega
   refine W.r (X.indexArK 1 hk61 Try.underlying55 inf30 rfl rfl c59.1 c59.2) rfl (W.ld 0 HS Try.underlying30 rfl rfl rfl rfl (W.r (X.lenSl Try.underlying30 rfl) rfl (W.r (X.cmp (decide ((a0.way.2.length : Int) > 0)) rfl rfl rfl rfl) rfl (W.nil ?_))))
   replace HS := signalmanlaw15_pair.close trivial HS
   exact At.meet (a2, decide ((a0.way.2.length : Int) > 0)) ⟨rfl, rfl, rfl, rfl, trivial⟩ ⟨HS, k, by omega, H⟩
 ·rintro ⟨x2, x3⟩ w ⟨HS, kf4, hkkf4, H⟩
  unfold signalmanlaw15_pair_carry.j0 at H
  by_cases c5 : x3 = true
  ·replace H := ite_t c5 H
   refine V.condT (sb c5) (V.meet (σ := Option Addr × Nat × List Int) (fun st w => match st with | (ra6, rc7, x8) => Sep.St [fsl 1 (.slice ra6 x8.length rc7) x8.length (x8.map (Value.int .u8)), signalmanlaw15_pair.at b0 a0, R] w0 w ∧ ∃ kf9, kf9 ≤ kf4 ∧ signalmanlaw15_pair_carry.j1 kf9 a0 a1 x2 x8 = some r) (fun st => match st with | (ra6, rc7, x8) => [(0, Value.pointer (some ⟨b0, 0, none⟩)), (1, Value.int .i64 a1), (2, Value.bool x2), (6, Value.slice ra6 x8.length rc7)]) ?_ ?_)
   ·refine V.region (W.mv rfl (W.mv rfl (W.nc rfl ?_)))
    obtain ⟨b0_34, b1_34, a2_34, c2_34, d2_34, a3_34, c3_34, d3_34, a4_34, c4_34, a5_34, c5_34, a6_34, c6_34, a7_34, c7_34, hi35, HS⟩ := signalmanlaw15_pair.open HS
    refine W.fa fo59_1 rfl ?_
    obtain ⟨c36, H⟩ := ite_n H
    by_cases c37 : a1 = 0
    ·replace H := ite_t c37 H
     refine W.r (X.indexArK 0 c37 Try.underlying55 inf30 rfl rfl c36.1 c36.2) rfl (W.ld 0 HS Try.underlying30 rfl rfl rfl rfl ?_)
     obtain ⟨c38, H⟩ := ite_n H
     obtain ⟨eb39, eo40, hh⟩ := (rdC.at 3 row_rd HS rfl).some (by decide) c38.1 c38.2; subst hh
     refine W.r (X.indexSl Try.underlying30 inf39 rfl rfl c38.1 c38.2) rfl ?_
     obtain ⟨ec41, hc42, HS⟩ := St.tie_at 4 HS rfl ([]) c38.1 c38.2
     obtain ⟨ea43, em44, he46, HN⟩ := St.sl_openF (Value.int .u8) (fun t => tie_int t) HS; clear HS; subst he46; have HS := HN
     refine W.r (X.load Try.underlying39 rfl rfl ((rdC.at 4 row_rd HS rfl).cellEl0 (hc42 0 _ rfl))) rfl (W.as rfl (W.nil ?_))
     replace HS := HS.pm [1, 2, 3, 4, 5, 6, 7, 8, 9, 10, 11, 0, 12]
     replace HS := signalmanlaw15_pair.close trivial HS
     replace HS := HS.pk [1, 0, 2] []
     exact At.meet (ea43, em44, a0.way.1.getD (0 : Int).toNat []) ⟨rfl, rfl, rfl, rfl, trivial⟩ ⟨HS, kf4, by omega, H⟩
    ·replace H := ite_f c37 H
     have hk47 : a1 = 1 := by omega
     refine W.r (X.indexArK 1 hk47 Try.underlying55 inf30 rfl rfl c36.1 c36.2) rfl (W.ld 0 HS Try.underlying30 rfl rfl rfl rfl ?_)
     obtain ⟨c48, H⟩ := ite_n H
     obtain ⟨eb49, eo50, hh⟩ := (rdC.at 5 row_rd HS rfl).some (by decide) c48.1 c48.2; subst hh
     refine W.r (X.indexSl Try.underlying30 inf39 rfl rfl c48.1 c48.2) rfl ?_
     obtain ⟨ec51, hc52, HS⟩ := St.tie_at 6 HS rfl ([]) c48.1 c48.2
     obtain ⟨ea53, em54, he56, HN⟩ := St.sl_openF (Value.int .u8) (fun t => tie_int t) HS; clear HS; subst he56; have HS := HN
     refine W.r (X.load Try.underlying39 rfl rfl ((rdC.at 6 row_rd HS rfl).cellEl0 (hc52 0 _ rfl))) rfl (W.as rfl (W.nil ?_))
     replace HS := HS.pm [1, 2, 3, 4, 5, 6, 7, 8, 9, 10, 11, 0, 12]
     replace HS := signalmanlaw15_pair.close trivial HS
     replace HS := HS.pk [1, 0, 2] []
     exact At.meet (ea53, em54, a0.way.2.getD (0 : Int).toNat []) ⟨rfl, rfl, rfl, rfl, trivial⟩ ⟨HS, kf4, by omega, H⟩
   ·rintro ⟨ra6, rc7, x8⟩ w ⟨HS, kf9, hkkf9, H⟩
    unfold signalmanlaw15_pair_carry.j1 at H
    refine V.meet (σ := signalmanlaw15_pair) (fun st w => match st with | x11 => Sep.St [fsl 1 (.slice ra6 x8.length rc7) x8.length (x8.map (Value.int .u8)), signalmanlaw15_pair.at b0 x11, R] w0 w ∧ ∃ kf12, kf12 ≤ kf9 ∧ signalmanlaw15_pair_carry.j2 kf12 a1 x2 x8 x11 = some r) (fun st => match st with | x11 => [(0, Value.pointer (some ⟨b0, 0, none⟩)), (1, Value.int .i64 a1), (2, Value.bool x2), (6, Value.slice ra6 x8.length rc7)]) ?_ ?_
    ·replace HS := HS.fr 1
     obtain ⟨b0_27, b1_27, a2_27, c2_27, d2_27, a3_27, c3_27, d3_27, a4_27, c4_27, a5_27, c5_27, a6_27, c6_27, a7_27, c7_27, hi28, HS⟩ := signalmanlaw15_pair.open HS
     obtain ⟨c29, H⟩ := ite_n H
     by_cases c30 : a1 = 0
     ·replace H := ite_t c30 H
      obtain ⟨c31, H⟩ := ite_n H
      refine V.dr [12] [] [(23, Value.pointer (some ⟨b0, 0, none⟩)), (24, Value.int .i64 a1), (25, Value.pointer (some ⟨b0, 0, none⟩)), (26, Value.int .i64 a1), (27, Value.pointer (some ⟨b0, 0, none⟩)), (28, Value.pointer (some ⟨b0, 0 + 2, none⟩)), (29, Value.pointer (some ⟨b0, 0 + 2 + 0 * 1, none⟩)), (30, Value.slice a2_27 a0.way.1.length c2_27), (31, Value.slice (vaddr a2_27 c2_27 (1 : Int).toNat 1) (cut a0.way.1 (1 : Int) (a0.way.1.length : Int)).length (c2_27 - (1 : Int).toNat)), (32, Value.pointer (some ⟨b0, 0, none⟩)), (33, Value.pointer (some ⟨b0, 0 + 2, none⟩)), (34, Value.pointer (some ⟨b0, 0 + 2 + 0 * 1, none⟩))] mo HS ?_
      refine T.ev [(31, _), (34, _)] [] [0, 1, 2, 3, 4, 5, 6, 7, 8, 9, 10, 11] ⟨rfl, rfl, trivial⟩ ⟨.mv 0, .mv 1, .mv 0, .mv 1, .nc 25, .fa 27 fo59_1, .n2 26 28 rfl rfl rfl (fun w HS => X.indexArK 0 c30 Try.underlying55 inf30 rfl rfl c29.1 c29.2), .ld 29 0 Try.underlying30, .n1 30 rfl rfl (fun w HS => X.slL Try.underlying30 inf39 rfl rfl c31), .nc 23, .fa 32 fo59_1, .n2 24 33 rfl rfl rfl (fun w HS => X.indexArK 0 c30 Try.underlying55 inf30 rfl rfl c29.1 c29.2), trivial⟩ rfl (fun w HS => ?_)
      refine ⟨_, Y.sto 0 2 HS inf30 rfl rfl rfl rfl rfl rfl, ?_⟩
      rintro _ w HS
      refine T.nn HS ?_
      refine T.fn [(0, _), (1, _), (2, _), (6, _)] ⟨rfl, rfl, rfl, rfl, trivial⟩ trivial (fun w HS => ?_)
      replace HS := HS.fr 3
      replace HS := St.row_sub HS c31
      replace HS := HS.fr 4
      replace HS := St.tie_cut (1 : Int) (a0.way.1.length : Int) HS
      replace HS := HS.pm [2, 3, 4, 1, 0, 5, 6, 7, 8, 9, 10, 11, 12]
      replace HS := signalmanlaw15_pair.close trivial HS
      replace HS := HS.pk [1, 0, 2] []
      exact At.meet (({ a := (a0.a.1, a0.a.2), way := (cut a0.way.1 (1 : Int) (a0.way.1.length : Int), a0.way.2), heard := (a0.heard.1, a0.heard.2), said := (a0.said.1, a0.said.2), downs := a0.downs } : signalmanlaw15_pair)) ⟨rfl, rfl, rfl, rfl, trivial⟩ ⟨HS, kf9, by omega, H⟩
     ·replace H := ite_f c30 H
      have hk32 : a1 = 1 := by omega
      obtain ⟨c33, H⟩ := ite_n H
      refine V.dr [12] [] [(23, Value.pointer (some ⟨b0, 0, none⟩)), (24, Value.int .i64 a1), (25, Value.pointer (some ⟨b0, 0, none⟩)), (26, Value.int .i64 a1), (27, Value.pointer (some ⟨b0, 0, none⟩)), (28, Value.pointer (some ⟨b0, 0 + 2, none⟩)), (29, Value.pointer (some ⟨b0, 0 + 2 + 1 * 1, none⟩)), (30, Value.slice a3_27 a0.way.2.length c3_27), (31, Value.slice (vaddr a3_27 c3_27 (1 : Int).toNat 1) (cut a0.way.2 (1 : Int) (a0.way.2.length : Int)).length (c3_27 - (1 : Int).toNat)), (32, Value.pointer (some ⟨b0, 0, none⟩)), (33, Value.pointer (some ⟨b0, 0 + 2, none⟩)), (34, Value.pointer (some ⟨b0, 0 + 2 + 1 * 1, none⟩))] mo HS ?_
      refine T.ev [(31, _), (34, _)] [] [0, 1, 2, 3, 4, 5, 6, 7, 8, 9, 10, 11] ⟨rfl, rfl, trivial⟩ ⟨.mv 0, .mv 1, .mv 0, .mv 1, .nc 25, .fa 27 fo59_1, .n2 26 28 rfl rfl rfl (fun w HS => X.indexArK 1 hk32 Try.underlying55 inf30 rfl rfl c29.1 c29.2), .ld 29 0 Try.underlying30, .n1 30 rfl rfl (fun w HS => X.slL Try.underlying30 inf39 rfl rfl c33), .nc 23, .fa 32 fo59_1, .n2 24 33 rfl rfl rfl (fun w HS => X.indexArK 1 hk32 Try.underlying55 inf30 rfl rfl c29.1 c29.2), trivial⟩ rfl (fun w HS => ?_)
      refine ⟨_, Y.sto 0 3 HS inf30 rfl rfl rfl rfl rfl rfl, ?_⟩
      rintro _ w HS
      refine T.nn HS ?_
      refine T.fn [(0, _), (1, _), (2, _), (6, _)] ⟨rfl, rfl, rfl, rfl, trivial⟩ trivial (fun w HS => ?_)
      replace HS := HS.fr 5
      replace HS := St.row_sub HS c33
      replace HS := HS.fr 6
      replace HS := St.tie_cut (1 : Int) (a0.way.2.length : Int) HS
      replace HS := HS.pm [2, 3, 4, 5, 6, 1, 0, 7, 8, 9, 10, 11, 12]
      replace HS := signalmanlaw15_pair.close trivial HS
      replace HS := HS.pk [1, 0, 2] []
      exact At.meet (({ a := (a0.a.1, a0.a.2), way := (a0.way.1, cut a0.way.2 (1 : Int) (a0.way.2.length : Int)), heard := (a0.heard.1, a0.heard.2), said := (a0.said.1, a0.said.2), downs := a0.downs } : signalmanlaw15_pair)) ⟨rfl, rfl, rfl, rfl, trivial⟩ ⟨HS, kf9, by omega, H⟩
    ·rintro x11 w ⟨HS, kf12, hkkf12, H⟩
     unfold signalmanlaw15_pair_carry.j2 at H
     refine V.meet (σ := signalmanlaw15_pair) (fun st w => match st with | x13 => Sep.St [fsl 1 (.slice ra6 x8.length rc7) x8.length (x8.map (Value.int .u8)), signalmanlaw15_pair.at b0 x13, R] w0 w ∧ ∃ kf14, kf14 ≤ kf12 ∧ signalmanlaw15_pair_carry.j3 kf14 x13 = some r) (fun st => match st with | x13 => [(0, Value.pointer (some ⟨b0, 0, none⟩))]) ?_ ?_
     ·refine V.seq (V.region (W.mv rfl (W.r (X.not rfl) rfl (W.nx ?_))))
      by_cases c17 : x2 = true
      ·replace H := ite_t c17 H
       refine V.condF (sb (n_t c17)) (V.skip ?_)
       exact At.meet x11 ⟨rfl, trivial⟩ ⟨HS, kf12, by omega, H⟩
      ·replace H := ite_f c17 H
       refine V.condT (sb (n_f (b_f c17))) (V.region (W.mv rfl (W.mv rfl (W.r (X.sub rfl rfl) rfl (W.nc rfl ?_)))))
       replace HS := HS.fr 1
       obtain ⟨b0_18, b1_18, a2_18, c2_18, d2_18, a3_18, c3_18, d3_18, a4_18, c4_18, a5_18, c5_18, a6_18, c6_18, a7_18, c7_18, hi19, HS⟩ := signalmanlaw15_pair.open HS
       refine W.fa fo59_0 rfl ?_
       obtain ⟨c20, H⟩ := ite_n H
       by_cases c21 : w64 (1 - a1) = 0
       ·replace H := ite_t c21 H
        refine W.r (X.indexArK 0 c21 Try.underlying54 inf26 rfl rfl c20.1 c20.2) rfl (W.ld 0 HS Try.underlying26 rfl rfl rfl rfl (W.mv rfl ?_))
        obtain ⟨t22, A23, H⟩ := bind_s H
        replace HS := HS.pm [1, 0, 2, 3, 4, 5, 6, 7, 8, 9, 10, 11, 12]
        refine W.e (Y.cl Try.func24 (arq_Arq_Input.calls A23 HS.j1 (rdC.part 10 fsl.rd rfl))) rfl ?_
        rintro _ w ⟨rfl, HS⟩
        replace HS := HS.o1
        refine W.nil ?_
        replace HS := HS.pm [1, 0, 2, 3, 4, 5, 6, 7, 8, 9, 10, 11, 12]
        replace HS := signalmanlaw15_pair.close trivial HS
        replace HS := HS.pk [1, 0, 2] []
        exact At.meet (({ a := (t22, x11.a.2), way := (x11.way.1, x11.way.2), heard := (x11.heard.1, x11.heard.2), said := (x11.said.1, x11.said.2), downs := x11.downs } : signalmanlaw15_pair)) ⟨rfl, trivial⟩ ⟨HS, kf12, by omega, H⟩
       ·replace H := ite_f c21 H
        have hk24 : w64 (1 - a1) = 1 := by omega
        refine W.r (X.indexArK 1 hk24 Try.underlying54 inf26 rfl rfl c20.1 c20.2) rfl (W.ld 0 HS Try.underlying26 rfl rfl rfl rfl (W.mv rfl ?_))
        obtain ⟨t25, A26, H⟩ := bind_s H
        replace HS := HS.pm [2, 0, 1, 3, 4, 5, 6, 7, 8, 9, 10, 11, 12]
        refine W.e (Y.cl Try.func24 (arq_Arq_Input.calls A26 HS.j1 (rdC.part 10 fsl.rd rfl))) rfl ?_
        rintro _ w ⟨rfl, HS⟩
        replace HS := HS.o1
        refine W.nil ?_
        replace HS := HS.pm [1, 2, 0, 3, 4, 5, 6, 7, 8, 9, 10, 11, 12]
        replace HS := signalmanlaw15_pair.close trivial HS
        replace HS := HS.pk [1, 0, 2] []
        exact At.meet (({ a := (x11.a.1, t25), way := (x11.way.1, x11.way.2), heard := (x11.heard.1, x11.heard.2), said := (x11.said.1, x11.said.2), downs := x11.downs } : signalmanlaw15_pair)) ⟨rfl, trivial⟩ ⟨HS, kf12, by omega, H⟩
     ·rintro x13 w ⟨HS, kf14, hkkf14, H⟩
      unfold signalmanlaw15_pair_carry.j3 at H
      refine V.region (W.mv rfl ?_)
      obtain ⟨t15, A16, H⟩ := bind_s H
      replace HS := HS.pm [1, 0, 2]
      refine W.e (Y.cl Try.func32 (signalmanlaw15_pair_collect.calls A16 HS.j1)) rfl ?_
      rintro _ w ⟨rfl, HS⟩
      replace HS := HS.o1
      refine W.nil ?_
      replace HS := HS.pk [0, 2] [1]
      cases H
      exact At.end0 rfl ⟨_, rfl, rfl, HS⟩
  ·replace H := ite_f c5 H
   refine V.condF (sb (b_f c5)) (V.skip ?_)
   cases H
   exact At.end0 rfl ⟨_, rfl, rfl, HS⟩
mutual
def signalmanlaw15_up.l0 : Nat → Int → signalmanlaw15_pair → Option signalmanlaw15_pair
 | 0, _, _ => none
 | k + 1, x15, x16 => (if x15 < 4 then ((signalmanlaw15_pair_carry.f k x16 (iand .i64 x15 (1)) false).bind fun t20 => (signalmanlaw15_up.l0 k (w64 (x15 + 1)) t20)) else some x16)
end
def signalmanlaw15_up.f (k : Nat) (a0 : api_Config) : Option signalmanlaw15_pair := ((arq_New.f a0).bind fun t5 => ((arq_New.f a0).bind fun t8 => ((arq_Arq_Connect.f k t5).bind fun t11 => ((signalmanlaw15_pair_collect.f k ({ a := (t11.2, t8), way := (([] : List (List Int)), ([] : List (List Int))), heard := (([] : List (List Int)), ([] : List (List Int))), said := (([] : List (List Int)), ([] : List (List Int))), downs := 0 } : signalmanlaw15_pair)).bind fun t13 => (signalmanlaw15_up.l0 k 0 t13)))))
theorem signalmanlaw15_up.calls {k : Nat} {a0 : api_Config} {R : As} {w0 w : World}  {r : signalmanlaw15_pair} (H : signalmanlaw15_up.f k a0 = some r) (HS : Sep.St [R] w0 w)  : Calls Try.prog 36 #[Value.agg #[Value.int .i64 a0.Mode, Value.int .i64 a0.Modulus, Value.int .i64 a0.Window, Value.int .i64 a0.T1, Value.int .i64 a0.N2, Value.int .i64 a0.Hold, Value.int .i64 a0.Wait, Value.int .i64 a0.Keep, Value.int .i64 a0.Queue, Value.int .i64 a0.Size, Value.int .i64 a0.Ring, Value.int .i64 a0.Rate, Value.int .i64 a0.Bad, Value.int .i64 a0.Good, Value.bool a0.Revert, Value.bool a0.Wide]] w (Ret fun u w => ∃ (bq0 : Nat), u = Value.pointer (some ⟨bq0, 0, none⟩) ∧ Sep.St [signalmanlaw15_pair.at bq0 r, R] w0 w) := by
 unfold signalmanlaw15_up.f at H
 refine calls_enter Try.func36 rfl rfl ?_
 have H : _ = some r := H
 refine V.seq (V.region (W.e (Y.box HS rfl) rfl ?_))
 rintro _ w ⟨nb1, rfl, HS⟩
 refine W.as rfl (W.nx (V.seq (V.region (W.r (X.bd (Value.agg #[Value.pointer none, Value.pointer none, Value.slice none 0 0, Value.slice none 0 0, Value.slice none 0 0, Value.slice none 0 0, Value.slice none 0 0, Value.slice none 0 0, Value.int .i64 (0)]) rfl (fun _ => by kernel_rfl)) rfl (W.e (Y.box HS rfl) rfl ?_)))))
 rintro _ w ⟨nb2, rfl, HS⟩
 refine W.as rfl (W.nx (V.seq (V.dr [2, 6] [5] [(7, Value.pointer (some ⟨nb2, 0, none⟩)), (8, Value.agg #[Value.int .i64 a0.Mode, Value.int .i64 a0.Modulus, Value.int .i64 a0.Window, Value.int .i64 a0.T1, Value.int .i64 a0.N2, Value.int .i64 a0.Hold, Value.int .i64 a0.Wait, Value.int .i64 a0.Keep, Value.int .i64 a0.Queue, Value.int .i64 a0.Size, Value.int .i64 a0.Ring, Value.int .i64 a0.Rate, Value.int .i64 a0.Bad, Value.int .i64 a0.Good, Value.bool a0.Revert, Value.bool a0.Wide]), (10, Value.pointer (some ⟨nb2, 0, none⟩)), (11, Value.pointer (some ⟨nb2, 0 + 0, none⟩))] mo HS ?_)))
 refine T.ev [(8, _)] [] [1] ⟨rfl, trivial⟩ ⟨.mv 3, .n1 1 rfl rfl (fun w HS => X.loadSt 1 [Value.int .i64 a0.Mode, Value.int .i64 a0.Modulus, Value.int .i64 a0.Window, Value.int .i64 a0.T1, Value.int .i64 a0.N2, Value.int .i64 a0.Hold, Value.int .i64 a0.Wait, Value.int .i64 a0.Keep, Value.int .i64 a0.Queue, Value.int .i64 a0.Size, Value.int .i64 a0.Ring, Value.int .i64 a0.Rate, Value.int .i64 a0.Bad, Value.int .i64 a0.Good, Value.bool a0.Revert, Value.bool a0.Wide] HS rfl Try.underlying24 rfl inf24 rfl rfl), .nc 7, .fa 10 fo59_0, trivial⟩ rfl (fun w HS => ?_)
 obtain ⟨t5, A6, H⟩ := bind_s H
 refine ⟨_, Y.cl Try.func17 (arq_New.calls A6 HS.j0), ?_⟩
 rintro _ w ⟨bt5_0, rfl, HS⟩
 replace HS := HS.o1
 refine T.nm [(9, Value.pointer (some ⟨bt5_0, 0, none⟩)), (12, Value.pointer (some ⟨nb2, 0 + 0 + 0 * 1, none⟩))] HS ⟨.inl ⟨rfl, rfl⟩, ⟨.inr ⟨by decide, rfl⟩, trivial⟩⟩ ?_
 refine T.ev [(9, _), (12, _)] [] [0, 3, 4, 5] ⟨rfl, rfl, trivial⟩ ⟨.mv 3, .nc 7, .fa 10 fo59_0, .n1 11 rfl rfl (fun w HS => X.indexArK 0 rfl Try.underlying54 inf26 rfl rfl (by decide) (by decide)), trivial⟩ rfl (fun w HS => ?_)
 refine ⟨_, Y.sto 1 0 HS inf26 rfl rfl rfl rfl rfl rfl, ?_⟩
 rintro _ w HS
 refine T.nn HS ?_
 refine T.fn [(1, _), (3, _)] ⟨rfl, rfl, trivial⟩ trivial (fun w HS => ?_)
 refine At.next (V.seq (V.dr [2, 6] [5] [(13, Value.pointer (some ⟨nb2, 0, none⟩)), (14, Value.agg #[Value.int .i64 a0.Mode, Value.int .i64 a0.Modulus, Value.int .i64 a0.Window, Value.int .i64 a0.T1, Value.int .i64 a0.N2, Value.int .i64 a0.Hold, Value.int .i64 a0.Wait, Value.int .i64 a0.Keep, Value.int .i64 a0.Queue, Value.int .i64 a0.Size, Value.int .i64 a0.Ring, Value.int .i64 a0.Rate, Value.int .i64 a0.Bad, Value.int .i64 a0.Good, Value.bool a0.Revert, Value.bool a0.Wide]), (16, Value.pointer (some ⟨nb2, 0, none⟩)), (17, Value.pointer (some ⟨nb2, 0 + 0, none⟩))] mo HS ?_))
 refine T.ev [(14, _)] [] [1] ⟨rfl, trivial⟩ ⟨.mv 3, .n1 1 rfl rfl (fun w HS => X.loadSt 2 [Value.int .i64 a0.Mode, Value.int .i64 a0.Modulus, Value.int .i64 a0.Window, Value.int .i64 a0.T1, Value.int .i64 a0.N2, Value.int .i64 a0.Hold, Value.int .i64 a0.Wait, Value.int .i64 a0.Keep, Value.int .i64 a0.Queue, Value.int .i64 a0.Size, Value.int .i64 a0.Ring, Value.int .i64 a0.Rate, Value.int .i64 a0.Bad, Value.int .i64 a0.Good, Value.bool a0.Revert, Value.bool a0.Wide] HS rfl Try.underlying24 rfl inf24 rfl rfl), .nc 13, .fa 16 fo59_0, trivial⟩ rfl (fun w HS => ?_)
 obtain ⟨t8, A9, H⟩ := bind_s H
 refine ⟨_, Y.cl Try.func17 (arq_New.calls A9 HS.j0), ?_⟩
 rintro _ w ⟨bt8_0, rfl, HS⟩
 replace HS := HS.o1
 refine T.nm [(15, Value.pointer (some ⟨bt8_0, 0, none⟩)), (18, Value.pointer (some ⟨nb2, 0 + 0 + 1 * 1, none⟩))] HS ⟨.inl ⟨rfl, rfl⟩, ⟨.inr ⟨by decide, rfl⟩, trivial⟩⟩ ?_
 refine T.ev [(15, _), (18, _)] [] [0, 3, 4, 5] ⟨rfl, rfl, trivial⟩ ⟨.mv 3, .nc 13, .fa 16 fo59_0, .n1 17 rfl rfl (fun w HS => X.indexArK 1 rfl Try.underlying54 inf26 rfl rfl (by decide) (by decide)), trivial⟩ rfl (fun w HS => ?_)
 refine ⟨_, Y.sto 2 1 HS inf26 rfl rfl rfl rfl rfl rfl, ?_⟩
 rintro _ w HS
 refine T.nn HS ?_
 refine T.fn [(3, _)] ⟨rfl, trivial⟩ trivial (fun w HS => ?_)
 refine At.next (V.seq (V.region (W.mv rfl (W.nc rfl (W.fa fo59_0 rfl (W.r (X.indexArK 0 rfl Try.underlying54 inf26 rfl rfl (by decide) (by decide)) rfl (W.ld 2 HS Try.underlying26 rfl rfl rfl rfl ?_)))))))
 obtain ⟨t11, A12, H⟩ := bind_s H
 replace HS := HS.pm [1, 0, 2, 3, 4]
 refine W.e (Y.cl Try.func18 (arq_Arq_Connect.calls A12 HS.j1)) rfl ?_
 rintro _ w ⟨rfl, HS⟩
 replace HS := HS.o1
 refine W.nx (V.seq (V.region (W.mv rfl ?_)))
 replace HS := row_nilE (El.sl (El.int .u8)) 39 1 HS
 replace HS := row_nilE (El.sl (El.int .u8)) 39 1 HS
 replace HS := row_nilF (fun x => Value.string (strOf x)) 9 1 HS
 replace HS := row_nilF (fun x => Value.string (strOf x)) 9 1 HS
 replace HS := row_nilF (fun x => Value.string (strOf x)) 9 1 HS
 replace HS := row_nilF (fun x => Value.string (strOf x)) 9 1 HS
 replace HS := HS.pm [10, 8, 9, 6, 7, 4, 5, 3, 2, 1, 0, 11, 12]
 replace HS := signalmanlaw15_pair.close (l2 := ([] : List (List Int))) (l3 := ([] : List (List Int))) (l4 := ([] : List (List Int))) (l5 := ([] : List (List Int))) (l6 := ([] : List (List Int))) (l7 := ([] : List (List Int))) trivial HS
 obtain ⟨t13, A14, H⟩ := bind_s H
 refine W.e (Y.cl Try.func32 (signalmanlaw15_pair_collect.calls A14 HS.j1)) rfl ?_
 rintro _ w ⟨rfl, HS⟩
 replace HS := HS.o1
 refine W.nx (V.seq (V.seq (V.region (W.as rfl (W.nx (V.block ?_))))))
 replace HS := HS.pm [1, 0, 2]
 replace HS := api_Config.close trivial HS
 refine V.loop (σ := Int × signalmanlaw15_pair) (fun kq (st : Int × signalmanlaw15_pair) w => match st with | (x15, x16) => Sep.St [api_Config.at nb1 a0, signalmanlaw15_pair.at nb2 x16, R] w0 w ∧ signalmanlaw15_up.l0 kq x15 x16 = some r ∧ kq ≤ k) (fun st => match st with | (x15, x16) => [(3, Value.pointer (some ⟨nb2, 0, none⟩)), (4, Value.int .i64 x15)]) k (0, t13) ⟨rfl, rfl, trivial⟩ ⟨HS, H, Nat.le_refl _⟩ ?_
 rintro kq17 ⟨x15, x16⟩ w ⟨HS, H, hk18⟩
 cases kq17 with
 | zero => exact absurd H (by simp [signalmanlaw15_up.l0])
 | succ kq17 =>
  simp only [signalmanlaw15_up.l0] at H
  refine V.seq (V.seq (V.region (W.mv rfl (W.r (X.cmp (decide (x15 < 4)) rfl rfl rfl rfl) rfl (W.nx ?_)))))
  by_cases c19 : x15 < 4
  ·replace H := ite_t c19 H
   refine V.condT (sb (decide_eq_true c19)) (V.skip (At.next (V.seq (V.block (V.region (W.mv rfl (W.mv rfl (W.r (X.and rfl rfl) rfl ?_))))))))
   obtain ⟨t20, A21, H⟩ := bind_s H
   replace HS := HS.pm [1, 0, 2]
   refine W.e (Y.cl Try.func33 (signalmanlaw15_pair_carry.calls A21 HS.j1)) rfl ?_
   rintro _ w ⟨rfl, HS⟩
   replace HS := HS.o1
   refine W.nil (At.blockEnd (At.next (V.region (W.mv rfl (W.r (X.add rfl rfl) rfl (W.as rfl (W.nil ?_)))))))
   replace HS := HS.pk [1, 0, 2] []
   exact At.round kq17 (by omega) (w64 (x15 + 1), t20) ⟨rfl, rfl, trivial⟩ ⟨HS, H, by omega⟩
  ·replace H := ite_f c19 H
   refine V.condF (sb (decide_eq_false c19)) (V.exit (At.thenExit (At.thenExit (At.blockExit (At.next (V.seq (V.region (W.mv rfl (W.as rfl (W.nx (V.ret ?_)))))))))))
   replace HS := HS.pk [1, 2] [0]
   cases H
   exact At.ret1 rfl rfl ⟨_, rfl, nb2, rfl, HS⟩
mutual
def signalmanlaw15_prefix.l0 : Nat → (List (List Int)) → (List (List Int)) → Int → Option Bool
 | 0, _, _, _ => none
 | k + 1, a0, a1, x2 => (if x2 < (a0.length : Int) then (if 0 ≤ x2 ∧ x2 < (a0.length : Int) then (if 0 ≤ x2 ∧ x2 < (a1.length : Int) then (if sEq (a0.getD x2.toNat []) (a1.getD x2.toNat []) = true then (signalmanlaw15_prefix.l0 k a0 a1 (w64 (x2 + 1))) else some false) else none) else none) else some true)
end
def signalmanlaw15_prefix.f (k : Nat) (a0 : List (List Int)) (a1 : List (List Int)) : Option Bool := (if (a0.length : Int) > (a1.length : Int) then some false else (signalmanlaw15_prefix.l0 k a0 a1 0))
theorem signalmanlaw15_prefix.calls {k : Nat} {a0 : List (List Int)} {a1 : List (List Int)} {R : As} {w0 w : World} {sa0 : Option Addr} {sc0 : Nat} {sa1 : Option Addr} {sc1 : Nat} {r : Bool} (H : signalmanlaw15_prefix.f k a0 a1 = some r) (HS : Sep.St [R] w0 w) (hr0 : rdC R 1 (.slice sa0 a0.length sc0) a0.length (a0.map (fun x => Value.string (strOf x)))) (hr1 : rdC R 1 (.slice sa1 a1.length sc1) a1.length (a1.map (fun x => Value.string (strOf x)))) : Calls Try.prog 40 #[Value.slice sa0 a0.length sc0, Value.slice sa1 a1.length sc1] w (Ret fun u w => u = Value.bool r ∧ Sep.St [R] w0 w) := by
 unfold signalmanlaw15_prefix.f at H
 refine calls_enter Try.func40 rfl rfl ?_
 have H : _ = some r := H
 refine V.seq (V.region (W.as rfl (W.nx (V.seq (V.seq (V.region (W.mv rfl (W.r (X.lenSl Try.underlying56 rfl) rfl (W.mv rfl (W.r (X.lenSl Try.underlying56 rfl) rfl (W.r (X.cmp (decide ((a0.length : Int) > (a1.length : Int))) rfl rfl rfl rfl) rfl (W.nx ?_))))))))))))
 by_cases c1 : (a0.length : Int) > (a1.length : Int)
 ·replace H := ite_t c1 H
  refine V.condT (sb (decide_eq_true c1)) (V.seq (V.region (W.as rfl (W.nx (V.ret (At.thenRet ?_))))))
  cases H
  exact At.ret1 rfl rfl ⟨_, rfl, rfl, HS⟩
 ·replace H := ite_f c1 H
  refine V.condF (sb (decide_eq_false c1)) (V.skip (At.next (V.seq (V.seq (V.region (W.as rfl (W.nx (V.block (V.loop (σ := Int) (fun kq (st : Int) w => match st with | x2 => Sep.St [R] w0 w ∧ signalmanlaw15_prefix.l0 kq a0 a1 x2 = some r ∧ kq ≤ k) (fun st => match st with | x2 => [(0, Value.slice sa0 a0.length sc0), (1, Value.slice sa1 a1.length sc1), (5, Value.int .i64 x2)]) k (0) ⟨rfl, rfl, rfl, trivial⟩ ⟨HS, H, Nat.le_refl _⟩ ?_)))))))))
  rintro kq3 x2 w ⟨HS, H, hk4⟩
  cases kq3 with
  | zero => exact absurd H (by simp [signalmanlaw15_prefix.l0])
  | succ kq3 =>
   simp only [signalmanlaw15_prefix.l0] at H
   refine V.seq (V.seq (V.region (W.mv rfl (W.mv rfl (W.r (X.lenSl Try.underlying56 rfl) rfl (W.r (X.cmp (decide (x2 < (a0.length : Int))) rfl rfl rfl rfl) rfl (W.nx ?_)))))))
   by_cases c5 : x2 < (a0.length : Int)
   ·replace H := ite_t c5 H
    refine V.condT (sb (decide_eq_true c5)) (V.skip (At.next (V.seq (V.block (V.seq ?_)))))
    obtain ⟨c6, H⟩ := ite_n H
    obtain ⟨eb7, eo8, hh⟩ := (rdC.at 0 hr0 HS rfl).some (by decide) c6.1 c6.2; subst hh
    obtain ⟨c9, H⟩ := ite_n H
    obtain ⟨eb10, eo11, hh⟩ := (rdC.at 0 hr1 HS rfl).some (by decide) c9.1 c9.2; subst hh
    refine V.dr [] [] [(17, Value.slice (some ⟨eb7, eo8, none⟩) a0.length sc0), (18, Value.int .i64 x2), (19, Value.pointer (some ⟨eb7, eo8 + x2.toNat * 1, none⟩)), (20, Value.string (strOf (a0.getD x2.toNat []))), (21, Value.slice (some ⟨eb10, eo11, none⟩) a1.length sc1), (22, Value.int .i64 x2), (23, Value.pointer (some ⟨eb10, eo11 + x2.toNat * 1, none⟩)), (24, Value.string (strOf (a1.getD x2.toNat []))), (25, Value.bool (!(sEq (a0.getD x2.toNat []) (a1.getD x2.toNat []))))] mo HS ?_
    refine T.fn [(0, _), (1, _), (5, _), (25, _)] ⟨rfl, rfl, rfl, rfl, trivial⟩ ⟨.mv 0, .mv 5, .n2 17 18 rfl rfl rfl (fun w HS => X.indexSl Try.underlying56 inf9 rfl rfl c6.1 c6.2), .n1 19 rfl rfl (fun w HS => X.load Try.underlying9 rfl rfl ((rdC.at 0 hr0 HS rfl).cellS c6.1 c6.2)), .mv 1, .mv 5, .n2 21 22 rfl rfl rfl (fun w HS => X.indexSl Try.underlying56 inf9 rfl rfl c9.1 c9.2), .n1 23 rfl rfl (fun w HS => X.load Try.underlying9 rfl rfl ((rdC.at 0 hr1 HS rfl).cellS c9.1 c9.2)), .n2 20 24 rfl rfl rfl (fun w HS => X.neStr (a := a0.getD x2.toNat []) (b := a1.getD x2.toNat []) rfl rfl), trivial⟩ (fun w HS => ?_)
    refine At.next ?_
    by_cases c12 : sEq (a0.getD x2.toNat []) (a1.getD x2.toNat []) = true
    ·replace H := ite_t c12 H
     refine V.condF (sb (n_t c12)) (V.skip (At.blockEnd (At.next (V.region (W.mv rfl (W.r (X.add rfl rfl) rfl (W.as rfl (W.nil ?_))))))))
     exact At.round kq3 (by omega) (w64 (x2 + 1)) ⟨rfl, rfl, rfl, trivial⟩ ⟨HS, H, by omega⟩
    ·replace H := ite_f c12 H
     refine V.condT (sb (n_f (b_f c12))) (V.seq (V.region (W.as rfl (W.nx (V.ret (At.blockRet (At.thenRet (At.thenRet (At.blockRet (At.thenRet ?_))))))))))
     cases H
     exact At.ret1 rfl rfl ⟨_, rfl, rfl, HS⟩
   ·replace H := ite_f c5 H
    refine V.condF (sb (decide_eq_false c5)) (V.exit (At.thenExit (At.thenExit (At.blockExit (At.next (V.seq (V.region (W.as rfl (W.nx (V.ret ?_))))))))))
    cases H
    exact At.ret1 rfl rfl ⟨_, rfl, rfl, HS⟩
mutual
def signalmanlaw15_ArqOrders.l3 : Nat → (List Int) → Int → Int → signalmanlaw15_pair → Option Bool
 | 0, _, _, _, _ => none
 | k + 1, a2, x18, x19, x20 => (if x19 < (a2.length : Int) then (if 0 ≤ x19 ∧ x19 < (a2.length : Int) then (if (iand .i64 ((a2.getD x19.toNat 0).fdiv (2 ^ (min (1 : Int).toNat IntKind.i64.bits))) (7)) = 0 then (signalmanlaw15_ArqOrders.j8 k a2 x18 x19 x20 (signalmanlaw15_ArqOrders.l3 k a2) (decide ((iand .i64 ((a2.getD x19.toNat 0).fdiv (2 ^ (min (1 : Int).toNat IntKind.i64.bits))) (7)) = 0))) else (signalmanlaw15_ArqOrders.j8 k a2 x18 x19 x20 (signalmanlaw15_ArqOrders.l3 k a2) (decide ((iand .i64 ((a2.getD x19.toNat 0).fdiv (2 ^ (min (1 : Int).toNat IntKind.i64.bits))) (7)) = 1)))) else none) else some true)
def signalmanlaw15_ArqOrders.l5 : Nat → Int → (Int → Int → signalmanlaw15_pair → Option Bool) → Int → signalmanlaw15_pair → Int → Option Bool
 | 0, _, _, _, _, _ => none
 | k + 1, x19, Lq30, x28, t32, x34 => (if x34 < 2 then (if 0 ≤ x34 ∧ x34 < 2 then (if x34 = 0 then ((arq_Arq_Counts.f t32.a.1).bind fun t96 => (signalmanlaw15_ArqOrders.j6 k t32 x34 (signalmanlaw15_ArqOrders.l5 k x19 Lq30 x28 t32) t96.2.1 t96.2.2)) else ((arq_Arq_Counts.f t32.a.2).bind fun t101 => (signalmanlaw15_ArqOrders.j6 k t32 x34 (signalmanlaw15_ArqOrders.l5 k x19 Lq30 x28 t32) t101.2.1 t101.2.2))) else none) else (Lq30 x28 (w64 (x19 + 1)) t32))
def signalmanlaw15_ArqOrders.j7 (x34 : Int) (Lq62 : Int → Option Bool) (x58 : Bool) : Option Bool := (if x58 = true then some false else (Lq62 (w64 (x34 + 1))))
def signalmanlaw15_ArqOrders.j6 (k : Nat) (t32 : signalmanlaw15_pair) (x34 : Int) (Lq43 : Int → Option Bool) (x38 : Int) (x39 : Int) : Option Bool := (if t32.downs > 0 then some true else (if 0 ≤ w64 (1 - x34) ∧ w64 (1 - x34) < 2 then (if w64 (1 - x34) = 0 then (if 0 ≤ x34 ∧ x34 < 2 then (if x34 = 0 then ((signalmanlaw15_prefix.f k t32.heard.1 t32.said.1).bind fun t69 => (if t69 = true then (if x38 > (t32.heard.1.length : Int) then (signalmanlaw15_ArqOrders.j7 x34 Lq43 true) else (signalmanlaw15_ArqOrders.j7 x34 Lq43 (!(decide (x39 = 0))))) else (signalmanlaw15_ArqOrders.j7 x34 Lq43 true))) else ((signalmanlaw15_prefix.f k t32.heard.1 t32.said.2).bind fun t74 => (if t74 = true then (if x38 > (t32.heard.1.length : Int) then (signalmanlaw15_ArqOrders.j7 x34 Lq43 true) else (signalmanlaw15_ArqOrders.j7 x34 Lq43 (!(decide (x39 = 0))))) else (signalmanlaw15_ArqOrders.j7 x34 Lq43 true)))) else none) else (if 0 ≤ x34 ∧ x34 < 2 then (if x34 = 0 then ((signalmanlaw15_prefix.f k t32.heard.2 t32.said.1).bind fun t81 => (if t81 = true then (if x38 > (t32.heard.2.length : Int) then (signalmanlaw15_ArqOrders.j7 x34 Lq43 true) else (signalmanlaw15_ArqOrders.j7 x34 Lq43 (!(decide (x39 = 0))))) else (signalmanlaw15_ArqOrders.j7 x34 Lq43 true))) else ((signalmanlaw15_prefix.f k t32.heard.2 t32.said.2).bind fun t86 => (if t86 = true then (if x38 > (t32.heard.2.length : Int) then (signalmanlaw15_ArqOrders.j7 x34 Lq43 true) else (signalmanlaw15_ArqOrders.j7 x34 Lq43 (!(decide (x39 = 0))))) else (signalmanlaw15_ArqOrders.j7 x34 Lq43 true)))) else none)) else none))
def signalmanlaw15_ArqOrders.j4 (k : Nat) (x19 : Int) (Lq30 : Int → Int → signalmanlaw15_pair → Option Bool) (x27 : signalmanlaw15_pair) (x28 : Int) : Option Bool := ((signalmanlaw15_pair_collect.f k x27).bind fun t32 => (signalmanlaw15_ArqOrders.l5 k x19 Lq30 x28 t32 0))
def signalmanlaw15_ArqOrders.j9 (k : Nat) (a2 : List Int) (x18 : Int) (x19 : Int) (Lq115 : Int → Int → signalmanlaw15_pair → Option Bool) (x112 : signalmanlaw15_pair) (x113 : Int) : Option Bool := ((signalmanlaw15_num.f x113).bind fun t117 => (if t117 = 0 then (if 0 ≤ iand .i64 (a2.getD x19.toNat 0) (1) ∧ iand .i64 (a2.getD x19.toNat 0) (1) < 2 then (if iand .i64 (a2.getD x19.toNat 0) (1) = 0 then (if (x112.said.1.length : Int) + (([([IntKind.u8.wrap x18, IntKind.u8.wrap (x18.fdiv (2 ^ (min (8 : Int).toNat IntKind.i64.bits)))] : List Int)] : List (List Int))).length ≤ 1099511627776 then (signalmanlaw15_ArqOrders.j4 k x19 Lq115 ({ a := (x112.a.1, x112.a.2), way := (x112.way.1, x112.way.2), heard := (x112.heard.1, x112.heard.2), said := (x112.said.1 ++ ([([IntKind.u8.wrap x18, IntKind.u8.wrap (x18.fdiv (2 ^ (min (8 : Int).toNat IntKind.i64.bits)))] : List Int)] : List (List Int)), x112.said.2), downs := x112.downs } : signalmanlaw15_pair) (w64 (x18 + 1))) else none) else (if (x112.said.2.length : Int) + (([([IntKind.u8.wrap x18, IntKind.u8.wrap (x18.fdiv (2 ^ (min (8 : Int).toNat IntKind.i64.bits)))] : List Int)] : List (List Int))).length ≤ 1099511627776 then (signalmanlaw15_ArqOrders.j4 k x19 Lq115 ({ a := (x112.a.1, x112.a.2), way := (x112.way.1, x112.way.2), heard := (x112.heard.1, x112.heard.2), said := (x112.said.1, x112.said.2 ++ ([([IntKind.u8.wrap x18, IntKind.u8.wrap (x18.fdiv (2 ^ (min (8 : Int).toNat IntKind.i64.bits)))] : List Int)] : List (List Int))), downs := x112.downs } : signalmanlaw15_pair) (w64 (x18 + 1))) else none)) else none) else ((signalmanlaw15_num.f x113).bind fun t137 => (if t137 = 6 then (signalmanlaw15_ArqOrders.j4 k x19 Lq115 x112 x18) else some false))))
def signalmanlaw15_ArqOrders.j8 (k : Nat) (a2 : List Int) (x18 : Int) (x19 : Int) (x20 : signalmanlaw15_pair) (Lq105 : Int → Int → signalmanlaw15_pair → Option Bool) (x103 : Bool) : Option Bool := (if x103 = true then (if 0 ≤ iand .i64 (a2.getD x19.toNat 0) (1) ∧ iand .i64 (a2.getD x19.toNat 0) (1) < 2 then (if iand .i64 (a2.getD x19.toNat 0) (1) = 0 then ((arq_Arq_Send.f k x20.a.1 ([IntKind.u8.wrap x18, IntKind.u8.wrap (x18.fdiv (2 ^ (min (8 : Int).toNat IntKind.i64.bits)))] : List Int)).bind fun t144 => (signalmanlaw15_ArqOrders.j9 k a2 x18 x19 Lq105 ({ a := (t144.2, x20.a.2), way := (x20.way.1, x20.way.2), heard := (x20.heard.1, x20.heard.2), said := (x20.said.1, x20.said.2), downs := x20.downs } : signalmanlaw15_pair) t144.1)) else ((arq_Arq_Send.f k x20.a.2 ([IntKind.u8.wrap x18, IntKind.u8.wrap (x18.fdiv (2 ^ (min (8 : Int).toNat IntKind.i64.bits)))] : List Int)).bind fun t147 => (signalmanlaw15_ArqOrders.j9 k a2 x18 x19 Lq105 ({ a := (x20.a.1, t147.2), way := (x20.way.1, x20.way.2), heard := (x20.heard.1, x20.heard.2), said := (x20.said.1, x20.said.2), downs := x20.downs } : signalmanlaw15_pair) t147.1))) else none) else (if (iand .i64 ((a2.getD x19.toNat 0).fdiv (2 ^ (min (1 : Int).toNat IntKind.i64.bits))) (7)) = 2 then (if 0 ≤ iand .i64 (a2.getD x19.toNat 0) (1) ∧ iand .i64 (a2.getD x19.toNat 0) (1) < 2 then (if iand .i64 (a2.getD x19.toNat 0) (1) = 0 then ((arq_Arq_Pass.f k x20.a.1 (w64 (1 + (iand .i64 ((a2.getD x19.toNat 0).fdiv (2 ^ (min (4 : Int).toNat IntKind.i64.bits))) (15))))).bind fun t154 => (signalmanlaw15_ArqOrders.j4 k x19 Lq105 ({ a := (t154, x20.a.2), way := (x20.way.1, x20.way.2), heard := (x20.heard.1, x20.heard.2), said := (x20.said.1, x20.said.2), downs := x20.downs } : signalmanlaw15_pair) x18)) else ((arq_Arq_Pass.f k x20.a.2 (w64 (1 + (iand .i64 ((a2.getD x19.toNat 0).fdiv (2 ^ (min (4 : Int).toNat IntKind.i64.bits))) (15))))).bind fun t157 => (signalmanlaw15_ArqOrders.j4 k x19 Lq105 ({ a := (x20.a.1, t157), way := (x20.way.1, x20.way.2), heard := (x20.heard.1, x20.heard.2), said := (x20.said.1, x20.said.2), downs := x20.downs } : signalmanlaw15_pair) x18))) else none) else (if (iand .i64 ((a2.getD x19.toNat 0).fdiv (2 ^ (min (1 : Int).toNat IntKind.i64.bits))) (7)) = 3 then (if 0 ≤ iand .i64 (a2.getD x19.toNat 0) (1) ∧ iand .i64 (a2.getD x19.toNat 0) (1) < 2 then (if iand .i64 (a2.getD x19.toNat 0) (1) = 0 then ((arq_Arq_Again.f k x20.a.1).bind fun t164 => (signalmanlaw15_ArqOrders.j4 k x19 Lq105 ({ a := (t164, x20.a.2), way := (x20.way.1, x20.way.2), heard := (x20.heard.1, x20.heard.2), said := (x20.said.1, x20.said.2), downs := x20.downs } : signalmanlaw15_pair) x18)) else ((arq_Arq_Again.f k x20.a.2).bind fun t167 => (signalmanlaw15_ArqOrders.j4 k x19 Lq105 ({ a := (x20.a.1, t167), way := (x20.way.1, x20.way.2), heard := (x20.heard.1, x20.heard.2), said := (x20.said.1, x20.said.2), downs := x20.downs } : signalmanlaw15_pair) x18))) else none) else (if (iand .i64 ((a2.getD x19.toNat 0).fdiv (2 ^ (min (1 : Int).toNat IntKind.i64.bits))) (7)) = 4 then ((signalmanlaw15_pair_carry.f k x20 (iand .i64 (a2.getD x19.toNat 0) (1)) true).bind fun t170 => (signalmanlaw15_ArqOrders.j4 k x19 Lq105 t170 x18)) else ((signalmanlaw15_pair_carry.f k x20 (iand .i64 (a2.getD x19.toNat 0) (1)) false).bind fun t172 => (signalmanlaw15_ArqOrders.j4 k x19 Lq105 t172 x18))))))
def signalmanlaw15_ArqOrders.j2 (k : Nat) (a2 : List Int) (t11 : signalmanlaw15_pair) (x15 : Bool) : Option Bool := (if x15 = true then some false else (signalmanlaw15_ArqOrders.l3 k a2 0 0 t11))
def signalmanlaw15_ArqOrders.j1 (k : Nat) (a1 : Int) (a2 : List Int) (x6 : Int) : Option Bool := ((signalmanlaw15_shape.f x6 a1 20).bind fun t8 => ((signalmanlaw15_up.f k ({ t8 with N2 := 100 } : api_Config)).bind fun t11 => ((arq_Arq_State.f t11.a.1).bind fun t179 => (if t179 = 2 then ((arq_Arq_State.f t11.a.2).bind fun t184 => (signalmanlaw15_ArqOrders.j2 k a2 t11 (!(decide (t184 = 2))))) else (signalmanlaw15_ArqOrders.j2 k a2 t11 true)))))
def signalmanlaw15_ArqOrders.j0 (k : Nat) (a0 : Bool) (a1 : Int) (a2 : List Int) (t1 : Bool) (x3 : Bool) : Option Bool := (if x3 = true then some t1 else (if a0 = true then (signalmanlaw15_ArqOrders.j1 k a1 a2 32768) else (signalmanlaw15_ArqOrders.j1 k a1 a2 128)))
end
def signalmanlaw15_ArqOrders.f (k : Nat) (a0 : Bool) (a1 : Int) (a2 : List Int) : Option Bool := ((signalmanlaw15_alive.f k ).bind fun t1 => (if t1 = true then (if a1 < 1 then (signalmanlaw15_ArqOrders.j0 k a0 a1 a2 t1 true) else (if a1 > 16 then (signalmanlaw15_ArqOrders.j0 k a0 a1 a2 t1 true) else (signalmanlaw15_ArqOrders.j0 k a0 a1 a2 t1 (decide ((a2.length : Int) > 300))))) else (signalmanlaw15_ArqOrders.j0 k a0 a1 a2 t1 true)))
theorem signalmanlaw15_ArqOrders.calls {k : Nat} {a0 : Bool} {a1 : Int} {a2 : List Int} {R : As} {w0 w : World} {sa2 : Option Addr} {sc2 : Nat} {r : Bool} (H : signalmanlaw15_ArqOrders.f k a0 a1 a2 = some r) (HS : Sep.St [R] w0 w) (hr2 : rdC R 1 (.slice sa2 a2.length sc2) a2.length (a2.map (Value.int .i64))) : Calls Try.prog 14 #[Value.bool a0, Value.int .i64 a1, Value.slice sa2 a2.length sc2] w (Ret fun u w => u = Value.bool r ∧ Sep.St [R] w0 w) := by
 unfold signalmanlaw15_ArqOrders.f at H
 refine calls_enter Try.func14 rfl rfl ?_
 have H : _ = some r := H
 refine V.seq (V.region (W.as rfl (W.nx (V.seq (V.region ?_)))))
 obtain ⟨t1, A2, H⟩ := bind_s H
 refine W.e (Y.cl Try.func15 (signalmanlaw15_alive.calls A2 HS.j0)) rfl ?_
 rintro _ w ⟨rfl, HS⟩
 replace HS := HS.o0
 refine W.as rfl (W.nx (V.seq (V.meet (σ := Bool) (fun st w => match st with | x3 => Sep.St [R] w0 w ∧ ∃ kf4, kf4 ≤ k ∧ signalmanlaw15_ArqOrders.j0 kf4 a0 a1 a2 t1 x3 = some r) (fun st => match st with | x3 => [(0, Value.bool a0), (1, Value.int .i64 a1), (2, Value.slice sa2 a2.length sc2), (7, Value.bool t1), (35, Value.bool x3)]) ?_ ?_)))
 ·refine V.region (W.mv rfl (W.r (X.not rfl) rfl (W.mv rfl ?_)))
  by_cases c187 : t1 = true
  ·replace H := ite_t c187 H
   refine W.want 23 rfl (sb (n_t c187)) (W.mv rfl (W.want 23 rfl (sb (n_t c187)) (W.r (X.cmp (decide (a1 < 1)) rfl rfl rfl rfl) rfl (W.r (X.pickF (sb (n_t c187)) rfl) rfl (W.mv rfl ?_)))))
   by_cases c188 : a1 < 1
   ·replace H := ite_t c188 H
    refine W.pass 27 rfl (sb (decide_eq_true c188)) rfl rfl (W.pass 27 rfl (sb (decide_eq_true c188)) rfl rfl (W.r (X.pickT (sb (decide_eq_true c188)) rfl) rfl (W.mv rfl (W.pass 31 rfl rfl rfl rfl (W.pass 31 rfl rfl rfl rfl (W.pass 31 rfl rfl rfl rfl (W.r (X.pickT rfl rfl) rfl (W.nil ?_))))))))
    exact At.meet true ⟨rfl, rfl, rfl, rfl, rfl, trivial⟩ ⟨HS, k, by omega, H⟩
   ·replace H := ite_f c188 H
    refine W.want 27 rfl (sb (decide_eq_false c188)) (W.mv rfl (W.want 27 rfl (sb (decide_eq_false c188)) (W.r (X.cmp (decide (a1 > 16)) rfl rfl rfl rfl) rfl (W.r (X.pickF (sb (decide_eq_false c188)) rfl) rfl (W.mv rfl ?_)))))
    by_cases c189 : a1 > 16
    ·replace H := ite_t c189 H
     refine W.pass 31 rfl (sb (decide_eq_true c189)) rfl rfl (W.pass 31 rfl (sb (decide_eq_true c189)) rfl rfl (W.pass 31 rfl (sb (decide_eq_true c189)) rfl rfl (W.r (X.pickT (sb (decide_eq_true c189)) rfl) rfl (W.nil ?_))))
     exact At.meet true ⟨rfl, rfl, rfl, rfl, rfl, trivial⟩ ⟨HS, k, by omega, H⟩
    ·replace H := ite_f c189 H
     refine W.want 31 rfl (sb (decide_eq_false c189)) (W.mv rfl (W.want 31 rfl (sb (decide_eq_false c189)) (W.r (X.lenSl Try.underlying34 rfl) rfl (W.want 31 rfl (sb (decide_eq_false c189)) (W.r (X.cmp (decide ((a2.length : Int) > 300)) rfl rfl rfl rfl) rfl (W.r (X.pickF (sb (decide_eq_false c189)) rfl) rfl (W.nil ?_)))))))
     exact At.meet (decide ((a2.length : Int) > 300)) ⟨rfl, rfl, rfl, rfl, rfl, trivial⟩ ⟨HS, k, by omega, H⟩
  ·replace H := ite_f c187 H
   refine W.pass 23 rfl (sb (n_f (b_f c187))) rfl rfl (W.pass 23 rfl (sb (n_f (b_f c187))) rfl rfl (W.r (X.pickT (sb (n_f (b_f c187))) rfl) rfl (W.mv rfl (W.pass 27 rfl rfl rfl rfl (W.pass 27 rfl rfl rfl rfl (W.r (X.pickT rfl rfl) rfl (W.mv rfl (W.pass 31 rfl rfl rfl rfl (W.pass 31 rfl rfl rfl rfl (W.pass 31 rfl rfl rfl rfl (W.r (X.pickT rfl rfl) rfl (W.nil ?_))))))))))))
   exact At.meet true ⟨rfl, rfl, rfl, rfl, rfl, trivial⟩ ⟨HS, k, by omega, H⟩
 ·rintro x3 w ⟨HS, kf4, hkkf4, H⟩
  unfold signalmanlaw15_ArqOrders.j0 at H
  by_cases c5 : x3 = true
  ·replace H := ite_t c5 H
   refine V.condT (sb c5) (V.seq (V.region (W.mv rfl (W.as rfl (W.nx (V.ret (At.thenRet ?_)))))))
   cases H
   exact At.ret1 rfl rfl ⟨_, rfl, rfl, HS⟩
  ·replace H := ite_f c5 H
   refine V.condF (sb (b_f c5)) (V.skip (At.next (V.seq (V.region (W.as rfl (W.nx (V.meet (σ := Int) (fun st w => match st with | x6 => Sep.St [R] w0 w ∧ ∃ kf7, kf7 ≤ kf4 ∧ signalmanlaw15_ArqOrders.j1 kf7 a1 a2 x6 = some r) (fun st => match st with | x6 => [(1, Value.int .i64 a1), (2, Value.slice sa2 a2.length sc2), (8, Value.int .i64 x6)]) ?_ ?_)))))))
   ·refine V.seq (V.region (W.mv rfl (W.nx ?_)))
    by_cases c186 : a0 = true
    ·replace H := ite_t c186 H
     refine V.condT (sb c186) (V.region (W.as rfl (W.nil ?_)))
     exact At.meet (32768) ⟨rfl, rfl, rfl, trivial⟩ ⟨HS, kf4, by omega, H⟩
    ·replace H := ite_f c186 H
     refine V.condF (sb (b_f c186)) (V.skip ?_)
     exact At.meet (128) ⟨rfl, rfl, rfl, trivial⟩ ⟨HS, kf4, by omega, H⟩
   ·rintro x6 w ⟨HS, kf7, hkkf7, H⟩
    unfold signalmanlaw15_ArqOrders.j1 at H
    refine V.seq (V.region (W.mv rfl (W.mv rfl ?_)))
    obtain ⟨t8, A9, H⟩ := bind_s H
    refine W.e (Y.cl Try.func16 (signalmanlaw15_shape.calls A9 HS.j0)) rfl ?_
    rintro _ w ⟨rfl, HS⟩
    replace HS := HS.o0
    refine W.e (Y.alloc (z := Value.agg (#[Value.int .i64 (0), Value.int .i64 (0), Value.int .i64 (0), Value.int .i64 (0), Value.int .i64 (0), Value.int .i64 (0), Value.int .i64 (0), Value.int .i64 (0), Value.int .i64 (0), Value.int .i64 (0), Value.int .i64 (0), Value.int .i64 (0), Value.int .i64 (0), Value.int .i64 (0), Value.bool false, Value.bool false])) HS ze24) rfl ?_
    rintro _ w ⟨nb10, rfl, HS⟩
    refine W.en (Y.storeSt (c' := #[Value.int .i64 t8.Mode, Value.int .i64 t8.Modulus, Value.int .i64 t8.Window, Value.int .i64 t8.T1, Value.int .i64 t8.N2, Value.int .i64 t8.Hold, Value.int .i64 t8.Wait, Value.int .i64 t8.Keep, Value.int .i64 t8.Queue, Value.int .i64 t8.Size, Value.int .i64 t8.Ring, Value.int .i64 t8.Rate, Value.int .i64 t8.Bad, Value.int .i64 t8.Good, Value.bool t8.Revert, Value.bool t8.Wide]) 0 [Value.int .i64 t8.Mode, Value.int .i64 t8.Modulus, Value.int .i64 t8.Window, Value.int .i64 t8.T1, Value.int .i64 t8.N2, Value.int .i64 t8.Hold, Value.int .i64 t8.Wait, Value.int .i64 t8.Keep, Value.int .i64 t8.Queue, Value.int .i64 t8.Size, Value.int .i64 t8.Ring, Value.int .i64 t8.Rate, Value.int .i64 t8.Bad, Value.int .i64 t8.Good, Value.bool t8.Revert, Value.bool t8.Wide] HS rfl inf24 rfl rfl rfl rfl rfl rfl) rfl ?_
    rintro _ w HS
    refine W.nx (V.seq (V.region (W.fa fo24_4 rfl (W.st 0 4 HS inf3 rfl rfl rfl rfl rfl rfl fun w HS => ?_))))
    refine W.nx (V.seq (V.region (W.r (X.loadSt 0 [Value.int .i64 t8.Mode, Value.int .i64 t8.Modulus, Value.int .i64 t8.Window, Value.int .i64 t8.T1, Value.int .i64 (100), Value.int .i64 t8.Hold, Value.int .i64 t8.Wait, Value.int .i64 t8.Keep, Value.int .i64 t8.Queue, Value.int .i64 t8.Size, Value.int .i64 t8.Ring, Value.int .i64 t8.Rate, Value.int .i64 t8.Bad, Value.int .i64 t8.Good, Value.bool t8.Revert, Value.bool t8.Wide] HS rfl Try.underlying24 rfl inf24 rfl rfl) rfl ?_)))
    obtain ⟨t11, A12, H⟩ := bind_s H
    refine W.e (Y.cl Try.func36 (signalmanlaw15_up.calls A12 HS.j0)) rfl ?_
    rintro _ w ⟨bt11_0, rfl, HS⟩
    replace HS := HS.o1
    refine W.as rfl (W.nx (V.seq (V.meet (σ := Bool) (fun st w => match st with | x15 => Sep.St [api_Config.at nb10 ({ t8 with N2 := 100 } : api_Config), signalmanlaw15_pair.at bt11_0 t11, R] w0 w ∧ ∃ kf16, kf16 ≤ kf7 ∧ signalmanlaw15_ArqOrders.j2 kf16 a2 t11 x15 = some r) (fun st => match st with | x15 => [(2, Value.slice sa2 a2.length sc2), (10, Value.pointer (some ⟨bt11_0, 0, none⟩)), (59, Value.bool x15)]) ?_ ?_)))
    ·refine V.region (W.mv rfl (W.nc rfl ?_))
     obtain ⟨b0_175, b1_175, a2_175, c2_175, d2_175, a3_175, c3_175, d3_175, a4_175, c4_175, a5_175, c5_175, a6_175, c6_175, a7_175, c7_175, hi176, HS⟩ := signalmanlaw15_pair.open HS
     refine W.fa fo59_0 rfl (W.r (X.indexArK 0 rfl Try.underlying54 inf26 rfl rfl (by decide) (by decide)) rfl (W.ld 0 HS Try.underlying26 rfl rfl rfl rfl ?_))
     replace HS := HS.fr 1
     obtain ⟨b8_177, b9_177, b10_177, a11_177, c11_177, d11_177, a12_177, c12_177, hi178, HS⟩ := arq_Arq.open HS
     obtain ⟨t179, A180, H⟩ := bind_s H
     refine W.e (Y.cl Try.func22 (arq_Arq_State.calls A180 HS.j7)) rfl ?_
     rintro _ w ⟨rfl, HS⟩
     replace HS := HS.o7
     refine W.r (X.cmp (!(decide (t179 = 2))) rfl rfl rfl rfl) rfl (W.mv rfl ?_)
     by_cases c181 : t179 = 2
     ·replace H := ite_t c181 H
      refine W.want 51 rfl (sb (n_t (decide_eq_true c181))) (W.mv rfl (W.want 51 rfl (sb (n_t (decide_eq_true c181))) (W.nc rfl (W.want 51 rfl (sb (n_t (decide_eq_true c181))) (W.fa fo59_0 rfl (W.want 51 rfl (sb (n_t (decide_eq_true c181))) (W.r (X.indexArK 1 rfl Try.underlying54 inf26 rfl rfl (by decide) (by decide)) rfl (W.want 51 rfl (sb (n_t (decide_eq_true c181))) (W.ld 7 HS Try.underlying26 rfl rfl rfl rfl (W.want 51 rfl (sb (n_t (decide_eq_true c181))) ?_))))))))))
      replace HS := HS.fr 8
      obtain ⟨b8_182, b9_182, b10_182, a11_182, c11_182, d11_182, a12_182, c12_182, hi183, HS⟩ := arq_Arq.open HS
      obtain ⟨t184, A185, H⟩ := bind_s H
      refine W.e (Y.cl Try.func22 (arq_Arq_State.calls A185 HS.j7)) rfl ?_
      rintro _ w ⟨rfl, HS⟩
      replace HS := HS.o7
      refine W.want 51 rfl (sb (n_t (decide_eq_true c181))) (W.r (X.cmp (!(decide (t184 = 2))) rfl rfl rfl rfl) rfl (W.r (X.pickF (sb (n_t (decide_eq_true c181))) rfl) rfl (W.nil ?_)))
      replace HS := HS.pm [23, 0, 1, 2, 3, 4, 5, 6, 7, 8, 9, 10, 11, 12, 13, 14, 15, 16, 17, 18, 19, 20, 21, 22, 24]
      replace HS := api_Config.close trivial HS
      replace HS := HS.pm [8, 9, 10, 11, 12, 13, 14, 0, 1, 2, 3, 4, 5, 6, 7, 15, 16, 17, 18, 19, 20, 21, 22, 23, 24]
      replace HS := arq_Arq.close trivial HS
      replace HS := HS.pm [2, 3, 4, 5, 6, 7, 8, 0, 1, 9, 10, 11, 12, 13, 14, 15, 16, 17, 18]
      replace HS := arq_Arq.close trivial HS
      replace HS := HS.pm [3, 1, 0, 4, 5, 6, 7, 8, 9, 10, 11, 2, 12]
      replace HS := signalmanlaw15_pair.close trivial HS
      replace HS := HS.pk [1, 0, 2] []
      exact At.meet (!(decide (t184 = 2))) ⟨rfl, rfl, rfl, trivial⟩ ⟨HS, kf7, by omega, H⟩
     ·replace H := ite_f c181 H
      refine W.pass 51 rfl (sb (n_f (decide_eq_false c181))) rfl rfl (W.pass 51 rfl (sb (n_f (decide_eq_false c181))) rfl rfl (W.pass 51 rfl (sb (n_f (decide_eq_false c181))) rfl rfl (W.pass 51 rfl (sb (n_f (decide_eq_false c181))) rfl rfl (W.pass 51 rfl (sb (n_f (decide_eq_false c181))) rfl rfl (W.pass 51 rfl (sb (n_f (decide_eq_false c181))) rfl rfl (W.pass 51 rfl (sb (n_f (decide_eq_false c181))) rfl rfl (W.r (X.pickT (sb (n_f (decide_eq_false c181))) rfl) rfl (W.nil ?_))))))))
      replace HS := HS.pm [17, 0, 1, 2, 3, 4, 5, 6, 7, 8, 9, 10, 11, 12, 13, 14, 15, 16, 18]
      replace HS := api_Config.close trivial HS
      replace HS := HS.pm [1, 2, 3, 4, 5, 6, 7, 0, 8, 9, 10, 11, 12, 13, 14, 15, 16, 17, 18]
      replace HS := arq_Arq.close trivial HS
      replace HS := HS.pm [2, 0, 3, 4, 5, 6, 7, 8, 9, 10, 11, 1, 12]
      replace HS := signalmanlaw15_pair.close trivial HS
      replace HS := HS.pk [1, 0, 2] []
      exact At.meet true ⟨rfl, rfl, rfl, trivial⟩ ⟨HS, kf7, by omega, H⟩
    ·rintro x15 w ⟨HS, kf16, hkkf16, H⟩
     unfold signalmanlaw15_ArqOrders.j2 at H
     by_cases c17 : x15 = true
     ·replace H := ite_t c17 H
      refine V.condT (sb c17) (V.seq (V.region (W.as rfl (W.nx (V.ret (At.thenRet ?_))))))
      replace HS := HS.pk [2] [0, 1]
      cases H
      exact At.ret1 rfl rfl ⟨_, rfl, rfl, HS⟩
     ·replace H := ite_f c17 H
      refine V.condF (sb (b_f c17)) (V.skip (At.next (V.seq (V.region (W.as rfl (W.nx (V.seq (V.seq (V.region (W.as rfl (W.nx (V.block (V.loop (σ := Int × Int × signalmanlaw15_pair) (fun kq (st : Int × Int × signalmanlaw15_pair) w => match st with | (x18, x19, x20) => Sep.St [api_Config.at nb10 ({ t8 with N2 := 100 } : api_Config), signalmanlaw15_pair.at bt11_0 x20, R] w0 w ∧ signalmanlaw15_ArqOrders.l3 kq a2 x18 x19 x20 = some r ∧ kq ≤ kf16) (fun st => match st with | (x18, x19, x20) => [(2, Value.slice sa2 a2.length sc2), (10, Value.pointer (some ⟨bt11_0, 0, none⟩)), (11, Value.int .i64 x18), (12, Value.int .i64 x19)]) kf16 (0, 0, t11) ⟨rfl, rfl, rfl, rfl, trivial⟩ ⟨HS, H, Nat.le_refl _⟩ ?_)))))))))))))
      rintro kq21 ⟨x18, x19, x20⟩ w ⟨HS, H, hk22⟩
      cases kq21 with
      | zero => exact absurd H (by simp [signalmanlaw15_ArqOrders.l3])
      | succ kq21 =>
       simp only [signalmanlaw15_ArqOrders.l3] at H
       refine V.seq (V.seq (V.region (W.mv rfl (W.mv rfl (W.r (X.lenSl Try.underlying34 rfl) rfl (W.r (X.cmp (decide (x19 < (a2.length : Int))) rfl rfl rfl rfl) rfl (W.nx ?_)))))))
       by_cases c23 : x19 < (a2.length : Int)
       ·replace H := ite_t c23 H
        refine V.condT (sb (decide_eq_true c23)) (V.skip (At.next (V.seq (V.block (V.seq (V.region (W.mv rfl (W.mv rfl ?_))))))))
        obtain ⟨c24, H⟩ := ite_n H
        obtain ⟨eb25, eo26, hh⟩ := (rdC.at 2 hr2 HS rfl).some (by decide) c24.1 c24.2; subst hh
        refine W.r (X.indexSl Try.underlying34 inf3 rfl rfl c24.1 c24.2) rfl (W.r (X.load Try.underlying3 rfl rfl ((rdC.at 2 hr2 HS rfl).cellI c24.1 c24.2)) rfl (W.r (X.and rfl rfl) rfl (W.as rfl (W.nx (V.meet (σ := signalmanlaw15_pair × Int) (fun st w => match st with | (x27, x28) => Sep.St [api_Config.at nb10 ({ t8 with N2 := 100 } : api_Config), signalmanlaw15_pair.at bt11_0 x27, R] w0 w ∧ ∃ kf29 kl31, kf29 ≤ kq21 ∧ kl31 ≤ kq21 ∧ signalmanlaw15_ArqOrders.j4 kf29 x19 (signalmanlaw15_ArqOrders.l3 kl31 a2) x27 x28 = some r) (fun st => match st with | (x27, x28) => [(2, Value.slice (some ⟨eb25, eo26, none⟩) a2.length sc2), (10, Value.pointer (some ⟨bt11_0, 0, none⟩)), (11, Value.int .i64 x28), (12, Value.int .i64 x19)]) ?_ ?_)))))
        ·refine V.seq (V.region (W.mv rfl (W.mv rfl (W.r (X.indexSl Try.underlying34 inf3 rfl rfl c24.1 c24.2) rfl (W.r (X.load Try.underlying3 rfl rfl ((rdC.at 2 hr2 HS rfl).cellI c24.1 c24.2)) rfl (W.r (X.shr rfl rfl (by decide)) rfl (W.r (X.and rfl rfl) rfl (W.nx (V.block (V.meet (σ := Bool) (fun st w => match st with | x103 => Sep.St [api_Config.at nb10 ({ t8 with N2 := 100 } : api_Config), signalmanlaw15_pair.at bt11_0 x20, R] w0 w ∧ ∃ kf104 kl106, kf104 ≤ kq21 ∧ kl106 ≤ kq21 ∧ signalmanlaw15_ArqOrders.j8 kf104 a2 x18 x19 x20 (signalmanlaw15_ArqOrders.l3 kl106 a2) x103 = some r) (fun st => match st with | x103 => [(2, Value.slice (some ⟨eb25, eo26, none⟩) a2.length sc2), (10, Value.pointer (some ⟨bt11_0, 0, none⟩)), (11, Value.int .i64 x18), (12, Value.int .i64 x19), (13, Value.int .i64 (iand .i64 (a2.getD x19.toNat 0) (1))), (76, Value.int .i64 (iand .i64 ((a2.getD x19.toNat 0).fdiv (2 ^ (min (1 : Int).toNat IntKind.i64.bits))) (7))), (80, Value.bool x103)]) ?_ ?_))))))))))
         ·refine V.seq (V.region (W.r (X.cmp (decide ((iand .i64 ((a2.getD x19.toNat 0).fdiv (2 ^ (min (1 : Int).toNat IntKind.i64.bits))) (7)) = 0)) rfl rfl rfl rfl) rfl (W.as rfl (W.nx ?_))))
          by_cases c174 : (iand .i64 ((a2.getD x19.toNat 0).fdiv (2 ^ (min (1 : Int).toNat IntKind.i64.bits))) (7)) = 0
          ·replace H := ite_t c174 H
           refine V.condT (sb (decide_eq_true c174)) (V.skip ?_)
           exact At.meet (decide ((iand .i64 ((a2.getD x19.toNat 0).fdiv (2 ^ (min (1 : Int).toNat IntKind.i64.bits))) (7)) = 0)) ⟨rfl, rfl, rfl, rfl, rfl, rfl, rfl, trivial⟩ ⟨HS, kq21, kq21, by omega, by omega, H⟩
          ·replace H := ite_f c174 H
           refine V.condF (sb (decide_eq_false c174)) (V.region (W.r (X.cmp (decide ((iand .i64 ((a2.getD x19.toNat 0).fdiv (2 ^ (min (1 : Int).toNat IntKind.i64.bits))) (7)) = 1)) rfl rfl rfl rfl) rfl (W.as rfl (W.nil ?_))))
           exact At.meet (decide ((iand .i64 ((a2.getD x19.toNat 0).fdiv (2 ^ (min (1 : Int).toNat IntKind.i64.bits))) (7)) = 1)) ⟨rfl, rfl, rfl, rfl, rfl, rfl, rfl, trivial⟩ ⟨HS, kq21, kq21, by omega, by omega, H⟩
         ·rintro x103 w ⟨HS, kf104, kl106, hkkf104, hkkl106, H⟩
          unfold signalmanlaw15_ArqOrders.j8 at H
          by_cases c107 : x103 = true
          ·replace H := ite_t c107 H
           refine V.condT (sb c107) (V.seq (V.region (W.mv rfl (W.r (X.conv Try.underlying3 Try.underlying5 rfl) rfl (W.mv rfl (W.r (X.shr rfl rfl (by decide)) rfl (W.r (X.conv Try.underlying3 Try.underlying5 rfl) rfl (W.e (Y.ls (e := 5) (Value.int .u8) ([IntKind.u8.wrap x18, IntKind.u8.wrap (x18.fdiv (2 ^ (min (8 : Int).toNat IntKind.i64.bits)))] : List Int) HS rfl rfl (fun _ => by kernel_rfl)) rfl ?_))))))))
           rintro _ w ⟨lb110, rfl, HS⟩
           refine W.as rfl (W.nx (V.meet (σ := signalmanlaw15_pair × Int) (fun st w => match st with | (x112, x113) => Sep.St [row 5 1 (.slice (some ⟨lb110, 0, none⟩) (([IntKind.u8.wrap x18, IntKind.u8.wrap (x18.fdiv (2 ^ (min (8 : Int).toNat IntKind.i64.bits)))] : List Int)).length 2) (([IntKind.u8.wrap x18, IntKind.u8.wrap (x18.fdiv (2 ^ (min (8 : Int).toNat IntKind.i64.bits)))] : List Int)).length ((([IntKind.u8.wrap x18, IntKind.u8.wrap (x18.fdiv (2 ^ (min (8 : Int).toNat IntKind.i64.bits)))] : List Int)).map (Value.int .u8)), api_Config.at nb10 ({ t8 with N2 := 100 } : api_Config), signalmanlaw15_pair.at bt11_0 x112, R] w0 w ∧ ∃ kf114 kl116, kf114 ≤ kf104 ∧ kl116 ≤ kl106 ∧ signalmanlaw15_ArqOrders.j9 kf114 a2 x18 x19 (signalmanlaw15_ArqOrders.l3 kl116 a2) x112 x113 = some r) (fun st => match st with | (x112, x113) => [(2, Value.slice (some ⟨eb25, eo26, none⟩) a2.length sc2), (10, Value.pointer (some ⟨bt11_0, 0, none⟩)), (11, Value.int .i64 x18), (12, Value.int .i64 x19), (13, Value.int .i64 (iand .i64 (a2.getD x19.toNat 0) (1))), (14, Value.slice (some ⟨lb110, 0, none⟩) (([IntKind.u8.wrap x18, IntKind.u8.wrap (x18.fdiv (2 ^ (min (8 : Int).toNat IntKind.i64.bits)))] : List Int)).length 2), (15, Value.int .i64 x113)]) ?_ ?_))
           ·refine V.region (W.mv rfl (W.mv rfl (W.nc rfl ?_)))
            replace HS := HS.fr 2
            obtain ⟨b0_140, b1_140, a2_140, c2_140, d2_140, a3_140, c3_140, d3_140, a4_140, c4_140, a5_140, c5_140, a6_140, c6_140, a7_140, c7_140, hi141, HS⟩ := signalmanlaw15_pair.open HS
            refine W.fa fo59_0 rfl ?_
            obtain ⟨c142, H⟩ := ite_n H
            by_cases c143 : iand .i64 (a2.getD x19.toNat 0) (1) = 0
            ·replace H := ite_t c143 H
             refine W.r (X.indexArK 0 c143 Try.underlying54 inf26 rfl rfl c142.1 c142.2) rfl (W.ld 0 HS Try.underlying26 rfl rfl rfl rfl (W.mv rfl ?_))
             obtain ⟨t144, A145, H⟩ := bind_s H
             replace HS := HS.pm [1, 0, 2, 3, 4, 5, 6, 7, 8, 9, 10, 11, 12, 13]
             refine W.e (Y.cl Try.func34 (arq_Arq_Send.calls A145 HS.j1 (rdC.part 10 row_rd rfl))) rfl ?_
             rintro _ w ⟨rfl, HS⟩
             replace HS := HS.o1
             refine W.as rfl (W.nil ?_)
             replace HS := HS.pm [1, 0, 2, 3, 4, 5, 6, 7, 8, 9, 10, 11, 12, 13]
             replace HS := signalmanlaw15_pair.close trivial HS
             replace HS := HS.pk [1, 2, 0, 3] []
             exact At.meet (({ a := (t144.2, x20.a.2), way := (x20.way.1, x20.way.2), heard := (x20.heard.1, x20.heard.2), said := (x20.said.1, x20.said.2), downs := x20.downs } : signalmanlaw15_pair), t144.1) ⟨rfl, rfl, rfl, rfl, rfl, rfl, rfl, trivial⟩ ⟨HS, kf104, kl106, by omega, by omega, H⟩
            ·replace H := ite_f c143 H
             have hk146 : iand .i64 (a2.getD x19.toNat 0) (1) = 1 := by omega
             refine W.r (X.indexArK 1 hk146 Try.underlying54 inf26 rfl rfl c142.1 c142.2) rfl (W.ld 0 HS Try.underlying26 rfl rfl rfl rfl (W.mv rfl ?_))
             obtain ⟨t147, A148, H⟩ := bind_s H
             replace HS := HS.pm [2, 0, 1, 3, 4, 5, 6, 7, 8, 9, 10, 11, 12, 13]
             refine W.e (Y.cl Try.func34 (arq_Arq_Send.calls A148 HS.j1 (rdC.part 10 row_rd rfl))) rfl ?_
             rintro _ w ⟨rfl, HS⟩
             replace HS := HS.o1
             refine W.as rfl (W.nil ?_)
             replace HS := HS.pm [1, 2, 0, 3, 4, 5, 6, 7, 8, 9, 10, 11, 12, 13]
             replace HS := signalmanlaw15_pair.close trivial HS
             replace HS := HS.pk [1, 2, 0, 3] []
             exact At.meet (({ a := (x20.a.1, t147.2), way := (x20.way.1, x20.way.2), heard := (x20.heard.1, x20.heard.2), said := (x20.said.1, x20.said.2), downs := x20.downs } : signalmanlaw15_pair), t147.1) ⟨rfl, rfl, rfl, rfl, rfl, rfl, rfl, trivial⟩ ⟨HS, kf104, kl106, by omega, by omega, H⟩
           ·rintro ⟨x112, x113⟩ w ⟨HS, kf114, kl116, hkkf114, hkkl116, H⟩
            unfold signalmanlaw15_ArqOrders.j9 at H
            refine V.seq (V.region (W.mv rfl ?_))
            obtain ⟨t117, A118, H⟩ := bind_s H
            refine W.e (Y.cl Try.func35 (signalmanlaw15_num.calls A118 HS.j0)) rfl ?_
            rintro _ w ⟨rfl, HS⟩
            replace HS := HS.o0
            refine W.r (X.cmp (decide (t117 = 0)) rfl rfl rfl rfl) rfl (W.nx ?_)
            by_cases c119 : t117 = 0
            ·replace H := ite_t c119 H
             refine V.condT (sb (decide_eq_true c119)) (V.seq ?_)
             replace HS := HS.fr 2
             obtain ⟨b0_120, b1_120, a2_120, c2_120, d2_120, a3_120, c3_120, d3_120, a4_120, c4_120, a5_120, c5_120, a6_120, c6_120, a7_120, c7_120, hi121, HS⟩ := signalmanlaw15_pair.open HS
             obtain ⟨c122, H⟩ := ite_n H
             by_cases c123 : iand .i64 (a2.getD x19.toNat 0) (1) = 0
             ·replace H := ite_t c123 H
              refine V.dr [10, 11, 15] [14] [(100, Value.pointer (some ⟨bt11_0, 0, none⟩)), (101, Value.int .i64 (iand .i64 (a2.getD x19.toNat 0) (1))), (102, Value.pointer (some ⟨bt11_0, 0, none⟩)), (103, Value.int .i64 (iand .i64 (a2.getD x19.toNat 0) (1))), (104, Value.pointer (some ⟨bt11_0, 0, none⟩)), (105, Value.pointer (some ⟨bt11_0, 0 + 6, none⟩)), (106, Value.pointer (some ⟨bt11_0, 0 + 6 + 0 * 1, none⟩)), (107, Value.slice a6_120 x112.said.1.length c6_120), (108, Value.slice (some ⟨lb110, 0, none⟩) (([IntKind.u8.wrap x18, IntKind.u8.wrap (x18.fdiv (2 ^ (min (8 : Int).toNat IntKind.i64.bits)))] : List Int)).length 2), (109, Value.string (strOf (([IntKind.u8.wrap x18, IntKind.u8.wrap (x18.fdiv (2 ^ (min (8 : Int).toNat IntKind.i64.bits)))] : List Int)))), (112, Value.pointer (some ⟨bt11_0, 0, none⟩)), (113, Value.pointer (some ⟨bt11_0, 0 + 6, none⟩))] mo HS ?_
              refine T.ev [(109, _)] [14] [8, 9] ⟨rfl, trivial⟩ ⟨.mv 10, .mv 13, .mv 10, .mv 13, .nc 102, .fa 104 fo59_3, .n2 103 105 rfl rfl rfl (fun w HS => X.indexArK 0 c123 Try.underlying57 inf56 rfl rfl c122.1 c122.2), .ld 106 0 Try.underlying56, .mv 14, .n1 108 rfl rfl (fun w HS => X.bytesStr Try.underlying39 Try.underlying5 Try.underlying9 rfl (rdC.at 11 row_rd HS rfl)), .nc 100, .fa 112 fo59_3, trivial⟩ rfl (fun w HS => ?_)
              refine ⟨_, Y.ls (e := 9) (fun x => Value.string (strOf x)) ([([IntKind.u8.wrap x18, IntKind.u8.wrap (x18.fdiv (2 ^ (min (8 : Int).toNat IntKind.i64.bits)))] : List Int)] : List (List Int)) HS rfl rfl (fun _ => by kernel_rfl), ?_⟩
              rintro _ w ⟨lb126, rfl, HS⟩
              refine T.nw HS ?_
              refine T.ev [(107, _), (110, _)] [] [2, 3, 4, 5, 6, 7] ⟨rfl, rfl, trivial⟩ ⟨.mv 10, .mv 13, .mv 10, .mv 13, .nc 102, .fa 104 fo59_3, .n2 103 105 rfl rfl rfl (fun w HS => X.indexArK 0 c123 Try.underlying57 inf56 rfl rfl c122.1 c122.2), .ld 106 1 Try.underlying56, .nc 100, .fa 112 fo59_3, trivial⟩ rfl (fun w HS => ?_)
              obtain ⟨c127, H⟩ := ite_n H
              refine ⟨_, Y.appF (fun x => Value.string (strOf x)) (fun _ => rfl) 10 Try.underlying56 ap9 rfl HS rfl rfl rfl (rdC.at 0 row_rd HS rfl) (by omega) (by omega), ?_⟩
              rintro _ w ⟨ra128, rc129, rfl, HS⟩
              refine T.nm [(111, Value.slice ra128 (x112.said.1 ++ ([([IntKind.u8.wrap x18, IntKind.u8.wrap (x18.fdiv (2 ^ (min (8 : Int).toNat IntKind.i64.bits)))] : List Int)] : List (List Int))).length rc129), (114, Value.pointer (some ⟨bt11_0, 0 + 6 + 0 * 1, none⟩))] HS ⟨.inl ⟨rfl, rfl⟩, ⟨.inr ⟨by decide, rfl⟩, trivial⟩⟩ ?_
              refine T.ev [(111, _), (114, _)] [] [0, 1, 12, 13, 14] ⟨rfl, rfl, trivial⟩ ⟨.mv 10, .mv 13, .nc 100, .fa 112 fo59_3, .n2 101 113 rfl rfl rfl (fun w HS => X.indexArK 0 c123 Try.underlying57 inf56 rfl rfl c122.1 c122.2), trivial⟩ rfl (fun w HS => ?_)
              refine ⟨_, Y.sto 1 6 HS inf56 rfl rfl rfl rfl rfl rfl, ?_⟩
              rintro _ w HS
              refine T.nn HS ?_
              refine T.fn [(2, _), (10, _), (11, _), (12, _)] ⟨rfl, rfl, rfl, rfl, trivial⟩ trivial (fun w HS => ?_)
              refine At.next (V.region (W.mv rfl (W.r (X.add rfl rfl) rfl (W.as rfl (W.nil (At.blockEnd ?_))))))
              replace HS := HS.pm [1, 2, 3, 4, 5, 6, 7, 8, 9, 10, 11, 0, 12, 13, 14]
              replace HS := signalmanlaw15_pair.close trivial HS
              replace HS := HS.pk [3, 0, 4] [1, 2]
              exact At.meet (({ a := (x112.a.1, x112.a.2), way := (x112.way.1, x112.way.2), heard := (x112.heard.1, x112.heard.2), said := (x112.said.1 ++ ([([IntKind.u8.wrap x18, IntKind.u8.wrap (x18.fdiv (2 ^ (min (8 : Int).toNat IntKind.i64.bits)))] : List Int)] : List (List Int)), x112.said.2), downs := x112.downs } : signalmanlaw15_pair), w64 (x18 + 1)) ⟨rfl, rfl, rfl, rfl, trivial⟩ ⟨HS, kf114, kl116, by omega, by omega, H⟩
             ·replace H := ite_f c123 H
              have hk130 : iand .i64 (a2.getD x19.toNat 0) (1) = 1 := by omega
              refine V.dr [10, 11, 15] [14] [(100, Value.pointer (some ⟨bt11_0, 0, none⟩)), (101, Value.int .i64 (iand .i64 (a2.getD x19.toNat 0) (1))), (102, Value.pointer (some ⟨bt11_0, 0, none⟩)), (103, Value.int .i64 (iand .i64 (a2.getD x19.toNat 0) (1))), (104, Value.pointer (some ⟨bt11_0, 0, none⟩)), (105, Value.pointer (some ⟨bt11_0, 0 + 6, none⟩)), (106, Value.pointer (some ⟨bt11_0, 0 + 6 + 1 * 1, none⟩)), (107, Value.slice a7_120 x112.said.2.length c7_120), (108, Value.slice (some ⟨lb110, 0, none⟩) (([IntKind.u8.wrap x18, IntKind.u8.wrap (x18.fdiv (2 ^ (min (8 : Int).toNat IntKind.i64.bits)))] : List Int)).length 2), (109, Value.string (strOf (([IntKind.u8.wrap x18, IntKind.u8.wrap (x18.fdiv (2 ^ (min (8 : Int).toNat IntKind.i64.bits)))] : List Int)))), (112, Value.pointer (some ⟨bt11_0, 0, none⟩)), (113, Value.pointer (some ⟨bt11_0, 0 + 6, none⟩))] mo HS ?_
              refine T.ev [(109, _)] [14] [8, 9] ⟨rfl, trivial⟩ ⟨.mv 10, .mv 13, .mv 10, .mv 13, .nc 102, .fa 104 fo59_3, .n2 103 105 rfl rfl rfl (fun w HS => X.indexArK 1 hk130 Try.underlying57 inf56 rfl rfl c122.1 c122.2), .ld 106 0 Try.underlying56, .mv 14, .n1 108 rfl rfl (fun w HS => X.bytesStr Try.underlying39 Try.underlying5 Try.underlying9 rfl (rdC.at 11 row_rd HS rfl)), .nc 100, .fa 112 fo59_3, trivial⟩ rfl (fun w HS => ?_)
              refine ⟨_, Y.ls (e := 9) (fun x => Value.string (strOf x)) ([([IntKind.u8.wrap x18, IntKind.u8.wrap (x18.fdiv (2 ^ (min (8 : Int).toNat IntKind.i64.bits)))] : List Int)] : List (List Int)) HS rfl rfl (fun _ => by kernel_rfl), ?_⟩
              rintro _ w ⟨lb133, rfl, HS⟩
              refine T.nw HS ?_
              refine T.ev [(107, _), (110, _)] [] [2, 3, 4, 5, 6, 7] ⟨rfl, rfl, trivial⟩ ⟨.mv 10, .mv 13, .mv 10, .mv 13, .nc 102, .fa 104 fo59_3, .n2 103 105 rfl rfl rfl (fun w HS => X.indexArK 1 hk130 Try.underlying57 inf56 rfl rfl c122.1 c122.2), .ld 106 1 Try.underlying56, .nc 100, .fa 112 fo59_3, trivial⟩ rfl (fun w HS => ?_)
              obtain ⟨c134, H⟩ := ite_n H
              refine ⟨_, Y.appF (fun x => Value.string (strOf x)) (fun _ => rfl) 11 Try.underlying56 ap9 rfl HS rfl rfl rfl (rdC.at 0 row_rd HS rfl) (by omega) (by omega), ?_⟩
              rintro _ w ⟨ra135, rc136, rfl, HS⟩
              refine T.nm [(111, Value.slice ra135 (x112.said.2 ++ ([([IntKind.u8.wrap x18, IntKind.u8.wrap (x18.fdiv (2 ^ (min (8 : Int).toNat IntKind.i64.bits)))] : List Int)] : List (List Int))).length rc136), (114, Value.pointer (some ⟨bt11_0, 0 + 6 + 1 * 1, none⟩))] HS ⟨.inl ⟨rfl, rfl⟩, ⟨.inr ⟨by decide, rfl⟩, trivial⟩⟩ ?_
              refine T.ev [(111, _), (114, _)] [] [0, 1, 12, 13, 14] ⟨rfl, rfl, trivial⟩ ⟨.mv 10, .mv 13, .nc 100, .fa 112 fo59_3, .n2 101 113 rfl rfl rfl (fun w HS => X.indexArK 1 hk130 Try.underlying57 inf56 rfl rfl c122.1 c122.2), trivial⟩ rfl (fun w HS => ?_)
              refine ⟨_, Y.sto 1 7 HS inf56 rfl rfl rfl rfl rfl rfl, ?_⟩
              rintro _ w HS
              refine T.nn HS ?_
              refine T.fn [(2, _), (10, _), (11, _), (12, _)] ⟨rfl, rfl, rfl, rfl, trivial⟩ trivial (fun w HS => ?_)
              refine At.next (V.region (W.mv rfl (W.r (X.add rfl rfl) rfl (W.as rfl (W.nil (At.blockEnd ?_))))))
              replace HS := HS.pm [1, 2, 3, 4, 5, 6, 7, 8, 9, 10, 11, 0, 12, 13, 14]
              replace HS := signalmanlaw15_pair.close trivial HS
              replace HS := HS.pk [3, 0, 4] [1, 2]
              exact At.meet (({ a := (x112.a.1, x112.a.2), way := (x112.way.1, x112.way.2), heard := (x112.heard.1, x112.heard.2), said := (x112.said.1, x112.said.2 ++ ([([IntKind.u8.wrap x18, IntKind.u8.wrap (x18.fdiv (2 ^ (min (8 : Int).toNat IntKind.i64.bits)))] : List Int)] : List (List Int))), downs := x112.downs } : signalmanlaw15_pair), w64 (x18 + 1)) ⟨rfl, rfl, rfl, rfl, trivial⟩ ⟨HS, kf114, kl116, by omega, by omega, H⟩
            ·replace H := ite_f c119 H
             refine V.condF (sb (decide_eq_false c119)) (V.seq (V.region (W.mv rfl ?_)))
             obtain ⟨t137, A138, H⟩ := bind_s H
             refine W.e (Y.cl Try.func35 (signalmanlaw15_num.calls A138 HS.j0)) rfl ?_
             rintro _ w ⟨rfl, HS⟩
             replace HS := HS.o0
             refine W.r (X.cmp (!(decide (t137 = 6))) rfl rfl rfl rfl) rfl (W.nx ?_)
             by_cases c139 : t137 = 6
             ·replace H := ite_t c139 H
              refine V.condF (sb (n_t (decide_eq_true c139))) (V.skip (At.blockEnd ?_))
              replace HS := HS.pk [1, 2, 3] [0]
              exact At.meet (x112, x18) ⟨rfl, rfl, rfl, rfl, trivial⟩ ⟨HS, kf114, kl116, by omega, by omega, H⟩
             ·replace H := ite_f c139 H
              refine V.condT (sb (n_f (decide_eq_false c139))) (V.seq (V.region (W.as rfl (W.nx (V.ret (At.blockRet (At.thenRet (At.blockRet (At.thenRet (At.thenRet (At.blockRet (At.thenRet ?_))))))))))))
              replace HS := HS.pk [3] [0, 1, 2]
              cases H
              exact At.ret1 rfl rfl ⟨_, rfl, rfl, HS⟩
          ·replace H := ite_f c107 H
           refine V.condF (sb (b_f c107)) (V.seq (V.region (W.r (X.cmp (decide ((iand .i64 ((a2.getD x19.toNat 0).fdiv (2 ^ (min (1 : Int).toNat IntKind.i64.bits))) (7)) = 2)) rfl rfl rfl rfl) rfl (W.as rfl (W.nx ?_)))))
           by_cases c149 : (iand .i64 ((a2.getD x19.toNat 0).fdiv (2 ^ (min (1 : Int).toNat IntKind.i64.bits))) (7)) = 2
           ·replace H := ite_t c149 H
            refine V.condT (sb (decide_eq_true c149)) ?_
            replace HS := HS.fr 1
            obtain ⟨b0_150, b1_150, a2_150, c2_150, d2_150, a3_150, c3_150, d3_150, a4_150, c4_150, a5_150, c5_150, a6_150, c6_150, a7_150, c7_150, hi151, HS⟩ := signalmanlaw15_pair.open HS
            obtain ⟨c152, H⟩ := ite_n H
            by_cases c153 : iand .i64 (a2.getD x19.toNat 0) (1) = 0
            ·replace H := ite_t c153 H
             refine V.dr [13] [] [(122, Value.pointer (some ⟨bt11_0, 0, none⟩)), (123, Value.int .i64 (iand .i64 (a2.getD x19.toNat 0) (1))), (124, Value.pointer (some ⟨bt11_0, 0, none⟩)), (125, Value.pointer (some ⟨bt11_0, 0 + 0, none⟩)), (126, Value.pointer (some ⟨bt11_0, 0 + 0 + 0 * 1, none⟩)), (127, Value.pointer (some ⟨b0_150, 0, none⟩)), (128, Value.slice (some ⟨eb25, eo26, none⟩) a2.length sc2), (129, Value.int .i64 x19), (130, Value.pointer (some ⟨eb25, eo26 + x19.toNat * 1, none⟩)), (131, Value.int .i64 (a2.getD x19.toNat 0)), (132, Value.int .i64 ((a2.getD x19.toNat 0).fdiv (2 ^ (min (4 : Int).toNat IntKind.i64.bits)))), (133, Value.int .i64 (iand .i64 ((a2.getD x19.toNat 0).fdiv (2 ^ (min (4 : Int).toNat IntKind.i64.bits))) (15))), (134, Value.int .i64 (w64 (1 + (iand .i64 ((a2.getD x19.toNat 0).fdiv (2 ^ (min (4 : Int).toNat IntKind.i64.bits))) (15)))))] mo HS ?_
             refine T.ev [(127, _), (134, _)] [] [0, 1, 2, 3, 4, 5, 6, 7, 8, 9, 10, 11, 12] ⟨rfl, rfl, trivial⟩ ⟨.mv 10, .mv 13, .nc 122, .fa 124 fo59_0, .n2 123 125 rfl rfl rfl (fun w HS => X.indexArK 0 c153 Try.underlying54 inf26 rfl rfl c152.1 c152.2), .ld 126 0 Try.underlying26, .mv 2, .mv 12, .n2 128 129 rfl rfl rfl (fun w HS => X.indexSl Try.underlying34 inf3 rfl rfl c24.1 c24.2), .n1 130 rfl rfl (fun w HS => X.load Try.underlying3 rfl rfl ((rdC.at 12 hr2 HS rfl).cellI c24.1 c24.2)), .n1 131 rfl rfl (fun w HS => X.shr rfl rfl (by decide)), .n1 132 rfl rfl (fun w HS => X.and rfl rfl), .n1 133 rfl rfl (fun w HS => X.add rfl rfl), trivial⟩ rfl (fun w HS => ?_)
             obtain ⟨t154, A155, H⟩ := bind_s H
             replace HS := HS.pm [1, 0, 2, 3, 4, 5, 6, 7, 8, 9, 10, 11, 12]
             refine ⟨_, Y.cl Try.func21 (arq_Arq_Pass.calls A155 HS.j1), ?_⟩
             rintro _ w ⟨rfl, HS⟩
             replace HS := HS.o1
             refine T.nw HS ?_
             refine T.fn [(2, _), (10, _), (11, _), (12, _)] ⟨rfl, rfl, rfl, rfl, trivial⟩ trivial (fun w HS => ?_)
             refine At.blockEnd ?_
             replace HS := HS.pm [1, 0, 2, 3, 4, 5, 6, 7, 8, 9, 10, 11, 12]
             replace HS := signalmanlaw15_pair.close trivial HS
             replace HS := HS.pk [1, 0, 2] []
             exact At.meet (({ a := (t154, x20.a.2), way := (x20.way.1, x20.way.2), heard := (x20.heard.1, x20.heard.2), said := (x20.said.1, x20.said.2), downs := x20.downs } : signalmanlaw15_pair), x18) ⟨rfl, rfl, rfl, rfl, trivial⟩ ⟨HS, kf104, kl106, by omega, by omega, H⟩
            ·replace H := ite_f c153 H
             have hk156 : iand .i64 (a2.getD x19.toNat 0) (1) = 1 := by omega
             refine V.dr [13] [] [(122, Value.pointer (some ⟨bt11_0, 0, none⟩)), (123, Value.int .i64 (iand .i64 (a2.getD x19.toNat 0) (1))), (124, Value.pointer (some ⟨bt11_0, 0, none⟩)), (125, Value.pointer (some ⟨bt11_0, 0 + 0, none⟩)), (126, Value.pointer (some ⟨bt11_0, 0 + 0 + 1 * 1, none⟩)), (127, Value.pointer (some ⟨b1_150, 0, none⟩)), (128, Value.slice (some ⟨eb25, eo26, none⟩) a2.length sc2), (129, Value.int .i64 x19), (130, Value.pointer (some ⟨eb25, eo26 + x19.toNat * 1, none⟩)), (131, Value.int .i64 (a2.getD x19.toNat 0)), (132, Value.int .i64 ((a2.getD x19.toNat 0).fdiv (2 ^ (min (4 : Int).toNat IntKind.i64.bits)))), (133, Value.int .i64 (iand .i64 ((a2.getD x19.toNat 0).fdiv (2 ^ (min (4 : Int).toNat IntKind.i64.bits))) (15))), (134, Value.int .i64 (w64 (1 + (iand .i64 ((a2.getD x19.toNat 0).fdiv (2 ^ (min (4 : Int).toNat IntKind.i64.bits))) (15)))))] mo HS ?_
             refine T.ev [(127, _), (134, _)] [] [0, 1, 2, 3, 4, 5, 6, 7, 8, 9, 10, 11, 12] ⟨rfl, rfl, trivial⟩ ⟨.mv 10, .mv 13, .nc 122, .fa 124 fo59_0, .n2 123 125 rfl rfl rfl (fun w HS => X.indexArK 1 hk156 Try.underlying54 inf26 rfl rfl c152.1 c152.2), .ld 126 0 Try.underlying26, .mv 2, .mv 12, .n2 128 129 rfl rfl rfl (fun w HS => X.indexSl Try.underlying34 inf3 rfl rfl c24.1 c24.2), .n1 130 rfl rfl (fun w HS => X.load Try.underlying3 rfl rfl ((rdC.at 12 hr2 HS rfl).cellI c24.1 c24.2)), .n1 131 rfl rfl (fun w HS => X.shr rfl rfl (by decide)), .n1 132 rfl rfl (fun w HS => X.and rfl rfl), .n1 133 rfl rfl (fun w HS => X.add rfl rfl), trivial⟩ rfl (fun w HS => ?_)
             obtain ⟨t157, A158, H⟩ := bind_s H
             replace HS := HS.pm [2, 0, 1, 3, 4, 5, 6, 7, 8, 9, 10, 11, 12]
             refine ⟨_, Y.cl Try.func21 (arq_Arq_Pass.calls A158 HS.j1), ?_⟩
             rintro _ w ⟨rfl, HS⟩
             replace HS := HS.o1
             refine T.nw HS ?_
             refine T.fn [(2, _), (10, _), (11, _), (12, _)] ⟨rfl, rfl, rfl, rfl, trivial⟩ trivial (fun w HS => ?_)
             refine At.blockEnd ?_
             replace HS := HS.pm [1, 2, 0, 3, 4, 5, 6, 7, 8, 9, 10, 11, 12]
             replace HS := signalmanlaw15_pair.close trivial HS
             replace HS := HS.pk [1, 0, 2] []
             exact At.meet (({ a := (x20.a.1, t157), way := (x20.way.1, x20.way.2), heard := (x20.heard.1, x20.heard.2), said := (x20.said.1, x20.said.2), downs := x20.downs } : signalmanlaw15_pair), x18) ⟨rfl, rfl, rfl, rfl, trivial⟩ ⟨HS, kf104, kl106, by omega, by omega, H⟩
           ·replace H := ite_f c149 H
            refine V.condF (sb (decide_eq_false c149)) (V.seq (V.region (W.r (X.cmp (decide ((iand .i64 ((a2.getD x19.toNat 0).fdiv (2 ^ (min (1 : Int).toNat IntKind.i64.bits))) (7)) = 3)) rfl rfl rfl rfl) rfl (W.as rfl (W.nx ?_)))))
            by_cases c159 : (iand .i64 ((a2.getD x19.toNat 0).fdiv (2 ^ (min (1 : Int).toNat IntKind.i64.bits))) (7)) = 3
            ·replace H := ite_t c159 H
             refine V.condT (sb (decide_eq_true c159)) (V.region (W.mv rfl (W.mv rfl (W.nc rfl ?_))))
             replace HS := HS.fr 1
             obtain ⟨b0_160, b1_160, a2_160, c2_160, d2_160, a3_160, c3_160, d3_160, a4_160, c4_160, a5_160, c5_160, a6_160, c6_160, a7_160, c7_160, hi161, HS⟩ := signalmanlaw15_pair.open HS
             refine W.fa fo59_0 rfl ?_
             obtain ⟨c162, H⟩ := ite_n H
             by_cases c163 : iand .i64 (a2.getD x19.toNat 0) (1) = 0
             ·replace H := ite_t c163 H
              refine W.r (X.indexArK 0 c163 Try.underlying54 inf26 rfl rfl c162.1 c162.2) rfl (W.ld 0 HS Try.underlying26 rfl rfl rfl rfl ?_)
              obtain ⟨t164, A165, H⟩ := bind_s H
              replace HS := HS.pm [1, 0, 2, 3, 4, 5, 6, 7, 8, 9, 10, 11, 12]
              refine W.e (Y.cl Try.func38 (arq_Arq_Again.calls A165 HS.j1)) rfl ?_
              rintro _ w ⟨rfl, HS⟩
              replace HS := HS.o1
              refine W.nil (At.blockEnd ?_)
              replace HS := HS.pm [1, 0, 2, 3, 4, 5, 6, 7, 8, 9, 10, 11, 12]
              replace HS := signalmanlaw15_pair.close trivial HS
              replace HS := HS.pk [1, 0, 2] []
              exact At.meet (({ a := (t164, x20.a.2), way := (x20.way.1, x20.way.2), heard := (x20.heard.1, x20.heard.2), said := (x20.said.1, x20.said.2), downs := x20.downs } : signalmanlaw15_pair), x18) ⟨rfl, rfl, rfl, rfl, trivial⟩ ⟨HS, kf104, kl106, by omega, by omega, H⟩
             ·replace H := ite_f c163 H
              have hk166 : iand .i64 (a2.getD x19.toNat 0) (1) = 1 := by omega
              refine W.r (X.indexArK 1 hk166 Try.underlying54 inf26 rfl rfl c162.1 c162.2) rfl (W.ld 0 HS Try.underlying26 rfl rfl rfl rfl ?_)
              obtain ⟨t167, A168, H⟩ := bind_s H
              replace HS := HS.pm [2, 0, 1, 3, 4, 5, 6, 7, 8, 9, 10, 11, 12]
              refine W.e (Y.cl Try.func38 (arq_Arq_Again.calls A168 HS.j1)) rfl ?_
              rintro _ w ⟨rfl, HS⟩
              replace HS := HS.o1
              refine W.nil (At.blockEnd ?_)
              replace HS := HS.pm [1, 2, 0, 3, 4, 5, 6, 7, 8, 9, 10, 11, 12]
              replace HS := signalmanlaw15_pair.close trivial HS
              replace HS := HS.pk [1, 0, 2] []
              exact At.meet (({ a := (x20.a.1, t167), way := (x20.way.1, x20.way.2), heard := (x20.heard.1, x20.heard.2), said := (x20.said.1, x20.said.2), downs := x20.downs } : signalmanlaw15_pair), x18) ⟨rfl, rfl, rfl, rfl, trivial⟩ ⟨HS, kf104, kl106, by omega, by omega, H⟩
            ·replace H := ite_f c159 H
             refine V.condF (sb (decide_eq_false c159)) (V.seq (V.region (W.r (X.cmp (decide ((iand .i64 ((a2.getD x19.toNat 0).fdiv (2 ^ (min (1 : Int).toNat IntKind.i64.bits))) (7)) = 4)) rfl rfl rfl rfl) rfl (W.as rfl (W.nx ?_)))))
             by_cases c169 : (iand .i64 ((a2.getD x19.toNat 0).fdiv (2 ^ (min (1 : Int).toNat IntKind.i64.bits))) (7)) = 4
             ·replace H := ite_t c169 H
              refine V.condT (sb (decide_eq_true c169)) (V.region (W.mv rfl (W.mv rfl ?_)))
              obtain ⟨t170, A171, H⟩ := bind_s H
              replace HS := HS.pm [1, 0, 2]
              refine W.e (Y.cl Try.func33 (signalmanlaw15_pair_carry.calls A171 HS.j1)) rfl ?_
              rintro _ w ⟨rfl, HS⟩
              replace HS := HS.o1
              refine W.nil (At.blockEnd ?_)
              replace HS := HS.pk [1, 0, 2] []
              exact At.meet (t170, x18) ⟨rfl, rfl, rfl, rfl, trivial⟩ ⟨HS, kf104, kl106, by omega, by omega, H⟩
             ·replace H := ite_f c169 H
              refine V.condF (sb (decide_eq_false c169)) (V.region (W.mv rfl (W.mv rfl ?_)))
              obtain ⟨t172, A173, H⟩ := bind_s H
              replace HS := HS.pm [1, 0, 2]
              refine W.e (Y.cl Try.func33 (signalmanlaw15_pair_carry.calls A173 HS.j1)) rfl ?_
              rintro _ w ⟨rfl, HS⟩
              replace HS := HS.o1
              refine W.nil (At.blockEnd ?_)
              replace HS := HS.pk [1, 0, 2] []
              exact At.meet (t172, x18) ⟨rfl, rfl, rfl, rfl, trivial⟩ ⟨HS, kf104, kl106, by omega, by omega, H⟩
        ·rintro ⟨x27, x28⟩ w ⟨HS, kf29, kl31, hkkf29, hkkl31, H⟩
         unfold signalmanlaw15_ArqOrders.j4 at H
         refine V.seq (V.region (W.mv rfl ?_))
         obtain ⟨t32, A33, H⟩ := bind_s H
         replace HS := HS.pm [1, 0, 2]
         refine W.e (Y.cl Try.func32 (signalmanlaw15_pair_collect.calls A33 HS.j1)) rfl ?_
         rintro _ w ⟨rfl, HS⟩
         replace HS := HS.o1
         refine W.nx (V.seq (V.region (W.as rfl (W.nx (V.block (V.loop (σ := Int) (fun kq (st : Int) w => match st with | x34 => Sep.St [signalmanlaw15_pair.at bt11_0 t32, api_Config.at nb10 ({ t8 with N2 := 100 } : api_Config), R] w0 w ∧ signalmanlaw15_ArqOrders.l5 kq x19 (signalmanlaw15_ArqOrders.l3 kl31 a2) x28 t32 x34 = some r ∧ kq ≤ kf29) (fun st => match st with | x34 => [(2, Value.slice (some ⟨eb25, eo26, none⟩) a2.length sc2), (10, Value.pointer (some ⟨bt11_0, 0, none⟩)), (11, Value.int .i64 x28), (12, Value.int .i64 x19), (16, Value.int .i64 x34)]) kf29 (0) ⟨rfl, rfl, rfl, rfl, rfl, trivial⟩ ⟨HS, H, Nat.le_refl _⟩ ?_))))))
         rintro kq35 x34 w ⟨HS, H, hk36⟩
         cases kq35 with
         | zero => exact absurd H (by simp [signalmanlaw15_ArqOrders.l5])
         | succ kq35 =>
          simp only [signalmanlaw15_ArqOrders.l5] at H
          refine V.seq (V.seq (V.region (W.mv rfl (W.r (X.cmp (decide (x34 < 2)) rfl rfl rfl rfl) rfl (W.nx ?_)))))
          by_cases c37 : x34 < 2
          ·replace H := ite_t c37 H
           refine V.condT (sb (decide_eq_true c37)) (V.skip (At.next (V.seq (V.block (V.meet (σ := Int × Int) (fun st w => match st with | (x38, x39) => Sep.St [signalmanlaw15_pair.at bt11_0 t32, api_Config.at nb10 ({ t8 with N2 := 100 } : api_Config), R] w0 w ∧ ∃ kf40 kl44, kf40 ≤ kq35 ∧ kl44 ≤ kq35 ∧ signalmanlaw15_ArqOrders.j6 kf40 t32 x34 (signalmanlaw15_ArqOrders.l5 kl44 x19 (signalmanlaw15_ArqOrders.l3 kl31 a2) x28 t32) x38 x39 = some r) (fun st => match st with | (x38, x39) => [(2, Value.slice (some ⟨eb25, eo26, none⟩) a2.length sc2), (10, Value.pointer (some ⟨bt11_0, 0, none⟩)), (11, Value.int .i64 x28), (12, Value.int .i64 x19), (16, Value.int .i64 x34), (18, Value.int .i64 x38), (19, Value.int .i64 x39)]) ?_ ?_)))))
           ·refine V.region (W.mv rfl (W.mv rfl (W.nc rfl ?_)))
            obtain ⟨b0_90, b1_90, a2_90, c2_90, d2_90, a3_90, c3_90, d3_90, a4_90, c4_90, a5_90, c5_90, a6_90, c6_90, a7_90, c7_90, hi91, HS⟩ := signalmanlaw15_pair.open HS
            refine W.fa fo59_0 rfl ?_
            obtain ⟨c92, H⟩ := ite_n H
            by_cases c93 : x34 = 0
            ·replace H := ite_t c93 H
             refine W.r (X.indexArK 0 c93 Try.underlying54 inf26 rfl rfl c92.1 c92.2) rfl (W.ld 0 HS Try.underlying26 rfl rfl rfl rfl ?_)
             replace HS := HS.fr 1
             obtain ⟨b8_94, b9_94, b10_94, a11_94, c11_94, d11_94, a12_94, c12_94, hi95, HS⟩ := arq_Arq.open HS
             obtain ⟨t96, A97, H⟩ := bind_s H
             refine W.e (Y.cl Try.func37 (arq_Arq_Counts.calls A97 HS.j7)) rfl ?_
             rintro _ w ⟨rfl, HS⟩
             replace HS := HS.o7
             refine W.mv rfl (W.r (X.extract rfl rfl) rfl (W.r (X.extract rfl rfl) rfl (W.r (X.extract rfl rfl) rfl (W.as rfl (W.as rfl (W.as rfl (W.nil ?_)))))))
             replace HS := arq_Arq.close trivial HS
             replace HS := HS.pm [1, 0, 2, 3, 4, 5, 6, 7, 8, 9, 10, 11, 12]
             replace HS := signalmanlaw15_pair.close trivial HS
             exact At.meet (t96.2.1, t96.2.2) ⟨rfl, rfl, rfl, rfl, rfl, rfl, rfl, trivial⟩ ⟨HS, kq35, kq35, by omega, by omega, H⟩
            ·replace H := ite_f c93 H
             have hk98 : x34 = 1 := by omega
             refine W.r (X.indexArK 1 hk98 Try.underlying54 inf26 rfl rfl c92.1 c92.2) rfl (W.ld 0 HS Try.underlying26 rfl rfl rfl rfl ?_)
             replace HS := HS.fr 2
             obtain ⟨b8_99, b9_99, b10_99, a11_99, c11_99, d11_99, a12_99, c12_99, hi100, HS⟩ := arq_Arq.open HS
             obtain ⟨t101, A102, H⟩ := bind_s H
             refine W.e (Y.cl Try.func37 (arq_Arq_Counts.calls A102 HS.j7)) rfl ?_
             rintro _ w ⟨rfl, HS⟩
             replace HS := HS.o7
             refine W.mv rfl (W.r (X.extract rfl rfl) rfl (W.r (X.extract rfl rfl) rfl (W.r (X.extract rfl rfl) rfl (W.as rfl (W.as rfl (W.as rfl (W.nil ?_)))))))
             replace HS := arq_Arq.close trivial HS
             replace HS := HS.pm [1, 2, 0, 3, 4, 5, 6, 7, 8, 9, 10, 11, 12]
             replace HS := signalmanlaw15_pair.close trivial HS
             exact At.meet (t101.2.1, t101.2.2) ⟨rfl, rfl, rfl, rfl, rfl, rfl, rfl, trivial⟩ ⟨HS, kq35, kq35, by omega, by omega, H⟩
           ·rintro ⟨x38, x39⟩ w ⟨HS, kf40, kl44, hkkf40, hkkl44, H⟩
            unfold signalmanlaw15_ArqOrders.j6 at H
            refine V.seq (V.seq (V.region (W.mv rfl (W.nc rfl ?_))))
            obtain ⟨b0_45, b1_45, a2_45, c2_45, d2_45, a3_45, c3_45, d3_45, a4_45, c4_45, a5_45, c5_45, a6_45, c6_45, a7_45, c7_45, hi46, HS⟩ := signalmanlaw15_pair.open HS
            refine W.fa fo59_4 rfl (W.ld 0 HS Try.underlying3 rfl rfl rfl rfl (W.r (X.cmp (decide (t32.downs > 0)) rfl rfl rfl rfl) rfl (W.nx ?_)))
            by_cases c47 : t32.downs > 0
            ·replace H := ite_t c47 H
             refine V.condT (sb (decide_eq_true c47)) (V.seq (V.region (W.as rfl (W.nx (V.ret (At.thenRet (At.blockRet (At.thenRet (At.thenRet (At.blockRet (At.blockRet (At.thenRet (At.thenRet (At.blockRet (At.thenRet ?_)))))))))))))))
             replace HS := HS.pk [12] [0, 1, 2, 3, 4, 5, 6, 7, 8, 9, 10, 11]
             cases H
             exact At.ret1 rfl rfl ⟨_, rfl, rfl, HS⟩
            ·replace H := ite_f c47 H
             refine V.condF (sb (decide_eq_false c47)) (V.skip (At.next (V.meet (σ := Bool) (fun st w => match st with | x58 => Sep.St [signalmanlaw15_pair.at bt11_0 t32, api_Config.at nb10 ({ t8 with N2 := 100 } : api_Config), R] w0 w ∧ ∃ kl63, kl63 ≤ kl44 ∧ signalmanlaw15_ArqOrders.j7 x34 (signalmanlaw15_ArqOrders.l5 kl63 x19 (signalmanlaw15_ArqOrders.l3 kl31 a2) x28 t32) x58 = some r) (fun st => match st with | x58 => [(2, Value.slice (some ⟨eb25, eo26, none⟩) a2.length sc2), (10, Value.pointer (some ⟨bt11_0, 0, none⟩)), (11, Value.int .i64 x28), (12, Value.int .i64 x19), (16, Value.int .i64 x34), (202, Value.bool x58)]) ?_ ?_)))
             ·obtain ⟨c65, H⟩ := ite_n H
              by_cases c66 : w64 (1 - x34) = 0
              ·replace H := ite_t c66 H
               obtain ⟨c67, H⟩ := ite_n H
               by_cases c68 : x34 = 0
               ·replace H := ite_t c68 H
                refine V.dr [13] [14, 15, 16, 17, 18, 19, 20, 21, 22, 23, 24, 25, 26, 27, 28, 29, 30] [(172, Value.pointer (some ⟨bt11_0, 0, none⟩)), (173, Value.int .i64 x34), (174, Value.int .i64 (w64 (1 - x34))), (175, Value.pointer (some ⟨bt11_0, 0, none⟩)), (176, Value.pointer (some ⟨bt11_0, 0 + 4, none⟩)), (177, Value.pointer (some ⟨bt11_0, 0 + 4 + 0 * 1, none⟩)), (178, Value.slice a4_45 t32.heard.1.length c4_45), (179, Value.pointer (some ⟨bt11_0, 0, none⟩)), (180, Value.int .i64 x34), (181, Value.pointer (some ⟨bt11_0, 0, none⟩)), (182, Value.pointer (some ⟨bt11_0, 0 + 6, none⟩)), (183, Value.pointer (some ⟨bt11_0, 0 + 6 + 0 * 1, none⟩)), (184, Value.slice a6_45 t32.said.1.length c6_45)] mo HS ?_
                refine T.ev [(178, _), (184, _)] [] [0, 1, 2, 3, 4, 5, 6, 7, 8, 9, 10, 11, 12] ⟨rfl, rfl, trivial⟩ ⟨.mv 10, .mv 16, .n1 173 rfl rfl (fun w HS => X.sub rfl rfl), .nc 172, .fa 175 fo59_2, .n2 174 176 rfl rfl rfl (fun w HS => X.indexArK 0 c66 Try.underlying57 inf56 rfl rfl c65.1 c65.2), .ld 177 0 Try.underlying56, .mv 10, .mv 16, .nc 179, .fa 181 fo59_3, .n2 180 182 rfl rfl rfl (fun w HS => X.indexArK 0 c68 Try.underlying57 inf56 rfl rfl c67.1 c67.2), .ld 183 0 Try.underlying56, trivial⟩ rfl (fun w HS => ?_)
                obtain ⟨t69, A70, H⟩ := bind_s H
                refine ⟨_, Y.cl Try.func40 (signalmanlaw15_prefix.calls A70 HS.j0 (rdC.part 7 row_rd rfl) (rdC.part 9 row_rd rfl)), ?_⟩
                rintro _ w ⟨rfl, HS⟩
                replace HS := HS.o0
                by_cases c71 : t69 = true
                ·replace H := ite_t c71 H
                 by_cases c72 : x38 > (t32.heard.1.length : Int)
                 ·replace H := ite_t c72 H
                  refine T.nm [(185, Value.bool t69), (186, Value.bool (!t69)), (187, Value.bool (!t69)), (188, Value.int .i64 x38), (189, Value.pointer (some ⟨bt11_0, 0, none⟩)), (190, Value.int .i64 x34), (191, Value.int .i64 (w64 (1 - x34))), (192, Value.pointer (some ⟨bt11_0, 0, none⟩)), (193, Value.pointer (some ⟨bt11_0, 0 + 4, none⟩)), (194, Value.pointer (some ⟨bt11_0, 0 + 4 + 0 * 1, none⟩)), (195, Value.slice a4_45 t32.heard.1.length c4_45), (196, Value.int .i64 (t32.heard.1.length : Int)), (197, Value.bool (decide (x38 > (t32.heard.1.length : Int)))), (198, Value.bool (decide (x38 > (t32.heard.1.length : Int)))), (199, Value.bool (decide (x38 > (t32.heard.1.length : Int)))), (200, undef), (201, undef), (202, Value.bool true)] HS ⟨.inl ⟨rfl, rfl⟩, ⟨.inr ⟨by decide, rfl⟩, ⟨.inr ⟨by decide, rfl⟩, ⟨.inr ⟨by decide, rfl⟩, ⟨.inr ⟨by decide, rfl⟩, ⟨.inr ⟨by decide, rfl⟩, ⟨.inr ⟨by decide, rfl⟩, ⟨.inr ⟨by decide, rfl⟩, ⟨.inr ⟨by decide, rfl⟩, ⟨.inr ⟨by decide, rfl⟩, ⟨.inr ⟨by decide, rfl⟩, ⟨.inr ⟨by decide, rfl⟩, ⟨.inr ⟨by decide, rfl⟩, ⟨.inr ⟨by decide, rfl⟩, ⟨.inr ⟨by decide, rfl⟩, ⟨.inr ⟨by decide, rfl⟩, ⟨.inr ⟨by decide, rfl⟩, ⟨.inr ⟨by decide, rfl⟩, trivial⟩⟩⟩⟩⟩⟩⟩⟩⟩⟩⟩⟩⟩⟩⟩⟩⟩⟩ ?_
                  refine T.fn [(2, _), (10, _), (11, _), (12, _), (16, _), (202, _)] ⟨rfl, rfl, rfl, rfl, rfl, rfl, trivial⟩ ⟨.n1 185 rfl rfl (fun w HS => X.not rfl), .mv 186, .gw [(18, _), (187, _)] 15 false 187 ⟨rfl, rfl, trivial⟩ rfl (sb (n_t c71)) (fun w HS => X.move rfl), .gw [(10, _), (187, _)] 15 false 187 ⟨rfl, rfl, trivial⟩ rfl (sb (n_t c71)) (fun w HS => X.move rfl), .gw [(16, _), (187, _)] 15 false 187 ⟨rfl, rfl, trivial⟩ rfl (sb (n_t c71)) (fun w HS => X.move rfl), .gw [(190, _), (187, _)] 15 false 187 ⟨rfl, rfl, trivial⟩ rfl (sb (n_t c71)) (fun w HS => X.sub rfl rfl), .gw [(189, _), (187, _)] 15 false 187 ⟨rfl, rfl, trivial⟩ rfl (sb (n_t c71)) (fun w HS => X.nilCheck rfl), .gw [(192, _), (187, _)] 15 false 187 ⟨rfl, rfl, trivial⟩ rfl (sb (n_t c71)) (fun w HS => X.fieldAddr 4 fo59_2 rfl), .gw [(191, _), (193, _), (187, _)] 15 false 187 ⟨rfl, rfl, rfl, trivial⟩ rfl (sb (n_t c71)) (fun w HS => X.indexArK 0 c66 Try.underlying57 inf56 rfl rfl c65.1 c65.2), .gw [(194, _), (187, _)] 15 false 187 ⟨rfl, rfl, trivial⟩ rfl (sb (n_t c71)) (fun w HS => X.loadAt 0 HS rfl Try.underlying56 rfl rfl rfl), .gw [(195, _), (187, _)] 15 false 187 ⟨rfl, rfl, trivial⟩ rfl (sb (n_t c71)) (fun w HS => X.lenSl Try.underlying56 rfl), .gw [(188, _), (196, _), (187, _)] 15 false 187 ⟨rfl, rfl, rfl, trivial⟩ rfl (sb (n_t c71)) (fun w HS => X.cmp (decide (x38 > (t32.heard.1.length : Int))) rfl rfl rfl rfl), .n2 187 197 rfl rfl rfl (fun w HS => X.pickF (sb (n_t c71)) rfl), .mv 198, .gp 27 false true 199 rfl rfl (Option.some.inj (sb (decide_eq_true c72))) rfl, .gp 27 false true 199 rfl rfl (Option.some.inj (sb (decide_eq_true c72))) rfl, .n2 199 201 rfl rfl rfl (fun w HS => X.pickT (sb (decide_eq_true c72)) rfl), trivial⟩ (fun w HS => ?_)
                  replace HS := signalmanlaw15_pair.close trivial HS
                  exact At.meet true ⟨rfl, rfl, rfl, rfl, rfl, rfl, trivial⟩ ⟨HS, kl44, by omega, H⟩
                 ·replace H := ite_f c72 H
                  refine T.nm [(185, Value.bool t69), (186, Value.bool (!t69)), (187, Value.bool (!t69)), (188, Value.int .i64 x38), (189, Value.pointer (some ⟨bt11_0, 0, none⟩)), (190, Value.int .i64 x34), (191, Value.int .i64 (w64 (1 - x34))), (192, Value.pointer (some ⟨bt11_0, 0, none⟩)), (193, Value.pointer (some ⟨bt11_0, 0 + 4, none⟩)), (194, Value.pointer (some ⟨bt11_0, 0 + 4 + 0 * 1, none⟩)), (195, Value.slice a4_45 t32.heard.1.length c4_45), (196, Value.int .i64 (t32.heard.1.length : Int)), (197, Value.bool (decide (x38 > (t32.heard.1.length : Int)))), (198, Value.bool (decide (x38 > (t32.heard.1.length : Int)))), (199, Value.bool (decide (x38 > (t32.heard.1.length : Int)))), (200, Value.int .i64 x39), (201, Value.bool (!(decide (x39 = 0)))), (202, Value.bool (!(decide (x39 = 0))))] HS ⟨.inl ⟨rfl, rfl⟩, ⟨.inr ⟨by decide, rfl⟩, ⟨.inr ⟨by decide, rfl⟩, ⟨.inr ⟨by decide, rfl⟩, ⟨.inr ⟨by decide, rfl⟩, ⟨.inr ⟨by decide, rfl⟩, ⟨.inr ⟨by decide, rfl⟩, ⟨.inr ⟨by decide, rfl⟩, ⟨.inr ⟨by decide, rfl⟩, ⟨.inr ⟨by decide, rfl⟩, ⟨.inr ⟨by decide, rfl⟩, ⟨.inr ⟨by decide, rfl⟩, ⟨.inr ⟨by decide, rfl⟩, ⟨.inr ⟨by decide, rfl⟩, ⟨.inr ⟨by decide, rfl⟩, ⟨.inr ⟨by decide, rfl⟩, ⟨.inr ⟨by decide, rfl⟩, ⟨.inr ⟨by decide, rfl⟩, trivial⟩⟩⟩⟩⟩⟩⟩⟩⟩⟩⟩⟩⟩⟩⟩⟩⟩⟩ ?_
                  refine T.fn [(2, _), (10, _), (11, _), (12, _), (16, _), (202, _)] ⟨rfl, rfl, rfl, rfl, rfl, rfl, trivial⟩ ⟨.n1 185 rfl rfl (fun w HS => X.not rfl), .mv 186, .gw [(18, _), (187, _)] 15 false 187 ⟨rfl, rfl, trivial⟩ rfl (sb (n_t c71)) (fun w HS => X.move rfl), .gw [(10, _), (187, _)] 15 false 187 ⟨rfl, rfl, trivial⟩ rfl (sb (n_t c71)) (fun w HS => X.move rfl), .gw [(16, _), (187, _)] 15 false 187 ⟨rfl, rfl, trivial⟩ rfl (sb (n_t c71)) (fun w HS => X.move rfl), .gw [(190, _), (187, _)] 15 false 187 ⟨rfl, rfl, trivial⟩ rfl (sb (n_t c71)) (fun w HS => X.sub rfl rfl), .gw [(189, _), (187, _)] 15 false 187 ⟨rfl, rfl, trivial⟩ rfl (sb (n_t c71)) (fun w HS => X.nilCheck rfl), .gw [(192, _), (187, _)] 15 false 187 ⟨rfl, rfl, trivial⟩ rfl (sb (n_t c71)) (fun w HS => X.fieldAddr 4 fo59_2 rfl), .gw [(191, _), (193, _), (187, _)] 15 false 187 ⟨rfl, rfl, rfl, trivial⟩ rfl (sb (n_t c71)) (fun w HS => X.indexArK 0 c66 Try.underlying57 inf56 rfl rfl c65.1 c65.2), .gw [(194, _), (187, _)] 15 false 187 ⟨rfl, rfl, trivial⟩ rfl (sb (n_t c71)) (fun w HS => X.loadAt 0 HS rfl Try.underlying56 rfl rfl rfl), .gw [(195, _), (187, _)] 15 false 187 ⟨rfl, rfl, trivial⟩ rfl (sb (n_t c71)) (fun w HS => X.lenSl Try.underlying56 rfl), .gw [(188, _), (196, _), (187, _)] 15 false 187 ⟨rfl, rfl, rfl, trivial⟩ rfl (sb (n_t c71)) (fun w HS => X.cmp (decide (x38 > (t32.heard.1.length : Int))) rfl rfl rfl rfl), .n2 187 197 rfl rfl rfl (fun w HS => X.pickF (sb (n_t c71)) rfl), .mv 198, .gw [(19, _), (199, _)] 27 false 199 ⟨rfl, rfl, trivial⟩ rfl (sb (decide_eq_false c72)) (fun w HS => X.move rfl), .gw [(200, _), (199, _)] 27 false 199 ⟨rfl, rfl, trivial⟩ rfl (sb (decide_eq_false c72)) (fun w HS => X.cmp (!(decide (x39 = 0))) rfl rfl rfl rfl), .n2 199 201 rfl rfl rfl (fun w HS => X.pickF (sb (decide_eq_false c72)) rfl), trivial⟩ (fun w HS => ?_)
                  replace HS := signalmanlaw15_pair.close trivial HS
                  exact At.meet (!(decide (x39 = 0))) ⟨rfl, rfl, rfl, rfl, rfl, rfl, trivial⟩ ⟨HS, kl44, by omega, H⟩
                ·replace H := ite_f c71 H
                 refine T.nm [(185, Value.bool t69), (186, Value.bool (!t69)), (187, Value.bool (!t69)), (188, undef), (189, undef), (190, undef), (191, undef), (192, undef), (193, undef), (194, undef), (195, undef), (196, undef), (197, undef), (198, Value.bool true), (199, Value.bool true), (200, undef), (201, undef), (202, Value.bool true)] HS ⟨.inl ⟨rfl, rfl⟩, ⟨.inr ⟨by decide, rfl⟩, ⟨.inr ⟨by decide, rfl⟩, ⟨.inr ⟨by decide, rfl⟩, ⟨.inr ⟨by decide, rfl⟩, ⟨.inr ⟨by decide, rfl⟩, ⟨.inr ⟨by decide, rfl⟩, ⟨.inr ⟨by decide, rfl⟩, ⟨.inr ⟨by decide, rfl⟩, ⟨.inr ⟨by decide, rfl⟩, ⟨.inr ⟨by decide, rfl⟩, ⟨.inr ⟨by decide, rfl⟩, ⟨.inr ⟨by decide, rfl⟩, ⟨.inr ⟨by decide, rfl⟩, ⟨.inr ⟨by decide, rfl⟩, ⟨.inr ⟨by decide, rfl⟩, ⟨.inr ⟨by decide, rfl⟩, ⟨.inr ⟨by decide, rfl⟩, trivial⟩⟩⟩⟩⟩⟩⟩⟩⟩⟩⟩⟩⟩⟩⟩⟩⟩⟩ ?_
                 refine T.fn [(2, _), (10, _), (11, _), (12, _), (16, _), (202, _)] ⟨rfl, rfl, rfl, rfl, rfl, rfl, trivial⟩ ⟨.n1 185 rfl rfl (fun w HS => X.not rfl), .mv 186, .gp 15 false true 187 rfl rfl (Option.some.inj (sb (n_f (b_f c71)))) rfl, .gp 15 false true 187 rfl rfl (Option.some.inj (sb (n_f (b_f c71)))) rfl, .gp 15 false true 187 rfl rfl (Option.some.inj (sb (n_f (b_f c71)))) rfl, .gp 15 false true 187 rfl rfl (Option.some.inj (sb (n_f (b_f c71)))) rfl, .gp 15 false true 187 rfl rfl (Option.some.inj (sb (n_f (b_f c71)))) rfl, .gp 15 false true 187 rfl rfl (Option.some.inj (sb (n_f (b_f c71)))) rfl, .gp 15 false true 187 rfl rfl (Option.some.inj (sb (n_f (b_f c71)))) rfl, .gp 15 false true 187 rfl rfl (Option.some.inj (sb (n_f (b_f c71)))) rfl, .gp 15 false true 187 rfl rfl (Option.some.inj (sb (n_f (b_f c71)))) rfl, .gp 15 false true 187 rfl rfl (Option.some.inj (sb (n_f (b_f c71)))) rfl, .n2 187 197 rfl rfl rfl (fun w HS => X.pickT (sb (n_f (b_f c71))) rfl), .mv 198, .gp 27 false true 199 rfl rfl rfl rfl, .gp 27 false true 199 rfl rfl rfl rfl, .n2 199 201 rfl rfl rfl (fun w HS => X.pickT rfl rfl), trivial⟩ (fun w HS => ?_)
                 replace HS := signalmanlaw15_pair.close trivial HS
                 exact At.meet true ⟨rfl, rfl, rfl, rfl, rfl, rfl, trivial⟩ ⟨HS, kl44, by omega, H⟩
               ·replace H := ite_f c68 H
                have hk73 : x34 = 1 := by omega
                refine V.dr [13] [14, 15, 16, 17, 18, 19, 20, 21, 22, 23, 24, 25, 26, 27, 28, 29, 30] [(172, Value.pointer (some ⟨bt11_0, 0, none⟩)), (173, Value.int .i64 x34), (174, Value.int .i64 (w64 (1 - x34))), (175, Value.pointer (some ⟨bt11_0, 0, none⟩)), (176, Value.pointer (some ⟨bt11_0, 0 + 4, none⟩)), (177, Value.pointer (some ⟨bt11_0, 0 + 4 + 0 * 1, none⟩)), (178, Value.slice a4_45 t32.heard.1.length c4_45), (179, Value.pointer (some ⟨bt11_0, 0, none⟩)), (180, Value.int .i64 x34), (181, Value.pointer (some ⟨bt11_0, 0, none⟩)), (182, Value.pointer (some ⟨bt11_0, 0 + 6, none⟩)), (183, Value.pointer (some ⟨bt11_0, 0 + 6 + 1 * 1, none⟩)), (184, Value.slice a7_45 t32.said.2.length c7_45)] mo HS ?_
                refine T.ev [(178, _), (184, _)] [] [0, 1, 2, 3, 4, 5, 6, 7, 8, 9, 10, 11, 12] ⟨rfl, rfl, trivial⟩ ⟨.mv 10, .mv 16, .n1 173 rfl rfl (fun w HS => X.sub rfl rfl), .nc 172, .fa 175 fo59_2, .n2 174 176 rfl rfl rfl (fun w HS => X.indexArK 0 c66 Try.underlying57 inf56 rfl rfl c65.1 c65.2), .ld 177 0 Try.underlying56, .mv 10, .mv 16, .nc 179, .fa 181 fo59_3, .n2 180 182 rfl rfl rfl (fun w HS => X.indexArK 1 hk73 Try.underlying57 inf56 rfl rfl c67.1 c67.2), .ld 183 0 Try.underlying56, trivial⟩ rfl (fun w HS => ?_)
                obtain ⟨t74, A75, H⟩ := bind_s H
                refine ⟨_, Y.cl Try.func40 (signalmanlaw15_prefix.calls A75 HS.j0 (rdC.part 7 row_rd rfl) (rdC.part 10 row_rd rfl)), ?_⟩
                rintro _ w ⟨rfl, HS⟩
                replace HS := HS.o0
                by_cases c76 : t74 = true
                ·replace H := ite_t c76 H
                 by_cases c77 : x38 > (t32.heard.1.length : Int)
                 ·replace H := ite_t c77 H
                  refine T.nm [(185, Value.bool t74), (186, Value.bool (!t74)), (187, Value.bool (!t74)), (188, Value.int .i64 x38), (189, Value.pointer (some ⟨bt11_0, 0, none⟩)), (190, Value.int .i64 x34), (191, Value.int .i64 (w64 (1 - x34))), (192, Value.pointer (some ⟨bt11_0, 0, none⟩)), (193, Value.pointer (some ⟨bt11_0, 0 + 4, none⟩)), (194, Value.pointer (some ⟨bt11_0, 0 + 4 + 0 * 1, none⟩)), (195, Value.slice a4_45 t32.heard.1.length c4_45), (196, Value.int .i64 (t32.heard.1.length : Int)), (197, Value.bool (decide (x38 > (t32.heard.1.length : Int)))), (198, Value.bool (decide (x38 > (t32.heard.1.length : Int)))), (199, Value.bool (decide (x38 > (t32.heard.1.length : Int)))), (200, undef), (201, undef), (202, Value.bool true)] HS ⟨.inl ⟨rfl, rfl⟩, ⟨.inr ⟨by decide, rfl⟩, ⟨.inr ⟨by decide, rfl⟩, ⟨.inr ⟨by decide, rfl⟩, ⟨.inr ⟨by decide, rfl⟩, ⟨.inr ⟨by decide, rfl⟩, ⟨.inr ⟨by decide, rfl⟩, ⟨.inr ⟨by decide, rfl⟩, ⟨.inr ⟨by decide, rfl⟩, ⟨.inr ⟨by decide, rfl⟩, ⟨.inr ⟨by decide, rfl⟩, ⟨.inr ⟨by decide, rfl⟩, ⟨.inr ⟨by decide, rfl⟩, ⟨.inr ⟨by decide, rfl⟩, ⟨.inr ⟨by decide, rfl⟩, ⟨.inr ⟨by decide, rfl⟩, ⟨.inr ⟨by decide, rfl⟩, ⟨.inr ⟨by decide, rfl⟩, trivial⟩⟩⟩⟩⟩⟩⟩⟩⟩⟩⟩⟩⟩⟩⟩⟩⟩⟩ ?_
                  refine T.fn [(2, _), (10, _), (11, _), (12, _), (16, _), (202, _)] ⟨rfl, rfl, rfl, rfl, rfl, rfl, trivial⟩ ⟨.n1 185 rfl rfl (fun w HS => X.not rfl), .mv 186, .gw [(18, _), (187, _)] 15 false 187 ⟨rfl, rfl, trivial⟩ rfl (sb (n_t c76)) (fun w HS => X.move rfl), .gw [(10, _), (187, _)] 15 false 187 ⟨rfl, rfl, trivial⟩ rfl (sb (n_t c76)) (fun w HS => X.move rfl), .gw [(16, _), (187, _)] 15 false 187 ⟨rfl, rfl, trivial⟩ rfl (sb (n_t c76)) (fun w HS => X.move rfl), .gw [(190, _), (187, _)] 15 false 187 ⟨rfl, rfl, trivial⟩ rfl (sb (n_t c76)) (fun w HS => X.sub rfl rfl), .gw [(189, _), (187, _)] 15 false 187 ⟨rfl, rfl, trivial⟩ rfl (sb (n_t c76)) (fun w HS => X.nilCheck rfl), .gw [(192, _), (187, _)] 15 false 187 ⟨rfl, rfl, trivial⟩ rfl (sb (n_t c76)) (fun w HS => X.fieldAddr 4 fo59_2 rfl), .gw [(191, _), (193, _), (187, _)] 15 false 187 ⟨rfl, rfl, rfl, trivial⟩ rfl (sb (n_t c76)) (fun w HS => X.indexArK 0 c66 Try.underlying57 inf56 rfl rfl c65.1 c65.2), .gw [(194, _), (187, _)] 15 false 187 ⟨rfl, rfl, trivial⟩ rfl (sb (n_t c76)) (fun w HS => X.loadAt 0 HS rfl Try.underlying56 rfl rfl rfl), .gw [(195, _), (187, _)] 15 false 187 ⟨rfl, rfl, trivial⟩ rfl (sb (n_t c76)) (fun w HS => X.lenSl Try.underlying56 rfl), .gw [(188, _), (196, _), (187, _)] 15 false 187 ⟨rfl, rfl, rfl, trivial⟩ rfl (sb (n_t c76)) (fun w HS => X.cmp (decide (x38 > (t32.heard.1.length : Int))) rfl rfl rfl rfl), .n2 187 197 rfl rfl rfl (fun w HS => X.pickF (sb (n_t c76)) rfl), .mv 198, .gp 27 false true 199 rfl rfl (Option.some.inj (sb (decide_eq_true c77))) rfl, .gp 27 false true 199 rfl rfl (Option.some.inj (sb (decide_eq_true c77))) rfl, .n2 199 201 rfl rfl rfl (fun w HS => X.pickT (sb (decide_eq_true c77)) rfl), trivial⟩ (fun w HS => ?_)
                  replace HS := signalmanlaw15_pair.close trivial HS
                  exact At.meet true ⟨rfl, rfl, rfl, rfl, rfl, rfl, trivial⟩ ⟨HS, kl44, by omega, H⟩
                 ·replace H := ite_f c77 H
                  refine T.nm [(185, Value.bool t74), (186, Value.bool (!t74)), (187, Value.bool (!t74)), (188, Value.int .i64 x38), (189, Value.pointer (some ⟨bt11_0, 0, none⟩)), (190, Value.int .i64 x34), (191, Value.int .i64 (w64 (1 - x34))), (192, Value.pointer (some ⟨bt11_0, 0, none⟩)), (193, Value.pointer (some ⟨bt11_0, 0 + 4, none⟩)), (194, Value.pointer (some ⟨bt11_0, 0 + 4 + 0 * 1, none⟩)), (195, Value.slice a4_45 t32.heard.1.length c4_45), (196, Value.int .i64 (t32.heard.1.length : Int)), (197, Value.bool (decide (x38 > (t32.heard.1.length : Int)))), (198, Value.bool (decide (x38 > (t32.heard.1.length : Int)))), (199, Value.bool (decide (x38 > (t32.heard.1.length : Int)))), (200, Value.int .i64 x39), (201, Value.bool (!(decide (x39 = 0)))), (202, Value.bool (!(decide (x39 = 0))))] HS ⟨.inl ⟨rfl, rfl⟩, ⟨.inr ⟨by decide, rfl⟩, ⟨.inr ⟨by decide, rfl⟩, ⟨.inr ⟨by decide, rfl⟩, ⟨.inr ⟨by decide, rfl⟩, ⟨.inr ⟨by decide, rfl⟩, ⟨.inr ⟨by decide, rfl⟩, ⟨.inr ⟨by decide, rfl⟩, ⟨.inr ⟨by decide, rfl⟩, ⟨.inr ⟨by decide, rfl⟩, ⟨.inr ⟨by decide, rfl⟩, ⟨.inr ⟨by decide, rfl⟩, ⟨.inr ⟨by decide, rfl⟩, ⟨.inr ⟨by decide, rfl⟩, ⟨.inr ⟨by decide, rfl⟩, ⟨.inr ⟨by decide, rfl⟩, ⟨.inr ⟨by decide, rfl⟩, ⟨.inr ⟨by decide, rfl⟩, trivial⟩⟩⟩⟩⟩⟩⟩⟩⟩⟩⟩⟩⟩⟩⟩⟩⟩⟩ ?_
                  refine T.fn [(2, _), (10, _), (11, _), (12, _), (16, _), (202, _)] ⟨rfl, rfl, rfl, rfl, rfl, rfl, trivial⟩ ⟨.n1 185 rfl rfl (fun w HS => X.not rfl), .mv 186, .gw [(18, _), (187, _)] 15 false 187 ⟨rfl, rfl, trivial⟩ rfl (sb (n_t c76)) (fun w HS => X.move rfl), .gw [(10, _), (187, _)] 15 false 187 ⟨rfl, rfl, trivial⟩ rfl (sb (n_t c76)) (fun w HS => X.move rfl), .gw [(16, _), (187, _)] 15 false 187 ⟨rfl, rfl, trivial⟩ rfl (sb (n_t c76)) (fun w HS => X.move rfl), .gw [(190, _), (187, _)] 15 false 187 ⟨rfl, rfl, trivial⟩ rfl (sb (n_t c76)) (fun w HS => X.sub rfl rfl), .gw [(189, _), (187, _)] 15 false 187 ⟨rfl, rfl, trivial⟩ rfl (sb (n_t c76)) (fun w HS => X.nilCheck rfl), .gw [(192, _), (187, _)] 15 false 187 ⟨rfl, rfl, trivial⟩ rfl (sb (n_t c76)) (fun w HS => X.fieldAddr 4 fo59_2 rfl), .gw [(191, _), (193, _), (187, _)] 15 false 187 ⟨rfl, rfl, rfl, trivial⟩ rfl (sb (n_t c76)) (fun w HS => X.indexArK 0 c66 Try.underlying57 inf56 rfl rfl c65.1 c65.2), .gw [(194, _), (187, _)] 15 false 187 ⟨rfl, rfl, trivial⟩ rfl (sb (n_t c76)) (fun w HS => X.loadAt 0 HS rfl Try.underlying56 rfl rfl rfl), .gw [(195, _), (187, _)] 15 false 187 ⟨rfl, rfl, trivial⟩ rfl (sb (n_t c76)) (fun w HS => X.lenSl Try.underlying56 rfl), .gw [(188, _), (196, _), (187, _)] 15 false 187 ⟨rfl, rfl, rfl, trivial⟩ rfl (sb (n_t c76)) (fun w HS => X.cmp (decide (x38 > (t32.heard.1.length : Int))) rfl rfl rfl rfl), .n2 187 197 rfl rfl rfl (fun w HS => X.pickF (sb (n_t c76)) rfl), .mv 198, .gw [(19, _), (199, _)] 27 false 199 ⟨rfl, rfl, trivial⟩ rfl (sb (decide_eq_false c77)) (fun w HS => X.move rfl), .gw [(200, _), (199, _)] 27 false 199 ⟨rfl, rfl, trivial⟩ rfl (sb (decide_eq_false c77)) (fun w HS => X.cmp (!(decide (x39 = 0))) rfl rfl rfl rfl), .n2 199 201 rfl rfl rfl (fun w HS => X.pickF (sb (decide_eq_false c77)) rfl), trivial⟩ (fun w HS => ?_)
                  replace HS := signalmanlaw15_pair.close trivial HS
                  exact At.meet (!(decide (x39 = 0))) ⟨rfl, rfl, rfl, rfl, rfl, rfl, trivial⟩ ⟨HS, kl44, by omega, H⟩
                ·replace H := ite_f c76 H
                 refine T.nm [(185, Value.bool t74), (186, Value.bool (!t74)), (187, Value.bool (!t74)), (188, undef), (189, undef), (190, undef), (191, undef), (192, undef), (193, undef), (194, undef), (195, undef), (196, undef), (197, undef), (198, Value.bool true), (199, Value.bool true), (200, undef), (201, undef), (202, Value.bool true)] HS ⟨.inl ⟨rfl, rfl⟩, ⟨.inr ⟨by decide, rfl⟩, ⟨.inr ⟨by decide, rfl⟩, ⟨.inr ⟨by decide, rfl⟩, ⟨.inr ⟨by decide, rfl⟩, ⟨.inr ⟨by decide, rfl⟩, ⟨.inr ⟨by decide, rfl⟩, ⟨.inr ⟨by decide, rfl⟩, ⟨.inr ⟨by decide, rfl⟩, ⟨.inr ⟨by decide, rfl⟩, ⟨.inr ⟨by decide, rfl⟩, ⟨.inr ⟨by decide, rfl⟩, ⟨.inr ⟨by decide, rfl⟩, ⟨.inr ⟨by decide, rfl⟩, ⟨.inr ⟨by decide, rfl⟩, ⟨.inr ⟨by decide, rfl⟩, ⟨.inr ⟨by decide, rfl⟩, ⟨.inr ⟨by decide, rfl⟩, trivial⟩⟩⟩⟩⟩⟩⟩⟩⟩⟩⟩⟩⟩⟩⟩⟩⟩⟩ ?_
                 refine T.fn [(2, _), (10, _), (11, _), (12, _), (16, _), (202, _)] ⟨rfl, rfl, rfl, rfl, rfl, rfl, trivial⟩ ⟨.n1 185 rfl rfl (fun w HS => X.not rfl), .mv 186, .gp 15 false true 187 rfl rfl (Option.some.inj (sb (n_f (b_f c76)))) rfl, .gp 15 false true 187 rfl rfl (Option.some.inj (sb (n_f (b_f c76)))) rfl, .gp 15 false true 187 rfl rfl (Option.some.inj (sb (n_f (b_f c76)))) rfl, .gp 15 false true 187 rfl rfl (Option.some.inj (sb (n_f (b_f c76)))) rfl, .gp 15 false true 187 rfl rfl (Option.some.inj (sb (n_f (b_f c76)))) rfl, .gp 15 false true 187 rfl rfl (Option.some.inj (sb (n_f (b_f c76)))) rfl, .gp 15 false true 187 rfl rfl (Option.some.inj (sb (n_f (b_f c76)))) rfl, .gp 15 false true 187 rfl rfl (Option.some.inj (sb (n_f (b_f c76)))) rfl, .gp 15 false true 187 rfl rfl (Option.some.inj (sb (n_f (b_f c76)))) rfl, .gp 15 false true 187 rfl rfl (Option.some.inj (sb (n_f (b_f c76)))) rfl, .n2 187 197 rfl rfl rfl (fun w HS => X.pickT (sb (n_f (b_f c76))) rfl), .mv 198, .gp 27 false true 199 rfl rfl rfl rfl, .gp 27 false true 199 rfl rfl rfl rfl, .n2 199 201 rfl rfl rfl (fun w HS => X.pickT rfl rfl), trivial⟩ (fun w HS => ?_)
                 replace HS := signalmanlaw15_pair.close trivial HS
                 exact At.meet true ⟨rfl, rfl, rfl, rfl, rfl, rfl, trivial⟩ ⟨HS, kl44, by omega, H⟩
              ·replace H := ite_f c66 H
               have hk78 : w64 (1 - x34) = 1 := by omega
               obtain ⟨c79, H⟩ := ite_n H
               by_cases c80 : x34 = 0
               ·replace H := ite_t c80 H
                refine V.dr [13] [14, 15, 16, 17, 18, 19, 20, 21, 22, 23, 24, 25, 26, 27, 28, 29, 30] [(172, Value.pointer (some ⟨bt11_0, 0, none⟩)), (173, Value.int .i64 x34), (174, Value.int .i64 (w64 (1 - x34))), (175, Value.pointer (some ⟨bt11_0, 0, none⟩)), (176, Value.pointer (some ⟨bt11_0, 0 + 4, none⟩)), (177, Value.pointer (some ⟨bt11_0, 0 + 4 + 1 * 1, none⟩)), (178, Value.slice a5_45 t32.heard.2.length c5_45), (179, Value.pointer (some ⟨bt11_0, 0, none⟩)), (180, Value.int .i64 x34), (181, Value.pointer (some ⟨bt11_0, 0, none⟩)), (182, Value.pointer (some ⟨bt11_0, 0 + 6, none⟩)), (183, Value.pointer (some ⟨bt11_0, 0 + 6 + 0 * 1, none⟩)), (184, Value.slice a6_45 t32.said.1.length c6_45)] mo HS ?_
                refine T.ev [(178, _), (184, _)] [] [0, 1, 2, 3, 4, 5, 6, 7, 8, 9, 10, 11, 12] ⟨rfl, rfl, trivial⟩ ⟨.mv 10, .mv 16, .n1 173 rfl rfl (fun w HS => X.sub rfl rfl), .nc 172, .fa 175 fo59_2, .n2 174 176 rfl rfl rfl (fun w HS => X.indexArK 1 hk78 Try.underlying57 inf56 rfl rfl c65.1 c65.2), .ld 177 0 Try.underlying56, .mv 10, .mv 16, .nc 179, .fa 181 fo59_3, .n2 180 182 rfl rfl rfl (fun w HS => X.indexArK 0 c80 Try.underlying57 inf56 rfl rfl c79.1 c79.2), .ld 183 0 Try.underlying56, trivial⟩ rfl (fun w HS => ?_)
                obtain ⟨t81, A82, H⟩ := bind_s H
                refine ⟨_, Y.cl Try.func40 (signalmanlaw15_prefix.calls A82 HS.j0 (rdC.part 8 row_rd rfl) (rdC.part 9 row_rd rfl)), ?_⟩
                rintro _ w ⟨rfl, HS⟩
                replace HS := HS.o0
                by_cases c83 : t81 = true
                ·replace H := ite_t c83 H
                 by_cases c84 : x38 > (t32.heard.2.length : Int)
                 ·replace H := ite_t c84 H
                  refine T.nm [(185, Value.bool t81), (186, Value.bool (!t81)), (187, Value.bool (!t81)), (188, Value.int .i64 x38), (189, Value.pointer (some ⟨bt11_0, 0, none⟩)), (190, Value.int .i64 x34), (191, Value.int .i64 (w64 (1 - x34))), (192, Value.pointer (some ⟨bt11_0, 0, none⟩)), (193, Value.pointer (some ⟨bt11_0, 0 + 4, none⟩)), (194, Value.pointer (some ⟨bt11_0, 0 + 4 + 1 * 1, none⟩)), (195, Value.slice a5_45 t32.heard.2.length c5_45), (196, Value.int .i64 (t32.heard.2.length : Int)), (197, Value.bool (decide (x38 > (t32.heard.2.length : Int)))), (198, Value.bool (decide (x38 > (t32.heard.2.length : Int)))), (199, Value.bool (decide (x38 > (t32.heard.2.length : Int)))), (200, undef), (201, undef), (202, Value.bool true)] HS ⟨.inl ⟨rfl, rfl⟩, ⟨.inr ⟨by decide, rfl⟩, ⟨.inr ⟨by decide, rfl⟩, ⟨.inr ⟨by decide, rfl⟩, ⟨.inr ⟨by decide, rfl⟩, ⟨.inr ⟨by decide, rfl⟩, ⟨.inr ⟨by decide, rfl⟩, ⟨.inr ⟨by decide, rfl⟩, ⟨.inr ⟨by decide, rfl⟩, ⟨.inr ⟨by decide, rfl⟩, ⟨.inr ⟨by decide, rfl⟩, ⟨.inr ⟨by decide, rfl⟩, ⟨.inr ⟨by decide, rfl⟩, ⟨.inr ⟨by decide, rfl⟩, ⟨.inr ⟨by decide, rfl⟩, ⟨.inr ⟨by decide, rfl⟩, ⟨.inr ⟨by decide, rfl⟩, ⟨.inr ⟨by decide, rfl⟩, trivial⟩⟩⟩⟩⟩⟩⟩⟩⟩⟩⟩⟩⟩⟩⟩⟩⟩⟩ ?_
                  refine T.fn [(2, _), (10, _), (11, _), (12, _), (16, _), (202, _)] ⟨rfl, rfl, rfl, rfl, rfl, rfl, trivial⟩ ⟨.n1 185 rfl rfl (fun w HS => X.not rfl), .mv 186, .gw [(18, _), (187, _)] 15 false 187 ⟨rfl, rfl, trivial⟩ rfl (sb (n_t c83)) (fun w HS => X.move rfl), .gw [(10, _), (187, _)] 15 false 187 ⟨rfl, rfl, trivial⟩ rfl (sb (n_t c83)) (fun w HS => X.move rfl), .gw [(16, _), (187, _)] 15 false 187 ⟨rfl, rfl, trivial⟩ rfl (sb (n_t c83)) (fun w HS => X.move rfl), .gw [(190, _), (187, _)] 15 false 187 ⟨rfl, rfl, trivial⟩ rfl (sb (n_t c83)) (fun w HS => X.sub rfl rfl), .gw [(189, _), (187, _)] 15 false 187 ⟨rfl, rfl, trivial⟩ rfl (sb (n_t c83)) (fun w HS => X.nilCheck rfl), .gw [(192, _), (187, _)] 15 false 187 ⟨rfl, rfl, trivial⟩ rfl (sb (n_t c83)) (fun w HS => X.fieldAddr 4 fo59_2 rfl), .gw [(191, _), (193, _), (187, _)] 15 false 187 ⟨rfl, rfl, rfl, trivial⟩ rfl (sb (n_t c83)) (fun w HS => X.indexArK 1 hk78 Try.underlying57 inf56 rfl rfl c65.1 c65.2), .gw [(194, _), (187, _)] 15 false 187 ⟨rfl, rfl, trivial⟩ rfl (sb (n_t c83)) (fun w HS => X.loadAt 0 HS rfl Try.underlying56 rfl rfl rfl), .gw [(195, _), (187, _)] 15 false 187 ⟨rfl, rfl, trivial⟩ rfl (sb (n_t c83)) (fun w HS => X.lenSl Try.underlying56 rfl), .gw [(188, _), (196, _), (187, _)] 15 false 187 ⟨rfl, rfl, rfl, trivial⟩ rfl (sb (n_t c83)) (fun w HS => X.cmp (decide (x38 > (t32.heard.2.length : Int))) rfl rfl rfl rfl), .n2 187 197 rfl rfl rfl (fun w HS => X.pickF (sb (n_t c83)) rfl), .mv 198, .gp 27 false true 199 rfl rfl (Option.some.inj (sb (decide_eq_true c84))) rfl, .gp 27 false true 199 rfl rfl (Option.some.inj (sb (decide_eq_true c84))) rfl, .n2 199 201 rfl rfl rfl (fun w HS => X.pickT (sb (decide_eq_true c84)) rfl), trivial⟩ (fun w HS => ?_)
                  replace HS := signalmanlaw15_pair.close trivial HS
                  exact At.meet true ⟨rfl, rfl, rfl, rfl, rfl, rfl, trivial⟩ ⟨HS, kl44, by omega, H⟩
                 ·replace H := ite_f c84 H
                  refine T.nm [(185, Value.bool t81), (186, Value.bool (!t81)), (187, Value.bool (!t81)), (188, Value.int .i64 x38), (189, Value.pointer (some ⟨bt11_0, 0, none⟩)), (190, Value.int .i64 x34), (191, Value.int .i64 (w64 (1 - x34))), (192, Value.pointer (some ⟨bt11_0, 0, none⟩)), (193, Value.pointer (some ⟨bt11_0, 0 + 4, none⟩)), (194, Value.pointer (some ⟨bt11_0, 0 + 4 + 1 * 1, none⟩)), (195, Value.slice a5_45 t32.heard.2.length c5_45), (196, Value.int .i64 (t32.heard.2.length : Int)), (197, Value.bool (decide (x38 > (t32.heard.2.length : Int)))), (198, Value.bool (decide (x38 > (t32.heard.2.length : Int)))), (199, Value.bool (decide (x38 > (t32.heard.2.length : Int)))), (200, Value.int .i64 x39), (201, Value.bool (!(decide (x39 = 0)))), (202, Value.bool (!(decide (x39 = 0))))] HS ⟨.inl ⟨rfl, rfl⟩, ⟨.inr ⟨by decide, rfl⟩, ⟨.inr ⟨by decide, rfl⟩, ⟨.inr ⟨by decide, rfl⟩, ⟨.inr ⟨by decide, rfl⟩, ⟨.inr ⟨by decide, rfl⟩, ⟨.inr ⟨by decide, rfl⟩, ⟨.inr ⟨by decide, rfl⟩, ⟨.inr ⟨by decide, rfl⟩, ⟨.inr ⟨by decide, rfl⟩, ⟨.inr ⟨by decide, rfl⟩, ⟨.inr ⟨by decide, rfl⟩, ⟨.inr ⟨by decide, rfl⟩, ⟨.inr ⟨by decide, rfl⟩, ⟨.inr ⟨by decide, rfl⟩, ⟨.inr ⟨by decide, rfl⟩, ⟨.inr ⟨by decide, rfl⟩, ⟨.inr ⟨by decide, rfl⟩, trivial⟩⟩⟩⟩⟩⟩⟩⟩⟩⟩⟩⟩⟩⟩⟩⟩⟩⟩ ?_
                  refine T.fn [(2, _), (10, _), (11, _), (12, _), (16, _), (202, _)] ⟨rfl, rfl, rfl, rfl, rfl, rfl, trivial⟩ ⟨.n1 185 rfl rfl (fun w HS => X.not rfl), .mv 186, .gw [(18, _), (187, _)] 15 false 187 ⟨rfl, rfl, trivial⟩ rfl (sb (n_t c83)) (fun w HS => X.move rfl), .gw [(10, _), (187, _)] 15 false 187 ⟨rfl, rfl, trivial⟩ rfl (sb (n_t c83)) (fun w HS => X.move rfl), .gw [(16, _), (187, _)] 15 false 187 ⟨rfl, rfl, trivial⟩ rfl (sb (n_t c83)) (fun w HS => X.move rfl), .gw [(190, _), (187, _)] 15 false 187 ⟨rfl, rfl, trivial⟩ rfl (sb (n_t c83)) (fun w HS => X.sub rfl rfl), .gw [(189, _), (187, _)] 15 false 187 ⟨rfl, rfl, trivial⟩ rfl (sb (n_t c83)) (fun w HS => X.nilCheck rfl), .gw [(192, _), (187, _)] 15 false 187 ⟨rfl, rfl, trivial⟩ rfl (sb (n_t c83)) (fun w HS => X.fieldAddr 4 fo59_2 rfl), .gw [(191, _), (193, _), (187, _)] 15 false 187 ⟨rfl, rfl, rfl, trivial⟩ rfl (sb (n_t c83)) (fun w HS => X.indexArK 1 hk78 Try.underlying57 inf56 rfl rfl c65.1 c65.2), .gw [(194, _), (187, _)] 15 false 187 ⟨rfl, rfl, trivial⟩ rfl (sb (n_t c83)) (fun w HS => X.loadAt 0 HS rfl Try.underlying56 rfl rfl rfl), .gw [(195, _), (187, _)] 15 false 187 ⟨rfl, rfl, trivial⟩ rfl (sb (n_t c83)) (fun w HS => X.lenSl Try.underlying56 rfl), .gw [(188, _), (196, _), (187, _)] 15 false 187 ⟨rfl, rfl, rfl, trivial⟩ rfl (sb (n_t c83)) (fun w HS => X.cmp (decide (x38 > (t32.heard.2.length : Int))) rfl rfl rfl rfl), .n2 187 197 rfl rfl rfl (fun w HS => X.pickF (sb (n_t c83)) rfl), .mv 198, .gw [(19, _), (199, _)] 27 false 199 ⟨rfl, rfl, trivial⟩ rfl (sb (decide_eq_false c84)) (fun w HS => X.move rfl), .gw [(200, _), (199, _)] 27 false 199 ⟨rfl, rfl, trivial⟩ rfl (sb (decide_eq_false c84)) (fun w HS => X.cmp (!(decide (x39 = 0))) rfl rfl rfl rfl), .n2 199 201 rfl rfl rfl (fun w HS => X.pickF (sb (decide_eq_false c84)) rfl), trivial⟩ (fun w HS => ?_)
                  replace HS := signalmanlaw15_pair.close trivial HS
                  exact At.meet (!(decide (x39 = 0))) ⟨rfl, rfl, rfl, rfl, rfl, rfl, trivial⟩ ⟨HS, kl44, by omega, H⟩
                ·replace H := ite_f c83 H
                 refine T.nm [(185, Value.bool t81), (186, Value.bool (!t81)), (187, Value.bool (!t81)), (188, undef), (189, undef), (190, undef), (191, undef), (192, undef), (193, undef), (194, undef), (195, undef), (196, undef), (197, undef), (198, Value.bool true), (199, Value.bool true), (200, undef), (201, undef), (202, Value.bool true)] HS ⟨.inl ⟨rfl, rfl⟩, ⟨.inr ⟨by decide, rfl⟩, ⟨.inr ⟨by decide, rfl⟩, ⟨.inr ⟨by decide, rfl⟩, ⟨.inr ⟨by decide, rfl⟩, ⟨.inr ⟨by decide, rfl⟩, ⟨.inr ⟨by decide, rfl⟩, ⟨.inr ⟨by decide, rfl⟩, ⟨.inr ⟨by decide, rfl⟩, ⟨.inr ⟨by decide, rfl⟩, ⟨.inr ⟨by decide, rfl⟩, ⟨.inr ⟨by decide, rfl⟩, ⟨.inr ⟨by decide, rfl⟩, ⟨.inr ⟨by decide, rfl⟩, ⟨.inr ⟨by decide, rfl⟩, ⟨.inr ⟨by decide, rfl⟩, ⟨.inr ⟨by decide, rfl⟩, ⟨.inr ⟨by decide, rfl⟩, trivial⟩⟩⟩⟩⟩⟩⟩⟩⟩⟩⟩⟩⟩⟩⟩⟩⟩⟩ ?_
                 refine T.fn [(2, _), (10, _), (11, _), (12, _), (16, _), (202, _)] ⟨rfl, rfl, rfl, rfl, rfl, rfl, trivial⟩ ⟨.n1 185 rfl rfl (fun w HS => X.not rfl), .mv 186, .gp 15 false true 187 rfl rfl (Option.some.inj (sb (n_f (b_f c83)))) rfl, .gp 15 false true 187 rfl rfl (Option.some.inj (sb (n_f (b_f c83)))) rfl, .gp 15 false true 187 rfl rfl (Option.some.inj (sb (n_f (b_f c83)))) rfl, .gp 15 false true 187 rfl rfl (Option.some.inj (sb (n_f (b_f c83)))) rfl, .gp 15 false true 187 rfl rfl (Option.some.inj (sb (n_f (b_f c83)))) rfl, .gp 15 false true 187 rfl rfl (Option.some.inj (sb (n_f (b_f c83)))) rfl, .gp 15 false true 187 rfl rfl (Option.some.inj (sb (n_f (b_f c83)))) rfl, .gp 15 false true 187 rfl rfl (Option.some.inj (sb (n_f (b_f c83)))) rfl, .gp 15 false true 187 rfl rfl (Option.some.inj (sb (n_f (b_f c83)))) rfl, .gp 15 false true 187 rfl rfl (Option.some.inj (sb (n_f (b_f c83)))) rfl, .n2 187 197 rfl rfl rfl (fun w HS => X.pickT (sb (n_f (b_f c83))) rfl), .mv 198, .gp 27 false true 199 rfl rfl rfl rfl, .gp 27 false true 199 rfl rfl rfl rfl, .n2 199 201 rfl rfl rfl (fun w HS => X.pickT rfl rfl), trivial⟩ (fun w HS => ?_)
                 replace HS := signalmanlaw15_pair.close trivial HS
                 exact At.meet true ⟨rfl, rfl, rfl, rfl, rfl, rfl, trivial⟩ ⟨HS, kl44, by omega, H⟩
               ·replace H := ite_f c80 H
                have hk85 : x34 = 1 := by omega
                refine V.dr [13] [14, 15, 16, 17, 18, 19, 20, 21, 22, 23, 24, 25, 26, 27, 28, 29, 30] [(172, Value.pointer (some ⟨bt11_0, 0, none⟩)), (173, Value.int .i64 x34), (174, Value.int .i64 (w64 (1 - x34))), (175, Value.pointer (some ⟨bt11_0, 0, none⟩)), (176, Value.pointer (some ⟨bt11_0, 0 + 4, none⟩)), (177, Value.pointer (some ⟨bt11_0, 0 + 4 + 1 * 1, none⟩)), (178, Value.slice a5_45 t32.heard.2.length c5_45), (179, Value.pointer (some ⟨bt11_0, 0, none⟩)), (180, Value.int .i64 x34), (181, Value.pointer (some ⟨bt11_0, 0, none⟩)), (182, Value.pointer (some ⟨bt11_0, 0 + 6, none⟩)), (183, Value.pointer (some ⟨bt11_0, 0 + 6 + 1 * 1, none⟩)), (184, Value.slice a7_45 t32.said.2.length c7_45)] mo HS ?_
                refine T.ev [(178, _), (184, _)] [] [0, 1, 2, 3, 4, 5, 6, 7, 8, 9, 10, 11, 12] ⟨rfl, rfl, trivial⟩ ⟨.mv 10, .mv 16, .n1 173 rfl rfl (fun w HS => X.sub rfl rfl), .nc 172, .fa 175 fo59_2, .n2 174 176 rfl rfl rfl (fun w HS => X.indexArK 1 hk78 Try.underlying57 inf56 rfl rfl c65.1 c65.2), .ld 177 0 Try.underlying56, .mv 10, .mv 16, .nc 179, .fa 181 fo59_3, .n2 180 182 rfl rfl rfl (fun w HS => X.indexArK 1 hk85 Try.underlying57 inf56 rfl rfl c79.1 c79.2), .ld 183 0 Try.underlying56, trivial⟩ rfl (fun w HS => ?_)
                obtain ⟨t86, A87, H⟩ := bind_s H
                refine ⟨_, Y.cl Try.func40 (signalmanlaw15_prefix.calls A87 HS.j0 (rdC.part 8 row_rd rfl) (rdC.part 10 row_rd rfl)), ?_⟩
                rintro _ w ⟨rfl, HS⟩
                replace HS := HS.o0
                by_cases c88 : t86 = true
                ·replace H := ite_t c88 H
                 by_cases c89 : x38 > (t32.heard.2.length : Int)
                 ·replace H := ite_t c89 H
                  refine T.nm [(185, Value.bool t86), (186, Value.bool (!t86)), (187, Value.bool (!t86)), (188, Value.int .i64 x38), (189, Value.pointer (some ⟨bt11_0, 0, none⟩)), (190, Value.int .i64 x34), (191, Value.int .i64 (w64 (1 - x34))), (192, Value.pointer (some ⟨bt11_0, 0, none⟩)), (193, Value.pointer (some ⟨bt11_0, 0 + 4, none⟩)), (194, Value.pointer (some ⟨bt11_0, 0 + 4 + 1 * 1, none⟩)), (195, Value.slice a5_45 t32.heard.2.length c5_45), (196, Value.int .i64 (t32.heard.2.length : Int)), (197, Value.bool (decide (x38 > (t32.heard.2.length : Int)))), (198, Value.bool (decide (x38 > (t32.heard.2.length : Int)))), (199, Value.bool (decide (x38 > (t32.heard.2.length : Int)))), (200, undef), (201, undef), (202, Value.bool true)] HS ⟨.inl ⟨rfl, rfl⟩, ⟨.inr ⟨by decide, rfl⟩, ⟨.inr ⟨by decide, rfl⟩, ⟨.inr ⟨by decide, rfl⟩, ⟨.inr ⟨by decide, rfl⟩, ⟨.inr ⟨by decide, rfl⟩, ⟨.inr ⟨by decide, rfl⟩, ⟨.inr ⟨by decide, rfl⟩, ⟨.inr ⟨by decide, rfl⟩, ⟨.inr ⟨by decide, rfl⟩, ⟨.inr ⟨by decide, rfl⟩, ⟨.inr ⟨by decide, rfl⟩, ⟨.inr ⟨by decide, rfl⟩, ⟨.inr ⟨by decide, rfl⟩, ⟨.inr ⟨by decide, rfl⟩, ⟨.inr ⟨by decide, rfl⟩, ⟨.inr ⟨by decide, rfl⟩, ⟨.inr ⟨by decide, rfl⟩, trivial⟩⟩⟩⟩⟩⟩⟩⟩⟩⟩⟩⟩⟩⟩⟩⟩⟩⟩ ?_
                  refine T.fn [(2, _), (10, _), (11, _), (12, _), (16, _), (202, _)] ⟨rfl, rfl, rfl, rfl, rfl, rfl, trivial⟩ ⟨.n1 185 rfl rfl (fun w HS => X.not rfl), .mv 186, .gw [(18, _), (187, _)] 15 false 187 ⟨rfl, rfl, trivial⟩ rfl (sb (n_t c88)) (fun w HS => X.move rfl), .gw [(10, _), (187, _)] 15 false 187 ⟨rfl, rfl, trivial⟩ rfl (sb (n_t c88)) (fun w HS => X.move rfl), .gw [(16, _), (187, _)] 15 false 187 ⟨rfl, rfl, trivial⟩ rfl (sb (n_t c88)) (fun w HS => X.move rfl), .gw [(190, _), (187, _)] 15 false 187 ⟨rfl, rfl, trivial⟩ rfl (sb (n_t c88)) (fun w HS => X.sub rfl rfl), .gw [(189, _), (187, _)] 15 false 187 ⟨rfl, rfl, trivial⟩ rfl (sb (n_t c88)) (fun w HS => X.nilCheck rfl), .gw [(192, _), (187, _)] 15 false 187 ⟨rfl, rfl, trivial⟩ rfl (sb (n_t c88)) (fun w HS => X.fieldAddr 4 fo59_2 rfl), .gw [(191, _), (193, _), (187, _)] 15 false 187 ⟨rfl, rfl, rfl, trivial⟩ rfl (sb (n_t c88)) (fun w HS => X.indexArK 1 hk78 Try.underlying57 inf56 rfl rfl c65.1 c65.2), .gw [(194, _), (187, _)] 15 false 187 ⟨rfl, rfl, trivial⟩ rfl (sb (n_t c88)) (fun w HS => X.loadAt 0 HS rfl Try.underlying56 rfl rfl rfl), .gw [(195, _), (187, _)] 15 false 187 ⟨rfl, rfl, trivial⟩ rfl (sb (n_t c88)) (fun w HS => X.lenSl Try.underlying56 rfl), .gw [(188, _), (196, _), (187, _)] 15 false 187 ⟨rfl, rfl, rfl, trivial⟩ rfl (sb (n_t c88)) (fun w HS => X.cmp (decide (x38 > (t32.heard.2.length : Int))) rfl rfl rfl rfl), .n2 187 197 rfl rfl rfl (fun w HS => X.pickF (sb (n_t c88)) rfl), .mv 198, .gp 27 false true 199 rfl rfl (Option.some.inj (sb (decide_eq_true c89))) rfl, .gp 27 false true 199 rfl rfl (Option.some.inj (sb (decide_eq_true c89))) rfl, .n2 199 201 rfl rfl rfl (fun w HS => X.pickT (sb (decide_eq_true c89)) rfl), trivial⟩ (fun w HS => ?_)
                  replace HS := signalmanlaw15_pair.close trivial HS
                  exact At.meet true ⟨rfl, rfl, rfl, rfl, rfl, rfl, trivial⟩ ⟨HS, kl44, by omega, H⟩
                 ·replace H := ite_f c89 H
                  refine T.nm [(185, Value.bool t86), (186, Value.bool (!t86)), (187, Value.bool (!t86)), (188, Value.int .i64 x38), (189, Value.pointer (some ⟨bt11_0, 0, none⟩)), (190, Value.int .i64 x34), (191, Value.int .i64 (w64 (1 - x34))), (192, Value.pointer (some ⟨bt11_0, 0, none⟩)), (193, Value.pointer (some ⟨bt11_0, 0 + 4, none⟩)), (194, Value.pointer (some ⟨bt11_0, 0 + 4 + 1 * 1, none⟩)), (195, Value.slice a5_45 t32.heard.2.length c5_45), (196, Value.int .i64 (t32.heard.2.length : Int)), (197, Value.bool (decide (x38 > (t32.heard.2.length : Int)))), (198, Value.bool (decide (x38 > (t32.heard.2.length : Int)))), (199, Value.bool (decide (x38 > (t32.heard.2.length : Int)))), (200, Value.int .i64 x39), (201, Value.bool (!(decide (x39 = 0)))), (202, Value.bool (!(decide (x39 = 0))))] HS ⟨.inl ⟨rfl, rfl⟩, ⟨.inr ⟨by decide, rfl⟩, ⟨.inr ⟨by decide, rfl⟩, ⟨.inr ⟨by decide, rfl⟩, ⟨.inr ⟨by decide, rfl⟩, ⟨.inr ⟨by decide, rfl⟩, ⟨.inr ⟨by decide, rfl⟩, ⟨.inr ⟨by decide, rfl⟩, ⟨.inr ⟨by decide, rfl⟩, ⟨.inr ⟨by decide, rfl⟩, ⟨.inr ⟨by decide, rfl⟩, ⟨.inr ⟨by decide, rfl⟩, ⟨.inr ⟨by decide, rfl⟩, ⟨.inr ⟨by decide, rfl⟩, ⟨.inr ⟨by decide, rfl⟩, ⟨.inr ⟨by decide, rfl⟩, ⟨.inr ⟨by decide, rfl⟩, ⟨.inr ⟨by decide, rfl⟩, trivial⟩⟩⟩⟩⟩⟩⟩⟩⟩⟩⟩⟩⟩⟩⟩⟩⟩⟩ ?_
                  refine T.fn [(2, _), (10, _), (11, _), (12, _), (16, _), (202, _)] ⟨rfl, rfl, rfl, rfl, rfl, rfl, trivial⟩ ⟨.n1 185 rfl rfl (fun w HS => X.not rfl), .mv 186, .gw [(18, _), (187, _)] 15 false 187 ⟨rfl, rfl, trivial⟩ rfl (sb (n_t c88)) (fun w HS => X.move rfl), .gw [(10, _), (187, _)] 15 false 187 ⟨rfl, rfl, trivial⟩ rfl (sb (n_t c88)) (fun w HS => X.move rfl), .gw [(16, _), (187, _)] 15 false 187 ⟨rfl, rfl, trivial⟩ rfl (sb (n_t c88)) (fun w HS => X.move rfl), .gw [(190, _), (187, _)] 15 false 187 ⟨rfl, rfl, trivial⟩ rfl (sb (n_t c88)) (fun w HS => X.sub rfl rfl), .gw [(189, _), (187, _)] 15 false 187 ⟨rfl, rfl, trivial⟩ rfl (sb (n_t c88)) (fun w HS => X.nilCheck rfl), .gw [(192, _), (187, _)] 15 false 187 ⟨rfl, rfl, trivial⟩ rfl (sb (n_t c88)) (fun w HS => X.fieldAddr 4 fo59_2 rfl), .gw [(191, _), (193, _), (187, _)] 15 false 187 ⟨rfl, rfl, rfl, trivial⟩ rfl (sb (n_t c88)) (fun w HS => X.indexArK 1 hk78 Try.underlying57 inf56 rfl rfl c65.1 c65.2), .gw [(194, _), (187, _)] 15 false 187 ⟨rfl, rfl, trivial⟩ rfl (sb (n_t c88)) (fun w HS => X.loadAt 0 HS rfl Try.underlying56 rfl rfl rfl), .gw [(195, _), (187, _)] 15 false 187 ⟨rfl, rfl, trivial⟩ rfl (sb (n_t c88)) (fun w HS => X.lenSl Try.underlying56 rfl), .gw [(188, _), (196, _), (187, _)] 15 false 187 ⟨rfl, rfl, rfl, trivial⟩ rfl (sb (n_t c88)) (fun w HS => X.cmp (decide (x38 > (t32.heard.2.length : Int))) rfl rfl rfl rfl), .n2 187 197 rfl rfl rfl (fun w HS => X.pickF (sb (n_t c88)) rfl), .mv 198, .gw [(19, _), (199, _)] 27 false 199 ⟨rfl, rfl, trivial⟩ rfl (sb (decide_eq_false c89)) (fun w HS => X.move rfl), .gw [(200, _), (199, _)] 27 false 199 ⟨rfl, rfl, trivial⟩ rfl (sb (decide_eq_false c89)) (fun w HS => X.cmp (!(decide (x39 = 0))) rfl rfl rfl rfl), .n2 199 201 rfl rfl rfl (fun w HS => X.pickF (sb (decide_eq_false c89)) rfl), trivial⟩ (fun w HS => ?_)
                  replace HS := signalmanlaw15_pair.close trivial HS
                  exact At.meet (!(decide (x39 = 0))) ⟨rfl, rfl, rfl, rfl, rfl, rfl, trivial⟩ ⟨HS, kl44, by omega, H⟩
                ·replace H := ite_f c88 H
                 refine T.nm [(185, Value.bool t86), (186, Value.bool (!t86)), (187, Value.bool (!t86)), (188, undef), (189, undef), (190, undef), (191, undef), (192, undef), (193, undef), (194, undef), (195, undef), (196, undef), (197, undef), (198, Value.bool true), (199, Value.bool true), (200, undef), (201, undef), (202, Value.bool true)] HS ⟨.inl ⟨rfl, rfl⟩, ⟨.inr ⟨by decide, rfl⟩, ⟨.inr ⟨by decide, rfl⟩, ⟨.inr ⟨by decide, rfl⟩, ⟨.inr ⟨by decide, rfl⟩, ⟨.inr ⟨by decide, rfl⟩, ⟨.inr ⟨by decide, rfl⟩, ⟨.inr ⟨by decide, rfl⟩, ⟨.inr ⟨by decide, rfl⟩, ⟨.inr ⟨by decide, rfl⟩, ⟨.inr ⟨by decide, rfl⟩, ⟨.inr ⟨by decide, rfl⟩, ⟨.inr ⟨by decide, rfl⟩, ⟨.inr ⟨by decide, rfl⟩, ⟨.inr ⟨by decide, rfl⟩, ⟨.inr ⟨by decide, rfl⟩, ⟨.inr ⟨by decide, rfl⟩, ⟨.inr ⟨by decide, rfl⟩, trivial⟩⟩⟩⟩⟩⟩⟩⟩⟩⟩⟩⟩⟩⟩⟩⟩⟩⟩ ?_
                 refine T.fn [(2, _), (10, _), (11, _), (12, _), (16, _), (202, _)] ⟨rfl, rfl, rfl, rfl, rfl, rfl, trivial⟩ ⟨.n1 185 rfl rfl (fun w HS => X.not rfl), .mv 186, .gp 15 false true 187 rfl rfl (Option.some.inj (sb (n_f (b_f c88)))) rfl, .gp 15 false true 187 rfl rfl (Option.some.inj (sb (n_f (b_f c88)))) rfl, .gp 15 false true 187 rfl rfl (Option.some.inj (sb (n_f (b_f c88)))) rfl, .gp 15 false true 187 rfl rfl (Option.some.inj (sb (n_f (b_f c88)))) rfl, .gp 15 false true 187 rfl rfl (Option.some.inj (sb (n_f (b_f c88)))) rfl, .gp 15 false true 187 rfl rfl (Option.some.inj (sb (n_f (b_f c88)))) rfl, .gp 15 false true 187 rfl rfl (Option.some.inj (sb (n_f (b_f c88)))) rfl, .gp 15 false true 187 rfl rfl (Option.some.inj (sb (n_f (b_f c88)))) rfl, .gp 15 false true 187 rfl rfl (Option.some.inj (sb (n_f (b_f c88)))) rfl, .gp 15 false true 187 rfl rfl (Option.some.inj (sb (n_f (b_f c88)))) rfl, .n2 187 197 rfl rfl rfl (fun w HS => X.pickT (sb (n_f (b_f c88))) rfl), .mv 198, .gp 27 false true 199 rfl rfl rfl rfl, .gp 27 false true 199 rfl rfl rfl rfl, .n2 199 201 rfl rfl rfl (fun w HS => X.pickT rfl rfl), trivial⟩ (fun w HS => ?_)
                 replace HS := signalmanlaw15_pair.close trivial HS
                 exact At.meet true ⟨rfl, rfl, rfl, rfl, rfl, rfl, trivial⟩ ⟨HS, kl44, by omega, H⟩
             ·rintro x58 w ⟨HS, kl63, hkkl63, H⟩
              unfold signalmanlaw15_ArqOrders.j7 at H
              by_cases c64 : x58 = true
              ·replace H := ite_t c64 H
               refine V.condT (sb c64) (V.seq (V.region (W.as rfl (W.nx (V.ret (At.blockRet (At.thenRet (At.thenRet (At.blockRet (At.blockRet (At.thenRet (At.thenRet (At.blockRet (At.thenRet ?_))))))))))))))
               replace HS := HS.pk [2] [0, 1]
               cases H
               exact At.ret1 rfl rfl ⟨_, rfl, rfl, HS⟩
              ·replace H := ite_f c64 H
               refine V.condF (sb (b_f c64)) (V.skip (At.blockEnd (At.next (V.region (W.mv rfl (W.r (X.add rfl rfl) rfl (W.as rfl (W.nil ?_))))))))
               exact At.round kl63 (by omega) (w64 (x34 + 1)) ⟨rfl, rfl, rfl, rfl, rfl, trivial⟩ ⟨HS, H, by omega⟩
          ·replace H := ite_f c37 H
           refine V.condF (sb (decide_eq_false c37)) (V.exit (At.thenExit (At.thenExit (At.blockExit (At.blockEnd (At.next (V.region (W.mv rfl (W.r (X.add rfl rfl) rfl (W.as rfl (W.nil ?_)))))))))))
           replace HS := HS.pk [1, 0, 2] []
           exact At.round kl31 (by omega) (x28, w64 (x19 + 1), t32) ⟨rfl, rfl, rfl, rfl, trivial⟩ ⟨HS, H, by omega⟩
       ·replace H := ite_f c23 H
        refine V.condF (sb (decide_eq_false c23)) (V.exit (At.thenExit (At.thenExit (At.blockExit (At.next (V.seq (V.region (W.as rfl (W.nx (V.ret ?_))))))))))
        replace HS := HS.pk [2] [0, 1]
        cases H
        exact At.ret1 rfl rfl ⟨_, rfl, rfl, HS⟩
def signalmanlaw15_ArqOrders.Pure : Prop := ∀ (a0 : Bool) (a1 : Int) (a2 : List Int), (Lit.int .i64 a1).wf = true → (∀ z ∈ a2, (Lit.int .i64 z).wf = true) → (a2.length : Int) ≤ 9223372036854775807 → ∃ k, signalmanlaw15_ArqOrders.f k a0 a1 a2 = some true
end Go.Proofs.Ytnlcafmkmfnobaa

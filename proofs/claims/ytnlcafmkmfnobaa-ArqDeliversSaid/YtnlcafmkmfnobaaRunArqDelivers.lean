/- ArqDelivers: the functions that its law reaches, as plain functions, and that the machine's calls come to what these say. Conditions: those that stand at each. -/
import Derived.Test.YtnlcafmkmfnobaaRunArqDeliversP2
set_option linter.all false
set_option maxRecDepth 100000
set_option maxHeartbeats 4000000
set_option synthInstance.maxSize 100000
set_option synthInstance.maxHeartbeats 1000000
namespace Go.Proofs.Ytnlcafmkmfnobaa
open Go.RowKit Go.Proofs.Ytnlcafmkmfnobaa.Sep Go.Proofs.Ytnlcafmkmfnobaa.Walk
mutual
def signalmanlaw15_pair_collect.l0 : Nat → Int → signalmanlaw15_pair → Option signalmanlaw15_pair
 | 0, _, _ => none
 | k + 1, x2, x3 => (if x2 < 2 then (if 0 ≤ x2 ∧ x2 < 2 then (if x2 = 0 then ((arq_Arq_Output.f x3.a.1).bind fun t84 => (if (x3.way.1.length : Int) + t84.1.length ≤ 1099511627776 then (signalmanlaw15_pair_collect.j1 k x2 (signalmanlaw15_pair_collect.l0 k) ({ a := (t84.2, x3.a.2), way := (x3.way.1 ++ t84.1, x3.way.2), heard := (x3.heard.1, x3.heard.2), said := (x3.said.1, x3.said.2), downs := x3.downs } : signalmanlaw15_pair)) else none)) else ((arq_Arq_Output.f x3.a.2).bind fun t90 => (if (x3.way.2.length : Int) + t90.1.length ≤ 1099511627776 then (signalmanlaw15_pair_collect.j1 k x2 (signalmanlaw15_pair_collect.l0 k) ({ a := (x3.a.1, t90.2), way := (x3.way.1, x3.way.2 ++ t90.1), heard := (x3.heard.1, x3.heard.2), said := (x3.said.1, x3.said.2), downs := x3.downs } : signalmanlaw15_pair)) else none))) else none) else some x3)
def signalmanlaw15_pair_collect.l2 : Nat → Int → (Int → signalmanlaw15_pair → Option signalmanlaw15_pair) → signalmanlaw15_pair → Option signalmanlaw15_pair
 | 0, _, _, _ => none
 | k + 1, x2, Lq9, x11 => (if 0 ≤ x2 ∧ x2 < 2 then (if x2 = 0 then ((arq_Arq_Recv.f x11.a.1).bind fun t75 => (signalmanlaw15_pair_collect.j3 k x2 Lq9 (signalmanlaw15_pair_collect.l2 k x2 Lq9) ({ a := (t75.2.2, x11.a.2), way := (x11.way.1, x11.way.2), heard := (x11.heard.1, x11.heard.2), said := (x11.said.1, x11.said.2), downs := x11.downs } : signalmanlaw15_pair) t75.1 t75.2.1)) else ((arq_Arq_Recv.f x11.a.2).bind fun t78 => (signalmanlaw15_pair_collect.j3 k x2 Lq9 (signalmanlaw15_pair_collect.l2 k x2 Lq9) ({ a := (x11.a.1, t78.2.2), way := (x11.way.1, x11.way.2), heard := (x11.heard.1, x11.heard.2), said := (x11.said.1, x11.said.2), downs := x11.downs } : signalmanlaw15_pair) t78.1 t78.2.1))) else none)
def signalmanlaw15_pair_collect.l5 : Nat → Int → (Int → signalmanlaw15_pair → Option signalmanlaw15_pair) → (List Int) → Int → signalmanlaw15_pair → Option signalmanlaw15_pair
 | 0, _, _, _, _, _ => none
 | k + 1, x2, Lq48, x46, x51, x52 => (if x51 < (x46.length : Int) then (if 0 ≤ x51 ∧ x51 < (x46.length : Int) then (if (x46.getD x51.toNat 0) = 1 then (signalmanlaw15_pair_collect.l5 k x2 Lq48 x46 (w64 (x51 + 1)) x52) else (signalmanlaw15_pair_collect.l5 k x2 Lq48 x46 (w64 (x51 + 1)) ({ a := (x52.a.1, x52.a.2), way := (x52.way.1, x52.way.2), heard := (x52.heard.1, x52.heard.2), said := (x52.said.1, x52.said.2), downs := w64 (x52.downs + 1) } : signalmanlaw15_pair))) else none) else (Lq48 (w64 (x2 + 1)) x52))
def signalmanlaw15_pair_collect.j4 (k : Nat) (x2 : Int) (Lq48 : Int → signalmanlaw15_pair → Option signalmanlaw15_pair) (x43 : signalmanlaw15_pair) (x46 : List Int) : Option signalmanlaw15_pair := (signalmanlaw15_pair_collect.l5 k x2 Lq48 x46 0 x43)
def signalmanlaw15_pair_collect.j3 (k : Nat) (x2 : Int) (Lq20 : Int → signalmanlaw15_pair → Option signalmanlaw15_pair) (Lq22 : signalmanlaw15_pair → Option signalmanlaw15_pair) (x14 : signalmanlaw15_pair) (x17 : List Int) (x18 : Bool) : Option signalmanlaw15_pair := (if x18 = true then (if 0 ≤ x2 ∧ x2 < 2 then (if x2 = 0 then (if (x14.heard.1.length : Int) + (([x17] : List (List Int))).length ≤ 1099511627776 then (Lq22 ({ a := (x14.a.1, x14.a.2), way := (x14.way.1, x14.way.2), heard := (x14.heard.1 ++ ([x17] : List (List Int)), x14.heard.2), said := (x14.said.1, x14.said.2), downs := x14.downs } : signalmanlaw15_pair)) else none) else (if (x14.heard.2.length : Int) + (([x17] : List (List Int))).length ≤ 1099511627776 then (Lq22 ({ a := (x14.a.1, x14.a.2), way := (x14.way.1, x14.way.2), heard := (x14.heard.1, x14.heard.2 ++ ([x17] : List (List Int))), said := (x14.said.1, x14.said.2), downs := x14.downs } : signalmanlaw15_pair)) else none)) else none) else (if 0 ≤ x2 ∧ x2 < 2 then (if x2 = 0 then ((arq_Arq_Inds.f x14.a.1).bind fun t66 => (signalmanlaw15_pair_collect.j4 k x2 Lq20 ({ a := (t66.2, x14.a.2), way := (x14.way.1, x14.way.2), heard := (x14.heard.1, x14.heard.2), said := (x14.said.1, x14.said.2), downs := x14.downs } : signalmanlaw15_pair) t66.1)) else ((arq_Arq_Inds.f x14.a.2).bind fun t69 => (signalmanlaw15_pair_collect.j4 k x2 Lq20 ({ a := (x14.a.1, t69.2), way := (x14.way.1, x14.way.2), heard := (x14.heard.1, x14.heard.2), said := (x14.said.1, x14.said.2), downs := x14.downs } : signalmanlaw15_pair) t69.1))) else none))
def signalmanlaw15_pair_collect.j1 (k : Nat) (x2 : Int) (Lq9 : Int → signalmanlaw15_pair → Option signalmanlaw15_pair) (x7 : signalmanlaw15_pair) : Option signalmanlaw15_pair := (signalmanlaw15_pair_collect.l2 k x2 Lq9 x7)
end
def signalmanlaw15_pair_collect.f (k : Nat) (a0 : signalmanlaw15_pair) : Option signalmanlaw15_pair := (signalmanlaw15_pair_collect.l0 k 0 a0)
theorem signalmanlaw15_pair_collect.calls {k : Nat} {a0 : signalmanlaw15_pair} {R : As} {w0 w : World} {b0 : Nat} {r : signalmanlaw15_pair} (H : signalmanlaw15_pair_collect.f k a0 = some r) (HS : Sep.St [signalmanlaw15_pair.at b0 a0, R] w0 w)  : Calls Try.prog 32 #[Value.pointer (some ⟨b0, 0, none⟩)] w (Ret fun u w => u = Value.tuple #[] ∧ Sep.St [signalmanlaw15_pair.at b0 r, R] w0 w) := by
 unfold signalmanlaw15_pair_collect.f at H
 refine calls_enter Try.func32 rfl rfl ?_
 have H : _ = some r := H
 refine V.seq (V.region (W.as rfl (W.nx (V.block (V.loop (σ := Int × signalmanlaw15_pair) (fun kq (st : Int × signalmanlaw15_pair) w => match st with | (x2, x3) => Sep.St [signalmanlaw15_pair.at b0 x3, R] w0 w ∧ signalmanlaw15_pair_collect.l0 kq x2 x3 = some r ∧ kq ≤ k) (fun st => match st with | (x2, x3) => [(0, Value.pointer (some ⟨b0, 0, none⟩)), (2, Value.int .i64 x2)]) k (0, a0) ⟨rfl, rfl, trivial⟩ ⟨HS, H, Nat.le_refl _⟩ ?_)))))
 rintro kq4 ⟨x2, x3⟩ w ⟨HS, H, hk5⟩
 cases kq4 with
 | zero => exact absurd H (by simp [signalmanlaw15_pair_collect.l0])
 | succ kq4 =>
  simp only [signalmanlaw15_pair_collect.l0] at H
  refine V.seq (V.seq (V.region (W.mv rfl (W.r (X.cmp (decide (x2 < 2)) rfl rfl rfl rfl) rfl (W.nx ?_)))))
  by_cases c6 : x2 < 2
  ·replace H := ite_t c6 H
   refine V.condT (sb (decide_eq_true c6)) (V.skip (At.next (V.seq (V.block (V.meet (σ := signalmanlaw15_pair) (fun st w => match st with | x7 => Sep.St [signalmanlaw15_pair.at b0 x7, R] w0 w ∧ ∃ kf8 kl10, kf8 ≤ kq4 ∧ kl10 ≤ kq4 ∧ signalmanlaw15_pair_collect.j1 kf8 x2 (signalmanlaw15_pair_collect.l0 kl10) x7 = some r) (fun st => match st with | x7 => [(0, Value.pointer (some ⟨b0, 0, none⟩)), (2, Value.int .i64 x2)]) ?_ ?_)))))
   ·obtain ⟨b0_80, b1_80, a2_80, c2_80, d2_80, a3_80, c3_80, d3_80, a4_80, c4_80, a5_80, c5_80, a6_80, c6_80, a7_80, c7_80, hi81, HS⟩ := signalmanlaw15_pair.open HS
    obtain ⟨c82, H⟩ := ite_n H
    by_cases c83 : x2 = 0
    ·replace H := ite_t c83 H
     refine V.dr [14, 15, 19] [18] [(11, Value.pointer (some ⟨b0, 0, none⟩)), (12, Value.int .i64 x2), (13, Value.pointer (some ⟨b0, 0, none⟩)), (14, Value.int .i64 x2), (15, Value.pointer (some ⟨b0, 0, none⟩)), (16, Value.pointer (some ⟨b0, 0 + 2, none⟩)), (17, Value.pointer (some ⟨b0, 0 + 2 + 0 * 1, none⟩)), (18, Value.slice a2_80 x3.way.1.length c2_80), (19, Value.pointer (some ⟨b0, 0, none⟩)), (20, Value.int .i64 x2), (21, Value.pointer (some ⟨b0, 0, none⟩)), (22, Value.pointer (some ⟨b0, 0 + 0, none⟩)), (23, Value.pointer (some ⟨b0, 0 + 0 + 0 * 1, none⟩)), (24, Value.pointer (some ⟨b0_80, 0, none⟩)), (27, Value.pointer (some ⟨b0, 0, none⟩)), (28, Value.pointer (some ⟨b0, 0 + 2, none⟩))] mo HS ?_
     refine T.ev [(24, _)] [18] [8, 9, 10, 11, 12, 13] ⟨rfl, trivial⟩ ⟨.mv 0, .mv 2, .mv 0, .mv 2, .nc 13, .fa 15 fo59_1, .n2 14 16 rfl rfl rfl (fun w HS => X.indexArK 0 c83 Try.underlying55 inf30 rfl rfl c82.1 c82.2), .ld 17 0 Try.underlying30, .mv 0, .mv 2, .nc 19, .fa 21 fo59_0, .n2 20 22 rfl rfl rfl (fun w HS => X.indexArK 0 c83 Try.underlying54 inf26 rfl rfl c82.1 c82.2), .ld 23 0 Try.underlying26, .nc 11, .fa 27 fo59_1, trivial⟩ rfl (fun w HS => ?_)
     obtain ⟨t84, A85, H⟩ := bind_s H
     replace HS := HS.pm [1, 0, 2, 3, 4, 5, 6, 7, 8, 9, 10, 11]
     refine ⟨_, Y.cl Try.func20 (arq_Arq_Output.calls A85 HS.j1), ?_⟩
     rintro _ w ⟨at84_0, ct84_0, dt84_0, rfl, HS⟩
     replace HS := HS.o3
     refine T.nw HS ?_
     refine T.ev [(18, _), (25, _)] [] [2, 3, 4, 5, 6, 7] ⟨rfl, rfl, trivial⟩ ⟨.mv 0, .mv 2, .mv 0, .mv 2, .nc 13, .fa 15 fo59_1, .n2 14 16 rfl rfl rfl (fun w HS => X.indexArK 0 c83 Try.underlying55 inf30 rfl rfl c82.1 c82.2), .ld 17 3 Try.underlying30, .nc 11, .fa 27 fo59_1, trivial⟩ rfl (fun w HS => ?_)
     obtain ⟨c86, H⟩ := ite_n H
     refine ⟨_, Y.app (xs := x3.way.1) (ys := t84.1) 5 Try.underlying30 ap39 rfl (by decide) HS rfl rfl rfl (rdC.at 0 row_rd HS rfl) (St.tie_one 1 HS rfl) (by omega) (by omega), ?_⟩
     rintro _ w ⟨ra87, rc88, rfl, HS⟩
     replace HS := HS.fr 6
     replace HS := St.tie_app 2 HS rfl
     refine T.nm [(26, Value.slice ra87 (x3.way.1 ++ t84.1).length rc88), (29, Value.pointer (some ⟨b0, 0 + 2 + 0 * 1, none⟩))] HS ⟨.inl ⟨rfl, rfl⟩, ⟨.inr ⟨by decide, rfl⟩, trivial⟩⟩ ?_
     refine T.ev [(26, _), (29, _)] [] [0, 1, 16, 17, 18] ⟨rfl, rfl, trivial⟩ ⟨.mv 0, .mv 2, .nc 11, .fa 27 fo59_1, .n2 12 28 rfl rfl rfl (fun w HS => X.indexArK 0 c83 Try.underlying55 inf30 rfl rfl c82.1 c82.2), trivial⟩ rfl (fun w HS => ?_)
     refine ⟨_, Y.sto 4 2 HS inf30 rfl rfl rfl rfl rfl rfl, ?_⟩
     rintro _ w HS
     refine T.nn HS ?_
     refine T.fn [(0, _), (2, _)] ⟨rfl, rfl, trivial⟩ trivial (fun w HS => ?_)
     replace HS := HS.pm [4, 3, 5, 6, 0, 7, 8, 9, 10, 11, 12, 1, 2, 13]
     replace HS := signalmanlaw15_pair.close trivial HS
     replace HS := HS.pk [0, 3] [1, 2]
     exact At.meet (({ a := (t84.2, x3.a.2), way := (x3.way.1 ++ t84.1, x3.way.2), heard := (x3.heard.1, x3.heard.2), said := (x3.said.1, x3.said.2), downs := x3.downs } : signalmanlaw15_pair)) ⟨rfl, rfl, trivial⟩ ⟨HS, kq4, kq4, by omega, by omega, H⟩
    ·replace H := ite_f c83 H
     have hk89 : x2 = 1 := by omega
     refine V.dr [14, 15, 19] [18] [(11, Value.pointer (some ⟨b0, 0, none⟩)), (12, Value.int .i64 x2), (13, Value.pointer (some ⟨b0, 0, none⟩)), (14, Value.int .i64 x2), (15, Value.pointer (some ⟨b0, 0, none⟩)), (16, Value.pointer (some ⟨b0, 0 + 2, none⟩)), (17, Value.pointer (some ⟨b0, 0 + 2 + 1 * 1, none⟩)), (18, Value.slice a3_80 x3.way.2.length c3_80), (19, Value.pointer (some ⟨b0, 0, none⟩)), (20, Value.int .i64 x2), (21, Value.pointer (some ⟨b0, 0, none⟩)), (22, Value.pointer (some ⟨b0, 0 + 0, none⟩)), (23, Value.pointer (some ⟨b0, 0 + 0 + 1 * 1, none⟩)), (24, Value.pointer (some ⟨b1_80, 0, none⟩)), (27, Value.pointer (some ⟨b0, 0, none⟩)), (28, Value.pointer (some ⟨b0, 0 + 2, none⟩))] mo HS ?_
     refine T.ev [(24, _)] [18] [8, 9, 10, 11, 12, 13] ⟨rfl, trivial⟩ ⟨.mv 0, .mv 2, .mv 0, .mv 2, .nc 13, .fa 15 fo59_1, .n2 14 16 rfl rfl rfl (fun w HS => X.indexArK 1 hk89 Try.underlying55 inf30 rfl rfl c82.1 c82.2), .ld 17 0 Try.underlying30, .mv 0, .mv 2, .nc 19, .fa 21 fo59_0, .n2 20 22 rfl rfl rfl (fun w HS => X.indexArK 1 hk89 Try.underlying54 inf26 rfl rfl c82.1 c82.2), .ld 23 0 Try.underlying26, .nc 11, .fa 27 fo59_1, trivial⟩ rfl (fun w HS => ?_)
     obtain ⟨t90, A91, H⟩ := bind_s H
     replace HS := HS.pm [2, 0, 1, 3, 4, 5, 6, 7, 8, 9, 10, 11]
     refine ⟨_, Y.cl Try.func20 (arq_Arq_Output.calls A91 HS.j1), ?_⟩
     rintro _ w ⟨at90_0, ct90_0, dt90_0, rfl, HS⟩
     replace HS := HS.o3
     refine T.nw HS ?_
     refine T.ev [(18, _), (25, _)] [] [2, 3, 4, 5, 6, 7] ⟨rfl, rfl, trivial⟩ ⟨.mv 0, .mv 2, .mv 0, .mv 2, .nc 13, .fa 15 fo59_1, .n2 14 16 rfl rfl rfl (fun w HS => X.indexArK 1 hk89 Try.underlying55 inf30 rfl rfl c82.1 c82.2), .ld 17 3 Try.underlying30, .nc 11, .fa 27 fo59_1, trivial⟩ rfl (fun w HS => ?_)
     obtain ⟨c92, H⟩ := ite_n H
     refine ⟨_, Y.app (xs := x3.way.2) (ys := t90.1) 7 Try.underlying30 ap39 rfl (by decide) HS rfl rfl rfl (rdC.at 0 row_rd HS rfl) (St.tie_one 1 HS rfl) (by omega) (by omega), ?_⟩
     rintro _ w ⟨ra93, rc94, rfl, HS⟩
     replace HS := HS.fr 8
     replace HS := St.tie_app 2 HS rfl
     refine T.nm [(26, Value.slice ra93 (x3.way.2 ++ t90.1).length rc94), (29, Value.pointer (some ⟨b0, 0 + 2 + 1 * 1, none⟩))] HS ⟨.inl ⟨rfl, rfl⟩, ⟨.inr ⟨by decide, rfl⟩, trivial⟩⟩ ?_
     refine T.ev [(26, _), (29, _)] [] [0, 1, 16, 17, 18] ⟨rfl, rfl, trivial⟩ ⟨.mv 0, .mv 2, .nc 11, .fa 27 fo59_1, .n2 12 28 rfl rfl rfl (fun w HS => X.indexArK 1 hk89 Try.underlying55 inf30 rfl rfl c82.1 c82.2), trivial⟩ rfl (fun w HS => ?_)
     refine ⟨_, Y.sto 4 3 HS inf30 rfl rfl rfl rfl rfl rfl, ?_⟩
     rintro _ w HS
     refine T.nn HS ?_
     refine T.fn [(0, _), (2, _)] ⟨rfl, rfl, trivial⟩ trivial (fun w HS => ?_)
     replace HS := HS.pm [4, 5, 3, 6, 7, 8, 0, 9, 10, 11, 12, 1, 2, 13]
     replace HS := signalmanlaw15_pair.close trivial HS
     replace HS := HS.pk [0, 3] [1, 2]
     exact At.meet (({ a := (x3.a.1, t90.2), way := (x3.way.1, x3.way.2 ++ t90.1), heard := (x3.heard.1, x3.heard.2), said := (x3.said.1, x3.said.2), downs := x3.downs } : signalmanlaw15_pair)) ⟨rfl, rfl, trivial⟩ ⟨HS, kq4, kq4, by omega, by omega, H⟩
   ·rintro x7 w ⟨HS, kf8, kl10, hkkf8, hkkl10, H⟩
    unfold signalmanlaw15_pair_collect.j1 at H
    refine V.seq (V.block (V.loop (σ := signalmanlaw15_pair) (fun kq (st : signalmanlaw15_pair) w => match st with | x11 => Sep.St [signalmanlaw15_pair.at b0 x11, R] w0 w ∧ signalmanlaw15_pair_collect.l2 kq x2 (signalmanlaw15_pair_collect.l0 kl10) x11 = some r ∧ kq ≤ kf8) (fun st => match st with | x11 => [(0, Value.pointer (some ⟨b0, 0, none⟩)), (2, Value.int .i64 x2)]) kf8 x7 ⟨rfl, rfl, trivial⟩ ⟨HS, H, Nat.le_refl _⟩ ?_))
    rintro kq12 x11 w ⟨HS, H, hk13⟩
    cases kq12 with
    | zero => exact absurd H (by simp [signalmanlaw15_pair_collect.l2])
    | succ kq12 =>
     simp only [signalmanlaw15_pair_collect.l2] at H
     refine V.block (V.meet (σ := signalmanlaw15_pair × Option Addr × Nat × List Int × Bool) (fun st w => match st with | (x14, ra15, rc16, x17, x18) => Sep.St [fsl 1 (.slice ra15 x17.length rc16) x17.length (x17.map (Value.int .u8)), signalmanlaw15_pair.at b0 x14, R] w0 w ∧ ∃ kf19 kl21 kl23, kf19 ≤ kq12 ∧ kl21 ≤ kl10 ∧ kl23 ≤ kq12 ∧ signalmanlaw15_pair_collect.j3 kf19 x2 (signalmanlaw15_pair_collect.l0 kl21) (signalmanlaw15_pair_collect.l2 kl23 x2 (signalmanlaw15_pair_collect.l0 kl10)) x14 x17 x18 = some r) (fun st => match st with | (x14, ra15, rc16, x17, x18) => [(0, Value.pointer (some ⟨b0, 0, none⟩)), (2, Value.int .i64 x2), (3, Value.slice ra15 x17.length rc16), (4, Value.bool x18)]) ?_ ?_)
     ·refine V.region (W.mv rfl (W.mv rfl (W.nc rfl ?_)))
      obtain ⟨b0_71, b1_71, a2_71, c2_71, d2_71, a3_71, c3_71, d3_71, a4_71, c4_71, a5_71, c5_71, a6_71, c6_71, a7_71, c7_71, hi72, HS⟩ := signalmanlaw15_pair.open HS
      refine W.fa fo59_0 rfl ?_
      obtain ⟨c73, H⟩ := ite_n H
      by_cases c74 : x2 = 0
      ·replace H := ite_t c74 H
       refine W.r (X.indexArK 0 c74 Try.underlying54 inf26 rfl rfl c73.1 c73.2) rfl (W.ld 0 HS Try.underlying26 rfl rfl rfl rfl ?_)
       obtain ⟨t75, A76, H⟩ := bind_s H
       replace HS := HS.pm [1, 0, 2, 3, 4, 5, 6, 7, 8, 9, 10, 11]
       refine W.e (Y.cl Try.func31 (arq_Arq_Recv.calls A76 HS.j1)) rfl ?_
       rintro _ w ⟨at75_0, ct75_0, rfl, HS⟩
       replace HS := HS.o2
       refine W.mv rfl (W.r (X.extract rfl rfl) rfl (W.r (X.extract rfl rfl) rfl (W.as rfl (W.as rfl (W.nil ?_)))))
       replace HS := HS.pm [2, 1, 3, 4, 5, 6, 7, 8, 9, 10, 11, 0, 12]
       replace HS := signalmanlaw15_pair.close trivial HS
       replace HS := HS.pk [1, 0, 2] []
       exact At.meet (({ a := (t75.2.2, x11.a.2), way := (x11.way.1, x11.way.2), heard := (x11.heard.1, x11.heard.2), said := (x11.said.1, x11.said.2), downs := x11.downs } : signalmanlaw15_pair), at75_0, ct75_0, t75.1, t75.2.1) ⟨rfl, rfl, rfl, rfl, trivial⟩ ⟨HS, kq12, kl10, kq12, by omega, by omega, by omega, H⟩
      ·replace H := ite_f c74 H
       have hk77 : x2 = 1 := by omega
       refine W.r (X.indexArK 1 hk77 Try.underlying54 inf26 rfl rfl c73.1 c73.2) rfl (W.ld 0 HS Try.underlying26 rfl rfl rfl rfl ?_)
       obtain ⟨t78, A79, H⟩ := bind_s H
       replace HS := HS.pm [2, 0, 1, 3, 4, 5, 6, 7, 8, 9, 10, 11]
       refine W.e (Y.cl Try.func31 (arq_Arq_Recv.calls A79 HS.j1)) rfl ?_
       rintro _ w ⟨at78_0, ct78_0, rfl, HS⟩
       replace HS := HS.o2
       refine W.mv rfl (W.r (X.extract rfl rfl) rfl (W.r (X.extract rfl rfl) rfl (W.as rfl (W.as rfl (W.nil ?_)))))
       replace HS := HS.pm [2, 3, 1, 4, 5, 6, 7, 8, 9, 10, 11, 0, 12]
       replace HS := signalmanlaw15_pair.close trivial HS
       replace HS := HS.pk [1, 0, 2] []
       exact At.meet (({ a := (x11.a.1, t78.2.2), way := (x11.way.1, x11.way.2), heard := (x11.heard.1, x11.heard.2), said := (x11.said.1, x11.said.2), downs := x11.downs } : signalmanlaw15_pair), at78_0, ct78_0, t78.1, t78.2.1) ⟨rfl, rfl, rfl, rfl, trivial⟩ ⟨HS, kq12, kl10, kq12, by omega, by omega, by omega, H⟩
     ·rintro ⟨x14, ra15, rc16, x17, x18⟩ w ⟨HS, kf19, kl21, kl23, hkkf19, hkkl21, hkkl23, H⟩
      unfold signalmanlaw15_pair_collect.j3 at H
      refine V.seq (V.seq (V.region (W.mv rfl (W.r (X.not rfl) rfl (W.nx ?_)))))
      by_cases c25 : x18 = true
      ·replace H := ite_t c25 H
       refine V.condF (sb (n_t c25)) (V.skip (At.next ?_))
       replace HS := HS.fr 1
       obtain ⟨b0_26, b1_26, a2_26, c2_26, d2_26, a3_26, c3_26, d3_26, a4_26, c4_26, a5_26, c5_26, a6_26, c6_26, a7_26, c7_26, hi27, HS⟩ := signalmanlaw15_pair.open HS
       obtain ⟨c28, H⟩ := ite_n H
       by_cases c29 : x2 = 0
       ·replace H := ite_t c29 H
        refine V.dr [10, 11, 15] [14] [(42, Value.pointer (some ⟨b0, 0, none⟩)), (43, Value.int .i64 x2), (44, Value.pointer (some ⟨b0, 0, none⟩)), (45, Value.int .i64 x2), (46, Value.pointer (some ⟨b0, 0, none⟩)), (47, Value.pointer (some ⟨b0, 0 + 4, none⟩)), (48, Value.pointer (some ⟨b0, 0 + 4 + 0 * 1, none⟩)), (49, Value.slice a4_26 x14.heard.1.length c4_26), (50, Value.slice ra15 x17.length rc16), (51, Value.string (strOf x17)), (54, Value.pointer (some ⟨b0, 0, none⟩)), (55, Value.pointer (some ⟨b0, 0 + 4, none⟩))] mo HS ?_
        refine T.ev [(51, _)] [14] [8, 9] ⟨rfl, trivial⟩ ⟨.mv 0, .mv 2, .mv 0, .mv 2, .nc 44, .fa 46 fo59_2, .n2 45 47 rfl rfl rfl (fun w HS => X.indexArK 0 c29 Try.underlying57 inf56 rfl rfl c28.1 c28.2), .ld 48 0 Try.underlying56, .mv 3, .n1 50 rfl rfl (fun w HS => X.bytesStr Try.underlying39 Try.underlying5 Try.underlying9 rfl (rdC.at 11 fsl.rd HS rfl)), .nc 42, .fa 54 fo59_2, trivial⟩ rfl (fun w HS => ?_)
        refine ⟨_, Y.ls (e := 9) (fun x => Value.string (strOf x)) ([x17] : List (List Int)) HS rfl rfl (fun _ => by kernel_rfl), ?_⟩
        rintro _ w ⟨lb32, rfl, HS⟩
        refine T.nw HS ?_
        refine T.ev [(49, _), (52, _)] [] [2, 3, 4, 5, 6, 7] ⟨rfl, rfl, trivial⟩ ⟨.mv 0, .mv 2, .mv 0, .mv 2, .nc 44, .fa 46 fo59_2, .n2 45 47 rfl rfl rfl (fun w HS => X.indexArK 0 c29 Try.underlying57 inf56 rfl rfl c28.1 c28.2), .ld 48 1 Try.underlying56, .nc 42, .fa 54 fo59_2, trivial⟩ rfl (fun w HS => ?_)
        obtain ⟨c33, H⟩ := ite_n H
        refine ⟨_, Y.appF (fun x => Value.string (strOf x)) (fun _ => rfl) 8 Try.underlying56 ap9 rfl HS rfl rfl rfl (rdC.at 0 row_rd HS rfl) (by omega) (by omega), ?_⟩
        rintro _ w ⟨ra34, rc35, rfl, HS⟩
        refine T.nm [(53, Value.slice ra34 (x14.heard.1 ++ ([x17] : List (List Int))).length rc35), (56, Value.pointer (some ⟨b0, 0 + 4 + 0 * 1, none⟩))] HS ⟨.inl ⟨rfl, rfl⟩, ⟨.inr ⟨by decide, rfl⟩, trivial⟩⟩ ?_
        refine T.ev [(53, _), (56, _)] [] [0, 1, 12, 13, 14] ⟨rfl, rfl, trivial⟩ ⟨.mv 0, .mv 2, .nc 42, .fa 54 fo59_2, .n2 43 55 rfl rfl rfl (fun w HS => X.indexArK 0 c29 Try.underlying57 inf56 rfl rfl c28.1 c28.2), trivial⟩ rfl (fun w HS => ?_)
        refine ⟨_, Y.sto 1 4 HS inf56 rfl rfl rfl rfl rfl rfl, ?_⟩
        rintro _ w HS
        refine T.nn HS ?_
        refine T.fn [(0, _), (2, _)] ⟨rfl, rfl, trivial⟩ trivial (fun w HS => ?_)
        refine At.blockEnd ?_
        replace HS := HS.pm [1, 2, 3, 4, 5, 6, 7, 8, 9, 10, 11, 0, 12, 13]
        replace HS := signalmanlaw15_pair.close trivial HS
        replace HS := HS.pk [0, 3] [1, 2]
        exact At.round kl23 (by omega) (({ a := (x14.a.1, x14.a.2), way := (x14.way.1, x14.way.2), heard := (x14.heard.1 ++ ([x17] : List (List Int)), x14.heard.2), said := (x14.said.1, x14.said.2), downs := x14.downs } : signalmanlaw15_pair)) ⟨rfl, rfl, trivial⟩ ⟨HS, H, by omega⟩
       ·replace H := ite_f c29 H
        have hk36 : x2 = 1 := by omega
        refine V.dr [10, 11, 15] [14] [(42, Value.pointer (some ⟨b0, 0, none⟩)), (43, Value.int .i64 x2), (44, Value.pointer (some ⟨b0, 0, none⟩)), (45, Value.int .i64 x2), (46, Value.pointer (some ⟨b0, 0, none⟩)), (47, Value.pointer (some ⟨b0, 0 + 4, none⟩)), (48, Value.pointer (some ⟨b0, 0 + 4 + 1 * 1, none⟩)), (49, Value.slice a5_26 x14.heard.2.length c5_26), (50, Value.slice ra15 x17.length rc16), (51, Value.string (strOf x17)), (54, Value.pointer (some ⟨b0, 0, none⟩)), (55, Value.pointer (some ⟨b0, 0 + 4, none⟩))] mo HS ?_
        refine T.ev [(51, _)] [14] [8, 9] ⟨rfl, trivial⟩ ⟨.mv 0, .mv 2, .mv 0, .mv 2, .nc 44, .fa 46 fo59_2, .n2 45 47 rfl rfl rfl (fun w HS => X.indexArK 1 hk36 Try.underlying57 inf56 rfl rfl c28.1 c28.2), .ld 48 0 Try.underlying56, .mv 3, .n1 50 rfl rfl (fun w HS => X.bytesStr Try.underlying39 Try.underlying5 Try.underlying9 rfl (rdC.at 11 fsl.rd HS rfl)), .nc 42, .fa 54 fo59_2, trivial⟩ rfl (fun w HS => ?_)
        refine ⟨_, Y.ls (e := 9) (fun x => Value.string (strOf x)) ([x17] : List (List Int)) HS rfl rfl (fun _ => by kernel_rfl), ?_⟩
        rintro _ w ⟨lb39, rfl, HS⟩
        refine T.nw HS ?_
        refine T.ev [(49, _), (52, _)] [] [2, 3, 4, 5, 6, 7] ⟨rfl, rfl, trivial⟩ ⟨.mv 0, .mv 2, .mv 0, .mv 2, .nc 44, .fa 46 fo59_2, .n2 45 47 rfl rfl rfl (fun w HS => X.indexArK 1 hk36 Try.underlying57 inf56 rfl rfl c28.1 c28.2), .ld 48 1 Try.underlying56, .nc 42, .fa 54 fo59_2, trivial⟩ rfl (fun w HS => ?_)
        obtain ⟨c40, H⟩ := ite_n H
        refine ⟨_, Y.appF (fun x => Value.string (strOf x)) (fun _ => rfl) 9 Try.underlying56 ap9 rfl HS rfl rfl rfl (rdC.at 0 row_rd HS rfl) (by omega) (by omega), ?_⟩
        rintro _ w ⟨ra41, rc42, rfl, HS⟩
        refine T.nm [(53, Value.slice ra41 (x14.heard.2 ++ ([x17] : List (List Int))).length rc42), (56, Value.pointer (some ⟨b0, 0 + 4 + 1 * 1, none⟩))] HS ⟨.inl ⟨rfl, rfl⟩, ⟨.inr ⟨by decide, rfl⟩, trivial⟩⟩ ?_
        refine T.ev [(53, _), (56, _)] [] [0, 1, 12, 13, 14] ⟨rfl, rfl, trivial⟩ ⟨.mv 0, .mv 2, .nc 42, .fa 54 fo59_2, .n2 43 55 rfl rfl rfl (fun w HS => X.indexArK 1 hk36 Try.underlying57 inf56 rfl rfl c28.1 c28.2), trivial⟩ rfl (fun w HS => ?_)
        refine ⟨_, Y.sto 1 5 HS inf56 rfl rfl rfl rfl rfl rfl, ?_⟩
        rintro _ w HS
        refine T.nn HS ?_
        refine T.fn [(0, _), (2, _)] ⟨rfl, rfl, trivial⟩ trivial (fun w HS => ?_)
        refine At.blockEnd ?_
        replace HS := HS.pm [1, 2, 3, 4, 5, 6, 7, 8, 9, 10, 11, 0, 12, 13]
        replace HS := signalmanlaw15_pair.close trivial HS
        replace HS := HS.pk [0, 3] [1, 2]
        exact At.round kl23 (by omega) (({ a := (x14.a.1, x14.a.2), way := (x14.way.1, x14.way.2), heard := (x14.heard.1, x14.heard.2 ++ ([x17] : List (List Int))), said := (x14.said.1, x14.said.2), downs := x14.downs } : signalmanlaw15_pair)) ⟨rfl, rfl, trivial⟩ ⟨HS, H, by omega⟩
      ·replace H := ite_f c25 H
       refine V.condT (sb (n_f (b_f c25))) (V.exit (At.thenExit (At.blockPast rfl (At.thenExit (At.blockExit (At.next (V.meet (σ := signalmanlaw15_pair × Option Addr × Nat × List Int) (fun st w => match st with | (x43, ra44, rc45, x46) => Sep.St [row 3 1 (.slice ra44 x46.length rc45) x46.length (x46.map (Value.int .i64)), fsl 1 (.slice ra15 x17.length rc16) x17.length (x17.map (Value.int .u8)), signalmanlaw15_pair.at b0 x43, R] w0 w ∧ ∃ kf47 kl49, kf47 ≤ kf19 ∧ kl49 ≤ kl21 ∧ signalmanlaw15_pair_collect.j4 kf47 x2 (signalmanlaw15_pair_collect.l0 kl49) x43 x46 = some r) (fun st => match st with | (x43, ra44, rc45, x46) => [(0, Value.pointer (some ⟨b0, 0, none⟩)), (2, Value.int .i64 x2), (5, Value.slice ra44 x46.length rc45)]) ?_ ?_)))))))
       ·refine V.region (W.mv rfl (W.mv rfl (W.nc rfl ?_)))
        replace HS := HS.fr 1
        obtain ⟨b0_62, b1_62, a2_62, c2_62, d2_62, a3_62, c3_62, d3_62, a4_62, c4_62, a5_62, c5_62, a6_62, c6_62, a7_62, c7_62, hi63, HS⟩ := signalmanlaw15_pair.open HS
        refine W.fa fo59_0 rfl ?_
        obtain ⟨c64, H⟩ := ite_n H
        by_cases c65 : x2 = 0
        ·replace H := ite_t c65 H
         refine W.r (X.indexArK 0 c65 Try.underlying54 inf26 rfl rfl c64.1 c64.2) rfl (W.ld 0 HS Try.underlying26 rfl rfl rfl rfl ?_)
         obtain ⟨t66, A67, H⟩ := bind_s H
         replace HS := HS.pm [1, 0, 2, 3, 4, 5, 6, 7, 8, 9, 10, 11, 12]
         refine W.e (Y.cl Try.func23 (arq_Arq_Inds.calls A67 HS.j1)) rfl ?_
         rintro _ w ⟨at66_0, ct66_0, rfl, HS⟩
         replace HS := HS.o2
         refine W.as rfl (W.nil ?_)
         replace HS := HS.pm [2, 1, 3, 4, 5, 6, 7, 8, 9, 10, 11, 0, 12, 13]
         replace HS := signalmanlaw15_pair.close trivial HS
         replace HS := HS.pk [1, 2, 0, 3] []
         exact At.meet (({ a := (t66.2, x14.a.2), way := (x14.way.1, x14.way.2), heard := (x14.heard.1, x14.heard.2), said := (x14.said.1, x14.said.2), downs := x14.downs } : signalmanlaw15_pair), at66_0, ct66_0, t66.1) ⟨rfl, rfl, rfl, trivial⟩ ⟨HS, kf19, kl21, by omega, by omega, H⟩
        ·replace H := ite_f c65 H
         have hk68 : x2 = 1 := by omega
         refine W.r (X.indexArK 1 hk68 Try.underlying54 inf26 rfl rfl c64.1 c64.2) rfl (W.ld 0 HS Try.underlying26 rfl rfl rfl rfl ?_)
         obtain ⟨t69, A70, H⟩ := bind_s H
         replace HS := HS.pm [2, 0, 1, 3, 4, 5, 6, 7, 8, 9, 10, 11, 12]
         refine W.e (Y.cl Try.func23 (arq_Arq_Inds.calls A70 HS.j1)) rfl ?_
         rintro _ w ⟨at69_0, ct69_0, rfl, HS⟩
         replace HS := HS.o2
         refine W.as rfl (W.nil ?_)
         replace HS := HS.pm [2, 3, 1, 4, 5, 6, 7, 8, 9, 10, 11, 0, 12, 13]
         replace HS := signalmanlaw15_pair.close trivial HS
         replace HS := HS.pk [1, 2, 0, 3] []
         exact At.meet (({ a := (x14.a.1, t69.2), way := (x14.way.1, x14.way.2), heard := (x14.heard.1, x14.heard.2), said := (x14.said.1, x14.said.2), downs := x14.downs } : signalmanlaw15_pair), at69_0, ct69_0, t69.1) ⟨rfl, rfl, rfl, trivial⟩ ⟨HS, kf19, kl21, by omega, by omega, H⟩
       ·rintro ⟨x43, ra44, rc45, x46⟩ w ⟨HS, kf47, kl49, hkkf47, hkkl49, H⟩
        unfold signalmanlaw15_pair_collect.j4 at H
        refine V.seq (V.region (W.as rfl (W.nx (V.block (V.loop (σ := Int × signalmanlaw15_pair) (fun kq (st : Int × signalmanlaw15_pair) w => match st with | (x51, x52) => Sep.St [row 3 1 (.slice ra44 x46.length rc45) x46.length (x46.map (Value.int .i64)), fsl 1 (.slice ra15 x17.length rc16) x17.length (x17.map (Value.int .u8)), signalmanlaw15_pair.at b0 x52, R] w0 w ∧ signalmanlaw15_pair_collect.l5 kq x2 (signalmanlaw15_pair_collect.l0 kl49) x46 x51 x52 = some r ∧ kq ≤ kf47) (fun st => match st with | (x51, x52) => [(0, Value.pointer (some ⟨b0, 0, none⟩)), (2, Value.int .i64 x2), (5, Value.slice ra44 x46.length rc45), (6, Value.int .i64 x51)]) kf47 (0, x43) ⟨rfl, rfl, rfl, rfl, trivial⟩ ⟨HS, H, Nat.le_refl _⟩ ?_)))))
        rintro kq53 ⟨x51, x52⟩ w ⟨HS, H, hk54⟩
        cases kq53 with
        | zero => exact absurd H (by simp [signalmanlaw15_pair_collect.l5])
        | succ kq53 =>
         simp only [signalmanlaw15_pair_collect.l5] at H
         refine V.seq (V.seq (V.region (W.mv rfl (W.mv rfl (W.r (X.lenSl Try.underlying34 rfl) rfl (W.r (X.cmp (decide (x51 < (x46.length : Int))) rfl rfl rfl rfl) rfl (W.nx ?_)))))))
         by_cases c55 : x51 < (x46.length : Int)
         ·replace H := ite_t c55 H
          refine V.condT (sb (decide_eq_true c55)) (V.skip (At.next (V.seq (V.block (V.seq (V.region (W.mv rfl (W.mv rfl ?_))))))))
          obtain ⟨c56, H⟩ := ite_n H
          obtain ⟨eb57, eo58, hh⟩ := (rdC.at 0 row_rd HS rfl).some (by decide) c56.1 c56.2; subst hh
          refine W.r (X.indexSl Try.underlying34 inf3 rfl rfl c56.1 c56.2) rfl (W.r (X.load Try.underlying3 rfl rfl ((rdC.at 0 row_rd HS rfl).cellI c56.1 c56.2)) rfl (W.r (X.cmp (!(decide ((x46.getD x51.toNat 0) = 1))) rfl rfl rfl rfl) rfl (W.nx ?_)))
          by_cases c59 : (x46.getD x51.toNat 0) = 1
          ·replace H := ite_t c59 H
           refine V.condF (sb (n_t (decide_eq_true c59))) (V.skip (At.blockEnd (At.next (V.region (W.mv rfl (W.r (X.add rfl rfl) rfl (W.as rfl (W.nil ?_))))))))
           exact At.round kq53 (by omega) (w64 (x51 + 1), x52) ⟨rfl, rfl, rfl, rfl, trivial⟩ ⟨HS, H, by omega⟩
          ·replace H := ite_f c59 H
           refine V.condT (sb (n_f (decide_eq_false c59))) (V.region (W.mv rfl (W.nc rfl ?_)))
           replace HS := HS.fr 2
           obtain ⟨b0_60, b1_60, a2_60, c2_60, d2_60, a3_60, c3_60, d3_60, a4_60, c4_60, a5_60, c5_60, a6_60, c6_60, a7_60, c7_60, hi61, HS⟩ := signalmanlaw15_pair.open HS
           refine W.fa fo59_4 rfl (W.ld 0 HS Try.underlying3 rfl rfl rfl rfl (W.r (X.add rfl rfl) rfl (W.nc rfl (W.fa fo59_4 rfl (W.st 0 8 HS inf3 rfl rfl rfl rfl rfl rfl fun w HS => ?_)))))
           refine W.nil (At.blockEnd (At.next (V.region (W.mv rfl (W.r (X.add rfl rfl) rfl (W.as rfl (W.nil ?_)))))))
           replace HS := signalmanlaw15_pair.close trivial HS
           replace HS := HS.pk [1, 2, 0, 3] []
           exact At.round kq53 (by omega) (w64 (x51 + 1), ({ a := (x52.a.1, x52.a.2), way := (x52.way.1, x52.way.2), heard := (x52.heard.1, x52.heard.2), said := (x52.said.1, x52.said.2), downs := w64 (x52.downs + 1) } : signalmanlaw15_pair)) ⟨rfl, rfl, rfl, rfl, trivial⟩ ⟨HS, H, by omega⟩
         ·replace H := ite_f c55 H
          refine V.condF (sb (decide_eq_false c55)) (V.exit (At.thenExit (At.thenExit (At.blockExit (At.blockEnd (At.next (V.region (W.mv rfl (W.r (X.add rfl rfl) rfl (W.as rfl (W.nil ?_)))))))))))
          replace HS := HS.pk [2, 3] [0, 1]
          exact At.round kl49 (by omega) (w64 (x2 + 1), x52) ⟨rfl, rfl, trivial⟩ ⟨HS, H, by omega⟩
  ·replace H := ite_f c6 H
   refine V.condF (sb (decide_eq_false c6)) (V.exit (At.thenExit (At.thenExit (At.blockExit ?_))))
   cases H
   exact At.end0 rfl ⟨_, rfl, rfl, HS⟩
mutual
def signalmanlaw15_pair_carry.j3 (k : Nat)  (x13 : signalmanlaw15_pair) : Option signalmanlaw15_pair := ((signalmanlaw15_pair_collect.f k x13).bind fun t15 => some t15)
def signalmanlaw15_pair_carry.j2 (k : Nat) (a1 : Int) (x2 : Bool) (x8 : List Int) (x11 : signalmanlaw15_pair) : Option signalmanlaw15_pair := (if x2 = true then (signalmanlaw15_pair_carry.j3 k x11) else (if 0 ≤ w64 (1 - a1) ∧ w64 (1 - a1) < 2 then (if w64 (1 - a1) = 0 then ((arq_Arq_Input.f k x11.a.1 x8).bind fun t22 => (signalmanlaw15_pair_carry.j3 k ({ a := (t22, x11.a.2), way := (x11.way.1, x11.way.2), heard := (x11.heard.1, x11.heard.2), said := (x11.said.1, x11.said.2), downs := x11.downs } : signalmanlaw15_pair))) else ((arq_Arq_Input.f k x11.a.2 x8).bind fun t25 => (signalmanlaw15_pair_carry.j3 k ({ a := (x11.a.1, t25), way := (x11.way.1, x11.way.2), heard := (x11.heard.1, x11.heard.2), said := (x11.said.1, x11.said.2), downs := x11.downs } : signalmanlaw15_pair)))) else none))
def signalmanlaw15_pair_carry.j1 (k : Nat) (a0 : signalmanlaw15_pair) (a1 : Int) (x2 : Bool) (x8 : List Int) : Option signalmanlaw15_pair := (if 0 ≤ a1 ∧ a1 < 2 then (if a1 = 0 then (if 0 ≤ (1 : Int) ∧ (1 : Int) ≤ (a0.way.1.length : Int) ∧ (a0.way.1.length : Int) ≤ (a0.way.1.length : Int) then (signalmanlaw15_pair_carry.j2 k a1 x2 x8 ({ a := (a0.a.1, a0.a.2), way := (cut a0.way.1 (1 : Int) (a0.way.1.length : Int), a0.way.2), heard := (a0.heard.1, a0.heard.2), said := (a0.said.1, a0.said.2), downs := a0.downs } : signalmanlaw15_pair)) else none) else (if 0 ≤ (1 : Int) ∧ (1 : Int) ≤ (a0.way.2.length : Int) ∧ (a0.way.2.length : Int) ≤ (a0.way.2.length : Int) then (signalmanlaw15_pair_carry.j2 k a1 x2 x8 ({ a := (a0.a.1, a0.a.2), way := (a0.way.1, cut a0.way.2 (1 : Int) (a0.way.2.length : Int)), heard := (a0.heard.1, a0.heard.2), said := (a0.said.1, a0.said.2), downs := a0.downs } : signalmanlaw15_pair)) else none)) else none)
def signalmanlaw15_pair_carry.j0 (k : Nat) (a0 : signalmanlaw15_pair) (a1 : Int) (x2 : Bool) (x3 : Bool) : Option signalmanlaw15_pair := (if x3 = true then (if 0 ≤ a1 ∧ a1 < 2 then (if a1 = 0 then (if 0 ≤ (0 : Int) ∧ (0 : Int) < (a0.way.1.length : Int) then (signalmanlaw15_pair_carry.j1 k a0 a1 x2 (a0.way.1.getD (0 : Int).toNat [])) else none) else (if 0 ≤ (0 : Int) ∧ (0 : Int) < (a0.way.2.length : Int) then (signalmanlaw15_pair_carry.j1 k a0 a1 x2 (a0.way.2.getD (0 : Int).toNat [])) else none)) else none) else some a0)
end
def signalmanlaw15_pair_carry.f (k : Nat) (a0 : signalmanlaw15_pair) (a1 : Int) (a2 : Bool) : Option signalmanlaw15_pair := (if 0 ≤ a1 ∧ a1 < 2 then (if a1 = 0 then (signalmanlaw15_pair_carry.j0 k a0 a1 a2 (decide ((a0.way.1.length : Int) > 0))) else (signalmanlaw15_pair_carry.j0 k a0 a1 a2 (decide ((a0.way.2.length : Int) > 0)))) else none)
theorem signalmanlaw15_pair_carry.calls {k : Nat} {a0 : signalmanlaw15_pair} {a1 : Int} {a2 : Bool} {R : As} {w0 w : World} {b0 : Nat} {r : signalmanlaw15_pair} (H : signalmanlaw15_pair_carry.f k a0 a1 a2 = some r) (HS : Sep.St [signalmanlaw15_pair.at b0 a0, R] w0 w)  : Calls Try.prog 33 #[Value.pointer (some ⟨b0, 0, none⟩), Value.int .i64 a1, Value.bool a2] w (Ret fun u w => u = Value.tuple #[] ∧ Sep.St [signalmanlaw15_pair.at b0 r, R] w0 w) := by
 unfold signalmanlaw15_pair_carry.f at H
 refine calls_enter Try.func33 rfl rfl ?_
 have H : _ = some r := H
 refine V.meet (σ := Bool × Bool) (fun st w => match st with | (x2, x3) => Sep.St [signalmanlaw15_pair.at b0 a0, R] w0 w ∧ ∃ kf4, kf4 ≤ k ∧ signalmanlaw15_pair_carry.j0 kf4 a0 a1 x2 x3 = some r) (fun st => match st with | (x2, x3) => [(0, Value.pointer (some ⟨b0, 0, none⟩)), (1, Value.int .i64 a1), (2, Value.bool x2), (14, Value.bool x3)]) ?_ ?_
 ·refine V.region (W.mv rfl (W.mv rfl (W.nc rfl ?_)))
  obtain ⟨b0_57, b1_57, a2_57, c2_57, d2_57, a3_57, c3_57, d3_57, a4_57, c4_57, a5_57, c5_57, a6_57, c6_57, a7_57, c7_57, hi58, HS⟩ := signalmanlaw15_pair.open HS
  refine W.fa fo59_1 rfl ?_
  obtain ⟨c59, H⟩ := ite_n H
  by_cases c60 : a1 = 0
  ·replace H := ite_t c60 H
   refine W.r (X.indexArK 0 c60 Try.underlying55 inf30 rfl rfl c59.1 c59.2) rfl (W.ld 0 HS Try.underlying30 rfl rfl rfl rfl (W.r (X.lenSl Try.underlying30 rfl) rfl (W.r (X.cmp (decide ((a0.way.1.length : Int) > 0)) rfl rfl rfl rfl) rfl (W.nil ?_))))
   replace HS := signalmanlaw15_pair.close trivial HS
   exact At.meet (a2, decide ((a0.way.1.length : Int) > 0)) ⟨rfl, rfl, rfl, rfl, trivial⟩ ⟨HS, k, by omega, H⟩
  ·replace H := ite_f c60 H
   have hk61 : a1 = 1 := by omega
   refine W.r (X.indexArK 1 hk61 Try.underlying55 inf30 rfl rfl c59.1 c59.2) rfl (W.ld 0 HS Try.underlying30 rfl rfl rfl rfl (W.r (X.lenSl Try.underlying30 rfl) rfl (W.r (X.cmp (decide ((a0.way.2.length : Int) > 0)) rfl rfl rfl rfl) rfl (W.nil ?_))))
   replace HS := signalmanlaw15_pair.close trivial HS
   exact At.meet (a2, decide ((a0.way.2.length : Int) > 0)) ⟨rfl, rfl, rfl, rfl, trivial⟩ ⟨HS, k, by omega, H⟩
 ·rintro ⟨x2, x3⟩ w ⟨HS, kf4, hkkf4, H⟩
  unfold signalmanlaw15_pair_carry.j0 at H
  by_cases c5 : x3 = true
  ·replace H := ite_t c5 H
   refine V.condT (sb c5) (V.meet (σ := Option Addr × Nat × List Int) (fun st w => match st with | (ra6, rc7, x8) => Sep.St [fsl 1 (.slice ra6 x8.length rc7) x8.length (x8.map (Value.int .u8)), signalmanlaw15_pair.at b0 a0, R] w0 w ∧ ∃ kf9, kf9 ≤ kf4 ∧ signalmanlaw15_pair_carry.j1 kf9 a0 a1 x2 x8 = some r) (fun st => match st with | (ra6, rc7, x8) => [(0, Value.pointer (some ⟨b0, 0, none⟩)), (1, Value.int .i64 a1), (2, Value.bool x2), (6, Value.slice ra6 x8.length rc7)]) ?_ ?_)
   ·refine V.region (W.mv rfl (W.mv rfl (W.nc rfl ?_)))
    obtain ⟨b0_34, b1_34, a2_34, c2_34, d2_34, a3_34, c3_34, d3_34, a4_34, c4_34, a5_34, c5_34, a6_34, c6_34, a7_34, c7_34, hi35, HS⟩ := signalmanlaw15_pair.open HS
    refine W.fa fo59_1 rfl ?_
    obtain ⟨c36, H⟩ := ite_n H
    by_cases c37 : a1 = 0
    ·replace H := ite_t c37 H
     refine W.r (X.indexArK 0 c37 Try.underlying55 inf30 rfl rfl c36.1 c36.2) rfl (W.ld 0 HS Try.underlying30 rfl rfl rfl rfl ?_)
     obtain ⟨c38, H⟩ := ite_n H
     obtain ⟨eb39, eo40, hh⟩ := (rdC.at 3 row_rd HS rfl).some (by decide) c38.1 c38.2; subst hh
     refine W.r (X.indexSl Try.underlying30 inf39 rfl rfl c38.1 c38.2) rfl ?_
     obtain ⟨ec41, hc42, HS⟩ := St.tie_at 4 HS rfl ([]) c38.1 c38.2
     obtain ⟨ea43, em44, he46, HN⟩ := St.sl_openF (Value.int .u8) (fun t => tie_int t) HS; clear HS; subst he46; have HS := HN
     refine W.r (X.load Try.underlying39 rfl rfl ((rdC.at 4 row_rd HS rfl).cellEl0 (hc42 0 _ rfl))) rfl (W.as rfl (W.nil ?_))
     replace HS := HS.pm [1, 2, 3, 4, 5, 6, 7, 8, 9, 10, 11, 0, 12]
     replace HS := signalmanlaw15_pair.close trivial HS
     replace HS := HS.pk [1, 0, 2] []
     exact At.meet (ea43, em44, a0.way.1.getD (0 : Int).toNat []) ⟨rfl, rfl, rfl, rfl, trivial⟩ ⟨HS, kf4, by omega, H⟩
    ·replace H := ite_f c37 H
     have hk47 : a1 = 1 := by omega
     refine W.r (X.indexArK 1 hk47 Try.underlying55 inf30 rfl rfl c36.1 c36.2) rfl (W.ld 0 HS Try.underlying30 rfl rfl rfl rfl ?_)
     obtain ⟨c48, H⟩ := ite_n H
     obtain ⟨eb49, eo50, hh⟩ := (rdC.at 5 row_rd HS rfl).some (by decide) c48.1 c48.2; subst hh
     refine W.r (X.indexSl Try.underlying30 inf39 rfl rfl c48.1 c48.2) rfl ?_
     obtain ⟨ec51, hc52, HS⟩ := St.tie_at 6 HS rfl ([]) c48.1 c48.2
     obtain ⟨ea53, em54, he56, HN⟩ := St.sl_openF (Value.int .u8) (fun t => tie_int t) HS; clear HS; subst he56; have HS := HN
     refine W.r (X.load Try.underlying39 rfl rfl ((rdC.at 6 row_rd HS rfl).cellEl0 (hc52 0 _ rfl))) rfl (W.as rfl (W.nil ?_))
     replace HS := HS.pm [1, 2, 3, 4, 5, 6, 7, 8, 9, 10, 11, 0, 12]
     replace HS := signalmanlaw15_pair.close trivial HS
     replace HS := HS.pk [1, 0, 2] []
     exact At.meet (ea53, em54, a0.way.2.getD (0 : Int).toNat []) ⟨rfl, rfl, rfl, rfl, trivial⟩ ⟨HS, kf4, by omega, H⟩
   ·rintro ⟨ra6, rc7, x8⟩ w ⟨HS, kf9, hkkf9, H⟩
    unfold signalmanlaw15_pair_carry.j1 at H
    refine V.meet (σ := signalmanlaw15_pair) (fun st w => match st with | x11 => Sep.St [fsl 1 (.slice ra6 x8.length rc7) x8.length (x8.map (Value.int .u8)), signalmanlaw15_pair.at b0 x11, R] w0 w ∧ ∃ kf12, kf12 ≤ kf9 ∧ signalmanlaw15_pair_carry.j2 kf12 a1 x2 x8 x11 = some r) (fun st => match st with | x11 => [(0, Value.pointer (some ⟨b0, 0, none⟩)), (1, Value.int .i64 a1), (2, Value.bool x2), (6, Value.slice ra6 x8.length rc7)]) ?_ ?_
    ·replace HS := HS.fr 1
     obtain ⟨b0_27, b1_27, a2_27, c2_27, d2_27, a3_27, c3_27, d3_27, a4_27, c4_27, a5_27, c5_27, a6_27, c6_27, a7_27, c7_27, hi28, HS⟩ := signalmanlaw15_pair.open HS
     obtain ⟨c29, H⟩ := ite_n H
     by_cases c30 : a1 = 0
     ·replace H := ite_t c30 H
      obtain ⟨c31, H⟩ := ite_n H
      refine V.dr [12] [] [(23, Value.pointer (some ⟨b0, 0, none⟩)), (24, Value.int .i64 a1), (25, Value.pointer (some ⟨b0, 0, none⟩)), (26, Value.int .i64 a1), (27, Value.pointer (some ⟨b0, 0, none⟩)), (28, Value.pointer (some ⟨b0, 0 + 2, none⟩)), (29, Value.pointer (some ⟨b0, 0 + 2 + 0 * 1, none⟩)), (30, Value.slice a2_27 a0.way.1.length c2_27), (31, Value.slice (vaddr a2_27 c2_27 (1 : Int).toNat 1) (cut a0.way.1 (1 : Int) (a0.way.1.length : Int)).length (c2_27 - (1 : Int).toNat)), (32, Value.pointer (some ⟨b0, 0, none⟩)), (33, Value.pointer (some ⟨b0, 0 + 2, none⟩)), (34, Value.pointer (some ⟨b0, 0 + 2 + 0 * 1, none⟩))] mo HS ?_
      refine T.ev [(31, _), (34, _)] [] [0, 1, 2, 3, 4, 5, 6, 7, 8, 9, 10, 11] ⟨rfl, rfl, trivial⟩ ⟨.mv 0, .mv 1, .mv 0, .mv 1, .nc 25, .fa 27 fo59_1, .n2 26 28 rfl rfl rfl (fun w HS => X.indexArK 0 c30 Try.underlying55 inf30 rfl rfl c29.1 c29.2), .ld 29 0 Try.underlying30, .n1 30 rfl rfl (fun w HS => X.slL Try.underlying30 inf39 rfl rfl c31), .nc 23, .fa 32 fo59_1, .n2 24 33 rfl rfl rfl (fun w HS => X.indexArK 0 c30 Try.underlying55 inf30 rfl rfl c29.1 c29.2), trivial⟩ rfl (fun w HS => ?_)
      refine ⟨_, Y.sto 0 2 HS inf30 rfl rfl rfl rfl rfl rfl, ?_⟩
      rintro _ w HS
      refine T.nn HS ?_
      refine T.fn [(0, _), (1, _), (2, _), (6, _)] ⟨rfl, rfl, rfl, rfl, trivial⟩ trivial (fun w HS => ?_)
      replace HS := HS.fr 3
      replace HS := St.row_sub HS c31
      replace HS := HS.fr 4
      replace HS := St.tie_cut (1 : Int) (a0.way.1.length : Int) HS
      replace HS := HS.pm [2, 3, 4, 1, 0, 5, 6, 7, 8, 9, 10, 11, 12]
      replace HS := signalmanlaw15_pair.close trivial HS
      replace HS := HS.pk [1, 0, 2] []
      exact At.meet (({ a := (a0.a.1, a0.a.2), way := (cut a0.way.1 (1 : Int) (a0.way.1.length : Int), a0.way.2), heard := (a0.heard.1, a0.heard.2), said := (a0.said.1, a0.said.2), downs := a0.downs } : signalmanlaw15_pair)) ⟨rfl, rfl, rfl, rfl, trivial⟩ ⟨HS, kf9, by omega, H⟩
     ·replace H := ite_f c30 H
      have hk32 : a1 = 1 := by omega
      obtain ⟨c33, H⟩ := ite_n H
      refine V.dr [12] [] [(23, Value.pointer (some ⟨b0, 0, none⟩)), (24, Value.int .i64 a1), (25, Value.pointer (some ⟨b0, 0, none⟩)), (26, Value.int .i64 a1), (27, Value.pointer (some ⟨b0, 0, none⟩)), (28, Value.pointer (some ⟨b0, 0 + 2, none⟩)), (29, Value.pointer (some ⟨b0, 0 + 2 + 1 * 1, none⟩)), (30, Value.slice a3_27 a0.way.2.length c3_27), (31, Value.slice (vaddr a3_27 c3_27 (1 : Int).toNat 1) (cut a0.way.2 (1 : Int) (a0.way.2.length : Int)).length (c3_27 - (1 : Int).toNat)), (32, Value.pointer (some ⟨b0, 0, none⟩)), (33, Value.pointer (some ⟨b0, 0 + 2, none⟩)), (34, Value.pointer (some ⟨b0, 0 + 2 + 1 * 1, none⟩))] mo HS ?_
      refine T.ev [(31, _), (34, _)] [] [0, 1, 2, 3, 4, 5, 6, 7, 8, 9, 10, 11] ⟨rfl, rfl, trivial⟩ ⟨.mv 0, .mv 1, .mv 0, .mv 1, .nc 25, .fa 27 fo59_1, .n2 26 28 rfl rfl rfl (fun w HS => X.indexArK 1 hk32 Try.underlying55 inf30 rfl rfl c29.1 c29.2), .ld 29 0 Try.underlying30, .n1 30 rfl rfl (fun w HS => X.slL Try.underlying30 inf39 rfl rfl c33), .nc 23, .fa 32 fo59_1, .n2 24 33 rfl rfl rfl (fun w HS => X.indexArK 1 hk32 Try.underlying55 inf30 rfl rfl c29.1 c29.2), trivial⟩ rfl (fun w HS => ?_)
      refine ⟨_, Y.sto 0 3 HS inf30 rfl rfl rfl rfl rfl rfl, ?_⟩
      rintro _ w HS
      refine T.nn HS ?_
      refine T.fn [(0, _), (1, _), (2, _), (6, _)] ⟨rfl, rfl, rfl, rfl, trivial⟩ trivial (fun w HS => ?_)
      replace HS := HS.fr 5
      replace HS := St.row_sub HS c33
      replace HS := HS.fr 6
      replace HS := St.tie_cut (1 : Int) (a0.way.2.length : Int) HS
      replace HS := HS.pm [2, 3, 4, 5, 6, 1, 0, 7, 8, 9, 10, 11, 12]
      replace HS := signalmanlaw15_pair.close trivial HS
      replace HS := HS.pk [1, 0, 2] []
      exact At.meet (({ a := (a0.a.1, a0.a.2), way := (a0.way.1, cut a0.way.2 (1 : Int) (a0.way.2.length : Int)), heard := (a0.heard.1, a0.heard.2), said := (a0.said.1, a0.said.2), downs := a0.downs } : signalmanlaw15_pair)) ⟨rfl, rfl, rfl, rfl, trivial⟩ ⟨HS, kf9, by omega, H⟩
    ·rintro x11 w ⟨HS, kf12, hkkf12, H⟩
     unfold signalmanlaw15_pair_carry.j2 at H
     refine V.meet (σ := signalmanlaw15_pair) (fun st w => match st with | x13 => Sep.St [fsl 1 (.slice ra6 x8.length rc7) x8.length (x8.map (Value.int .u8)), signalmanlaw15_pair.at b0 x13, R] w0 w ∧ ∃ kf14, kf14 ≤ kf12 ∧ signalmanlaw15_pair_carry.j3 kf14 x13 = some r) (fun st => match st with | x13 => [(0, Value.pointer (some ⟨b0, 0, none⟩))]) ?_ ?_
     ·refine V.seq (V.region (W.mv rfl (W.r (X.not rfl) rfl (W.nx ?_))))
      by_cases c17 : x2 = true
      ·replace H := ite_t c17 H
       refine V.condF (sb (n_t c17)) (V.skip ?_)
       exact At.meet x11 ⟨rfl, trivial⟩ ⟨HS, kf12, by omega, H⟩
      ·replace H := ite_f c17 H
       refine V.condT (sb (n_f (b_f c17))) (V.region (W.mv rfl (W.mv rfl (W.r (X.sub rfl rfl) rfl (W.nc rfl ?_)))))
       replace HS := HS.fr 1
       obtain ⟨b0_18, b1_18, a2_18, c2_18, d2_18, a3_18, c3_18, d3_18, a4_18, c4_18, a5_18, c5_18, a6_18, c6_18, a7_18, c7_18, hi19, HS⟩ := signalmanlaw15_pair.open HS
       refine W.fa fo59_0 rfl ?_
       obtain ⟨c20, H⟩ := ite_n H
       by_cases c21 : w64 (1 - a1) = 0
       ·replace H := ite_t c21 H
        refine W.r (X.indexArK 0 c21 Try.underlying54 inf26 rfl rfl c20.1 c20.2) rfl (W.ld 0 HS Try.underlying26 rfl rfl rfl rfl (W.mv rfl ?_))
        obtain ⟨t22, A23, H⟩ := bind_s H
        replace HS := HS.pm [1, 0, 2, 3, 4, 5, 6, 7, 8, 9, 10, 11, 12]
        refine W.e (Y.cl Try.func24 (arq_Arq_Input.calls A23 HS.j1 (rdC.part 10 fsl.rd rfl))) rfl ?_
        rintro _ w ⟨rfl, HS⟩
        replace HS := HS.o1
        refine W.nil ?_
        replace HS := HS.pm [1, 0, 2, 3, 4, 5, 6, 7, 8, 9, 10, 11, 12]
        replace HS := signalmanlaw15_pair.close trivial HS
        replace HS := HS.pk [1, 0, 2] []
        exact At.meet (({ a := (t22, x11.a.2), way := (x11.way.1, x11.way.2), heard := (x11.heard.1, x11.heard.2), said := (x11.said.1, x11.said.2), downs := x11.downs } : signalmanlaw15_pair)) ⟨rfl, trivial⟩ ⟨HS, kf12, by omega, H⟩
       ·replace H := ite_f c21 H
        have hk24 : w64 (1 - a1) = 1 := by omega
        refine W.r (X.indexArK 1 hk24 Try.underlying54 inf26 rfl rfl c20.1 c20.2) rfl (W.ld 0 HS Try.underlying26 rfl rfl rfl rfl (W.mv rfl ?_))
        obtain ⟨t25, A26, H⟩ := bind_s H
        replace HS := HS.pm [2, 0, 1, 3, 4, 5, 6, 7, 8, 9, 10, 11, 12]
        refine W.e (Y.cl Try.func24 (arq_Arq_Input.calls A26 HS.j1 (rdC.part 10 fsl.rd rfl))) rfl ?_
        rintro _ w ⟨rfl, HS⟩
        replace HS := HS.o1
        refine W.nil ?_
        replace HS := HS.pm [1, 2, 0, 3, 4, 5, 6, 7, 8, 9, 10, 11, 12]
        replace HS := signalmanlaw15_pair.close trivial HS
        replace HS := HS.pk [1, 0, 2] []
        exact At.meet (({ a := (x11.a.1, t25), way := (x11.way.1, x11.way.2), heard := (x11.heard.1, x11.heard.2), said := (x11.said.1, x11.said.2), downs := x11.downs } : signalmanlaw15_pair)) ⟨rfl, trivial⟩ ⟨HS, kf12, by omega, H⟩
     ·rintro x13 w ⟨HS, kf14, hkkf14, H⟩
      unfold signalmanlaw15_pair_carry.j3 at H
      refine V.region (W.mv rfl ?_)
      obtain ⟨t15, A16, H⟩ := bind_s H
      replace HS := HS.pm [1, 0, 2]
      refine W.e (Y.cl Try.func32 (signalmanlaw15_pair_collect.calls A16 HS.j1)) rfl ?_
      rintro _ w ⟨rfl, HS⟩
      replace HS := HS.o1
      refine W.nil ?_
      replace HS := HS.pk [0, 2] [1]
      cases H
      exact At.end0 rfl ⟨_, rfl, rfl, HS⟩
  ·replace H := ite_f c5 H
   refine V.condF (sb (b_f c5)) (V.skip ?_)
   cases H
   exact At.end0 rfl ⟨_, rfl, rfl, HS⟩
mutual
def signalmanlaw15_up.l0 : Nat → Int → signalmanlaw15_pair → Option signalmanlaw15_pair
 | 0, _, _ => none
 | k + 1, x15, x16 => (if x15 < 4 then ((signalmanlaw15_pair_carry.f k x16 (iand .i64 x15 (1)) false).bind fun t20 => (signalmanlaw15_up.l0 k (w64 (x15 + 1)) t20)) else some x16)
end
def signalmanlaw15_up.f (k : Nat) (a0 : api_Config) : Option signalmanlaw15_pair := ((arq_New.f a0).bind fun t5 => ((arq_New.f a0).bind fun t8 => ((arq_Arq_Connect.f k t5).bind fun t11 => ((signalmanlaw15_pair_collect.f k ({ a := (t11.2, t8), way := (([] : List (List Int)), ([] : List (List Int))), heard := (([] : List (List Int)), ([] : List (List Int))), said := (([] : List (List Int)), ([] : List (List Int))), downs := 0 } : signalmanlaw15_pair)).bind fun t13 => (signalmanlaw15_up.l0 k 0 t13)))))
theorem signalmanlaw15_up.calls {k : Nat} {a0 : api_Config} {R : As} {w0 w : World}  {r : signalmanlaw15_pair} (H : signalmanlaw15_up.f k a0 = some r) (HS : Sep.St [R] w0 w)  : Calls Try.prog 36 #[Value.agg #[Value.int .i64 a0.Mode, Value.int .i64 a0.Modulus, Value.int .i64 a0.Window, Value.int .i64 a0.T1, Value.int .i64 a0.N2, Value.int .i64 a0.Hold, Value.int .i64 a0.Wait, Value.int .i64 a0.Keep, Value.int .i64 a0.Queue, Value.int .i64 a0.Size, Value.int .i64 a0.Ring, Value.int .i64 a0.Rate, Value.int .i64 a0.Bad, Value.int .i64 a0.Good, Value.bool a0.Revert, Value.bool a0.Wide]] w (Ret fun u w => ∃ (bq0 : Nat), u = Value.pointer (some ⟨bq0, 0, none⟩) ∧ Sep.St [signalmanlaw15_pair.at bq0 r, R] w0 w) := by
 unfold signalmanlaw15_up.f at H
 refine calls_enter Try.func36 rfl rfl ?_
 have H : _ = some r := H
 refine V.seq (V.region (W.e (Y.box HS rfl) rfl ?_))
 rintro _ w ⟨nb1, rfl, HS⟩
 refine W.as rfl (W.nx (V.seq (V.region (W.r (X.bd (Value.agg #[Value.pointer none, Value.pointer none, Value.slice none 0 0, Value.slice none 0 0, Value.slice none 0 0, Value.slice none 0 0, Value.slice none 0 0, Value.slice none 0 0, Value.int .i64 (0)]) rfl (fun _ => by kernel_rfl)) rfl (W.e (Y.box HS rfl) rfl ?_)))))
 rintro _ w ⟨nb2, rfl, HS⟩
 refine W.as rfl (W.nx (V.seq (V.dr [2, 6] [5] [(7, Value.pointer (some ⟨nb2, 0, none⟩)), (8, Value.agg #[Value.int .i64 a0.Mode, Value.int .i64 a0.Modulus, Value.int .i64 a0.Window, Value.int .i64 a0.T1, Value.int .i64 a0.N2, Value.int .i64 a0.Hold, Value.int .i64 a0.Wait, Value.int .i64 a0.Keep, Value.int .i64 a0.Queue, Value.int .i64 a0.Size, Value.int .i64 a0.Ring, Value.int .i64 a0.Rate, Value.int .i64 a0.Bad, Value.int .i64 a0.Good, Value.bool a0.Revert, Value.bool a0.Wide]), (10, Value.pointer (some ⟨nb2, 0, none⟩)), (11, Value.pointer (some ⟨nb2, 0 + 0, none⟩))] mo HS ?_)))
 refine T.ev [(8, _)] [] [1] ⟨rfl, trivial⟩ ⟨.mv 3, .n1 1 rfl rfl (fun w HS => X.loadSt 1 [Value.int .i64 a0.Mode, Value.int .i64 a0.Modulus, Value.int .i64 a0.Window, Value.int .i64 a0.T1, Value.int .i64 a0.N2, Value.int .i64 a0.Hold, Value.int .i64 a0.Wait, Value.int .i64 a0.Keep, Value.int .i64 a0.Queue, Value.int .i64 a0.Size, Value.int .i64 a0.Ring, Value.int .i64 a0.Rate, Value.int .i64 a0.Bad, Value.int .i64 a0.Good, Value.bool a0.Revert, Value.bool a0.Wide] HS rfl Try.underlying24 rfl inf24 rfl rfl), .nc 7, .fa 10 fo59_0, trivial⟩ rfl (fun w HS => ?_)
 obtain ⟨t5, A6, H⟩ := bind_s H
 refine ⟨_, Y.cl Try.func17 (arq_New.calls A6 HS.j0), ?_⟩
 rintro _ w ⟨bt5_0, rfl, HS⟩
 replace HS := HS.o1
 refine T.nm [(9, Value.pointer (some ⟨bt5_0, 0, none⟩)), (12, Value.pointer (some ⟨nb2, 0 + 0 + 0 * 1, none⟩))] HS ⟨.inl ⟨rfl, rfl⟩, ⟨.inr ⟨by decide, rfl⟩, trivial⟩⟩ ?_
 refine T.ev [(9, _), (12, _)] [] [0, 3, 4, 5] ⟨rfl, rfl, trivial⟩ ⟨.mv 3, .nc 7, .fa 10 fo59_0, .n1 11 rfl rfl (fun w HS => X.indexArK 0 rfl Try.underlying54 inf26 rfl rfl (by decide) (by decide)), trivial⟩ rfl (fun w HS => ?_)
 refine ⟨_, Y.sto 1 0 HS inf26 rfl rfl rfl rfl rfl rfl, ?_⟩
 rintro _ w HS
 refine T.nn HS ?_
 refine T.fn [(1, _), (3, _)] ⟨rfl, rfl, trivial⟩ trivial (fun w HS => ?_)
 refine At.next (V.seq (V.dr [2, 6] [5] [(13, Value.pointer (some ⟨nb2, 0, none⟩)), (14, Value.agg #[Value.int .i64 a0.Mode, Value.int .i64 a0.Modulus, Value.int .i64 a0.Window, Value.int .i64 a0.T1, Value.int .i64 a0.N2, Value.int .i64 a0.Hold, Value.int .i64 a0.Wait, Value.int .i64 a0.Keep, Value.int .i64 a0.Queue, Value.int .i64 a0.Size, Value.int .i64 a0.Ring, Value.int .i64 a0.Rate, Value.int .i64 a0.Bad, Value.int .i64 a0.Good, Value.bool a0.Revert, Value.bool a0.Wide]), (16, Value.pointer (some ⟨nb2, 0, none⟩)), (17, Value.pointer (some ⟨nb2, 0 + 0, none⟩))] mo HS ?_))
 refine T.ev [(14, _)] [] [1] ⟨rfl, trivial⟩ ⟨.mv 3, .n1 1 rfl rfl (fun w HS => X.loadSt 2 [Value.int .i64 a0.Mode, Value.int .i64 a0.Modulus, Value.int .i64 a0.Window, Value.int .i64 a0.T1, Value.int .i64 a0.N2, Value.int .i64 a0.Hold, Value.int .i64 a0.Wait, Value.int .i64 a0.Keep, Value.int .i64 a0.Queue, Value.int .i64 a0.Size, Value.int .i64 a0.Ring, Value.int .i64 a0.Rate, Value.int .i64 a0.Bad, Value.int .i64 a0.Good, Value.bool a0.Revert, Value.bool a0.Wide] HS rfl Try.underlying24 rfl inf24 rfl rfl), .nc 13, .fa 16 fo59_0, trivial⟩ rfl (fun w HS => ?_)
 obtain ⟨t8, A9, H⟩ := bind_s H
 refine ⟨_, Y.cl Try.func17 (arq_New.calls A9 HS.j0), ?_⟩
 rintro _ w ⟨bt8_0, rfl, HS⟩
 replace HS := HS.o1
 refine T.nm [(15, Value.pointer (some ⟨bt8_0, 0, none⟩)), (18, Value.pointer (some ⟨nb2, 0 + 0 + 1 * 1, none⟩))] HS ⟨.inl ⟨rfl, rfl⟩, ⟨.inr ⟨by decide, rfl⟩, trivial⟩⟩ ?_
 refine T.ev [(15, _), (18, _)] [] [0, 3, 4, 5] ⟨rfl, rfl, trivial⟩ ⟨.mv 3, .nc 13, .fa 16 fo59_0, .n1 17 rfl rfl (fun w HS => X.indexArK 1 rfl Try.underlying54 inf26 rfl rfl (by decide) (by decide)), trivial⟩ rfl (fun w HS => ?_)
 refine ⟨_, Y.sto 2 1 HS inf26 rfl rfl rfl rfl rfl rfl, ?_⟩
 rintro _ w HS
 refine T.nn HS ?_
 refine T.fn [(3, _)] ⟨rfl, trivial⟩ trivial (fun w HS => ?_)
 refine At.next (V.seq (V.region (W.mv rfl (W.nc rfl (W.fa fo59_0 rfl (W.r (X.indexArK 0 rfl Try.underlying54 inf26 rfl rfl (by decide) (by decide)) rfl (W.ld 2 HS Try.underlying26 rfl rfl rfl rfl ?_)))))))
 obtain ⟨t11, A12, H⟩ := bind_s H
 replace HS := HS.pm [1, 0, 2, 3, 4]
 refine W.e (Y.cl Try.func18 (arq_Arq_Connect.calls A12 HS.j1)) rfl ?_
 rintro _ w ⟨rfl, HS⟩
 replace HS := HS.o1
 refine W.nx (V.seq (V.region (W.mv rfl ?_)))
 replace HS := row_nilE (El.sl (El.int .u8)) 39 1 HS
 replace HS := row_nilE (El.sl (El.int .u8)) 39 1 HS
 replace HS := row_nilF (fun x => Value.string (strOf x)) 9 1 HS
 replace HS := row_nilF (fun x => Value.string (strOf x)) 9 1 HS
 replace HS := row_nilF (fun x => Value.string (strOf x)) 9 1 HS
 replace HS := row_nilF (fun x => Value.string (strOf x)) 9 1 HS
 replace HS := HS.pm [10, 8, 9, 6, 7, 4, 5, 3, 2, 1, 0, 11, 12]
 replace HS := signalmanlaw15_pair.close (l2 := ([] : List (List Int))) (l3 := ([] : List (List Int))) (l4 := ([] : List (List Int))) (l5 := ([] : List (List Int))) (l6 := ([] : List (List Int))) (l7 := ([] : List (List Int))) trivial HS
 obtain ⟨t13, A14, H⟩ := bind_s H
 refine W.e (Y.cl Try.func32 (signalmanlaw15_pair_collect.calls A14 HS.j1)) rfl ?_
 rintro _ w ⟨rfl, HS⟩
 replace HS := HS.o1
 refine W.nx (V.seq (V.seq (V.region (W.as rfl (W.nx (V.block ?_))))))
 replace HS := HS.pm [1, 0, 2]
 replace HS := api_Config.close trivial HS
 refine V.loop (σ := Int × signalmanlaw15_pair) (fun kq (st : Int × signalmanlaw15_pair) w => match st with | (x15, x16) => Sep.St [api_Config.at nb1 a0, signalmanlaw15_pair.at nb2 x16, R] w0 w ∧ signalmanlaw15_up.l0 kq x15 x16 = some r ∧ kq ≤ k) (fun st => match st with | (x15, x16) => [(3, Value.pointer (some ⟨nb2, 0, none⟩)), (4, Value.int .i64 x15)]) k (0, t13) ⟨rfl, rfl, trivial⟩ ⟨HS, H, Nat.le_refl _⟩ ?_
 rintro kq17 ⟨x15, x16⟩ w ⟨HS, H, hk18⟩
 cases kq17 with
 | zero => exact absurd H (by simp [signalmanlaw15_up.l0])
 | succ kq17 =>
  simp only [signalmanlaw15_up.l0] at H
  refine V.seq (V.seq (V.region (W.mv rfl (W.r (X.cmp (decide (x15 < 4)) rfl rfl rfl rfl) rfl (W.nx ?_)))))
  by_cases c19 : x15 < 4
  ·replace H := ite_t c19 H
   refine V.condT (sb (decide_eq_true c19)) (V.skip (At.next (V.seq (V.block (V.region (W.mv rfl (W.mv rfl (W.r (X.and rfl rfl) rfl ?_))))))))
   obtain ⟨t20, A21, H⟩ := bind_s H
   replace HS := HS.pm [1, 0, 2]
   refine W.e (Y.cl Try.func33 (signalmanlaw15_pair_carry.calls A21 HS.j1)) rfl ?_
   rintro _ w ⟨rfl, HS⟩
   replace HS := HS.o1
   refine W.nil (At.blockEnd (At.next (V.region (W.mv rfl (W.r (X.add rfl rfl) rfl (W.as rfl (W.nil ?_)))))))
   replace HS := HS.pk [1, 0, 2] []
   exact At.round kq17 (by omega) (w64 (x15 + 1), t20) ⟨rfl, rfl, trivial⟩ ⟨HS, H, by omega⟩
  ·replace H := ite_f c19 H
   refine V.condF (sb (decide_eq_false c19)) (V.exit (At.thenExit (At.thenExit (At.blockExit (At.next (V.seq (V.region (W.mv rfl (W.as rfl (W.nx (V.ret ?_)))))))))))
   replace HS := HS.pk [1, 2] [0]
   cases H
   exact At.ret1 rfl rfl ⟨_, rfl, nb2, rfl, HS⟩
mutual
def signalmanlaw15_prefix.l0 : Nat → (List (List Int)) → (List (List Int)) → Int → Option Bool
 | 0, _, _, _ => none
 | k + 1, a0, a1, x2 => (if x2 < (a0.length : Int) then (if 0 ≤ x2 ∧ x2 < (a0.length : Int) then (if 0 ≤ x2 ∧ x2 < (a1.length : Int) then (if sEq (a0.getD x2.toNat []) (a1.getD x2.toNat []) = true then (signalmanlaw15_prefix.l0 k a0 a1 (w64 (x2 + 1))) else some false) else none) else none) else some true)
end
def signalmanlaw15_prefix.f (k : Nat) (a0 : List (List Int)) (a1 : List (List Int)) : Option Bool := (if (a0.length : Int) > (a1.length : Int) then some false else (signalmanlaw15_prefix.l0 k a0 a1 0))
theorem signalmanlaw15_prefix.calls {k : Nat} {a0 : List (List Int)} {a1 : List (List Int)} {R : As} {w0 w : World} {sa0 : Option Addr} {sc0 : Nat} {sa1 : Option Addr} {sc1 : Nat} {r : Bool} (H : signalmanlaw15_prefix.f k a0 a1 = some r) (HS : Sep.St [R] w0 w) (hr0 : rdC R 1 (.slice sa0 a0.length sc0) a0.length (a0.map (fun x => Value.string (strOf x)))) (hr1 : rdC R 1 (.slice sa1 a1.length sc1) a1.length (a1.map (fun x => Value.string (strOf x)))) : Calls Try.prog 40 #[Value.slice sa0 a0.length sc0, Value.slice sa1 a1.length sc1] w (Ret fun u w => u = Value.bool r ∧ Sep.St [R] w0 w) := by
 unfold signalmanlaw15_prefix.f at H
 refine calls_enter Try.func40 rfl rfl ?_
 have H : _ = some r := H
 refine V.seq (V.region (W.as rfl (W.nx (V.seq (V.seq (V.region (W.mv rfl (W.r (X.lenSl Try.underlying56 rfl) rfl (W.mv rfl (W.r (X.lenSl Try.underlying56 rfl) rfl (W.r (X.cmp (decide ((a0.length : Int) > (a1.length : Int))) rfl rfl rfl rfl) rfl (W.nx ?_))))))))))))
 by_cases c1 : (a0.length : Int) > (a1.length : Int)
 ·replace H := ite_t c1 H
  refine V.condT (sb (decide_eq_true c1)) (V.seq (V.region (W.as rfl (W.nx (V.ret (At.thenRet ?_))))))
  cases H
  exact At.ret1 rfl rfl ⟨_, rfl, rfl, HS⟩
 ·replace H := ite_f c1 H
  refine V.condF (sb (decide_eq_false c1)) (V.skip (At.next (V.seq (V.seq (V.region (W.as rfl (W.nx (V.block (V.loop (σ := Int) (fun kq (st : Int) w => match st with | x2 => Sep.St [R] w0 w ∧ signalmanlaw15_prefix.l0 kq a0 a1 x2 = some r ∧ kq ≤ k) (fun st => match st with | x2 => [(0, Value.slice sa0 a0.length sc0), (1, Value.slice sa1 a1.length sc1), (5, Value.int .i64 x2)]) k (0) ⟨rfl, rfl, rfl, trivial⟩ ⟨HS, H, Nat.le_refl _⟩ ?_)))))))))
  rintro kq3 x2 w ⟨HS, H, hk4⟩
  cases kq3 with
  | zero => exact absurd H (by simp [signalmanlaw15_prefix.l0])
  | succ kq3 =>
   simp only [signalmanlaw15_prefix.l0] at H
   refine V.seq (V.seq (V.region (W.mv rfl (W.mv rfl (W.r (X.lenSl Try.underlying56 rfl) rfl (W.r (X.cmp (decide (x2 < (a0.length : Int))) rfl rfl rfl rfl) rfl (W.nx ?_)))))))
   by_cases c5 : x2 < (a0.length : Int)
   ·replace H := ite_t c5 H
    refine V.condT (sb (decide_eq_true c5)) (V.skip (At.next (V.seq (V.block (V.seq ?_)))))
    obtain ⟨c6, H⟩ := ite_n H
    obtain ⟨eb7, eo8, hh⟩ := (rdC.at 0 hr0 HS rfl).some (by decide) c6.1 c6.2; subst hh
    obtain ⟨c9, H⟩ := ite_n H
    obtain ⟨eb10, eo11, hh⟩ := (rdC.at 0 hr1 HS rfl).some (by decide) c9.1 c9.2; subst hh
    refine V.dr [] [] [(17, Value.slice (some ⟨eb7, eo8, none⟩) a0.length sc0), (18, Value.int .i64 x2), (19, Value.pointer (some ⟨eb7, eo8 + x2.toNat * 1, none⟩)), (20, Value.string (strOf (a0.getD x2.toNat []))), (21, Value.slice (some ⟨eb10, eo11, none⟩) a1.length sc1), (22, Value.int .i64 x2), (23, Value.pointer (some ⟨eb10, eo11 + x2.toNat * 1, none⟩)), (24, Value.string (strOf (a1.getD x2.toNat []))), (25, Value.bool (!(sEq (a0.getD x2.toNat []) (a1.getD x2.toNat []))))] mo HS ?_
    refine T.fn [(0, _), (1, _), (5, _), (25, _)] ⟨rfl, rfl, rfl, rfl, trivial⟩ ⟨.mv 0, .mv 5, .n2 17 18 rfl rfl rfl (fun w HS => X.indexSl Try.underlying56 inf9 rfl rfl c6.1 c6.2), .n1 19 rfl rfl (fun w HS => X.load Try.underlying9 rfl rfl ((rdC.at 0 hr0 HS rfl).cellS c6.1 c6.2)), .mv 1, .mv 5, .n2 21 22 rfl rfl rfl (fun w HS => X.indexSl Try.underlying56 inf9 rfl rfl c9.1 c9.2), .n1 23 rfl rfl (fun w HS => X.load Try.underlying9 rfl rfl ((rdC.at 0 hr1 HS rfl).cellS c9.1 c9.2)), .n2 20 24 rfl rfl rfl (fun w HS => X.neStr (a := a0.getD x2.toNat []) (b := a1.getD x2.toNat []) rfl rfl), trivial⟩ (fun w HS => ?_)
    refine At.next ?_
    by_cases c12 : sEq (a0.getD x2.toNat []) (a1.getD x2.toNat []) = true
    ·replace H := ite_t c12 H
     refine V.condF (sb (n_t c12)) (V.skip (At.blockEnd (At.next (V.region (W.mv rfl (W.r (X.add rfl rfl) rfl (W.as rfl (W.nil ?_))))))))
     exact At.round kq3 (by omega) (w64 (x2 + 1)) ⟨rfl, rfl, rfl, trivial⟩ ⟨HS, H, by omega⟩
    ·replace H := ite_f c12 H
     refine V.condT (sb (n_f (b_f c12))) (V.seq (V.region (W.as rfl (W.nx (V.ret (At.blockRet (At.thenRet (At.thenRet (At.blockRet (At.thenRet ?_))))))))))
     cases H
     exact At.ret1 rfl rfl ⟨_, rfl, rfl, HS⟩
   ·replace H := ite_f c5 H
    refine V.condF (sb (decide_eq_false c5)) (V.exit (At.thenExit (At.thenExit (At.blockExit (At.next (V.seq (V.region (W.as rfl (W.nx (V.ret ?_))))))))))
    cases H
    exact At.ret1 rfl rfl ⟨_, rfl, rfl, HS⟩
mutual
def signalmanlaw15_ArqDelivers.l1 : Nat → (List Int) → (List Int) → Int → signalmanlaw15_pair → Option Bool
 | 0, _, _, _, _ => none
 | k + 1, a1, a2, x13, x14 => (if x13 < (a1.length : Int) then (if 0 ≤ x13 ∧ x13 < (a1.length : Int) then (if 0 ≤ iand .i64 (a1.getD x13.toNat 0) (1) ∧ iand .i64 (a1.getD x13.toNat 0) (1) < 2 then (if iand .i64 (a1.getD x13.toNat 0) (1) = 0 then ((arq_Arq_Send.f k x14.a.1 ([IntKind.u8.wrap x13, IntKind.u8.wrap (a1.getD x13.toNat 0)] : List Int)).bind fun t54 => (signalmanlaw15_ArqDelivers.j2 a1 x13 (signalmanlaw15_ArqDelivers.l1 k a1 a2) ({ a := (t54.2, x14.a.2), way := (x14.way.1, x14.way.2), heard := (x14.heard.1, x14.heard.2), said := (x14.said.1, x14.said.2), downs := x14.downs } : signalmanlaw15_pair) t54.1)) else ((arq_Arq_Send.f k x14.a.2 ([IntKind.u8.wrap x13, IntKind.u8.wrap (a1.getD x13.toNat 0)] : List Int)).bind fun t57 => (signalmanlaw15_ArqDelivers.j2 a1 x13 (signalmanlaw15_ArqDelivers.l1 k a1 a2) ({ a := (x14.a.1, t57.2), way := (x14.way.1, x14.way.2), heard := (x14.heard.1, x14.heard.2), said := (x14.said.1, x14.said.2), downs := x14.downs } : signalmanlaw15_pair) t57.1))) else none) else none) else ((signalmanlaw15_pair_collect.f k x14).bind fun t59 => (signalmanlaw15_ArqDelivers.l3 k a2 0 t59)))
def signalmanlaw15_ArqDelivers.j2 (a1 : List Int) (x13 : Int) (Lq28 : Int → signalmanlaw15_pair → Option Bool) (x25 : signalmanlaw15_pair) (x26 : Int) : Option Bool := ((signalmanlaw15_num.f x26).bind fun t30 => (if t30 = 0 then (if 0 ≤ iand .i64 (a1.getD x13.toNat 0) (1) ∧ iand .i64 (a1.getD x13.toNat 0) (1) < 2 then (if iand .i64 (a1.getD x13.toNat 0) (1) = 0 then (if (x25.said.1.length : Int) + (([([IntKind.u8.wrap x13, IntKind.u8.wrap (a1.getD x13.toNat 0)] : List Int)] : List (List Int))).length ≤ 1099511627776 then (Lq28 (w64 (x13 + 1)) ({ a := (x25.a.1, x25.a.2), way := (x25.way.1, x25.way.2), heard := (x25.heard.1, x25.heard.2), said := (x25.said.1 ++ ([([IntKind.u8.wrap x13, IntKind.u8.wrap (a1.getD x13.toNat 0)] : List Int)] : List (List Int)), x25.said.2), downs := x25.downs } : signalmanlaw15_pair)) else none) else (if (x25.said.2.length : Int) + (([([IntKind.u8.wrap x13, IntKind.u8.wrap (a1.getD x13.toNat 0)] : List Int)] : List (List Int))).length ≤ 1099511627776 then (Lq28 (w64 (x13 + 1)) ({ a := (x25.a.1, x25.a.2), way := (x25.way.1, x25.way.2), heard := (x25.heard.1, x25.heard.2), said := (x25.said.1, x25.said.2 ++ ([([IntKind.u8.wrap x13, IntKind.u8.wrap (a1.getD x13.toNat 0)] : List Int)] : List (List Int))), downs := x25.downs } : signalmanlaw15_pair)) else none)) else none) else some false))
def signalmanlaw15_ArqDelivers.l3 : Nat → (List Int) → Int → signalmanlaw15_pair → Option Bool
 | 0, _, _, _ => none
 | k + 1, a2, x61, x62 => (if x61 < (a2.length : Int) then (if 0 ≤ x61 ∧ x61 < (a2.length : Int) then (if (iand .i64 (a2.getD x61.toNat 0) (12)) = 0 then (if 0 ≤ iand .i64 (a2.getD x61.toNat 0) (1) ∧ iand .i64 (a2.getD x61.toNat 0) (1) < 2 then (if iand .i64 (a2.getD x61.toNat 0) (1) = 0 then ((arq_Arq_Pass.f k x62.a.1 11).bind fun t82 => (signalmanlaw15_ArqDelivers.j4 k a2 x61 (signalmanlaw15_ArqDelivers.l3 k a2) ({ a := (t82, x62.a.2), way := (x62.way.1, x62.way.2), heard := (x62.heard.1, x62.heard.2), said := (x62.said.1, x62.said.2), downs := x62.downs } : signalmanlaw15_pair))) else ((arq_Arq_Pass.f k x62.a.2 11).bind fun t85 => (signalmanlaw15_ArqDelivers.j4 k a2 x61 (signalmanlaw15_ArqDelivers.l3 k a2) ({ a := (x62.a.1, t85), way := (x62.way.1, x62.way.2), heard := (x62.heard.1, x62.heard.2), said := (x62.said.1, x62.said.2), downs := x62.downs } : signalmanlaw15_pair)))) else none) else ((signalmanlaw15_pair_carry.f k x62 (iand .i64 (a2.getD x61.toNat 0) (1)) (decide ((iand .i64 (a2.getD x61.toNat 0) (2)) = 0))).bind fun t87 => (signalmanlaw15_ArqDelivers.l3 k a2 (w64 (x61 + 1)) t87))) else none) else (signalmanlaw15_ArqDelivers.l5 k 0 x62))
def signalmanlaw15_ArqDelivers.j4 (k : Nat) (a2 : List Int) (x61 : Int) (Lq72 : Int → signalmanlaw15_pair → Option Bool) (x70 : signalmanlaw15_pair) : Option Bool := ((signalmanlaw15_pair_collect.f k x70).bind fun t74 => ((signalmanlaw15_pair_carry.f k t74 (iand .i64 (a2.getD x61.toNat 0) (1)) (decide ((iand .i64 (a2.getD x61.toNat 0) (2)) = 0))).bind fun t76 => (Lq72 (w64 (x61 + 1)) t76)))
def signalmanlaw15_ArqDelivers.l5 : Nat → Int → signalmanlaw15_pair → Option Bool
 | 0, _, _ => none
 | k + 1, x89, x90 => (if x89 < 3000 then ((signalmanlaw15_pair_carry.f k x90 0 false).bind fun t94 => ((signalmanlaw15_pair_carry.f k t94 1 false).bind fun t96 => (if (x89.tmod (20)) = 19 then ((arq_Arq_Pass.f k t96.a.1 3).bind fun t101 => ((arq_Arq_Pass.f k t96.a.2 3).bind fun t113 => ((signalmanlaw15_pair_collect.f k ({ a := (t101, t113), way := (t96.way.1, t96.way.2), heard := (t96.heard.1, t96.heard.2), said := (t96.said.1, t96.said.2), downs := t96.downs } : signalmanlaw15_pair)).bind fun t115 => (signalmanlaw15_ArqDelivers.l5 k (w64 (x89 + 1)) t115)))) else (signalmanlaw15_ArqDelivers.l5 k (w64 (x89 + 1)) t96)))) else (signalmanlaw15_ArqDelivers.l6 k x90 0))
def signalmanlaw15_ArqDelivers.l6 : Nat → signalmanlaw15_pair → Int → Option Bool
 | 0, _, _ => none
 | k + 1, x90, x117 => (if x117 < 2 then (if 0 ≤ x117 ∧ x117 < 2 then (if x117 = 0 then ((arq_Arq_Counts.f x90.a.1).bind fun t157 => (signalmanlaw15_ArqDelivers.j7 k x90 x117 (signalmanlaw15_ArqDelivers.l6 k x90) t157.1 t157.2.1 t157.2.2)) else ((arq_Arq_Counts.f x90.a.2).bind fun t162 => (signalmanlaw15_ArqDelivers.j7 k x90 x117 (signalmanlaw15_ArqDelivers.l6 k x90) t162.1 t162.2.1 t162.2.2))) else none) else some (decide (x90.downs = 0)))
def signalmanlaw15_ArqDelivers.j8 (x117 : Int) (Lq129 : Int → Option Bool) (x127 : Bool) : Option Bool := (if x127 = true then some false else (Lq129 (w64 (x117 + 1))))
def signalmanlaw15_ArqDelivers.j7 (k : Nat) (x90 : signalmanlaw15_pair) (x117 : Int) (Lq125 : Int → Option Bool) (x121 : Int) (x122 : Int) (x123 : Int) : Option Bool := (if 0 ≤ x117 ∧ x117 < 2 then (if x117 = 0 then (if x121 = (x90.said.1.length : Int) then (if x122 = x121 then (if x123 = 0 then (if 0 ≤ w64 (1 - x117) ∧ w64 (1 - x117) < 2 then (if (x90.heard.2.length : Int) = x121 then ((signalmanlaw15_prefix.f k x90.heard.2 x90.said.1).bind fun t141 => (signalmanlaw15_ArqDelivers.j8 x117 Lq125 (!t141))) else (signalmanlaw15_ArqDelivers.j8 x117 Lq125 true)) else none) else (signalmanlaw15_ArqDelivers.j8 x117 Lq125 true)) else (signalmanlaw15_ArqDelivers.j8 x117 Lq125 true)) else (signalmanlaw15_ArqDelivers.j8 x117 Lq125 true)) else (if x121 = (x90.said.2.length : Int) then (if x122 = x121 then (if x123 = 0 then (if 0 ≤ w64 (1 - x117) ∧ w64 (1 - x117) < 2 then (if (x90.heard.1.length : Int) = x121 then ((signalmanlaw15_prefix.f k x90.heard.1 x90.said.2).bind fun t149 => (signalmanlaw15_ArqDelivers.j8 x117 Lq125 (!t149))) else (signalmanlaw15_ArqDelivers.j8 x117 Lq125 true)) else none) else (signalmanlaw15_ArqDelivers.j8 x117 Lq125 true)) else (signalmanlaw15_ArqDelivers.j8 x117 Lq125 true)) else (signalmanlaw15_ArqDelivers.j8 x117 Lq125 true))) else none)
def signalmanlaw15_ArqDelivers.j0 (k : Nat) (a0 : Int) (a1 : List Int) (a2 : List Int) (t1 : Bool) (x3 : Bool) : Option Bool := (if x3 = true then some t1 else ((signalmanlaw15_shape.f 128 a0 50).bind fun t6 => ((signalmanlaw15_up.f k ({ t6 with N2 := 100 } : api_Config)).bind fun t9 => (signalmanlaw15_ArqDelivers.l1 k a1 a2 0 t9))))
end
def signalmanlaw15_ArqDelivers.f (k : Nat) (a0 : Int) (a1 : List Int) (a2 : List Int) : Option Bool := ((signalmanlaw15_alive.f k ).bind fun t1 => (if t1 = true then (if a0 < 1 then (signalmanlaw15_ArqDelivers.j0 k a0 a1 a2 t1 true) else (if a0 > 16 then (signalmanlaw15_ArqDelivers.j0 k a0 a1 a2 t1 true) else (if (a1.length : Int) > 40 then (signalmanlaw15_ArqDelivers.j0 k a0 a1 a2 t1 true) else (signalmanlaw15_ArqDelivers.j0 k a0 a1 a2 t1 (decide ((a2.length : Int) > 60)))))) else (signalmanlaw15_ArqDelivers.j0 k a0 a1 a2 t1 true)))
theorem signalmanlaw15_ArqDelivers.calls {k : Nat} {a0 : Int} {a1 : List Int} {a2 : List Int} {R : As} {w0 w : World} {sa1 : Option Addr} {sc1 : Nat} {sa2 : Option Addr} {sc2 : Nat} {r : Bool} (H : signalmanlaw15_ArqDelivers.f k a0 a1 a2 = some r) (HS : Sep.St [R] w0 w) (hr1 : rdC R 1 (.slice sa1 a1.length sc1) a1.length (a1.map (Value.int .i64))) (hr2 : rdC R 1 (.slice sa2 a2.length sc2) a2.length (a2.map (Value.int .i64))) : Calls Try.prog 13 #[Value.int .i64 a0, Value.slice sa1 a1.length sc1, Value.slice sa2 a2.length sc2] w (Ret fun u w => u = Value.bool r ∧ Sep.St [R] w0 w) := by
 unfold signalmanlaw15_ArqDelivers.f at H
 refine calls_enter Try.func13 rfl rfl ?_
 have H : _ = some r := H
 refine V.seq (V.region (W.as rfl (W.nx (V.seq (V.region ?_)))))
 obtain ⟨t1, A2, H⟩ := bind_s H
 refine W.e (Y.cl Try.func15 (signalmanlaw15_alive.calls A2 HS.j0)) rfl ?_
 rintro _ w ⟨rfl, HS⟩
 replace HS := HS.o0
 refine W.as rfl (W.nx (V.seq (V.meet (σ := Bool) (fun st w => match st with | x3 => Sep.St [R] w0 w ∧ ∃ kf4, kf4 ≤ k ∧ signalmanlaw15_ArqDelivers.j0 kf4 a0 a1 a2 t1 x3 = some r) (fun st => match st with | x3 => [(0, Value.int .i64 a0), (1, Value.slice sa1 a1.length sc1), (2, Value.slice sa2 a2.length sc2), (7, Value.bool t1), (39, Value.bool x3)]) ?_ ?_)))
 ·refine V.region (W.mv rfl (W.r (X.not rfl) rfl (W.mv rfl ?_)))
  by_cases c166 : t1 = true
  ·replace H := ite_t c166 H
   refine W.want 22 rfl (sb (n_t c166)) (W.mv rfl (W.want 22 rfl (sb (n_t c166)) (W.r (X.cmp (decide (a0 < 1)) rfl rfl rfl rfl) rfl (W.r (X.pickF (sb (n_t c166)) rfl) rfl (W.mv rfl ?_)))))
   by_cases c167 : a0 < 1
   ·replace H := ite_t c167 H
    refine W.pass 26 rfl (sb (decide_eq_true c167)) rfl rfl (W.pass 26 rfl (sb (decide_eq_true c167)) rfl rfl (W.r (X.pickT (sb (decide_eq_true c167)) rfl) rfl (W.mv rfl (W.pass 30 rfl rfl rfl rfl (W.pass 30 rfl rfl rfl rfl (W.pass 30 rfl rfl rfl rfl (W.r (X.pickT rfl rfl) rfl (W.mv rfl (W.pass 35 rfl rfl rfl rfl (W.pass 35 rfl rfl rfl rfl (W.pass 35 rfl rfl rfl rfl (W.r (X.pickT rfl rfl) rfl (W.nil ?_)))))))))))))
    exact At.meet true ⟨rfl, rfl, rfl, rfl, rfl, trivial⟩ ⟨HS, k, by omega, H⟩
   ·replace H := ite_f c167 H
    refine W.want 26 rfl (sb (decide_eq_false c167)) (W.mv rfl (W.want 26 rfl (sb (decide_eq_false c167)) (W.r (X.cmp (decide (a0 > 16)) rfl rfl rfl rfl) rfl (W.r (X.pickF (sb (decide_eq_false c167)) rfl) rfl (W.mv rfl ?_)))))
    by_cases c168 : a0 > 16
    ·replace H := ite_t c168 H
     refine W.pass 30 rfl (sb (decide_eq_true c168)) rfl rfl (W.pass 30 rfl (sb (decide_eq_true c168)) rfl rfl (W.pass 30 rfl (sb (decide_eq_true c168)) rfl rfl (W.r (X.pickT (sb (decide_eq_true c168)) rfl) rfl (W.mv rfl (W.pass 35 rfl rfl rfl rfl (W.pass 35 rfl rfl rfl rfl (W.pass 35 rfl rfl rfl rfl (W.r (X.pickT rfl rfl) rfl (W.nil ?_)))))))))
     exact At.meet true ⟨rfl, rfl, rfl, rfl, rfl, trivial⟩ ⟨HS, k, by omega, H⟩
    ·replace H := ite_f c168 H
     refine W.want 30 rfl (sb (decide_eq_false c168)) (W.mv rfl (W.want 30 rfl (sb (decide_eq_false c168)) (W.r (X.lenSl Try.underlying34 rfl) rfl (W.want 30 rfl (sb (decide_eq_false c168)) (W.r (X.cmp (decide ((a1.length : Int) > 40)) rfl rfl rfl rfl) rfl (W.r (X.pickF (sb (decide_eq_false c168)) rfl) rfl (W.mv rfl ?_)))))))
     by_cases c169 : (a1.length : Int) > 40
     ·replace H := ite_t c169 H
      refine W.pass 35 rfl (sb (decide_eq_true c169)) rfl rfl (W.pass 35 rfl (sb (decide_eq_true c169)) rfl rfl (W.pass 35 rfl (sb (decide_eq_true c169)) rfl rfl (W.r (X.pickT (sb (decide_eq_true c169)) rfl) rfl (W.nil ?_))))
      exact At.meet true ⟨rfl, rfl, rfl, rfl, rfl, trivial⟩ ⟨HS, k, by omega, H⟩
     ·replace H := ite_f c169 H
      refine W.want 35 rfl (sb (decide_eq_false c169)) (W.mv rfl (W.want 35 rfl (sb (decide_eq_false c169)) (W.r (X.lenSl Try.underlying34 rfl) rfl (W.want 35 rfl (sb (decide_eq_false c169)) (W.r (X.cmp (decide ((a2.length : Int) > 60)) rfl rfl rfl rfl) rfl (W.r (X.pickF (sb (decide_eq_false c169)) rfl) rfl (W.nil ?_)))))))
      exact At.meet (decide ((a2.length : Int) > 60)) ⟨rfl, rfl, rfl, rfl, rfl, trivial⟩ ⟨HS, k, by omega, H⟩
  ·replace H := ite_f c166 H
   refine W.pass 22 rfl (sb (n_f (b_f c166))) rfl rfl (W.pass 22 rfl (sb (n_f (b_f c166))) rfl rfl (W.r (X.pickT (sb (n_f (b_f c166))) rfl) rfl (W.mv rfl (W.pass 26 rfl rfl rfl rfl (W.pass 26 rfl rfl rfl rfl (W.r (X.pickT rfl rfl) rfl (W.mv rfl (W.pass 30 rfl rfl rfl rfl (W.pass 30 rfl rfl rfl rfl (W.pass 30 rfl rfl rfl rfl (W.r (X.pickT rfl rfl) rfl (W.mv rfl (W.pass 35 rfl rfl rfl rfl (W.pass 35 rfl rfl rfl rfl (W.pass 35 rfl rfl rfl rfl (W.r (X.pickT rfl rfl) rfl (W.nil ?_)))))))))))))))))
   exact At.meet true ⟨rfl, rfl, rfl, rfl, rfl, trivial⟩ ⟨HS, k, by omega, H⟩
 ·rintro x3 w ⟨HS, kf4, hkkf4, H⟩
  unfold signalmanlaw15_ArqDelivers.j0 at H
  by_cases c5 : x3 = true
  ·replace H := ite_t c5 H
   refine V.condT (sb c5) (V.seq (V.region (W.mv rfl (W.as rfl (W.nx (V.ret (At.thenRet ?_)))))))
   cases H
   exact At.ret1 rfl rfl ⟨_, rfl, rfl, HS⟩
  ·replace H := ite_f c5 H
   refine V.condF (sb (b_f c5)) (V.skip (At.next (V.seq (V.region (W.mv rfl ?_)))))
   obtain ⟨t6, A7, H⟩ := bind_s H
   refine W.e (Y.cl Try.func16 (signalmanlaw15_shape.calls A7 HS.j0)) rfl ?_
   rintro _ w ⟨rfl, HS⟩
   replace HS := HS.o0
   refine W.e (Y.alloc (z := Value.agg (#[Value.int .i64 (0), Value.int .i64 (0), Value.int .i64 (0), Value.int .i64 (0), Value.int .i64 (0), Value.int .i64 (0), Value.int .i64 (0), Value.int .i64 (0), Value.int .i64 (0), Value.int .i64 (0), Value.int .i64 (0), Value.int .i64 (0), Value.int .i64 (0), Value.int .i64 (0), Value.bool false, Value.bool false])) HS ze24) rfl ?_
   rintro _ w ⟨nb8, rfl, HS⟩
   refine W.en (Y.storeSt (c' := #[Value.int .i64 t6.Mode, Value.int .i64 t6.Modulus, Value.int .i64 t6.Window, Value.int .i64 t6.T1, Value.int .i64 t6.N2, Value.int .i64 t6.Hold, Value.int .i64 t6.Wait, Value.int .i64 t6.Keep, Value.int .i64 t6.Queue, Value.int .i64 t6.Size, Value.int .i64 t6.Ring, Value.int .i64 t6.Rate, Value.int .i64 t6.Bad, Value.int .i64 t6.Good, Value.bool t6.Revert, Value.bool t6.Wide]) 0 [Value.int .i64 t6.Mode, Value.int .i64 t6.Modulus, Value.int .i64 t6.Window, Value.int .i64 t6.T1, Value.int .i64 t6.N2, Value.int .i64 t6.Hold, Value.int .i64 t6.Wait, Value.int .i64 t6.Keep, Value.int .i64 t6.Queue, Value.int .i64 t6.Size, Value.int .i64 t6.Ring, Value.int .i64 t6.Rate, Value.int .i64 t6.Bad, Value.int .i64 t6.Good, Value.bool t6.Revert, Value.bool t6.Wide] HS rfl inf24 rfl rfl rfl rfl rfl rfl) rfl ?_
   rintro _ w HS
   refine W.nx (V.seq (V.region (W.fa fo24_4 rfl (W.st 0 4 HS inf3 rfl rfl rfl rfl rfl rfl fun w HS => ?_))))
   refine W.nx (V.seq (V.region (W.r (X.loadSt 0 [Value.int .i64 t6.Mode, Value.int .i64 t6.Modulus, Value.int .i64 t6.Window, Value.int .i64 t6.T1, Value.int .i64 (100), Value.int .i64 t6.Hold, Value.int .i64 t6.Wait, Value.int .i64 t6.Keep, Value.int .i64 t6.Queue, Value.int .i64 t6.Size, Value.int .i64 t6.Ring, Value.int .i64 t6.Rate, Value.int .i64 t6.Bad, Value.int .i64 t6.Good, Value.bool t6.Revert, Value.bool t6.Wide] HS rfl Try.underlying24 rfl inf24 rfl rfl) rfl ?_)))
   obtain ⟨t9, A10, H⟩ := bind_s H
   refine W.e (Y.cl Try.func36 (signalmanlaw15_up.calls A10 HS.j0)) rfl ?_
   rintro _ w ⟨bt9_0, rfl, HS⟩
   replace HS := HS.o1
   refine W.as rfl (W.nx (V.seq (V.seq (V.region (W.as rfl (W.nx (V.block ?_)))))))
   replace HS := HS.pm [1, 0, 2]
   replace HS := api_Config.close trivial HS
   refine V.loop (σ := Int × signalmanlaw15_pair) (fun kq (st : Int × signalmanlaw15_pair) w => match st with | (x13, x14) => Sep.St [api_Config.at nb8 ({ t6 with N2 := 100 } : api_Config), signalmanlaw15_pair.at bt9_0 x14, R] w0 w ∧ signalmanlaw15_ArqDelivers.l1 kq a1 a2 x13 x14 = some r ∧ kq ≤ kf4) (fun st => match st with | (x13, x14) => [(1, Value.slice sa1 a1.length sc1), (2, Value.slice sa2 a2.length sc2), (9, Value.pointer (some ⟨bt9_0, 0, none⟩)), (10, Value.int .i64 x13)]) kf4 (0, t9) ⟨rfl, rfl, rfl, rfl, trivial⟩ ⟨HS, H, Nat.le_refl _⟩ ?_
   rintro kq15 ⟨x13, x14⟩ w ⟨HS, H, hk16⟩
   cases kq15 with
   | zero => exact absurd H (by simp [signalmanlaw15_ArqDelivers.l1])
   | succ kq15 =>
    simp only [signalmanlaw15_ArqDelivers.l1] at H
    refine V.seq (V.seq (V.region (W.mv rfl (W.mv rfl (W.r (X.lenSl Try.underlying34 rfl) rfl (W.r (X.cmp (decide (x13 < (a1.length : Int))) rfl rfl rfl rfl) rfl (W.nx ?_)))))))
    by_cases c17 : x13 < (a1.length : Int)
    ·replace H := ite_t c17 H
     refine V.condT (sb (decide_eq_true c17)) (V.skip (At.next (V.seq (V.block (V.seq (V.region (W.mv rfl (W.r (X.conv Try.underlying3 Try.underlying5 rfl) rfl (W.mv rfl (W.mv rfl ?_))))))))))
     obtain ⟨c18, H⟩ := ite_n H
     obtain ⟨eb19, eo20, hh⟩ := (rdC.at 2 hr1 HS rfl).some (by decide) c18.1 c18.2; subst hh
     refine W.r (X.indexSl Try.underlying34 inf3 rfl rfl c18.1 c18.2) rfl (W.r (X.load Try.underlying3 rfl rfl ((rdC.at 2 hr1 HS rfl).cellI c18.1 c18.2)) rfl (W.r (X.conv Try.underlying3 Try.underlying5 rfl) rfl (W.e (Y.ls (e := 5) (Value.int .u8) ([IntKind.u8.wrap x13, IntKind.u8.wrap (a1.getD x13.toNat 0)] : List Int) HS rfl rfl (fun _ => by kernel_rfl)) rfl ?_)))
     rintro _ w ⟨lb23, rfl, HS⟩
     refine W.as rfl (W.nx (V.meet (σ := signalmanlaw15_pair × Int) (fun st w => match st with | (x25, x26) => Sep.St [row 5 1 (.slice (some ⟨lb23, 0, none⟩) (([IntKind.u8.wrap x13, IntKind.u8.wrap (a1.getD x13.toNat 0)] : List Int)).length 2) (([IntKind.u8.wrap x13, IntKind.u8.wrap (a1.getD x13.toNat 0)] : List Int)).length ((([IntKind.u8.wrap x13, IntKind.u8.wrap (a1.getD x13.toNat 0)] : List Int)).map (Value.int .u8)), api_Config.at nb8 ({ t6 with N2 := 100 } : api_Config), signalmanlaw15_pair.at bt9_0 x25, R] w0 w ∧ ∃ kl29, kl29 ≤ kq15 ∧ signalmanlaw15_ArqDelivers.j2 a1 x13 (signalmanlaw15_ArqDelivers.l1 kl29 a1 a2) x25 x26 = some r) (fun st => match st with | (x25, x26) => [(1, Value.slice (some ⟨eb19, eo20, none⟩) a1.length sc1), (2, Value.slice sa2 a2.length sc2), (9, Value.pointer (some ⟨bt9_0, 0, none⟩)), (10, Value.int .i64 x13), (11, Value.slice (some ⟨lb23, 0, none⟩) (([IntKind.u8.wrap x13, IntKind.u8.wrap (a1.getD x13.toNat 0)] : List Int)).length 2), (12, Value.int .i64 x26)]) ?_ ?_))
     ·replace HS := HS.fr 2
      obtain ⟨b0_50, b1_50, a2_50, c2_50, d2_50, a3_50, c3_50, d3_50, a4_50, c4_50, a5_50, c5_50, a6_50, c6_50, a7_50, c7_50, hi51, HS⟩ := signalmanlaw15_pair.open HS
      obtain ⟨c52, H⟩ := ite_n H
      by_cases c53 : iand .i64 (a1.getD x13.toNat 0) (1) = 0
      ·replace H := ite_t c53 H
       refine V.dr [11] [12] [(60, Value.pointer (some ⟨bt9_0, 0, none⟩)), (61, Value.slice (some ⟨eb19, eo20, none⟩) a1.length sc1), (62, Value.int .i64 x13), (63, Value.pointer (some ⟨eb19, eo20 + x13.toNat * 1, none⟩)), (64, Value.int .i64 (a1.getD x13.toNat 0)), (65, Value.int .i64 (iand .i64 (a1.getD x13.toNat 0) (1))), (66, Value.pointer (some ⟨bt9_0, 0, none⟩)), (67, Value.pointer (some ⟨bt9_0, 0 + 0, none⟩)), (68, Value.pointer (some ⟨bt9_0, 0 + 0 + 0 * 1, none⟩)), (69, Value.pointer (some ⟨b0_50, 0, none⟩)), (70, Value.slice (some ⟨lb23, 0, none⟩) (([IntKind.u8.wrap x13, IntKind.u8.wrap (a1.getD x13.toNat 0)] : List Int)).length 2)] mo HS ?_
       refine T.ev [(69, _), (70, _)] [] [0, 1, 2, 3, 4, 5, 6, 7, 8, 9, 10] ⟨rfl, rfl, trivial⟩ ⟨.mv 9, .mv 1, .mv 10, .n2 61 62 rfl rfl rfl (fun w HS => X.indexSl Try.underlying34 inf3 rfl rfl c18.1 c18.2), .n1 63 rfl rfl (fun w HS => X.load Try.underlying3 rfl rfl ((rdC.at 13 hr1 HS rfl).cellI c18.1 c18.2)), .n1 64 rfl rfl (fun w HS => X.and rfl rfl), .nc 60, .fa 66 fo59_0, .n2 65 67 rfl rfl rfl (fun w HS => X.indexArK 0 c53 Try.underlying54 inf26 rfl rfl c52.1 c52.2), .ld 68 0 Try.underlying26, .mv 11, trivial⟩ rfl (fun w HS => ?_)
       obtain ⟨t54, A55, H⟩ := bind_s H
       replace HS := HS.pm [1, 0, 2, 3, 4, 5, 6, 7, 8, 9, 10, 11, 12, 13]
       refine ⟨_, Y.cl Try.func34 (arq_Arq_Send.calls A55 HS.j1 (rdC.part 10 row_rd rfl)), ?_⟩
       rintro _ w ⟨rfl, HS⟩
       replace HS := HS.o1
       refine T.nm [(71, Value.int .i64 t54.1), (12, Value.int .i64 t54.1)] HS ⟨.inl ⟨rfl, rfl⟩, ⟨.inr ⟨by decide, rfl⟩, trivial⟩⟩ ?_
       refine T.fn [(1, _), (2, _), (9, _), (10, _), (11, _), (12, _)] ⟨rfl, rfl, rfl, rfl, rfl, rfl, trivial⟩ ⟨.as 71, trivial⟩ (fun w HS => ?_)
       replace HS := HS.pm [1, 0, 2, 3, 4, 5, 6, 7, 8, 9, 10, 11, 12, 13]
       replace HS := signalmanlaw15_pair.close trivial HS
       replace HS := HS.pk [1, 2, 0, 3] []
       exact At.meet (({ a := (t54.2, x14.a.2), way := (x14.way.1, x14.way.2), heard := (x14.heard.1, x14.heard.2), said := (x14.said.1, x14.said.2), downs := x14.downs } : signalmanlaw15_pair), t54.1) ⟨rfl, rfl, rfl, rfl, rfl, rfl, trivial⟩ ⟨HS, kq15, by omega, H⟩
      ·replace H := ite_f c53 H
       have hk56 : iand .i64 (a1.getD x13.toNat 0) (1) = 1 := by omega
       refine V.dr [11] [12] [(60, Value.pointer (some ⟨bt9_0, 0, none⟩)), (61, Value.slice (some ⟨eb19, eo20, none⟩) a1.length sc1), (62, Value.int .i64 x13), (63, Value.pointer (some ⟨eb19, eo20 + x13.toNat * 1, none⟩)), (64, Value.int .i64 (a1.getD x13.toNat 0)), (65, Value.int .i64 (iand .i64 (a1.getD x13.toNat 0) (1))), (66, Value.pointer (some ⟨bt9_0, 0, none⟩)), (67, Value.pointer (some ⟨bt9_0, 0 + 0, none⟩)), (68, Value.pointer (some ⟨bt9_0, 0 + 0 + 1 * 1, none⟩)), (69, Value.pointer (some ⟨b1_50, 0, none⟩)), (70, Value.slice (some ⟨lb23, 0, none⟩) (([IntKind.u8.wrap x13, IntKind.u8.wrap (a1.getD x13.toNat 0)] : List Int)).length 2)] mo HS ?_
       refine T.ev [(69, _), (70, _)] [] [0, 1, 2, 3, 4, 5, 6, 7, 8, 9, 10] ⟨rfl, rfl, trivial⟩ ⟨.mv 9, .mv 1, .mv 10, .n2 61 62 rfl rfl rfl (fun w HS => X.indexSl Try.underlying34 inf3 rfl rfl c18.1 c18.2), .n1 63 rfl rfl (fun w HS => X.load Try.underlying3 rfl rfl ((rdC.at 13 hr1 HS rfl).cellI c18.1 c18.2)), .n1 64 rfl rfl (fun w HS => X.and rfl rfl), .nc 60, .fa 66 fo59_0, .n2 65 67 rfl rfl rfl (fun w HS => X.indexArK 1 hk56 Try.underlying54 inf26 rfl rfl c52.1 c52.2), .ld 68 0 Try.underlying26, .mv 11, trivial⟩ rfl (fun w HS => ?_)
       obtain ⟨t57, A58, H⟩ := bind_s H
       replace HS := HS.pm [2, 0, 1, 3, 4, 5, 6, 7, 8, 9, 10, 11, 12, 13]
       refine ⟨_, Y.cl Try.func34 (arq_Arq_Send.calls A58 HS.j1 (rdC.part 10 row_rd rfl)), ?_⟩
       rintro _ w ⟨rfl, HS⟩
       replace HS := HS.o1
       refine T.nm [(71, Value.int .i64 t57.1), (12, Value.int .i64 t57.1)] HS ⟨.inl ⟨rfl, rfl⟩, ⟨.inr ⟨by decide, rfl⟩, trivial⟩⟩ ?_
       refine T.fn [(1, _), (2, _), (9, _), (10, _), (11, _), (12, _)] ⟨rfl, rfl, rfl, rfl, rfl, rfl, trivial⟩ ⟨.as 71, trivial⟩ (fun w HS => ?_)
       replace HS := HS.pm [1, 2, 0, 3, 4, 5, 6, 7, 8, 9, 10, 11, 12, 13]
       replace HS := signalmanlaw15_pair.close trivial HS
       replace HS := HS.pk [1, 2, 0, 3] []
       exact At.meet (({ a := (x14.a.1, t57.2), way := (x14.way.1, x14.way.2), heard := (x14.heard.1, x14.heard.2), said := (x14.said.1, x14.said.2), downs := x14.downs } : signalmanlaw15_pair), t57.1) ⟨rfl, rfl, rfl, rfl, rfl, rfl, trivial⟩ ⟨HS, kq15, by omega, H⟩
     ·rintro ⟨x25, x26⟩ w ⟨HS, kl29, hkkl29, H⟩
      unfold signalmanlaw15_ArqDelivers.j2 at H
      refine V.seq (V.seq (V.region (W.mv rfl ?_)))
      obtain ⟨t30, A31, H⟩ := bind_s H
      refine W.e (Y.cl Try.func35 (signalmanlaw15_num.calls A31 HS.j0)) rfl ?_
      rintro _ w ⟨rfl, HS⟩
      replace HS := HS.o0
      refine W.r (X.cmp (!(decide (t30 = 0))) rfl rfl rfl rfl) rfl (W.nx ?_)
      by_cases c32 : t30 = 0
      ·replace H := ite_t c32 H
       refine V.condF (sb (n_t (decide_eq_true c32))) (V.skip (At.next ?_))
       replace HS := HS.fr 2
       obtain ⟨b0_33, b1_33, a2_33, c2_33, d2_33, a3_33, c3_33, d3_33, a4_33, c4_33, a5_33, c5_33, a6_33, c6_33, a7_33, c7_33, hi34, HS⟩ := signalmanlaw15_pair.open HS
       obtain ⟨c35, H⟩ := ite_n H
       by_cases c36 : iand .i64 (a1.getD x13.toNat 0) (1) = 0
       ·replace H := ite_t c36 H
        refine V.dr [18, 19, 23] [22] [(75, Value.pointer (some ⟨bt9_0, 0, none⟩)), (76, Value.slice (some ⟨eb19, eo20, none⟩) a1.length sc1), (77, Value.int .i64 x13), (78, Value.pointer (some ⟨eb19, eo20 + x13.toNat * 1, none⟩)), (79, Value.int .i64 (a1.getD x13.toNat 0)), (80, Value.int .i64 (iand .i64 (a1.getD x13.toNat 0) (1))), (81, Value.pointer (some ⟨bt9_0, 0, none⟩)), (82, Value.slice (some ⟨eb19, eo20, none⟩) a1.length sc1), (83, Value.int .i64 x13), (84, Value.pointer (some ⟨eb19, eo20 + x13.toNat * 1, none⟩)), (85, Value.int .i64 (a1.getD x13.toNat 0)), (86, Value.int .i64 (iand .i64 (a1.getD x13.toNat 0) (1))), (87, Value.pointer (some ⟨bt9_0, 0, none⟩)), (88, Value.pointer (some ⟨bt9_0, 0 + 6, none⟩)), (89, Value.pointer (some ⟨bt9_0, 0 + 6 + 0 * 1, none⟩)), (90, Value.slice a6_33 x25.said.1.length c6_33), (91, Value.slice (some ⟨lb23, 0, none⟩) (([IntKind.u8.wrap x13, IntKind.u8.wrap (a1.getD x13.toNat 0)] : List Int)).length 2), (92, Value.string (strOf (([IntKind.u8.wrap x13, IntKind.u8.wrap (a1.getD x13.toNat 0)] : List Int)))), (95, Value.pointer (some ⟨bt9_0, 0, none⟩)), (96, Value.pointer (some ⟨bt9_0, 0 + 6, none⟩))] mo HS ?_
        refine T.ev [(92, _)] [22] [16, 17] ⟨rfl, trivial⟩ ⟨.mv 9, .mv 1, .mv 10, .n2 76 77 rfl rfl rfl (fun w HS => X.indexSl Try.underlying34 inf3 rfl rfl c18.1 c18.2), .n1 78 rfl rfl (fun w HS => X.load Try.underlying3 rfl rfl ((rdC.at 13 hr1 HS rfl).cellI c18.1 c18.2)), .n1 79 rfl rfl (fun w HS => X.and rfl rfl), .mv 9, .mv 1, .mv 10, .n2 82 83 rfl rfl rfl (fun w HS => X.indexSl Try.underlying34 inf3 rfl rfl c18.1 c18.2), .n1 84 rfl rfl (fun w HS => X.load Try.underlying3 rfl rfl ((rdC.at 13 hr1 HS rfl).cellI c18.1 c18.2)), .n1 85 rfl rfl (fun w HS => X.and rfl rfl), .nc 81, .fa 87 fo59_3, .n2 86 88 rfl rfl rfl (fun w HS => X.indexArK 0 c36 Try.underlying57 inf56 rfl rfl c35.1 c35.2), .ld 89 0 Try.underlying56, .mv 11, .n1 91 rfl rfl (fun w HS => X.bytesStr Try.underlying39 Try.underlying5 Try.underlying9 rfl (rdC.at 11 row_rd HS rfl)), .nc 75, .fa 95 fo59_3, trivial⟩ rfl (fun w HS => ?_)
        refine ⟨_, Y.ls (e := 9) (fun x => Value.string (strOf x)) ([([IntKind.u8.wrap x13, IntKind.u8.wrap (a1.getD x13.toNat 0)] : List Int)] : List (List Int)) HS rfl rfl (fun _ => by kernel_rfl), ?_⟩
        rintro _ w ⟨lb39, rfl, HS⟩
        refine T.nw HS ?_
        refine T.ev [(90, _), (93, _)] [] [6, 7, 8, 9, 10, 11, 12, 13, 14, 15] ⟨rfl, rfl, trivial⟩ ⟨.mv 9, .mv 1, .mv 10, .n2 76 77 rfl rfl rfl (fun w HS => X.indexSl Try.underlying34 inf3 rfl rfl c18.1 c18.2), .n1 78 rfl rfl (fun w HS => X.load Try.underlying3 rfl rfl ((rdC.at 14 hr1 HS rfl).cellI c18.1 c18.2)), .n1 79 rfl rfl (fun w HS => X.and rfl rfl), .mv 9, .mv 1, .mv 10, .n2 82 83 rfl rfl rfl (fun w HS => X.indexSl Try.underlying34 inf3 rfl rfl c18.1 c18.2), .n1 84 rfl rfl (fun w HS => X.load Try.underlying3 rfl rfl ((rdC.at 14 hr1 HS rfl).cellI c18.1 c18.2)), .n1 85 rfl rfl (fun w HS => X.and rfl rfl), .nc 81, .fa 87 fo59_3, .n2 86 88 rfl rfl rfl (fun w HS => X.indexArK 0 c36 Try.underlying57 inf56 rfl rfl c35.1 c35.2), .ld 89 1 Try.underlying56, .nc 75, .fa 95 fo59_3, trivial⟩ rfl (fun w HS => ?_)
        obtain ⟨c40, H⟩ := ite_n H
        refine ⟨_, Y.appF (fun x => Value.string (strOf x)) (fun _ => rfl) 10 Try.underlying56 ap9 rfl HS rfl rfl rfl (rdC.at 0 row_rd HS rfl) (by omega) (by omega), ?_⟩
        rintro _ w ⟨ra41, rc42, rfl, HS⟩
        refine T.nm [(94, Value.slice ra41 (x25.said.1 ++ ([([IntKind.u8.wrap x13, IntKind.u8.wrap (a1.getD x13.toNat 0)] : List Int)] : List (List Int))).length rc42), (97, Value.pointer (some ⟨bt9_0, 0 + 6 + 0 * 1, none⟩))] HS ⟨.inl ⟨rfl, rfl⟩, ⟨.inr ⟨by decide, rfl⟩, trivial⟩⟩ ?_
        refine T.ev [(94, _), (97, _)] [] [0, 1, 2, 3, 4, 5, 20, 21, 22] ⟨rfl, rfl, trivial⟩ ⟨.mv 9, .mv 1, .mv 10, .n2 76 77 rfl rfl rfl (fun w HS => X.indexSl Try.underlying34 inf3 rfl rfl c18.1 c18.2), .n1 78 rfl rfl (fun w HS => X.load Try.underlying3 rfl rfl ((rdC.at 14 hr1 HS rfl).cellI c18.1 c18.2)), .n1 79 rfl rfl (fun w HS => X.and rfl rfl), .nc 75, .fa 95 fo59_3, .n2 80 96 rfl rfl rfl (fun w HS => X.indexArK 0 c36 Try.underlying57 inf56 rfl rfl c35.1 c35.2), trivial⟩ rfl (fun w HS => ?_)
        refine ⟨_, Y.sto 1 6 HS inf56 rfl rfl rfl rfl rfl rfl, ?_⟩
        rintro _ w HS
        refine T.nn HS ?_
        refine T.fn [(1, _), (2, _), (9, _), (10, _)] ⟨rfl, rfl, rfl, rfl, trivial⟩ trivial (fun w HS => ?_)
        refine At.blockEnd (At.next (V.region (W.mv rfl (W.r (X.add rfl rfl) rfl (W.as rfl (W.nil ?_))))))
        replace HS := HS.pm [1, 2, 3, 4, 5, 6, 7, 8, 9, 10, 11, 0, 12, 13, 14]
        replace HS := signalmanlaw15_pair.close trivial HS
        replace HS := HS.pk [3, 0, 4] [1, 2]
        exact At.round kl29 (by omega) (w64 (x13 + 1), ({ a := (x25.a.1, x25.a.2), way := (x25.way.1, x25.way.2), heard := (x25.heard.1, x25.heard.2), said := (x25.said.1 ++ ([([IntKind.u8.wrap x13, IntKind.u8.wrap (a1.getD x13.toNat 0)] : List Int)] : List (List Int)), x25.said.2), downs := x25.downs } : signalmanlaw15_pair)) ⟨rfl, rfl, rfl, rfl, trivial⟩ ⟨HS, H, by omega⟩
       ·replace H := ite_f c36 H
        have hk43 : iand .i64 (a1.getD x13.toNat 0) (1) = 1 := by omega
        refine V.dr [18, 19, 23] [22] [(75, Value.pointer (some ⟨bt9_0, 0, none⟩)), (76, Value.slice (some ⟨eb19, eo20, none⟩) a1.length sc1), (77, Value.int .i64 x13), (78, Value.pointer (some ⟨eb19, eo20 + x13.toNat * 1, none⟩)), (79, Value.int .i64 (a1.getD x13.toNat 0)), (80, Value.int .i64 (iand .i64 (a1.getD x13.toNat 0) (1))), (81, Value.pointer (some ⟨bt9_0, 0, none⟩)), (82, Value.slice (some ⟨eb19, eo20, none⟩) a1.length sc1), (83, Value.int .i64 x13), (84, Value.pointer (some ⟨eb19, eo20 + x13.toNat * 1, none⟩)), (85, Value.int .i64 (a1.getD x13.toNat 0)), (86, Value.int .i64 (iand .i64 (a1.getD x13.toNat 0) (1))), (87, Value.pointer (some ⟨bt9_0, 0, none⟩)), (88, Value.pointer (some ⟨bt9_0, 0 + 6, none⟩)), (89, Value.pointer (some ⟨bt9_0, 0 + 6 + 1 * 1, none⟩)), (90, Value.slice a7_33 x25.said.2.length c7_33), (91, Value.slice (some ⟨lb23, 0, none⟩) (([IntKind.u8.wrap x13, IntKind.u8.wrap (a1.getD x13.toNat 0)] : List Int)).length 2), (92, Value.string (strOf (([IntKind.u8.wrap x13, IntKind.u8.wrap (a1.getD x13.toNat 0)] : List Int)))), (95, Value.pointer (some ⟨bt9_0, 0, none⟩)), (96, Value.pointer (some ⟨bt9_0, 0 + 6, none⟩))] mo HS ?_
        refine T.ev [(92, _)] [22] [16, 17] ⟨rfl, trivial⟩ ⟨.mv 9, .mv 1, .mv 10, .n2 76 77 rfl rfl rfl (fun w HS => X.indexSl Try.underlying34 inf3 rfl rfl c18.1 c18.2), .n1 78 rfl rfl (fun w HS => X.load Try.underlying3 rfl rfl ((rdC.at 13 hr1 HS rfl).cellI c18.1 c18.2)), .n1 79 rfl rfl (fun w HS => X.and rfl rfl), .mv 9, .mv 1, .mv 10, .n2 82 83 rfl rfl rfl (fun w HS => X.indexSl Try.underlying34 inf3 rfl rfl c18.1 c18.2), .n1 84 rfl rfl (fun w HS => X.load Try.underlying3 rfl rfl ((rdC.at 13 hr1 HS rfl).cellI c18.1 c18.2)), .n1 85 rfl rfl (fun w HS => X.and rfl rfl), .nc 81, .fa 87 fo59_3, .n2 86 88 rfl rfl rfl (fun w HS => X.indexArK 1 hk43 Try.underlying57 inf56 rfl rfl c35.1 c35.2), .ld 89 0 Try.underlying56, .mv 11, .n1 91 rfl rfl (fun w HS => X.bytesStr Try.underlying39 Try.underlying5 Try.underlying9 rfl (rdC.at 11 row_rd HS rfl)), .nc 75, .fa 95 fo59_3, trivial⟩ rfl (fun w HS => ?_)
        refine ⟨_, Y.ls (e := 9) (fun x => Value.string (strOf x)) ([([IntKind.u8.wrap x13, IntKind.u8.wrap (a1.getD x13.toNat 0)] : List Int)] : List (List Int)) HS rfl rfl (fun _ => by kernel_rfl), ?_⟩
        rintro _ w ⟨lb46, rfl, HS⟩
        refine T.nw HS ?_
        refine T.ev [(90, _), (93, _)] [] [6, 7, 8, 9, 10, 11, 12, 13, 14, 15] ⟨rfl, rfl, trivial⟩ ⟨.mv 9, .mv 1, .mv 10, .n2 76 77 rfl rfl rfl (fun w HS => X.indexSl Try.underlying34 inf3 rfl rfl c18.1 c18.2), .n1 78 rfl rfl (fun w HS => X.load Try.underlying3 rfl rfl ((rdC.at 14 hr1 HS rfl).cellI c18.1 c18.2)), .n1 79 rfl rfl (fun w HS => X.and rfl rfl), .mv 9, .mv 1, .mv 10, .n2 82 83 rfl rfl rfl (fun w HS => X.indexSl Try.underlying34 inf3 rfl rfl c18.1 c18.2), .n1 84 rfl rfl (fun w HS => X.load Try.underlying3 rfl rfl ((rdC.at 14 hr1 HS rfl).cellI c18.1 c18.2)), .n1 85 rfl rfl (fun w HS => X.and rfl rfl), .nc 81, .fa 87 fo59_3, .n2 86 88 rfl rfl rfl (fun w HS => X.indexArK 1 hk43 Try.underlying57 inf56 rfl rfl c35.1 c35.2), .ld 89 1 Try.underlying56, .nc 75, .fa 95 fo59_3, trivial⟩ rfl (fun w HS => ?_)
        obtain ⟨c47, H⟩ := ite_n H
        refine ⟨_, Y.appF (fun x => Value.string (strOf x)) (fun _ => rfl) 11 Try.underlying56 ap9 rfl HS rfl rfl rfl (rdC.at 0 row_rd HS rfl) (by omega) (by omega), ?_⟩
        rintro _ w ⟨ra48, rc49, rfl, HS⟩
        refine T.nm [(94, Value.slice ra48 (x25.said.2 ++ ([([IntKind.u8.wrap x13, IntKind.u8.wrap (a1.getD x13.toNat 0)] : List Int)] : List (List Int))).length rc49), (97, Value.pointer (some ⟨bt9_0, 0 + 6 + 1 * 1, none⟩))] HS ⟨.inl ⟨rfl, rfl⟩, ⟨.inr ⟨by decide, rfl⟩, trivial⟩⟩ ?_
        refine T.ev [(94, _), (97, _)] [] [0, 1, 2, 3, 4, 5, 20, 21, 22] ⟨rfl, rfl, trivial⟩ ⟨.mv 9, .mv 1, .mv 10, .n2 76 77 rfl rfl rfl (fun w HS => X.indexSl Try.underlying34 inf3 rfl rfl c18.1 c18.2), .n1 78 rfl rfl (fun w HS => X.load Try.underlying3 rfl rfl ((rdC.at 14 hr1 HS rfl).cellI c18.1 c18.2)), .n1 79 rfl rfl (fun w HS => X.and rfl rfl), .nc 75, .fa 95 fo59_3, .n2 80 96 rfl rfl rfl (fun w HS => X.indexArK 1 hk43 Try.underlying57 inf56 rfl rfl c35.1 c35.2), trivial⟩ rfl (fun w HS => ?_)
        refine ⟨_, Y.sto 1 7 HS inf56 rfl rfl rfl rfl rfl rfl, ?_⟩
        rintro _ w HS
        refine T.nn HS ?_
        refine T.fn [(1, _), (2, _), (9, _), (10, _)] ⟨rfl, rfl, rfl, rfl, trivial⟩ trivial (fun w HS => ?_)
        refine At.blockEnd (At.next (V.region (W.mv rfl (W.r (X.add rfl rfl) rfl (W.as rfl (W.nil ?_))))))
        replace HS := HS.pm [1, 2, 3, 4, 5, 6, 7, 8, 9, 10, 11, 0, 12, 13, 14]
        replace HS := signalmanlaw15_pair.close trivial HS
        replace HS := HS.pk [3, 0, 4] [1, 2]
        exact At.round kl29 (by omega) (w64 (x13 + 1), ({ a := (x25.a.1, x25.a.2), way := (x25.way.1, x25.way.2), heard := (x25.heard.1, x25.heard.2), said := (x25.said.1, x25.said.2 ++ ([([IntKind.u8.wrap x13, IntKind.u8.wrap (a1.getD x13.toNat 0)] : List Int)] : List (List Int))), downs := x25.downs } : signalmanlaw15_pair)) ⟨rfl, rfl, rfl, rfl, trivial⟩ ⟨HS, H, by omega⟩
      ·replace H := ite_f c32 H
       refine V.condT (sb (n_f (decide_eq_false c32))) (V.seq (V.region (W.as rfl (W.nx (V.ret (At.thenRet (At.blockRet (At.thenRet (At.thenRet (At.blockRet (At.thenRet ?_)))))))))))
       replace HS := HS.pk [3] [0, 1, 2]
       cases H
       exact At.ret1 rfl rfl ⟨_, rfl, rfl, HS⟩
    ·replace H := ite_f c17 H
     refine V.condF (sb (decide_eq_false c17)) (V.exit (At.thenExit (At.thenExit (At.blockExit (At.next (V.seq (V.region (W.mv rfl ?_))))))))
     obtain ⟨t59, A60, H⟩ := bind_s H
     replace HS := HS.pm [1, 0, 2]
     refine W.e (Y.cl Try.func32 (signalmanlaw15_pair_collect.calls A60 HS.j1)) rfl ?_
     rintro _ w ⟨rfl, HS⟩
     replace HS := HS.o1
     refine W.nx (V.seq (V.seq (V.region (W.as rfl (W.nx (V.block (V.loop (σ := Int × signalmanlaw15_pair) (fun kq (st : Int × signalmanlaw15_pair) w => match st with | (x61, x62) => Sep.St [signalmanlaw15_pair.at bt9_0 x62, api_Config.at nb8 ({ t6 with N2 := 100 } : api_Config), R] w0 w ∧ signalmanlaw15_ArqDelivers.l3 kq a2 x61 x62 = some r ∧ kq ≤ kq15) (fun st => match st with | (x61, x62) => [(2, Value.slice sa2 a2.length sc2), (9, Value.pointer (some ⟨bt9_0, 0, none⟩)), (13, Value.int .i64 x61)]) kq15 (0, t59) ⟨rfl, rfl, rfl, trivial⟩ ⟨HS, H, Nat.le_refl _⟩ ?_)))))))
     rintro kq63 ⟨x61, x62⟩ w ⟨HS, H, hk64⟩
     cases kq63 with
     | zero => exact absurd H (by simp [signalmanlaw15_ArqDelivers.l3])
     | succ kq63 =>
      simp only [signalmanlaw15_ArqDelivers.l3] at H
      refine V.seq (V.seq (V.region (W.mv rfl (W.mv rfl (W.r (X.lenSl Try.underlying34 rfl) rfl (W.r (X.cmp (decide (x61 < (a2.length : Int))) rfl rfl rfl rfl) rfl (W.nx ?_)))))))
      by_cases c65 : x61 < (a2.length : Int)
      ·replace H := ite_t c65 H
       refine V.condT (sb (decide_eq_true c65)) (V.skip (At.next (V.seq (V.block (V.seq (V.seq (V.region (W.mv rfl (W.mv rfl ?_)))))))))
       obtain ⟨c66, H⟩ := ite_n H
       obtain ⟨eb67, eo68, hh⟩ := (rdC.at 2 hr2 HS rfl).some (by decide) c66.1 c66.2; subst hh
       refine W.r (X.indexSl Try.underlying34 inf3 rfl rfl c66.1 c66.2) rfl (W.r (X.load Try.underlying3 rfl rfl ((rdC.at 2 hr2 HS rfl).cellI c66.1 c66.2)) rfl (W.r (X.and rfl rfl) rfl (W.r (X.cmp (decide ((iand .i64 (a2.getD x61.toNat 0) (12)) = 0)) rfl rfl rfl rfl) rfl (W.nx ?_))))
       by_cases c69 : (iand .i64 (a2.getD x61.toNat 0) (12)) = 0
       ·replace H := ite_t c69 H
        refine V.condT (sb (decide_eq_true c69)) (V.meet (σ := signalmanlaw15_pair) (fun st w => match st with | x70 => Sep.St [signalmanlaw15_pair.at bt9_0 x70, api_Config.at nb8 ({ t6 with N2 := 100 } : api_Config), R] w0 w ∧ ∃ kf71 kl73, kf71 ≤ kq63 ∧ kl73 ≤ kq63 ∧ signalmanlaw15_ArqDelivers.j4 kf71 a2 x61 (signalmanlaw15_ArqDelivers.l3 kl73 a2) x70 = some r) (fun st => match st with | x70 => [(2, Value.slice (some ⟨eb67, eo68, none⟩) a2.length sc2), (9, Value.pointer (some ⟨bt9_0, 0, none⟩)), (13, Value.int .i64 x61)]) ?_ ?_)
        ·obtain ⟨b0_78, b1_78, a2_78, c2_78, d2_78, a3_78, c3_78, d3_78, a4_78, c4_78, a5_78, c5_78, a6_78, c6_78, a7_78, c7_78, hi79, HS⟩ := signalmanlaw15_pair.open HS
         obtain ⟨c80, H⟩ := ite_n H
         by_cases c81 : iand .i64 (a2.getD x61.toNat 0) (1) = 0
         ·replace H := ite_t c81 H
          refine V.dr [10] [] [(112, Value.pointer (some ⟨bt9_0, 0, none⟩)), (113, Value.slice (some ⟨eb67, eo68, none⟩) a2.length sc2), (114, Value.int .i64 x61), (115, Value.pointer (some ⟨eb67, eo68 + x61.toNat * 1, none⟩)), (116, Value.int .i64 (a2.getD x61.toNat 0)), (117, Value.int .i64 (iand .i64 (a2.getD x61.toNat 0) (1))), (118, Value.pointer (some ⟨bt9_0, 0, none⟩)), (119, Value.pointer (some ⟨bt9_0, 0 + 0, none⟩)), (120, Value.pointer (some ⟨bt9_0, 0 + 0 + 0 * 1, none⟩)), (121, Value.pointer (some ⟨b0_78, 0, none⟩))] mo HS ?_
          refine T.ev [(121, _)] [] [0, 1, 2, 3, 4, 5, 6, 7, 8, 9] ⟨rfl, trivial⟩ ⟨.mv 9, .mv 2, .mv 13, .n2 113 114 rfl rfl rfl (fun w HS => X.indexSl Try.underlying34 inf3 rfl rfl c66.1 c66.2), .n1 115 rfl rfl (fun w HS => X.load Try.underlying3 rfl rfl ((rdC.at 12 hr2 HS rfl).cellI c66.1 c66.2)), .n1 116 rfl rfl (fun w HS => X.and rfl rfl), .nc 112, .fa 118 fo59_0, .n2 117 119 rfl rfl rfl (fun w HS => X.indexArK 0 c81 Try.underlying54 inf26 rfl rfl c80.1 c80.2), .ld 120 0 Try.underlying26, trivial⟩ rfl (fun w HS => ?_)
          obtain ⟨t82, A83, H⟩ := bind_s H
          replace HS := HS.pm [1, 0, 2, 3, 4, 5, 6, 7, 8, 9, 10, 11, 12]
          refine ⟨_, Y.cl Try.func21 (arq_Arq_Pass.calls A83 HS.j1), ?_⟩
          rintro _ w ⟨rfl, HS⟩
          replace HS := HS.o1
          refine T.nw HS ?_
          refine T.fn [(2, _), (9, _), (13, _)] ⟨rfl, rfl, rfl, trivial⟩ trivial (fun w HS => ?_)
          replace HS := HS.pm [1, 0, 2, 3, 4, 5, 6, 7, 8, 9, 10, 11, 12]
          replace HS := signalmanlaw15_pair.close trivial HS
          exact At.meet (({ a := (t82, x62.a.2), way := (x62.way.1, x62.way.2), heard := (x62.heard.1, x62.heard.2), said := (x62.said.1, x62.said.2), downs := x62.downs } : signalmanlaw15_pair)) ⟨rfl, rfl, rfl, trivial⟩ ⟨HS, kq63, kq63, by omega, by omega, H⟩
         ·replace H := ite_f c81 H
          have hk84 : iand .i64 (a2.getD x61.toNat 0) (1) = 1 := by omega
          refine V.dr [10] [] [(112, Value.pointer (some ⟨bt9_0, 0, none⟩)), (113, Value.slice (some ⟨eb67, eo68, none⟩) a2.length sc2), (114, Value.int .i64 x61), (115, Value.pointer (some ⟨eb67, eo68 + x61.toNat * 1, none⟩)), (116, Value.int .i64 (a2.getD x61.toNat 0)), (117, Value.int .i64 (iand .i64 (a2.getD x61.toNat 0) (1))), (118, Value.pointer (some ⟨bt9_0, 0, none⟩)), (119, Value.pointer (some ⟨bt9_0, 0 + 0, none⟩)), (120, Value.pointer (some ⟨bt9_0, 0 + 0 + 1 * 1, none⟩)), (121, Value.pointer (some ⟨b1_78, 0, none⟩))] mo HS ?_
          refine T.ev [(121, _)] [] [0, 1, 2, 3, 4, 5, 6, 7, 8, 9] ⟨rfl, trivial⟩ ⟨.mv 9, .mv 2, .mv 13, .n2 113 114 rfl rfl rfl (fun w HS => X.indexSl Try.underlying34 inf3 rfl rfl c66.1 c66.2), .n1 115 rfl rfl (fun w HS => X.load Try.underlying3 rfl rfl ((rdC.at 12 hr2 HS rfl).cellI c66.1 c66.2)), .n1 116 rfl rfl (fun w HS => X.and rfl rfl), .nc 112, .fa 118 fo59_0, .n2 117 119 rfl rfl rfl (fun w HS => X.indexArK 1 hk84 Try.underlying54 inf26 rfl rfl c80.1 c80.2), .ld 120 0 Try.underlying26, trivial⟩ rfl (fun w HS => ?_)
          obtain ⟨t85, A86, H⟩ := bind_s H
          replace HS := HS.pm [2, 0, 1, 3, 4, 5, 6, 7, 8, 9, 10, 11, 12]
          refine ⟨_, Y.cl Try.func21 (arq_Arq_Pass.calls A86 HS.j1), ?_⟩
          rintro _ w ⟨rfl, HS⟩
          replace HS := HS.o1
          refine T.nw HS ?_
          refine T.fn [(2, _), (9, _), (13, _)] ⟨rfl, rfl, rfl, trivial⟩ trivial (fun w HS => ?_)
          replace HS := HS.pm [1, 2, 0, 3, 4, 5, 6, 7, 8, 9, 10, 11, 12]
          replace HS := signalmanlaw15_pair.close trivial HS
          exact At.meet (({ a := (x62.a.1, t85), way := (x62.way.1, x62.way.2), heard := (x62.heard.1, x62.heard.2), said := (x62.said.1, x62.said.2), downs := x62.downs } : signalmanlaw15_pair)) ⟨rfl, rfl, rfl, trivial⟩ ⟨HS, kq63, kq63, by omega, by omega, H⟩
        ·rintro x70 w ⟨HS, kf71, kl73, hkkf71, hkkl73, H⟩
         unfold signalmanlaw15_ArqDelivers.j4 at H
         refine V.region (W.mv rfl ?_)
         obtain ⟨t74, A75, H⟩ := bind_s H
         refine W.e (Y.cl Try.func32 (signalmanlaw15_pair_collect.calls A75 HS.j1)) rfl ?_
         rintro _ w ⟨rfl, HS⟩
         replace HS := HS.o1
         refine W.nx (V.dr [12] [] [(125, Value.pointer (some ⟨bt9_0, 0, none⟩)), (126, Value.slice (some ⟨eb67, eo68, none⟩) a2.length sc2), (127, Value.int .i64 x61), (128, Value.pointer (some ⟨eb67, eo68 + x61.toNat * 1, none⟩)), (129, Value.int .i64 (a2.getD x61.toNat 0)), (130, Value.int .i64 (iand .i64 (a2.getD x61.toNat 0) (1))), (131, Value.slice (some ⟨eb67, eo68, none⟩) a2.length sc2), (132, Value.int .i64 x61), (133, Value.pointer (some ⟨eb67, eo68 + x61.toNat * 1, none⟩)), (134, Value.int .i64 (a2.getD x61.toNat 0)), (135, Value.int .i64 (iand .i64 (a2.getD x61.toNat 0) (2))), (136, Value.bool (decide ((iand .i64 (a2.getD x61.toNat 0) (2)) = 0)))] mo HS ?_)
         refine T.ev [(125, _), (130, _), (136, _)] [] [0, 1, 2, 3, 4, 5, 6, 7, 8, 9, 10, 11] ⟨rfl, rfl, rfl, trivial⟩ ⟨.mv 9, .mv 2, .mv 13, .n2 126 127 rfl rfl rfl (fun w HS => X.indexSl Try.underlying34 inf3 rfl rfl c66.1 c66.2), .n1 128 rfl rfl (fun w HS => X.load Try.underlying3 rfl rfl ((rdC.at 2 hr2 HS rfl).cellI c66.1 c66.2)), .n1 129 rfl rfl (fun w HS => X.and rfl rfl), .mv 2, .mv 13, .n2 131 132 rfl rfl rfl (fun w HS => X.indexSl Try.underlying34 inf3 rfl rfl c66.1 c66.2), .n1 133 rfl rfl (fun w HS => X.load Try.underlying3 rfl rfl ((rdC.at 2 hr2 HS rfl).cellI c66.1 c66.2)), .n1 134 rfl rfl (fun w HS => X.and rfl rfl), .n1 135 rfl rfl (fun w HS => X.cmp (decide ((iand .i64 (a2.getD x61.toNat 0) (2)) = 0)) rfl rfl rfl rfl), trivial⟩ rfl (fun w HS => ?_)
         obtain ⟨t76, A77, H⟩ := bind_s H
         refine ⟨_, Y.cl Try.func33 (signalmanlaw15_pair_carry.calls A77 HS.j1), ?_⟩
         rintro _ w ⟨rfl, HS⟩
         replace HS := HS.o1
         refine T.nw HS ?_
         refine T.fn [(2, _), (9, _), (13, _)] ⟨rfl, rfl, rfl, trivial⟩ trivial (fun w HS => ?_)
         refine At.blockEnd (At.next (V.region (W.mv rfl (W.r (X.add rfl rfl) rfl (W.as rfl (W.nil ?_))))))
         exact At.round kl73 (by omega) (w64 (x61 + 1), t76) ⟨rfl, rfl, rfl, trivial⟩ ⟨HS, H, by omega⟩
       ·replace H := ite_f c69 H
        refine V.condF (sb (decide_eq_false c69)) (V.skip (At.next (V.dr [12] [] [(125, Value.pointer (some ⟨bt9_0, 0, none⟩)), (126, Value.slice (some ⟨eb67, eo68, none⟩) a2.length sc2), (127, Value.int .i64 x61), (128, Value.pointer (some ⟨eb67, eo68 + x61.toNat * 1, none⟩)), (129, Value.int .i64 (a2.getD x61.toNat 0)), (130, Value.int .i64 (iand .i64 (a2.getD x61.toNat 0) (1))), (131, Value.slice (some ⟨eb67, eo68, none⟩) a2.length sc2), (132, Value.int .i64 x61), (133, Value.pointer (some ⟨eb67, eo68 + x61.toNat * 1, none⟩)), (134, Value.int .i64 (a2.getD x61.toNat 0)), (135, Value.int .i64 (iand .i64 (a2.getD x61.toNat 0) (2))), (136, Value.bool (decide ((iand .i64 (a2.getD x61.toNat 0) (2)) = 0)))] mo HS ?_)))
        refine T.ev [(125, _), (130, _), (136, _)] [] [0, 1, 2, 3, 4, 5, 6, 7, 8, 9, 10, 11] ⟨rfl, rfl, rfl, trivial⟩ ⟨.mv 9, .mv 2, .mv 13, .n2 126 127 rfl rfl rfl (fun w HS => X.indexSl Try.underlying34 inf3 rfl rfl c66.1 c66.2), .n1 128 rfl rfl (fun w HS => X.load Try.underlying3 rfl rfl ((rdC.at 2 hr2 HS rfl).cellI c66.1 c66.2)), .n1 129 rfl rfl (fun w HS => X.and rfl rfl), .mv 2, .mv 13, .n2 131 132 rfl rfl rfl (fun w HS => X.indexSl Try.underlying34 inf3 rfl rfl c66.1 c66.2), .n1 133 rfl rfl (fun w HS => X.load Try.underlying3 rfl rfl ((rdC.at 2 hr2 HS rfl).cellI c66.1 c66.2)), .n1 134 rfl rfl (fun w HS => X.and rfl rfl), .n1 135 rfl rfl (fun w HS => X.cmp (decide ((iand .i64 (a2.getD x61.toNat 0) (2)) = 0)) rfl rfl rfl rfl), trivial⟩ rfl (fun w HS => ?_)
        obtain ⟨t87, A88, H⟩ := bind_s H
        refine ⟨_, Y.cl Try.func33 (signalmanlaw15_pair_carry.calls A88 HS.j1), ?_⟩
        rintro _ w ⟨rfl, HS⟩
        replace HS := HS.o1
        refine T.nw HS ?_
        refine T.fn [(2, _), (9, _), (13, _)] ⟨rfl, rfl, rfl, trivial⟩ trivial (fun w HS => ?_)
        refine At.blockEnd (At.next (V.region (W.mv rfl (W.r (X.add rfl rfl) rfl (W.as rfl (W.nil ?_))))))
        exact At.round kq63 (by omega) (w64 (x61 + 1), t87) ⟨rfl, rfl, rfl, trivial⟩ ⟨HS, H, by omega⟩
      ·replace H := ite_f c65 H
       refine V.condF (sb (decide_eq_false c65)) (V.exit (At.thenExit (At.thenExit (At.blockExit (At.next (V.seq (V.seq (V.region (W.as rfl (W.nx (V.block (V.loop (σ := Int × signalmanlaw15_pair) (fun kq (st : Int × signalmanlaw15_pair) w => match st with | (x89, x90) => Sep.St [signalmanlaw15_pair.at bt9_0 x90, api_Config.at nb8 ({ t6 with N2 := 100 } : api_Config), R] w0 w ∧ signalmanlaw15_ArqDelivers.l5 kq x89 x90 = some r ∧ kq ≤ kq63) (fun st => match st with | (x89, x90) => [(9, Value.pointer (some ⟨bt9_0, 0, none⟩)), (14, Value.int .i64 x89)]) kq63 (0, x62) ⟨rfl, rfl, trivial⟩ ⟨HS, H, Nat.le_refl _⟩ ?_))))))))))))
       rintro kq91 ⟨x89, x90⟩ w ⟨HS, H, hk92⟩
       cases kq91 with
       | zero => exact absurd H (by simp [signalmanlaw15_ArqDelivers.l5])
       | succ kq91 =>
        simp only [signalmanlaw15_ArqDelivers.l5] at H
        refine V.seq (V.seq (V.region (W.mv rfl (W.r (X.cmp (decide (x89 < 3000)) rfl rfl rfl rfl) rfl (W.nx ?_)))))
        by_cases c93 : x89 < 3000
        ·replace H := ite_t c93 H
         refine V.condT (sb (decide_eq_true c93)) (V.skip (At.next (V.seq (V.block (V.seq (V.region (W.mv rfl ?_)))))))
         obtain ⟨t94, A95, H⟩ := bind_s H
         refine W.e (Y.cl Try.func33 (signalmanlaw15_pair_carry.calls A95 HS.j1)) rfl ?_
         rintro _ w ⟨rfl, HS⟩
         replace HS := HS.o1
         refine W.nx (V.seq (V.region (W.mv rfl ?_)))
         obtain ⟨t96, A97, H⟩ := bind_s H
         refine W.e (Y.cl Try.func33 (signalmanlaw15_pair_carry.calls A97 HS.j1)) rfl ?_
         rintro _ w ⟨rfl, HS⟩
         replace HS := HS.o1
         refine W.nx (V.seq (V.region (W.mv rfl (W.r (X.rem rfl rfl (by decide)) rfl (W.r (X.cmp (decide ((x89.tmod (20)) = 19)) rfl rfl rfl rfl) rfl (W.nx ?_))))))
         by_cases c98 : (x89.tmod (20)) = 19
         ·replace H := ite_t c98 H
          refine V.condT (sb (decide_eq_true c98)) (V.seq (V.region (W.mv rfl (W.nc rfl ?_))))
          obtain ⟨b0_99, b1_99, a2_99, c2_99, d2_99, a3_99, c3_99, d3_99, a4_99, c4_99, a5_99, c5_99, a6_99, c6_99, a7_99, c7_99, hi100, HS⟩ := signalmanlaw15_pair.open HS
          refine W.fa fo59_0 rfl (W.r (X.indexArK 0 rfl Try.underlying54 inf26 rfl rfl (by decide) (by decide)) rfl (W.ld 0 HS Try.underlying26 rfl rfl rfl rfl ?_))
          obtain ⟨t101, A102, H⟩ := bind_s H
          replace HS := HS.pm [1, 0, 2, 3, 4, 5, 6, 7, 8, 9, 10, 11, 12]
          refine W.e (Y.cl Try.func21 (arq_Arq_Pass.calls A102 HS.j1)) rfl ?_
          rintro _ w ⟨rfl, HS⟩
          replace HS := HS.o1
          refine W.nx (V.seq (V.region (W.mv rfl (W.nc rfl (W.fa fo59_0 rfl (W.r (X.indexArK 1 rfl Try.underlying54 inf26 rfl rfl (by decide) (by decide)) rfl (W.ld 1 HS Try.underlying26 rfl rfl rfl rfl ?_)))))))
          obtain ⟨t113, A114, H⟩ := bind_s H
          replace HS := HS.pm [2, 0, 1, 3, 4, 5, 6, 7, 8, 9, 10, 11, 12]
          refine W.e (Y.cl Try.func21 (arq_Arq_Pass.calls A114 HS.j1)) rfl ?_
          rintro _ w ⟨rfl, HS⟩
          replace HS := HS.o1
          refine W.nx (V.region (W.mv rfl ?_))
          replace HS := HS.pm [2, 1, 0, 3, 4, 5, 6, 7, 8, 9, 10, 11, 12]
          replace HS := signalmanlaw15_pair.close trivial HS
          obtain ⟨t115, A116, H⟩ := bind_s H
          refine W.e (Y.cl Try.func32 (signalmanlaw15_pair_collect.calls A116 HS.j1)) rfl ?_
          rintro _ w ⟨rfl, HS⟩
          replace HS := HS.o1
          refine W.nil (At.blockEnd (At.next (V.region (W.mv rfl (W.r (X.add rfl rfl) rfl (W.as rfl (W.nil ?_)))))))
          exact At.round kq91 (by omega) (w64 (x89 + 1), t115) ⟨rfl, rfl, trivial⟩ ⟨HS, H, by omega⟩
         ·replace H := ite_f c98 H
          refine V.condF (sb (decide_eq_false c98)) (V.skip (At.blockEnd (At.next (V.region (W.mv rfl (W.r (X.add rfl rfl) rfl (W.as rfl (W.nil ?_))))))))
          exact At.round kq91 (by omega) (w64 (x89 + 1), t96) ⟨rfl, rfl, trivial⟩ ⟨HS, H, by omega⟩
        ·replace H := ite_f c93 H
         refine V.condF (sb (decide_eq_false c93)) (V.exit (At.thenExit (At.thenExit (At.blockExit (At.next (V.seq (V.seq (V.region (W.as rfl (W.nx (V.block (V.loop (σ := Int) (fun kq (st : Int) w => match st with | x117 => Sep.St [signalmanlaw15_pair.at bt9_0 x90, api_Config.at nb8 ({ t6 with N2 := 100 } : api_Config), R] w0 w ∧ signalmanlaw15_ArqDelivers.l6 kq x90 x117 = some r ∧ kq ≤ kq91) (fun st => match st with | x117 => [(9, Value.pointer (some ⟨bt9_0, 0, none⟩)), (15, Value.int .i64 x117)]) kq91 (0) ⟨rfl, rfl, trivial⟩ ⟨HS, H, Nat.le_refl _⟩ ?_))))))))))))
         rintro kq118 x117 w ⟨HS, H, hk119⟩
         cases kq118 with
         | zero => exact absurd H (by simp [signalmanlaw15_ArqDelivers.l6])
         | succ kq118 =>
          simp only [signalmanlaw15_ArqDelivers.l6] at H
          refine V.seq (V.seq (V.region (W.mv rfl (W.r (X.cmp (decide (x117 < 2)) rfl rfl rfl rfl) rfl (W.nx ?_)))))
          by_cases c120 : x117 < 2
          ·replace H := ite_t c120 H
           refine V.condT (sb (decide_eq_true c120)) (V.skip (At.next (V.seq (V.block (V.meet (σ := Int × Int × Int) (fun st w => match st with | (x121, x122, x123) => Sep.St [signalmanlaw15_pair.at bt9_0 x90, api_Config.at nb8 ({ t6 with N2 := 100 } : api_Config), R] w0 w ∧ ∃ kf124 kl126, kf124 ≤ kq118 ∧ kl126 ≤ kq118 ∧ signalmanlaw15_ArqDelivers.j7 kf124 x90 x117 (signalmanlaw15_ArqDelivers.l6 kl126 x90) x121 x122 x123 = some r) (fun st => match st with | (x121, x122, x123) => [(9, Value.pointer (some ⟨bt9_0, 0, none⟩)), (15, Value.int .i64 x117), (16, Value.int .i64 x121), (17, Value.int .i64 x122), (18, Value.int .i64 x123)]) ?_ ?_)))))
           ·refine V.region (W.mv rfl (W.mv rfl (W.nc rfl ?_)))
            obtain ⟨b0_151, b1_151, a2_151, c2_151, d2_151, a3_151, c3_151, d3_151, a4_151, c4_151, a5_151, c5_151, a6_151, c6_151, a7_151, c7_151, hi152, HS⟩ := signalmanlaw15_pair.open HS
            refine W.fa fo59_0 rfl ?_
            obtain ⟨c153, H⟩ := ite_n H
            by_cases c154 : x117 = 0
            ·replace H := ite_t c154 H
             refine W.r (X.indexArK 0 c154 Try.underlying54 inf26 rfl rfl c153.1 c153.2) rfl (W.ld 0 HS Try.underlying26 rfl rfl rfl rfl ?_)
             replace HS := HS.fr 1
             obtain ⟨b8_155, b9_155, b10_155, a11_155, c11_155, d11_155, a12_155, c12_155, hi156, HS⟩ := arq_Arq.open HS
             obtain ⟨t157, A158, H⟩ := bind_s H
             refine W.e (Y.cl Try.func37 (arq_Arq_Counts.calls A158 HS.j7)) rfl ?_
             rintro _ w ⟨rfl, HS⟩
             replace HS := HS.o7
             refine W.mv rfl (W.r (X.extract rfl rfl) rfl (W.r (X.extract rfl rfl) rfl (W.r (X.extract rfl rfl) rfl (W.as rfl (W.as rfl (W.as rfl (W.nil ?_)))))))
             replace HS := arq_Arq.close trivial HS
             replace HS := HS.pm [1, 0, 2, 3, 4, 5, 6, 7, 8, 9, 10, 11, 12]
             replace HS := signalmanlaw15_pair.close trivial HS
             exact At.meet (t157.1, t157.2.1, t157.2.2) ⟨rfl, rfl, rfl, rfl, rfl, trivial⟩ ⟨HS, kq118, kq118, by omega, by omega, H⟩
            ·replace H := ite_f c154 H
             have hk159 : x117 = 1 := by omega
             refine W.r (X.indexArK 1 hk159 Try.underlying54 inf26 rfl rfl c153.1 c153.2) rfl (W.ld 0 HS Try.underlying26 rfl rfl rfl rfl ?_)
             replace HS := HS.fr 2
             obtain ⟨b8_160, b9_160, b10_160, a11_160, c11_160, d11_160, a12_160, c12_160, hi161, HS⟩ := arq_Arq.open HS
             obtain ⟨t162, A163, H⟩ := bind_s H
             refine W.e (Y.cl Try.func37 (arq_Arq_Counts.calls A163 HS.j7)) rfl ?_
             rintro _ w ⟨rfl, HS⟩
             replace HS := HS.o7
             refine W.mv rfl (W.r (X.extract rfl rfl) rfl (W.r (X.extract rfl rfl) rfl (W.r (X.extract rfl rfl) rfl (W.as rfl (W.as rfl (W.as rfl (W.nil ?_)))))))
             replace HS := arq_Arq.close trivial HS
             replace HS := HS.pm [1, 2, 0, 3, 4, 5, 6, 7, 8, 9, 10, 11, 12]
             replace HS := signalmanlaw15_pair.close trivial HS
             exact At.meet (t162.1, t162.2.1, t162.2.2) ⟨rfl, rfl, rfl, rfl, rfl, trivial⟩ ⟨HS, kq118, kq118, by omega, by omega, H⟩
           ·rintro ⟨x121, x122, x123⟩ w ⟨HS, kf124, kl126, hkkf124, hkkl126, H⟩
            unfold signalmanlaw15_ArqDelivers.j7 at H
            refine V.meet (σ := Bool) (fun st w => match st with | x127 => Sep.St [signalmanlaw15_pair.at bt9_0 x90, api_Config.at nb8 ({ t6 with N2 := 100 } : api_Config), R] w0 w ∧ ∃ kl130, kl130 ≤ kl126 ∧ signalmanlaw15_ArqDelivers.j8 x117 (signalmanlaw15_ArqDelivers.l6 kl130 x90) x127 = some r) (fun st => match st with | x127 => [(9, Value.pointer (some ⟨bt9_0, 0, none⟩)), (15, Value.int .i64 x117), (224, Value.bool x127)]) ?_ ?_
            ·obtain ⟨b0_132, b1_132, a2_132, c2_132, d2_132, a3_132, c3_132, d3_132, a4_132, c4_132, a5_132, c5_132, a6_132, c6_132, a7_132, c7_132, hi133, HS⟩ := signalmanlaw15_pair.open HS
             obtain ⟨c134, H⟩ := ite_n H
             by_cases c135 : x117 = 0
             ·replace H := ite_t c135 H
              by_cases c136 : x121 = (x90.said.1.length : Int)
              ·replace H := ite_t c136 H
               by_cases c137 : x122 = x121
               ·replace H := ite_t c137 H
                by_cases c138 : x123 = 0
                ·replace H := ite_t c138 H
                 obtain ⟨c139, H⟩ := ite_n H
                 by_cases c140 : (x90.heard.2.length : Int) = x121
                 ·replace H := ite_t c140 H
                  refine V.dr [44] [45, 46] [(178, Value.int .i64 x121), (179, Value.pointer (some ⟨bt9_0, 0, none⟩)), (180, Value.int .i64 x117), (181, Value.pointer (some ⟨bt9_0, 0, none⟩)), (182, Value.pointer (some ⟨bt9_0, 0 + 6, none⟩)), (183, Value.pointer (some ⟨bt9_0, 0 + 6 + 0 * 1, none⟩)), (184, Value.slice a6_132 x90.said.1.length c6_132), (185, Value.int .i64 (x90.said.1.length : Int)), (186, Value.bool (!(decide (x121 = (x90.said.1.length : Int))))), (187, Value.bool (!(decide (x121 = (x90.said.1.length : Int))))), (188, Value.int .i64 x122), (189, Value.int .i64 x121), (190, Value.bool (!(decide (x122 = x121)))), (191, Value.bool (!(decide (x122 = x121)))), (192, Value.bool (!(decide (x122 = x121)))), (193, Value.int .i64 x123), (194, Value.bool (!(decide (x123 = 0)))), (195, Value.bool (!(decide (x123 = 0)))), (196, Value.bool (!(decide (x123 = 0)))), (197, Value.pointer (some ⟨bt9_0, 0, none⟩)), (198, Value.int .i64 x117), (199, Value.int .i64 (w64 (1 - x117))), (200, Value.pointer (some ⟨bt9_0, 0, none⟩)), (201, Value.pointer (some ⟨bt9_0, 0 + 4, none⟩)), (202, Value.pointer (some ⟨bt9_0, 0 + 4 + 1 * 1, none⟩)), (203, Value.slice a5_132 x90.heard.2.length c5_132), (204, Value.int .i64 (x90.heard.2.length : Int)), (205, Value.int .i64 x121), (206, Value.bool (!(decide ((x90.heard.2.length : Int) = x121)))), (207, Value.bool (!(decide ((x90.heard.2.length : Int) = x121)))), (208, Value.bool (!(decide ((x90.heard.2.length : Int) = x121)))), (209, Value.pointer (some ⟨bt9_0, 0, none⟩)), (210, Value.int .i64 x117), (211, Value.int .i64 (w64 (1 - x117))), (212, Value.pointer (some ⟨bt9_0, 0, none⟩)), (213, Value.pointer (some ⟨bt9_0, 0 + 4, none⟩)), (214, Value.pointer (some ⟨bt9_0, 0 + 4 + 1 * 1, none⟩)), (215, Value.slice a5_132 x90.heard.2.length c5_132), (216, Value.pointer (some ⟨bt9_0, 0, none⟩)), (217, Value.int .i64 x117), (218, Value.pointer (some ⟨bt9_0, 0, none⟩)), (219, Value.pointer (some ⟨bt9_0, 0 + 6, none⟩)), (220, Value.pointer (some ⟨bt9_0, 0 + 6 + 0 * 1, none⟩)), (221, Value.slice a6_132 x90.said.1.length c6_132)] mo HS ?_
                  refine T.evG [(215, _), (221, _), (208, _)] [] [0, 1, 2, 3, 4, 5, 6, 7, 8, 9, 10, 11, 12, 13, 14, 15, 16, 17, 18, 19, 20, 21, 22, 23, 24, 25, 26, 27, 28, 29, 30, 31, 32, 33, 34, 35, 36, 37, 38, 39, 40, 41, 42, 43] ⟨rfl, rfl, rfl, trivial⟩ ⟨.mv 16, .mv 9, .mv 15, .nc 179, .fa 181 fo59_3, .n2 180 182 rfl rfl rfl (fun w HS => X.indexArK 0 c135 Try.underlying57 inf56 rfl rfl c134.1 c134.2), .ld 183 0 Try.underlying56, .n1 184 rfl rfl (fun w HS => X.lenSl Try.underlying56 rfl), .n2 178 185 rfl rfl rfl (fun w HS => X.cmp (!(decide (x121 = (x90.said.1.length : Int)))) rfl rfl rfl rfl), .mv 186, .gw [(17, _), (187, _)] 9 false 187 ⟨rfl, rfl, trivial⟩ rfl (sb (n_t (decide_eq_true c136))) (fun w HS => X.move rfl), .gw [(16, _), (187, _)] 9 false 187 ⟨rfl, rfl, trivial⟩ rfl (sb (n_t (decide_eq_true c136))) (fun w HS => X.move rfl), .gw [(188, _), (189, _), (187, _)] 9 false 187 ⟨rfl, rfl, rfl, trivial⟩ rfl (sb (n_t (decide_eq_true c136))) (fun w HS => X.cmp (!(decide (x122 = x121))) rfl rfl rfl rfl), .n2 187 190 rfl rfl rfl (fun w HS => X.pickF (sb (n_t (decide_eq_true c136))) rfl), .mv 191, .gw [(18, _), (192, _)] 14 false 192 ⟨rfl, rfl, trivial⟩ rfl (sb (n_t (decide_eq_true c137))) (fun w HS => X.move rfl), .gw [(193, _), (192, _)] 14 false 192 ⟨rfl, rfl, trivial⟩ rfl (sb (n_t (decide_eq_true c137))) (fun w HS => X.cmp (!(decide (x123 = 0))) rfl rfl rfl rfl), .n2 192 194 rfl rfl rfl (fun w HS => X.pickF (sb (n_t (decide_eq_true c137))) rfl), .mv 195, .gw [(9, _), (196, _)] 18 false 196 ⟨rfl, rfl, trivial⟩ rfl (sb (n_t (decide_eq_true c138))) (fun w HS => X.move rfl), .gw [(15, _), (196, _)] 18 false 196 ⟨rfl, rfl, trivial⟩ rfl (sb (n_t (decide_eq_true c138))) (fun w HS => X.move rfl), .gw [(198, _), (196, _)] 18 false 196 ⟨rfl, rfl, trivial⟩ rfl (sb (n_t (decide_eq_true c138))) (fun w HS => X.sub rfl rfl), .gw [(197, _), (196, _)] 18 false 196 ⟨rfl, rfl, trivial⟩ rfl (sb (n_t (decide_eq_true c138))) (fun w HS => X.nilCheck rfl), .gw [(200, _), (196, _)] 18 false 196 ⟨rfl, rfl, trivial⟩ rfl (sb (n_t (decide_eq_true c138))) (fun w HS => X.fieldAddr 4 fo59_2 rfl), .gw [(199, _), (201, _), (196, _)] 18 false 196 ⟨rfl, rfl, rfl, trivial⟩ rfl (sb (n_t (decide_eq_true c138))) (fun w HS => X.indexArK 1 (by rw [c135]; decide) Try.underlying57 inf56 rfl rfl c139.1 c139.2), .gw [(202, _), (196, _)] 18 false 196 ⟨rfl, rfl, trivial⟩ rfl (sb (n_t (decide_eq_true c138))) (fun w HS => X.loadAt 0 HS rfl Try.underlying56 rfl rfl rfl), .gw [(203, _), (196, _)] 18 false 196 ⟨rfl, rfl, trivial⟩ rfl (sb (n_t (decide_eq_true c138))) (fun w HS => X.lenSl Try.underlying56 rfl), .gw [(16, _), (196, _)] 18 false 196 ⟨rfl, rfl, trivial⟩ rfl (sb (n_t (decide_eq_true c138))) (fun w HS => X.move rfl), .gw [(204, _), (205, _), (196, _)] 18 false 196 ⟨rfl, rfl, rfl, trivial⟩ rfl (sb (n_t (decide_eq_true c138))) (fun w HS => X.cmp (!(decide ((x90.heard.2.length : Int) = x121))) rfl rfl rfl rfl), .n2 196 206 rfl rfl rfl (fun w HS => X.pickF (sb (n_t (decide_eq_true c138))) rfl), .mv 207, .gw [(9, _), (208, _)] 30 false 208 ⟨rfl, rfl, trivial⟩ rfl (sb (n_t (decide_eq_true c140))) (fun w HS => X.move rfl), .gw [(15, _), (208, _)] 30 false 208 ⟨rfl, rfl, trivial⟩ rfl (sb (n_t (decide_eq_true c140))) (fun w HS => X.move rfl), .gw [(210, _), (208, _)] 30 false 208 ⟨rfl, rfl, trivial⟩ rfl (sb (n_t (decide_eq_true c140))) (fun w HS => X.sub rfl rfl), .gw [(209, _), (208, _)] 30 false 208 ⟨rfl, rfl, trivial⟩ rfl (sb (n_t (decide_eq_true c140))) (fun w HS => X.nilCheck rfl), .gw [(212, _), (208, _)] 30 false 208 ⟨rfl, rfl, trivial⟩ rfl (sb (n_t (decide_eq_true c140))) (fun w HS => X.fieldAddr 4 fo59_2 rfl), .gw [(211, _), (213, _), (208, _)] 30 false 208 ⟨rfl, rfl, rfl, trivial⟩ rfl (sb (n_t (decide_eq_true c140))) (fun w HS => X.indexArK 1 (by rw [c135]; decide) Try.underlying57 inf56 rfl rfl c139.1 c139.2), .gw [(214, _), (208, _)] 30 false 208 ⟨rfl, rfl, trivial⟩ rfl (sb (n_t (decide_eq_true c140))) (fun w HS => X.loadAt 0 HS rfl Try.underlying56 rfl rfl rfl), .gw [(9, _), (208, _)] 30 false 208 ⟨rfl, rfl, trivial⟩ rfl (sb (n_t (decide_eq_true c140))) (fun w HS => X.move rfl), .gw [(15, _), (208, _)] 30 false 208 ⟨rfl, rfl, trivial⟩ rfl (sb (n_t (decide_eq_true c140))) (fun w HS => X.move rfl), .gw [(216, _), (208, _)] 30 false 208 ⟨rfl, rfl, trivial⟩ rfl (sb (n_t (decide_eq_true c140))) (fun w HS => X.nilCheck rfl), .gw [(218, _), (208, _)] 30 false 208 ⟨rfl, rfl, trivial⟩ rfl (sb (n_t (decide_eq_true c140))) (fun w HS => X.fieldAddr 6 fo59_3 rfl), .gw [(217, _), (219, _), (208, _)] 30 false 208 ⟨rfl, rfl, rfl, trivial⟩ rfl (sb (n_t (decide_eq_true c140))) (fun w HS => X.indexArK 0 c135 Try.underlying57 inf56 rfl rfl c134.1 c134.2), .gw [(220, _), (208, _)] 30 false 208 ⟨rfl, rfl, trivial⟩ rfl (sb (n_t (decide_eq_true c140))) (fun w HS => X.loadAt 0 HS rfl Try.underlying56 rfl rfl rfl), trivial⟩ rfl (Or.inr ⟨30, false, 208, rfl, rfl, (sb (n_t (decide_eq_true c140)))⟩) (fun w HS => ?_)
                  obtain ⟨t141, A142, H⟩ := bind_s H
                  refine ⟨_, Y.cl Try.func40 (signalmanlaw15_prefix.calls A142 HS.j0 (rdC.part 8 row_rd rfl) (rdC.part 9 row_rd rfl)), ?_⟩
                  rintro _ w ⟨rfl, HS⟩
                  replace HS := HS.o0
                  refine T.nm [(222, Value.bool t141), (223, Value.bool (!t141)), (224, Value.bool (!t141))] HS ⟨.inl ⟨rfl, rfl⟩, ⟨.inr ⟨by decide, rfl⟩, ⟨.inr ⟨by decide, rfl⟩, trivial⟩⟩⟩ ?_
                  refine T.fn [(9, _), (15, _), (224, _)] ⟨rfl, rfl, rfl, trivial⟩ ⟨.gw [(222, _), (208, _)] 30 false 208 ⟨rfl, rfl, trivial⟩ rfl (sb (n_t (decide_eq_true c140))) (fun w HS => X.not rfl), .n2 208 223 rfl rfl rfl (fun w HS => X.pickF (sb (n_t (decide_eq_true c140))) rfl), trivial⟩ (fun w HS => ?_)
                  replace HS := signalmanlaw15_pair.close trivial HS
                  exact At.meet (!t141) ⟨rfl, rfl, rfl, trivial⟩ ⟨HS, kl126, by omega, H⟩
                 ·replace H := ite_f c140 H
                  refine V.dr [44] [45, 46] [(178, Value.int .i64 x121), (179, Value.pointer (some ⟨bt9_0, 0, none⟩)), (180, Value.int .i64 x117), (181, Value.pointer (some ⟨bt9_0, 0, none⟩)), (182, Value.pointer (some ⟨bt9_0, 0 + 6, none⟩)), (183, Value.pointer (some ⟨bt9_0, 0 + 6 + 0 * 1, none⟩)), (184, Value.slice a6_132 x90.said.1.length c6_132), (185, Value.int .i64 (x90.said.1.length : Int)), (186, Value.bool (!(decide (x121 = (x90.said.1.length : Int))))), (187, Value.bool (!(decide (x121 = (x90.said.1.length : Int))))), (188, Value.int .i64 x122), (189, Value.int .i64 x121), (190, Value.bool (!(decide (x122 = x121)))), (191, Value.bool (!(decide (x122 = x121)))), (192, Value.bool (!(decide (x122 = x121)))), (193, Value.int .i64 x123), (194, Value.bool (!(decide (x123 = 0)))), (195, Value.bool (!(decide (x123 = 0)))), (196, Value.bool (!(decide (x123 = 0)))), (197, Value.pointer (some ⟨bt9_0, 0, none⟩)), (198, Value.int .i64 x117), (199, Value.int .i64 (w64 (1 - x117))), (200, Value.pointer (some ⟨bt9_0, 0, none⟩)), (201, Value.pointer (some ⟨bt9_0, 0 + 4, none⟩)), (202, Value.pointer (some ⟨bt9_0, 0 + 4 + 1 * 1, none⟩)), (203, Value.slice a5_132 x90.heard.2.length c5_132), (204, Value.int .i64 (x90.heard.2.length : Int)), (205, Value.int .i64 x121), (206, Value.bool (!(decide ((x90.heard.2.length : Int) = x121)))), (207, Value.bool (!(decide ((x90.heard.2.length : Int) = x121)))), (208, Value.bool (!(decide ((x90.heard.2.length : Int) = x121)))), (209, undef), (210, undef), (211, undef), (212, undef), (213, undef), (214, undef), (215, undef), (216, undef), (217, undef), (218, undef), (219, undef), (220, undef), (221, undef)] mo HS ?_
                  refine T.drop (es' := []) (bl' := []) [(222, undef), (223, undef), (224, Value.bool true)] rfl ⟨.inr ⟨by decide, rfl⟩, ⟨.inr ⟨by decide, rfl⟩, ⟨.inr ⟨by decide, rfl⟩, trivial⟩⟩⟩ ?_
                  refine T.fn [(9, _), (15, _), (224, _)] ⟨rfl, rfl, rfl, trivial⟩ ⟨.mv 16, .mv 9, .mv 15, .nc 179, .fa 181 fo59_3, .n2 180 182 rfl rfl rfl (fun w HS => X.indexArK 0 c135 Try.underlying57 inf56 rfl rfl c134.1 c134.2), .ld 183 0 Try.underlying56, .n1 184 rfl rfl (fun w HS => X.lenSl Try.underlying56 rfl), .n2 178 185 rfl rfl rfl (fun w HS => X.cmp (!(decide (x121 = (x90.said.1.length : Int)))) rfl rfl rfl rfl), .mv 186, .gw [(17, _), (187, _)] 9 false 187 ⟨rfl, rfl, trivial⟩ rfl (sb (n_t (decide_eq_true c136))) (fun w HS => X.move rfl), .gw [(16, _), (187, _)] 9 false 187 ⟨rfl, rfl, trivial⟩ rfl (sb (n_t (decide_eq_true c136))) (fun w HS => X.move rfl), .gw [(188, _), (189, _), (187, _)] 9 false 187 ⟨rfl, rfl, rfl, trivial⟩ rfl (sb (n_t (decide_eq_true c136))) (fun w HS => X.cmp (!(decide (x122 = x121))) rfl rfl rfl rfl), .n2 187 190 rfl rfl rfl (fun w HS => X.pickF (sb (n_t (decide_eq_true c136))) rfl), .mv 191, .gw [(18, _), (192, _)] 14 false 192 ⟨rfl, rfl, trivial⟩ rfl (sb (n_t (decide_eq_true c137))) (fun w HS => X.move rfl), .gw [(193, _), (192, _)] 14 false 192 ⟨rfl, rfl, trivial⟩ rfl (sb (n_t (decide_eq_true c137))) (fun w HS => X.cmp (!(decide (x123 = 0))) rfl rfl rfl rfl), .n2 192 194 rfl rfl rfl (fun w HS => X.pickF (sb (n_t (decide_eq_true c137))) rfl), .mv 195, .gw [(9, _), (196, _)] 18 false 196 ⟨rfl, rfl, trivial⟩ rfl (sb (n_t (decide_eq_true c138))) (fun w HS => X.move rfl), .gw [(15, _), (196, _)] 18 false 196 ⟨rfl, rfl, trivial⟩ rfl (sb (n_t (decide_eq_true c138))) (fun w HS => X.move rfl), .gw [(198, _), (196, _)] 18 false 196 ⟨rfl, rfl, trivial⟩ rfl (sb (n_t (decide_eq_true c138))) (fun w HS => X.sub rfl rfl), .gw [(197, _), (196, _)] 18 false 196 ⟨rfl, rfl, trivial⟩ rfl (sb (n_t (decide_eq_true c138))) (fun w HS => X.nilCheck rfl), .gw [(200, _), (196, _)] 18 false 196 ⟨rfl, rfl, trivial⟩ rfl (sb (n_t (decide_eq_true c138))) (fun w HS => X.fieldAddr 4 fo59_2 rfl), .gw [(199, _), (201, _), (196, _)] 18 false 196 ⟨rfl, rfl, rfl, trivial⟩ rfl (sb (n_t (decide_eq_true c138))) (fun w HS => X.indexArK 1 (by rw [c135]; decide) Try.underlying57 inf56 rfl rfl c139.1 c139.2), .gw [(202, _), (196, _)] 18 false 196 ⟨rfl, rfl, trivial⟩ rfl (sb (n_t (decide_eq_true c138))) (fun w HS => X.loadAt 0 HS rfl Try.underlying56 rfl rfl rfl), .gw [(203, _), (196, _)] 18 false 196 ⟨rfl, rfl, trivial⟩ rfl (sb (n_t (decide_eq_true c138))) (fun w HS => X.lenSl Try.underlying56 rfl), .gw [(16, _), (196, _)] 18 false 196 ⟨rfl, rfl, trivial⟩ rfl (sb (n_t (decide_eq_true c138))) (fun w HS => X.move rfl), .gw [(204, _), (205, _), (196, _)] 18 false 196 ⟨rfl, rfl, rfl, trivial⟩ rfl (sb (n_t (decide_eq_true c138))) (fun w HS => X.cmp (!(decide ((x90.heard.2.length : Int) = x121))) rfl rfl rfl rfl), .n2 196 206 rfl rfl rfl (fun w HS => X.pickF (sb (n_t (decide_eq_true c138))) rfl), .mv 207, .gp 30 false true 208 rfl rfl (Option.some.inj (sb (n_f (decide_eq_false c140)))) rfl, .gp 30 false true 208 rfl rfl (Option.some.inj (sb (n_f (decide_eq_false c140)))) rfl, .gp 30 false true 208 rfl rfl (Option.some.inj (sb (n_f (decide_eq_false c140)))) rfl, .gp 30 false true 208 rfl rfl (Option.some.inj (sb (n_f (decide_eq_false c140)))) rfl, .gp 30 false true 208 rfl rfl (Option.some.inj (sb (n_f (decide_eq_false c140)))) rfl, .gp 30 false true 208 rfl rfl (Option.some.inj (sb (n_f (decide_eq_false c140)))) rfl, .gp 30 false true 208 rfl rfl (Option.some.inj (sb (n_f (decide_eq_false c140)))) rfl, .gp 30 false true 208 rfl rfl (Option.some.inj (sb (n_f (decide_eq_false c140)))) rfl, .gp 30 false true 208 rfl rfl (Option.some.inj (sb (n_f (decide_eq_false c140)))) rfl, .gp 30 false true 208 rfl rfl (Option.some.inj (sb (n_f (decide_eq_false c140)))) rfl, .gp 30 false true 208 rfl rfl (Option.some.inj (sb (n_f (decide_eq_false c140)))) rfl, .gp 30 false true 208 rfl rfl (Option.some.inj (sb (n_f (decide_eq_false c140)))) rfl, .gp 30 false true 208 rfl rfl (Option.some.inj (sb (n_f (decide_eq_false c140)))) rfl, .gp 30 false true 208 rfl rfl (Option.some.inj (sb (n_f (decide_eq_false c140)))) rfl, .gp 30 false true 208 rfl rfl (Option.some.inj (sb (n_f (decide_eq_false c140)))) rfl, .n2 208 223 rfl rfl rfl (fun w HS => X.pickT (sb (n_f (decide_eq_false c140))) rfl), trivial⟩ (fun w HS => ?_)
                  replace HS := signalmanlaw15_pair.close trivial HS
                  exact At.meet true ⟨rfl, rfl, rfl, trivial⟩ ⟨HS, kl126, by omega, H⟩
                ·replace H := ite_f c138 H
                 refine V.dr [44] [45, 46] [(178, Value.int .i64 x121), (179, Value.pointer (some ⟨bt9_0, 0, none⟩)), (180, Value.int .i64 x117), (181, Value.pointer (some ⟨bt9_0, 0, none⟩)), (182, Value.pointer (some ⟨bt9_0, 0 + 6, none⟩)), (183, Value.pointer (some ⟨bt9_0, 0 + 6 + 0 * 1, none⟩)), (184, Value.slice a6_132 x90.said.1.length c6_132), (185, Value.int .i64 (x90.said.1.length : Int)), (186, Value.bool (!(decide (x121 = (x90.said.1.length : Int))))), (187, Value.bool (!(decide (x121 = (x90.said.1.length : Int))))), (188, Value.int .i64 x122), (189, Value.int .i64 x121), (190, Value.bool (!(decide (x122 = x121)))), (191, Value.bool (!(decide (x122 = x121)))), (192, Value.bool (!(decide (x122 = x121)))), (193, Value.int .i64 x123), (194, Value.bool (!(decide (x123 = 0)))), (195, Value.bool (!(decide (x123 = 0)))), (196, Value.bool (!(decide (x123 = 0)))), (197, undef), (198, undef), (199, undef), (200, undef), (201, undef), (202, undef), (203, undef), (204, undef), (205, undef), (206, undef), (207, Value.bool true), (208, Value.bool true), (209, undef), (210, undef), (211, undef), (212, undef), (213, undef), (214, undef), (215, undef), (216, undef), (217, undef), (218, undef), (219, undef), (220, undef), (221, undef)] mo HS ?_
                 refine T.drop (es' := []) (bl' := []) [(222, undef), (223, undef), (224, Value.bool true)] rfl ⟨.inr ⟨by decide, rfl⟩, ⟨.inr ⟨by decide, rfl⟩, ⟨.inr ⟨by decide, rfl⟩, trivial⟩⟩⟩ ?_
                 refine T.fn [(9, _), (15, _), (224, _)] ⟨rfl, rfl, rfl, trivial⟩ ⟨.mv 16, .mv 9, .mv 15, .nc 179, .fa 181 fo59_3, .n2 180 182 rfl rfl rfl (fun w HS => X.indexArK 0 c135 Try.underlying57 inf56 rfl rfl c134.1 c134.2), .ld 183 0 Try.underlying56, .n1 184 rfl rfl (fun w HS => X.lenSl Try.underlying56 rfl), .n2 178 185 rfl rfl rfl (fun w HS => X.cmp (!(decide (x121 = (x90.said.1.length : Int)))) rfl rfl rfl rfl), .mv 186, .gw [(17, _), (187, _)] 9 false 187 ⟨rfl, rfl, trivial⟩ rfl (sb (n_t (decide_eq_true c136))) (fun w HS => X.move rfl), .gw [(16, _), (187, _)] 9 false 187 ⟨rfl, rfl, trivial⟩ rfl (sb (n_t (decide_eq_true c136))) (fun w HS => X.move rfl), .gw [(188, _), (189, _), (187, _)] 9 false 187 ⟨rfl, rfl, rfl, trivial⟩ rfl (sb (n_t (decide_eq_true c136))) (fun w HS => X.cmp (!(decide (x122 = x121))) rfl rfl rfl rfl), .n2 187 190 rfl rfl rfl (fun w HS => X.pickF (sb (n_t (decide_eq_true c136))) rfl), .mv 191, .gw [(18, _), (192, _)] 14 false 192 ⟨rfl, rfl, trivial⟩ rfl (sb (n_t (decide_eq_true c137))) (fun w HS => X.move rfl), .gw [(193, _), (192, _)] 14 false 192 ⟨rfl, rfl, trivial⟩ rfl (sb (n_t (decide_eq_true c137))) (fun w HS => X.cmp (!(decide (x123 = 0))) rfl rfl rfl rfl), .n2 192 194 rfl rfl rfl (fun w HS => X.pickF (sb (n_t (decide_eq_true c137))) rfl), .mv 195, .gp 18 false true 196 rfl rfl (Option.some.inj (sb (n_f (decide_eq_false c138)))) rfl, .gp 18 false true 196 rfl rfl (Option.some.inj (sb (n_f (decide_eq_false c138)))) rfl, .gp 18 false true 196 rfl rfl (Option.some.inj (sb (n_f (decide_eq_false c138)))) rfl, .gp 18 false true 196 rfl rfl (Option.some.inj (sb (n_f (decide_eq_false c138)))) rfl, .gp 18 false true 196 rfl rfl (Option.some.inj (sb (n_f (decide_eq_false c138)))) rfl, .gp 18 false true 196 rfl rfl (Option.some.inj (sb (n_f (decide_eq_false c138)))) rfl, .gp 18 false true 196 rfl rfl (Option.some.inj (sb (n_f (decide_eq_false c138)))) rfl, .gp 18 false true 196 rfl rfl (Option.some.inj (sb (n_f (decide_eq_false c138)))) rfl, .gp 18 false true 196 rfl rfl (Option.some.inj (sb (n_f (decide_eq_false c138)))) rfl, .gp 18 false true 196 rfl rfl (Option.some.inj (sb (n_f (decide_eq_false c138)))) rfl, .n2 196 206 rfl rfl rfl (fun w HS => X.pickT (sb (n_f (decide_eq_false c138))) rfl), .mv 207, .gp 30 false true 208 rfl rfl rfl rfl, .gp 30 false true 208 rfl rfl rfl rfl, .gp 30 false true 208 rfl rfl rfl rfl, .gp 30 false true 208 rfl rfl rfl rfl, .gp 30 false true 208 rfl rfl rfl rfl, .gp 30 false true 208 rfl rfl rfl rfl, .gp 30 false true 208 rfl rfl rfl rfl, .gp 30 false true 208 rfl rfl rfl rfl, .gp 30 false true 208 rfl rfl rfl rfl, .gp 30 false true 208 rfl rfl rfl rfl, .gp 30 false true 208 rfl rfl rfl rfl, .gp 30 false true 208 rfl rfl rfl rfl, .gp 30 false true 208 rfl rfl rfl rfl, .gp 30 false true 208 rfl rfl rfl rfl, .gp 30 false true 208 rfl rfl rfl rfl, .n2 208 223 rfl rfl rfl (fun w HS => X.pickT rfl rfl), trivial⟩ (fun w HS => ?_)
                 replace HS := signalmanlaw15_pair.close trivial HS
                 exact At.meet true ⟨rfl, rfl, rfl, trivial⟩ ⟨HS, kl126, by omega, H⟩
               ·replace H := ite_f c137 H
                refine V.dr [44] [45, 46] [(178, Value.int .i64 x121), (179, Value.pointer (some ⟨bt9_0, 0, none⟩)), (180, Value.int .i64 x117), (181, Value.pointer (some ⟨bt9_0, 0, none⟩)), (182, Value.pointer (some ⟨bt9_0, 0 + 6, none⟩)), (183, Value.pointer (some ⟨bt9_0, 0 + 6 + 0 * 1, none⟩)), (184, Value.slice a6_132 x90.said.1.length c6_132), (185, Value.int .i64 (x90.said.1.length : Int)), (186, Value.bool (!(decide (x121 = (x90.said.1.length : Int))))), (187, Value.bool (!(decide (x121 = (x90.said.1.length : Int))))), (188, Value.int .i64 x122), (189, Value.int .i64 x121), (190, Value.bool (!(decide (x122 = x121)))), (191, Value.bool (!(decide (x122 = x121)))), (192, Value.bool (!(decide (x122 = x121)))), (193, undef), (194, undef), (195, Value.bool true), (196, Value.bool true), (197, undef), (198, undef), (199, undef), (200, undef), (201, undef), (202, undef), (203, undef), (204, undef), (205, undef), (206, undef), (207, Value.bool true), (208, Value.bool true), (209, undef), (210, undef), (211, undef), (212, undef), (213, undef), (214, undef), (215, undef), (216, undef), (217, undef), (218, undef), (219, undef), (220, undef), (221, undef)] mo HS ?_
                refine T.drop (es' := []) (bl' := []) [(222, undef), (223, undef), (224, Value.bool true)] rfl ⟨.inr ⟨by decide, rfl⟩, ⟨.inr ⟨by decide, rfl⟩, ⟨.inr ⟨by decide, rfl⟩, trivial⟩⟩⟩ ?_
                refine T.fn [(9, _), (15, _), (224, _)] ⟨rfl, rfl, rfl, trivial⟩ ⟨.mv 16, .mv 9, .mv 15, .nc 179, .fa 181 fo59_3, .n2 180 182 rfl rfl rfl (fun w HS => X.indexArK 0 c135 Try.underlying57 inf56 rfl rfl c134.1 c134.2), .ld 183 0 Try.underlying56, .n1 184 rfl rfl (fun w HS => X.lenSl Try.underlying56 rfl), .n2 178 185 rfl rfl rfl (fun w HS => X.cmp (!(decide (x121 = (x90.said.1.length : Int)))) rfl rfl rfl rfl), .mv 186, .gw [(17, _), (187, _)] 9 false 187 ⟨rfl, rfl, trivial⟩ rfl (sb (n_t (decide_eq_true c136))) (fun w HS => X.move rfl), .gw [(16, _), (187, _)] 9 false 187 ⟨rfl, rfl, trivial⟩ rfl (sb (n_t (decide_eq_true c136))) (fun w HS => X.move rfl), .gw [(188, _), (189, _), (187, _)] 9 false 187 ⟨rfl, rfl, rfl, trivial⟩ rfl (sb (n_t (decide_eq_true c136))) (fun w HS => X.cmp (!(decide (x122 = x121))) rfl rfl rfl rfl), .n2 187 190 rfl rfl rfl (fun w HS => X.pickF (sb (n_t (decide_eq_true c136))) rfl), .mv 191, .gp 14 false true 192 rfl rfl (Option.some.inj (sb (n_f (decide_eq_false c137)))) rfl, .gp 14 false true 192 rfl rfl (Option.some.inj (sb (n_f (decide_eq_false c137)))) rfl, .n2 192 194 rfl rfl rfl (fun w HS => X.pickT (sb (n_f (decide_eq_false c137))) rfl), .mv 195, .gp 18 false true 196 rfl rfl rfl rfl, .gp 18 false true 196 rfl rfl rfl rfl, .gp 18 false true 196 rfl rfl rfl rfl, .gp 18 false true 196 rfl rfl rfl rfl, .gp 18 false true 196 rfl rfl rfl rfl, .gp 18 false true 196 rfl rfl rfl rfl, .gp 18 false true 196 rfl rfl rfl rfl, .gp 18 false true 196 rfl rfl rfl rfl, .gp 18 false true 196 rfl rfl rfl rfl, .gp 18 false true 196 rfl rfl rfl rfl, .n2 196 206 rfl rfl rfl (fun w HS => X.pickT rfl rfl), .mv 207, .gp 30 false true 208 rfl rfl rfl rfl, .gp 30 false true 208 rfl rfl rfl rfl, .gp 30 false true 208 rfl rfl rfl rfl, .gp 30 false true 208 rfl rfl rfl rfl, .gp 30 false true 208 rfl rfl rfl rfl, .gp 30 false true 208 rfl rfl rfl rfl, .gp 30 false true 208 rfl rfl rfl rfl, .gp 30 false true 208 rfl rfl rfl rfl, .gp 30 false true 208 rfl rfl rfl rfl, .gp 30 false true 208 rfl rfl rfl rfl, .gp 30 false true 208 rfl rfl rfl rfl, .gp 30 false true 208 rfl rfl rfl rfl, .gp 30 false true 208 rfl rfl rfl rfl, .gp 30 false true 208 rfl rfl rfl rfl, .gp 30 false true 208 rfl rfl rfl rfl, .n2 208 223 rfl rfl rfl (fun w HS => X.pickT rfl rfl), trivial⟩ (fun w HS => ?_)
                replace HS := signalmanlaw15_pair.close trivial HS
                exact At.meet true ⟨rfl, rfl, rfl, trivial⟩ ⟨HS, kl126, by omega, H⟩
              ·replace H := ite_f c136 H
               refine V.dr [44] [45, 46] [(178, Value.int .i64 x121), (179, Value.pointer (some ⟨bt9_0, 0, none⟩)), (180, Value.int .i64 x117), (181, Value.pointer (some ⟨bt9_0, 0, none⟩)), (182, Value.pointer (some ⟨bt9_0, 0 + 6, none⟩)), (183, Value.pointer (some ⟨bt9_0, 0 + 6 + 0 * 1, none⟩)), (184, Value.slice a6_132 x90.said.1.length c6_132), (185, Value.int .i64 (x90.said.1.length : Int)), (186, Value.bool (!(decide (x121 = (x90.said.1.length : Int))))), (187, Value.bool (!(decide (x121 = (x90.said.1.length : Int))))), (188, undef), (189, undef), (190, undef), (191, Value.bool true), (192, Value.bool true), (193, undef), (194, undef), (195, Value.bool true), (196, Value.bool true), (197, undef), (198, undef), (199, undef), (200, undef), (201, undef), (202, undef), (203, undef), (204, undef), (205, undef), (206, undef), (207, Value.bool true), (208, Value.bool true), (209, undef), (210, undef), (211, undef), (212, undef), (213, undef), (214, undef), (215, undef), (216, undef), (217, undef), (218, undef), (219, undef), (220, undef), (221, undef)] mo HS ?_
               refine T.drop (es' := []) (bl' := []) [(222, undef), (223, undef), (224, Value.bool true)] rfl ⟨.inr ⟨by decide, rfl⟩, ⟨.inr ⟨by decide, rfl⟩, ⟨.inr ⟨by decide, rfl⟩, trivial⟩⟩⟩ ?_
               refine T.fn [(9, _), (15, _), (224, _)] ⟨rfl, rfl, rfl, trivial⟩ ⟨.mv 16, .mv 9, .mv 15, .nc 179, .fa 181 fo59_3, .n2 180 182 rfl rfl rfl (fun w HS => X.indexArK 0 c135 Try.underlying57 inf56 rfl rfl c134.1 c134.2), .ld 183 0 Try.underlying56, .n1 184 rfl rfl (fun w HS => X.lenSl Try.underlying56 rfl), .n2 178 185 rfl rfl rfl (fun w HS => X.cmp (!(decide (x121 = (x90.said.1.length : Int)))) rfl rfl rfl rfl), .mv 186, .gp 9 false true 187 rfl rfl (Option.some.inj (sb (n_f (decide_eq_false c136)))) rfl, .gp 9 false true 187 rfl rfl (Option.some.inj (sb (n_f (decide_eq_false c136)))) rfl, .gp 9 false true 187 rfl rfl (Option.some.inj (sb (n_f (decide_eq_false c136)))) rfl, .n2 187 190 rfl rfl rfl (fun w HS => X.pickT (sb (n_f (decide_eq_false c136))) rfl), .mv 191, .gp 14 false true 192 rfl rfl rfl rfl, .gp 14 false true 192 rfl rfl rfl rfl, .n2 192 194 rfl rfl rfl (fun w HS => X.pickT rfl rfl), .mv 195, .gp 18 false true 196 rfl rfl rfl rfl, .gp 18 false true 196 rfl rfl rfl rfl, .gp 18 false true 196 rfl rfl rfl rfl, .gp 18 false true 196 rfl rfl rfl rfl, .gp 18 false true 196 rfl rfl rfl rfl, .gp 18 false true 196 rfl rfl rfl rfl, .gp 18 false true 196 rfl rfl rfl rfl, .gp 18 false true 196 rfl rfl rfl rfl, .gp 18 false true 196 rfl rfl rfl rfl, .gp 18 false true 196 rfl rfl rfl rfl, .n2 196 206 rfl rfl rfl (fun w HS => X.pickT rfl rfl), .mv 207, .gp 30 false true 208 rfl rfl rfl rfl, .gp 30 false true 208 rfl rfl rfl rfl, .gp 30 false true 208 rfl rfl rfl rfl, .gp 30 false true 208 rfl rfl rfl rfl, .gp 30 false true 208 rfl rfl rfl rfl, .gp 30 false true 208 rfl rfl rfl rfl, .gp 30 false true 208 rfl rfl rfl rfl, .gp 30 false true 208 rfl rfl rfl rfl, .gp 30 false true 208 rfl rfl rfl rfl, .gp 30 false true 208 rfl rfl rfl rfl, .gp 30 false true 208 rfl rfl rfl rfl, .gp 30 false true 208 rfl rfl rfl rfl, .gp 30 false true 208 rfl rfl rfl rfl, .gp 30 false true 208 rfl rfl rfl rfl, .gp 30 false true 208 rfl rfl rfl rfl, .n2 208 223 rfl rfl rfl (fun w HS => X.pickT rfl rfl), trivial⟩ (fun w HS => ?_)
               replace HS := signalmanlaw15_pair.close trivial HS
               exact At.meet true ⟨rfl, rfl, rfl, trivial⟩ ⟨HS, kl126, by omega, H⟩
             ·replace H := ite_f c135 H
              have hk143 : x117 = 1 := by omega
              by_cases c144 : x121 = (x90.said.2.length : Int)
              ·replace H := ite_t c144 H
               by_cases c145 : x122 = x121
               ·replace H := ite_t c145 H
                by_cases c146 : x123 = 0
                ·replace H := ite_t c146 H
                 obtain ⟨c147, H⟩ := ite_n H
                 by_cases c148 : (x90.heard.1.length : Int) = x121
                 ·replace H := ite_t c148 H
                  refine V.dr [44] [45, 46] [(178, Value.int .i64 x121), (179, Value.pointer (some ⟨bt9_0, 0, none⟩)), (180, Value.int .i64 x117), (181, Value.pointer (some ⟨bt9_0, 0, none⟩)), (182, Value.pointer (some ⟨bt9_0, 0 + 6, none⟩)), (183, Value.pointer (some ⟨bt9_0, 0 + 6 + 1 * 1, none⟩)), (184, Value.slice a7_132 x90.said.2.length c7_132), (185, Value.int .i64 (x90.said.2.length : Int)), (186, Value.bool (!(decide (x121 = (x90.said.2.length : Int))))), (187, Value.bool (!(decide (x121 = (x90.said.2.length : Int))))), (188, Value.int .i64 x122), (189, Value.int .i64 x121), (190, Value.bool (!(decide (x122 = x121)))), (191, Value.bool (!(decide (x122 = x121)))), (192, Value.bool (!(decide (x122 = x121)))), (193, Value.int .i64 x123), (194, Value.bool (!(decide (x123 = 0)))), (195, Value.bool (!(decide (x123 = 0)))), (196, Value.bool (!(decide (x123 = 0)))), (197, Value.pointer (some ⟨bt9_0, 0, none⟩)), (198, Value.int .i64 x117), (199, Value.int .i64 (w64 (1 - x117))), (200, Value.pointer (some ⟨bt9_0, 0, none⟩)), (201, Value.pointer (some ⟨bt9_0, 0 + 4, none⟩)), (202, Value.pointer (some ⟨bt9_0, 0 + 4 + 0 * 1, none⟩)), (203, Value.slice a4_132 x90.heard.1.length c4_132), (204, Value.int .i64 (x90.heard.1.length : Int)), (205, Value.int .i64 x121), (206, Value.bool (!(decide ((x90.heard.1.length : Int) = x121)))), (207, Value.bool (!(decide ((x90.heard.1.length : Int) = x121)))), (208, Value.bool (!(decide ((x90.heard.1.length : Int) = x121)))), (209, Value.pointer (some ⟨bt9_0, 0, none⟩)), (210, Value.int .i64 x117), (211, Value.int .i64 (w64 (1 - x117))), (212, Value.pointer (some ⟨bt9_0, 0, none⟩)), (213, Value.pointer (some ⟨bt9_0, 0 + 4, none⟩)), (214, Value.pointer (some ⟨bt9_0, 0 + 4 + 0 * 1, none⟩)), (215, Value.slice a4_132 x90.heard.1.length c4_132), (216, Value.pointer (some ⟨bt9_0, 0, none⟩)), (217, Value.int .i64 x117), (218, Value.pointer (some ⟨bt9_0, 0, none⟩)), (219, Value.pointer (some ⟨bt9_0, 0 + 6, none⟩)), (220, Value.pointer (some ⟨bt9_0, 0 + 6 + 1 * 1, none⟩)), (221, Value.slice a7_132 x90.said.2.length c7_132)] mo HS ?_
                  refine T.evG [(215, _), (221, _), (208, _)] [] [0, 1, 2, 3, 4, 5, 6, 7, 8, 9, 10, 11, 12, 13, 14, 15, 16, 17, 18, 19, 20, 21, 22, 23, 24, 25, 26, 27, 28, 29, 30, 31, 32, 33, 34, 35, 36, 37, 38, 39, 40, 41, 42, 43] ⟨rfl, rfl, rfl, trivial⟩ ⟨.mv 16, .mv 9, .mv 15, .nc 179, .fa 181 fo59_3, .n2 180 182 rfl rfl rfl (fun w HS => X.indexArK 1 hk143 Try.underlying57 inf56 rfl rfl c134.1 c134.2), .ld 183 0 Try.underlying56, .n1 184 rfl rfl (fun w HS => X.lenSl Try.underlying56 rfl), .n2 178 185 rfl rfl rfl (fun w HS => X.cmp (!(decide (x121 = (x90.said.2.length : Int)))) rfl rfl rfl rfl), .mv 186, .gw [(17, _), (187, _)] 9 false 187 ⟨rfl, rfl, trivial⟩ rfl (sb (n_t (decide_eq_true c144))) (fun w HS => X.move rfl), .gw [(16, _), (187, _)] 9 false 187 ⟨rfl, rfl, trivial⟩ rfl (sb (n_t (decide_eq_true c144))) (fun w HS => X.move rfl), .gw [(188, _), (189, _), (187, _)] 9 false 187 ⟨rfl, rfl, rfl, trivial⟩ rfl (sb (n_t (decide_eq_true c144))) (fun w HS => X.cmp (!(decide (x122 = x121))) rfl rfl rfl rfl), .n2 187 190 rfl rfl rfl (fun w HS => X.pickF (sb (n_t (decide_eq_true c144))) rfl), .mv 191, .gw [(18, _), (192, _)] 14 false 192 ⟨rfl, rfl, trivial⟩ rfl (sb (n_t (decide_eq_true c145))) (fun w HS => X.move rfl), .gw [(193, _), (192, _)] 14 false 192 ⟨rfl, rfl, trivial⟩ rfl (sb (n_t (decide_eq_true c145))) (fun w HS => X.cmp (!(decide (x123 = 0))) rfl rfl rfl rfl), .n2 192 194 rfl rfl rfl (fun w HS => X.pickF (sb (n_t (decide_eq_true c145))) rfl), .mv 195, .gw [(9, _), (196, _)] 18 false 196 ⟨rfl, rfl, trivial⟩ rfl (sb (n_t (decide_eq_true c146))) (fun w HS => X.move rfl), .gw [(15, _), (196, _)] 18 false 196 ⟨rfl, rfl, trivial⟩ rfl (sb (n_t (decide_eq_true c146))) (fun w HS => X.move rfl), .gw [(198, _), (196, _)] 18 false 196 ⟨rfl, rfl, trivial⟩ rfl (sb (n_t (decide_eq_true c146))) (fun w HS => X.sub rfl rfl), .gw [(197, _), (196, _)] 18 false 196 ⟨rfl, rfl, trivial⟩ rfl (sb (n_t (decide_eq_true c146))) (fun w HS => X.nilCheck rfl), .gw [(200, _), (196, _)] 18 false 196 ⟨rfl, rfl, trivial⟩ rfl (sb (n_t (decide_eq_true c146))) (fun w HS => X.fieldAddr 4 fo59_2 rfl), .gw [(199, _), (201, _), (196, _)] 18 false 196 ⟨rfl, rfl, rfl, trivial⟩ rfl (sb (n_t (decide_eq_true c146))) (fun w HS => X.indexArK 0 (by rw [hk143]; decide) Try.underlying57 inf56 rfl rfl c147.1 c147.2), .gw [(202, _), (196, _)] 18 false 196 ⟨rfl, rfl, trivial⟩ rfl (sb (n_t (decide_eq_true c146))) (fun w HS => X.loadAt 0 HS rfl Try.underlying56 rfl rfl rfl), .gw [(203, _), (196, _)] 18 false 196 ⟨rfl, rfl, trivial⟩ rfl (sb (n_t (decide_eq_true c146))) (fun w HS => X.lenSl Try.underlying56 rfl), .gw [(16, _), (196, _)] 18 false 196 ⟨rfl, rfl, trivial⟩ rfl (sb (n_t (decide_eq_true c146))) (fun w HS => X.move rfl), .gw [(204, _), (205, _), (196, _)] 18 false 196 ⟨rfl, rfl, rfl, trivial⟩ rfl (sb (n_t (decide_eq_true c146))) (fun w HS => X.cmp (!(decide ((x90.heard.1.length : Int) = x121))) rfl rfl rfl rfl), .n2 196 206 rfl rfl rfl (fun w HS => X.pickF (sb (n_t (decide_eq_true c146))) rfl), .mv 207, .gw [(9, _), (208, _)] 30 false 208 ⟨rfl, rfl, trivial⟩ rfl (sb (n_t (decide_eq_true c148))) (fun w HS => X.move rfl), .gw [(15, _), (208, _)] 30 false 208 ⟨rfl, rfl, trivial⟩ rfl (sb (n_t (decide_eq_true c148))) (fun w HS => X.move rfl), .gw [(210, _), (208, _)] 30 false 208 ⟨rfl, rfl, trivial⟩ rfl (sb (n_t (decide_eq_true c148))) (fun w HS => X.sub rfl rfl), .gw [(209, _), (208, _)] 30 false 208 ⟨rfl, rfl, trivial⟩ rfl (sb (n_t (decide_eq_true c148))) (fun w HS => X.nilCheck rfl), .gw [(212, _), (208, _)] 30 false 208 ⟨rfl, rfl, trivial⟩ rfl (sb (n_t (decide_eq_true c148))) (fun w HS => X.fieldAddr 4 fo59_2 rfl), .gw [(211, _), (213, _), (208, _)] 30 false 208 ⟨rfl, rfl, rfl, trivial⟩ rfl (sb (n_t (decide_eq_true c148))) (fun w HS => X.indexArK 0 (by rw [hk143]; decide) Try.underlying57 inf56 rfl rfl c147.1 c147.2), .gw [(214, _), (208, _)] 30 false 208 ⟨rfl, rfl, trivial⟩ rfl (sb (n_t (decide_eq_true c148))) (fun w HS => X.loadAt 0 HS rfl Try.underlying56 rfl rfl rfl), .gw [(9, _), (208, _)] 30 false 208 ⟨rfl, rfl, trivial⟩ rfl (sb (n_t (decide_eq_true c148))) (fun w HS => X.move rfl), .gw [(15, _), (208, _)] 30 false 208 ⟨rfl, rfl, trivial⟩ rfl (sb (n_t (decide_eq_true c148))) (fun w HS => X.move rfl), .gw [(216, _), (208, _)] 30 false 208 ⟨rfl, rfl, trivial⟩ rfl (sb (n_t (decide_eq_true c148))) (fun w HS => X.nilCheck rfl), .gw [(218, _), (208, _)] 30 false 208 ⟨rfl, rfl, trivial⟩ rfl (sb (n_t (decide_eq_true c148))) (fun w HS => X.fieldAddr 6 fo59_3 rfl), .gw [(217, _), (219, _), (208, _)] 30 false 208 ⟨rfl, rfl, rfl, trivial⟩ rfl (sb (n_t (decide_eq_true c148))) (fun w HS => X.indexArK 1 hk143 Try.underlying57 inf56 rfl rfl c134.1 c134.2), .gw [(220, _), (208, _)] 30 false 208 ⟨rfl, rfl, trivial⟩ rfl (sb (n_t (decide_eq_true c148))) (fun w HS => X.loadAt 0 HS rfl Try.underlying56 rfl rfl rfl), trivial⟩ rfl (Or.inr ⟨30, false, 208, rfl, rfl, (sb (n_t (decide_eq_true c148)))⟩) (fun w HS => ?_)
                  obtain ⟨t149, A150, H⟩ := bind_s H
                  refine ⟨_, Y.cl Try.func40 (signalmanlaw15_prefix.calls A150 HS.j0 (rdC.part 7 row_rd rfl) (rdC.part 10 row_rd rfl)), ?_⟩
                  rintro _ w ⟨rfl, HS⟩
                  replace HS := HS.o0
                  refine T.nm [(222, Value.bool t149), (223, Value.bool (!t149)), (224, Value.bool (!t149))] HS ⟨.inl ⟨rfl, rfl⟩, ⟨.inr ⟨by decide, rfl⟩, ⟨.inr ⟨by decide, rfl⟩, trivial⟩⟩⟩ ?_
                  refine T.fn [(9, _), (15, _), (224, _)] ⟨rfl, rfl, rfl, trivial⟩ ⟨.gw [(222, _), (208, _)] 30 false 208 ⟨rfl, rfl, trivial⟩ rfl (sb (n_t (decide_eq_true c148))) (fun w HS => X.not rfl), .n2 208 223 rfl rfl rfl (fun w HS => X.pickF (sb (n_t (decide_eq_true c148))) rfl), trivial⟩ (fun w HS => ?_)
                  replace HS := signalmanlaw15_pair.close trivial HS
                  exact At.meet (!t149) ⟨rfl, rfl, rfl, trivial⟩ ⟨HS, kl126, by omega, H⟩
                 ·replace H := ite_f c148 H
                  refine V.dr [44] [45, 46] [(178, Value.int .i64 x121), (179, Value.pointer (some ⟨bt9_0, 0, none⟩)), (180, Value.int .i64 x117), (181, Value.pointer (some ⟨bt9_0, 0, none⟩)), (182, Value.pointer (some ⟨bt9_0, 0 + 6, none⟩)), (183, Value.pointer (some ⟨bt9_0, 0 + 6 + 1 * 1, none⟩)), (184, Value.slice a7_132 x90.said.2.length c7_132), (185, Value.int .i64 (x90.said.2.length : Int)), (186, Value.bool (!(decide (x121 = (x90.said.2.length : Int))))), (187, Value.bool (!(decide (x121 = (x90.said.2.length : Int))))), (188, Value.int .i64 x122), (189, Value.int .i64 x121), (190, Value.bool (!(decide (x122 = x121)))), (191, Value.bool (!(decide (x122 = x121)))), (192, Value.bool (!(decide (x122 = x121)))), (193, Value.int .i64 x123), (194, Value.bool (!(decide (x123 = 0)))), (195, Value.bool (!(decide (x123 = 0)))), (196, Value.bool (!(decide (x123 = 0)))), (197, Value.pointer (some ⟨bt9_0, 0, none⟩)), (198, Value.int .i64 x117), (199, Value.int .i64 (w64 (1 - x117))), (200, Value.pointer (some ⟨bt9_0, 0, none⟩)), (201, Value.pointer (some ⟨bt9_0, 0 + 4, none⟩)), (202, Value.pointer (some ⟨bt9_0, 0 + 4 + 0 * 1, none⟩)), (203, Value.slice a4_132 x90.heard.1.length c4_132), (204, Value.int .i64 (x90.heard.1.length : Int)), (205, Value.int .i64 x121), (206, Value.bool (!(decide ((x90.heard.1.length : Int) = x121)))), (207, Value.bool (!(decide ((x90.heard.1.length : Int) = x121)))), (208, Value.bool (!(decide ((x90.heard.1.length : Int) = x121)))), (209, undef), (210, undef), (211, undef), (212, undef), (213, undef), (214, undef), (215, undef), (216, undef), (217, undef), (218, undef), (219, undef), (220, undef), (221, undef)] mo HS ?_
                  refine T.drop (es' := []) (bl' := []) [(222, undef), (223, undef), (224, Value.bool true)] rfl ⟨.inr ⟨by decide, rfl⟩, ⟨.inr ⟨by decide, rfl⟩, ⟨.inr ⟨by decide, rfl⟩, trivial⟩⟩⟩ ?_
                  refine T.fn [(9, _), (15, _), (224, _)] ⟨rfl, rfl, rfl, trivial⟩ ⟨.mv 16, .mv 9, .mv 15, .nc 179, .fa 181 fo59_3, .n2 180 182 rfl rfl rfl (fun w HS => X.indexArK 1 hk143 Try.underlying57 inf56 rfl rfl c134.1 c134.2), .ld 183 0 Try.underlying56, .n1 184 rfl rfl (fun w HS => X.lenSl Try.underlying56 rfl), .n2 178 185 rfl rfl rfl (fun w HS => X.cmp (!(decide (x121 = (x90.said.2.length : Int)))) rfl rfl rfl rfl), .mv 186, .gw [(17, _), (187, _)] 9 false 187 ⟨rfl, rfl, trivial⟩ rfl (sb (n_t (decide_eq_true c144))) (fun w HS => X.move rfl), .gw [(16, _), (187, _)] 9 false 187 ⟨rfl, rfl, trivial⟩ rfl (sb (n_t (decide_eq_true c144))) (fun w HS => X.move rfl), .gw [(188, _), (189, _), (187, _)] 9 false 187 ⟨rfl, rfl, rfl, trivial⟩ rfl (sb (n_t (decide_eq_true c144))) (fun w HS => X.cmp (!(decide (x122 = x121))) rfl rfl rfl rfl), .n2 187 190 rfl rfl rfl (fun w HS => X.pickF (sb (n_t (decide_eq_true c144))) rfl), .mv 191, .gw [(18, _), (192, _)] 14 false 192 ⟨rfl, rfl, trivial⟩ rfl (sb (n_t (decide_eq_true c145))) (fun w HS => X.move rfl), .gw [(193, _), (192, _)] 14 false 192 ⟨rfl, rfl, trivial⟩ rfl (sb (n_t (decide_eq_true c145))) (fun w HS => X.cmp (!(decide (x123 = 0))) rfl rfl rfl rfl), .n2 192 194 rfl rfl rfl (fun w HS => X.pickF (sb (n_t (decide_eq_true c145))) rfl), .mv 195, .gw [(9, _), (196, _)] 18 false 196 ⟨rfl, rfl, trivial⟩ rfl (sb (n_t (decide_eq_true c146))) (fun w HS => X.move rfl), .gw [(15, _), (196, _)] 18 false 196 ⟨rfl, rfl, trivial⟩ rfl (sb (n_t (decide_eq_true c146))) (fun w HS => X.move rfl), .gw [(198, _), (196, _)] 18 false 196 ⟨rfl, rfl, trivial⟩ rfl (sb (n_t (decide_eq_true c146))) (fun w HS => X.sub rfl rfl), .gw [(197, _), (196, _)] 18 false 196 ⟨rfl, rfl, trivial⟩ rfl (sb (n_t (decide_eq_true c146))) (fun w HS => X.nilCheck rfl), .gw [(200, _), (196, _)] 18 false 196 ⟨rfl, rfl, trivial⟩ rfl (sb (n_t (decide_eq_true c146))) (fun w HS => X.fieldAddr 4 fo59_2 rfl), .gw [(199, _), (201, _), (196, _)] 18 false 196 ⟨rfl, rfl, rfl, trivial⟩ rfl (sb (n_t (decide_eq_true c146))) (fun w HS => X.indexArK 0 (by rw [hk143]; decide) Try.underlying57 inf56 rfl rfl c147.1 c147.2), .gw [(202, _), (196, _)] 18 false 196 ⟨rfl, rfl, trivial⟩ rfl (sb (n_t (decide_eq_true c146))) (fun w HS => X.loadAt 0 HS rfl Try.underlying56 rfl rfl rfl), .gw [(203, _), (196, _)] 18 false 196 ⟨rfl, rfl, trivial⟩ rfl (sb (n_t (decide_eq_true c146))) (fun w HS => X.lenSl Try.underlying56 rfl), .gw [(16, _), (196, _)] 18 false 196 ⟨rfl, rfl, trivial⟩ rfl (sb (n_t (decide_eq_true c146))) (fun w HS => X.move rfl), .gw [(204, _), (205, _), (196, _)] 18 false 196 ⟨rfl, rfl, rfl, trivial⟩ rfl (sb (n_t (decide_eq_true c146))) (fun w HS => X.cmp (!(decide ((x90.heard.1.length : Int) = x121))) rfl rfl rfl rfl), .n2 196 206 rfl rfl rfl (fun w HS => X.pickF (sb (n_t (decide_eq_true c146))) rfl), .mv 207, .gp 30 false true 208 rfl rfl (Option.some.inj (sb (n_f (decide_eq_false c148)))) rfl, .gp 30 false true 208 rfl rfl (Option.some.inj (sb (n_f (decide_eq_false c148)))) rfl, .gp 30 false true 208 rfl rfl (Option.some.inj (sb (n_f (decide_eq_false c148)))) rfl, .gp 30 false true 208 rfl rfl (Option.some.inj (sb (n_f (decide_eq_false c148)))) rfl, .gp 30 false true 208 rfl rfl (Option.some.inj (sb (n_f (decide_eq_false c148)))) rfl, .gp 30 false true 208 rfl rfl (Option.some.inj (sb (n_f (decide_eq_false c148)))) rfl, .gp 30 false true 208 rfl rfl (Option.some.inj (sb (n_f (decide_eq_false c148)))) rfl, .gp 30 false true 208 rfl rfl (Option.some.inj (sb (n_f (decide_eq_false c148)))) rfl, .gp 30 false true 208 rfl rfl (Option.some.inj (sb (n_f (decide_eq_false c148)))) rfl, .gp 30 false true 208 rfl rfl (Option.some.inj (sb (n_f (decide_eq_false c148)))) rfl, .gp 30 false true 208 rfl rfl (Option.some.inj (sb (n_f (decide_eq_false c148)))) rfl, .gp 30 false true 208 rfl rfl (Option.some.inj (sb (n_f (decide_eq_false c148)))) rfl, .gp 30 false true 208 rfl rfl (Option.some.inj (sb (n_f (decide_eq_false c148)))) rfl, .gp 30 false true 208 rfl rfl (Option.some.inj (sb (n_f (decide_eq_false c148)))) rfl, .gp 30 false true 208 rfl rfl (Option.some.inj (sb (n_f (decide_eq_false c148)))) rfl, .n2 208 223 rfl rfl rfl (fun w HS => X.pickT (sb (n_f (decide_eq_false c148))) rfl), trivial⟩ (fun w HS => ?_)
                  replace HS := signalmanlaw15_pair.close trivial HS
                  exact At.meet true ⟨rfl, rfl, rfl, trivial⟩ ⟨HS, kl126, by omega, H⟩
                ·replace H := ite_f c146 H
                 refine V.dr [44] [45, 46] [(178, Value.int .i64 x121), (179, Value.pointer (some ⟨bt9_0, 0, none⟩)), (180, Value.int .i64 x117), (181, Value.pointer (some ⟨bt9_0, 0, none⟩)), (182, Value.pointer (some ⟨bt9_0, 0 + 6, none⟩)), (183, Value.pointer (some ⟨bt9_0, 0 + 6 + 1 * 1, none⟩)), (184, Value.slice a7_132 x90.said.2.length c7_132), (185, Value.int .i64 (x90.said.2.length : Int)), (186, Value.bool (!(decide (x121 = (x90.said.2.length : Int))))), (187, Value.bool (!(decide (x121 = (x90.said.2.length : Int))))), (188, Value.int .i64 x122), (189, Value.int .i64 x121), (190, Value.bool (!(decide (x122 = x121)))), (191, Value.bool (!(decide (x122 = x121)))), (192, Value.bool (!(decide (x122 = x121)))), (193, Value.int .i64 x123), (194, Value.bool (!(decide (x123 = 0)))), (195, Value.bool (!(decide (x123 = 0)))), (196, Value.bool (!(decide (x123 = 0)))), (197, undef), (198, undef), (199, undef), (200, undef), (201, undef), (202, undef), (203, undef), (204, undef), (205, undef), (206, undef), (207, Value.bool true), (208, Value.bool true), (209, undef), (210, undef), (211, undef), (212, undef), (213, undef), (214, undef), (215, undef), (216, undef), (217, undef), (218, undef), (219, undef), (220, undef), (221, undef)] mo HS ?_
                 refine T.drop (es' := []) (bl' := []) [(222, undef), (223, undef), (224, Value.bool true)] rfl ⟨.inr ⟨by decide, rfl⟩, ⟨.inr ⟨by decide, rfl⟩, ⟨.inr ⟨by decide, rfl⟩, trivial⟩⟩⟩ ?_
                 refine T.fn [(9, _), (15, _), (224, _)] ⟨rfl, rfl, rfl, trivial⟩ ⟨.mv 16, .mv 9, .mv 15, .nc 179, .fa 181 fo59_3, .n2 180 182 rfl rfl rfl (fun w HS => X.indexArK 1 hk143 Try.underlying57 inf56 rfl rfl c134.1 c134.2), .ld 183 0 Try.underlying56, .n1 184 rfl rfl (fun w HS => X.lenSl Try.underlying56 rfl), .n2 178 185 rfl rfl rfl (fun w HS => X.cmp (!(decide (x121 = (x90.said.2.length : Int)))) rfl rfl rfl rfl), .mv 186, .gw [(17, _), (187, _)] 9 false 187 ⟨rfl, rfl, trivial⟩ rfl (sb (n_t (decide_eq_true c144))) (fun w HS => X.move rfl), .gw [(16, _), (187, _)] 9 false 187 ⟨rfl, rfl, trivial⟩ rfl (sb (n_t (decide_eq_true c144))) (fun w HS => X.move rfl), .gw [(188, _), (189, _), (187, _)] 9 false 187 ⟨rfl, rfl, rfl, trivial⟩ rfl (sb (n_t (decide_eq_true c144))) (fun w HS => X.cmp (!(decide (x122 = x121))) rfl rfl rfl rfl), .n2 187 190 rfl rfl rfl (fun w HS => X.pickF (sb (n_t (decide_eq_true c144))) rfl), .mv 191, .gw [(18, _), (192, _)] 14 false 192 ⟨rfl, rfl, trivial⟩ rfl (sb (n_t (decide_eq_true c145))) (fun w HS => X.move rfl), .gw [(193, _), (192, _)] 14 false 192 ⟨rfl, rfl, trivial⟩ rfl (sb (n_t (decide_eq_true c145))) (fun w HS => X.cmp (!(decide (x123 = 0))) rfl rfl rfl rfl), .n2 192 194 rfl rfl rfl (fun w HS => X.pickF (sb (n_t (decide_eq_true c145))) rfl), .mv 195, .gp 18 false true 196 rfl rfl (Option.some.inj (sb (n_f (decide_eq_false c146)))) rfl, .gp 18 false true 196 rfl rfl (Option.some.inj (sb (n_f (decide_eq_false c146)))) rfl, .gp 18 false true 196 rfl rfl (Option.some.inj (sb (n_f (decide_eq_false c146)))) rfl, .gp 18 false true 196 rfl rfl (Option.some.inj (sb (n_f (decide_eq_false c146)))) rfl, .gp 18 false true 196 rfl rfl (Option.some.inj (sb (n_f (decide_eq_false c146)))) rfl, .gp 18 false true 196 rfl rfl (Option.some.inj (sb (n_f (decide_eq_false c146)))) rfl, .gp 18 false true 196 rfl rfl (Option.some.inj (sb (n_f (decide_eq_false c146)))) rfl, .gp 18 false true 196 rfl rfl (Option.some.inj (sb (n_f (decide_eq_false c146)))) rfl, .gp 18 false true 196 rfl rfl (Option.some.inj (sb (n_f (decide_eq_false c146)))) rfl, .gp 18 false true 196 rfl rfl (Option.some.inj (sb (n_f (decide_eq_false c146)))) rfl, .n2 196 206 rfl rfl rfl (fun w HS => X.pickT (sb (n_f (decide_eq_false c146))) rfl), .mv 207, .gp 30 false true 208 rfl rfl rfl rfl, .gp 30 false true 208 rfl rfl rfl rfl, .gp 30 false true 208 rfl rfl rfl rfl, .gp 30 false true 208 rfl rfl rfl rfl, .gp 30 false true 208 rfl rfl rfl rfl, .gp 30 false true 208 rfl rfl rfl rfl, .gp 30 false true 208 rfl rfl rfl rfl, .gp 30 false true 208 rfl rfl rfl rfl, .gp 30 false true 208 rfl rfl rfl rfl, .gp 30 false true 208 rfl rfl rfl rfl, .gp 30 false true 208 rfl rfl rfl rfl, .gp 30 false true 208 rfl rfl rfl rfl, .gp 30 false true 208 rfl rfl rfl rfl, .gp 30 false true 208 rfl rfl rfl rfl, .gp 30 false true 208 rfl rfl rfl rfl, .n2 208 223 rfl rfl rfl (fun w HS => X.pickT rfl rfl), trivial⟩ (fun w HS => ?_)
                 replace HS := signalmanlaw15_pair.close trivial HS
                 exact At.meet true ⟨rfl, rfl, rfl, trivial⟩ ⟨HS, kl126, by omega, H⟩
               ·replace H := ite_f c145 H
                refine V.dr [44] [45, 46] [(178, Value.int .i64 x121), (179, Value.pointer (some ⟨bt9_0, 0, none⟩)), (180, Value.int .i64 x117), (181, Value.pointer (some ⟨bt9_0, 0, none⟩)), (182, Value.pointer (some ⟨bt9_0, 0 + 6, none⟩)), (183, Value.pointer (some ⟨bt9_0, 0 + 6 + 1 * 1, none⟩)), (184, Value.slice a7_132 x90.said.2.length c7_132), (185, Value.int .i64 (x90.said.2.length : Int)), (186, Value.bool (!(decide (x121 = (x90.said.2.length : Int))))), (187, Value.bool (!(decide (x121 = (x90.said.2.length : Int))))), (188, Value.int .i64 x122), (189, Value.int .i64 x121), (190, Value.bool (!(decide (x122 = x121)))), (191, Value.bool (!(decide (x122 = x121)))), (192, Value.bool (!(decide (x122 = x121)))), (193, undef), (194, undef), (195, Value.bool true), (196, Value.bool true), (197, undef), (198, undef), (199, undef), (200, undef), (201, undef), (202, undef), (203, undef), (204, undef), (205, undef), (206, undef), (207, Value.bool true), (208, Value.bool true), (209, undef), (210, undef), (211, undef), (212, undef), (213, undef), (214, undef), (215, undef), (216, undef), (217, undef), (218, undef), (219, undef), (220, undef), (221, undef)] mo HS ?_
                refine T.drop (es' := []) (bl' := []) [(222, undef), (223, undef), (224, Value.bool true)] rfl ⟨.inr ⟨by decide, rfl⟩, ⟨.inr ⟨by decide, rfl⟩, ⟨.inr ⟨by decide, rfl⟩, trivial⟩⟩⟩ ?_
                refine T.fn [(9, _), (15, _), (224, _)] ⟨rfl, rfl, rfl, trivial⟩ ⟨.mv 16, .mv 9, .mv 15, .nc 179, .fa 181 fo59_3, .n2 180 182 rfl rfl rfl (fun w HS => X.indexArK 1 hk143 Try.underlying57 inf56 rfl rfl c134.1 c134.2), .ld 183 0 Try.underlying56, .n1 184 rfl rfl (fun w HS => X.lenSl Try.underlying56 rfl), .n2 178 185 rfl rfl rfl (fun w HS => X.cmp (!(decide (x121 = (x90.said.2.length : Int)))) rfl rfl rfl rfl), .mv 186, .gw [(17, _), (187, _)] 9 false 187 ⟨rfl, rfl, trivial⟩ rfl (sb (n_t (decide_eq_true c144))) (fun w HS => X.move rfl), .gw [(16, _), (187, _)] 9 false 187 ⟨rfl, rfl, trivial⟩ rfl (sb (n_t (decide_eq_true c144))) (fun w HS => X.move rfl), .gw [(188, _), (189, _), (187, _)] 9 false 187 ⟨rfl, rfl, rfl, trivial⟩ rfl (sb (n_t (decide_eq_true c144))) (fun w HS => X.cmp (!(decide (x122 = x121))) rfl rfl rfl rfl), .n2 187 190 rfl rfl rfl (fun w HS => X.pickF (sb (n_t (decide_eq_true c144))) rfl), .mv 191, .gp 14 false true 192 rfl rfl (Option.some.inj (sb (n_f (decide_eq_false c145)))) rfl, .gp 14 false true 192 rfl rfl (Option.some.inj (sb (n_f (decide_eq_false c145)))) rfl, .n2 192 194 rfl rfl rfl (fun w HS => X.pickT (sb (n_f (decide_eq_false c145))) rfl), .mv 195, .gp 18 false true 196 rfl rfl rfl rfl, .gp 18 false true 196 rfl rfl rfl rfl, .gp 18 false true 196 rfl rfl rfl rfl, .gp 18 false true 196 rfl rfl rfl rfl, .gp 18 false true 196 rfl rfl rfl rfl, .gp 18 false true 196 rfl rfl rfl rfl, .gp 18 false true 196 rfl rfl rfl rfl, .gp 18 false true 196 rfl rfl rfl rfl, .gp 18 false true 196 rfl rfl rfl rfl, .gp 18 false true 196 rfl rfl rfl rfl, .n2 196 206 rfl rfl rfl (fun w HS => X.pickT rfl rfl), .mv 207, .gp 30 false true 208 rfl rfl rfl rfl, .gp 30 false true 208 rfl rfl rfl rfl, .gp 30 false true 208 rfl rfl rfl rfl, .gp 30 false true 208 rfl rfl rfl rfl, .gp 30 false true 208 rfl rfl rfl rfl, .gp 30 false true 208 rfl rfl rfl rfl, .gp 30 false true 208 rfl rfl rfl rfl, .gp 30 false true 208 rfl rfl rfl rfl, .gp 30 false true 208 rfl rfl rfl rfl, .gp 30 false true 208 rfl rfl rfl rfl, .gp 30 false true 208 rfl rfl rfl rfl, .gp 30 false true 208 rfl rfl rfl rfl, .gp 30 false true 208 rfl rfl rfl rfl, .gp 30 false true 208 rfl rfl rfl rfl, .gp 30 false true 208 rfl rfl rfl rfl, .n2 208 223 rfl rfl rfl (fun w HS => X.pickT rfl rfl), trivial⟩ (fun w HS => ?_)
                replace HS := signalmanlaw15_pair.close trivial HS
                exact At.meet true ⟨rfl, rfl, rfl, trivial⟩ ⟨HS, kl126, by omega, H⟩
              ·replace H := ite_f c144 H
               refine V.dr [44] [45, 46] [(178, Value.int .i64 x121), (179, Value.pointer (some ⟨bt9_0, 0, none⟩)), (180, Value.int .i64 x117), (181, Value.pointer (some ⟨bt9_0, 0, none⟩)), (182, Value.pointer (some ⟨bt9_0, 0 + 6, none⟩)), (183, Value.pointer (some ⟨bt9_0, 0 + 6 + 1 * 1, none⟩)), (184, Value.slice a7_132 x90.said.2.length c7_132), (185, Value.int .i64 (x90.said.2.length : Int)), (186, Value.bool (!(decide (x121 = (x90.said.2.length : Int))))), (187, Value.bool (!(decide (x121 = (x90.said.2.length : Int))))), (188, undef), (189, undef), (190, undef), (191, Value.bool true), (192, Value.bool true), (193, undef), (194, undef), (195, Value.bool true), (196, Value.bool true), (197, undef), (198, undef), (199, undef), (200, undef), (201, undef), (202, undef), (203, undef), (204, undef), (205, undef), (206, undef), (207, Value.bool true), (208, Value.bool true), (209, undef), (210, undef), (211, undef), (212, undef), (213, undef), (214, undef), (215, undef), (216, undef), (217, undef), (218, undef), (219, undef), (220, undef), (221, undef)] mo HS ?_
               refine T.drop (es' := []) (bl' := []) [(222, undef), (223, undef), (224, Value.bool true)] rfl ⟨.inr ⟨by decide, rfl⟩, ⟨.inr ⟨by decide, rfl⟩, ⟨.inr ⟨by decide, rfl⟩, trivial⟩⟩⟩ ?_
               refine T.fn [(9, _), (15, _), (224, _)] ⟨rfl, rfl, rfl, trivial⟩ ⟨.mv 16, .mv 9, .mv 15, .nc 179, .fa 181 fo59_3, .n2 180 182 rfl rfl rfl (fun w HS => X.indexArK 1 hk143 Try.underlying57 inf56 rfl rfl c134.1 c134.2), .ld 183 0 Try.underlying56, .n1 184 rfl rfl (fun w HS => X.lenSl Try.underlying56 rfl), .n2 178 185 rfl rfl rfl (fun w HS => X.cmp (!(decide (x121 = (x90.said.2.length : Int)))) rfl rfl rfl rfl), .mv 186, .gp 9 false true 187 rfl rfl (Option.some.inj (sb (n_f (decide_eq_false c144)))) rfl, .gp 9 false true 187 rfl rfl (Option.some.inj (sb (n_f (decide_eq_false c144)))) rfl, .gp 9 false true 187 rfl rfl (Option.some.inj (sb (n_f (decide_eq_false c144)))) rfl, .n2 187 190 rfl rfl rfl (fun w HS => X.pickT (sb (n_f (decide_eq_false c144))) rfl), .mv 191, .gp 14 false true 192 rfl rfl rfl rfl, .gp 14 false true 192 rfl rfl rfl rfl, .n2 192 194 rfl rfl rfl (fun w HS => X.pickT rfl rfl), .mv 195, .gp 18 false true 196 rfl rfl rfl rfl, .gp 18 false true 196 rfl rfl rfl rfl, .gp 18 false true 196 rfl rfl rfl rfl, .gp 18 false true 196 rfl rfl rfl rfl, .gp 18 false true 196 rfl rfl rfl rfl, .gp 18 false true 196 rfl rfl rfl rfl, .gp 18 false true 196 rfl rfl rfl rfl, .gp 18 false true 196 rfl rfl rfl rfl, .gp 18 false true 196 rfl rfl rfl rfl, .gp 18 false true 196 rfl rfl rfl rfl, .n2 196 206 rfl rfl rfl (fun w HS => X.pickT rfl rfl), .mv 207, .gp 30 false true 208 rfl rfl rfl rfl, .gp 30 false true 208 rfl rfl rfl rfl, .gp 30 false true 208 rfl rfl rfl rfl, .gp 30 false true 208 rfl rfl rfl rfl, .gp 30 false true 208 rfl rfl rfl rfl, .gp 30 false true 208 rfl rfl rfl rfl, .gp 30 false true 208 rfl rfl rfl rfl, .gp 30 false true 208 rfl rfl rfl rfl, .gp 30 false true 208 rfl rfl rfl rfl, .gp 30 false true 208 rfl rfl rfl rfl, .gp 30 false true 208 rfl rfl rfl rfl, .gp 30 false true 208 rfl rfl rfl rfl, .gp 30 false true 208 rfl rfl rfl rfl, .gp 30 false true 208 rfl rfl rfl rfl, .gp 30 false true 208 rfl rfl rfl rfl, .n2 208 223 rfl rfl rfl (fun w HS => X.pickT rfl rfl), trivial⟩ (fun w HS => ?_)
               replace HS := signalmanlaw15_pair.close trivial HS
               exact At.meet true ⟨rfl, rfl, rfl, trivial⟩ ⟨HS, kl126, by omega, H⟩
            ·rintro x127 w ⟨HS, kl130, hkkl130, H⟩
             unfold signalmanlaw15_ArqDelivers.j8 at H
             by_cases c131 : x127 = true
             ·replace H := ite_t c131 H
              refine V.condT (sb c131) (V.seq (V.region (W.as rfl (W.nx (V.ret (At.blockRet (At.thenRet (At.thenRet (At.blockRet (At.thenRet ?_))))))))))
              replace HS := HS.pk [2] [0, 1]
              cases H
              exact At.ret1 rfl rfl ⟨_, rfl, rfl, HS⟩
             ·replace H := ite_f c131 H
              refine V.condF (sb (b_f c131)) (V.skip (At.blockEnd (At.next (V.region (W.mv rfl (W.r (X.add rfl rfl) rfl (W.as rfl (W.nil ?_))))))))
              exact At.round kl130 (by omega) (w64 (x117 + 1)) ⟨rfl, rfl, trivial⟩ ⟨HS, H, by omega⟩
          ·replace H := ite_f c120 H
           refine V.condF (sb (decide_eq_false c120)) (V.exit (At.thenExit (At.thenExit (At.blockExit (At.next (V.seq (V.region (W.mv rfl (W.nc rfl ?_)))))))))
           obtain ⟨b0_164, b1_164, a2_164, c2_164, d2_164, a3_164, c3_164, d3_164, a4_164, c4_164, a5_164, c5_164, a6_164, c6_164, a7_164, c7_164, hi165, HS⟩ := signalmanlaw15_pair.open HS
           refine W.fa fo59_4 rfl (W.ld 0 HS Try.underlying3 rfl rfl rfl rfl (W.r (X.cmp (decide (x90.downs = 0)) rfl rfl rfl rfl) rfl (W.as rfl (W.nx (V.ret ?_)))))
           replace HS := HS.pk [12] [0, 1, 2, 3, 4, 5, 6, 7, 8, 9, 10, 11]
           cases H
           exact At.ret1 rfl rfl ⟨_, rfl, rfl, HS⟩
def signalmanlaw15_ArqDelivers.Pure : Prop := ∀ (a0 : Int) (a1 : List Int) (a2 : List Int), (Lit.int .i64 a0).wf = true → (∀ z ∈ a1, (Lit.int .i64 z).wf = true) → (a1.length : Int) ≤ 9223372036854775807 → (∀ z ∈ a2, (Lit.int .i64 z).wf = true) → (a2.length : Int) ≤ 9223372036854775807 → ∃ k, signalmanlaw15_ArqDelivers.f k a0 a1 a2 = some true
end Go.Proofs.Ytnlcafmkmfnobaa

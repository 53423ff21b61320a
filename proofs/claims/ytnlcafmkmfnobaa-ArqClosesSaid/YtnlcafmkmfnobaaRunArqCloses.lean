/- ArqCloses: the functions that its law reaches, as plain functions, and that the machine's calls come to what these say. Conditions: those that stand at each. -/
import Derived.Test.YtnlcafmkmfnobaaRunArqClosesP2
set_option linter.all false
set_option maxRecDepth 100000
set_option maxHeartbeats 4000000
set_option synthInstance.maxSize 100000
set_option synthInstance.maxHeartbeats 1000000
namespace Go.Proofs.Ytnlcafmkmfnobaa
open Go.RowKit Go.Proofs.Ytnlcafmkmfnobaa.Sep Go.Proofs.Ytnlcafmkmfnobaa.Walk
/-! ### (*signalman/signalmanlaw15.pair).collect: function 32 -/
mutual
def signalmanlaw15_pair_collect.l0 : Nat → Int → signalmanlaw15_pair → Option signalmanlaw15_pair
  | 0, _, _ => none
  | k + 1, x2, x3 => (if x2 < 2 then (if 0 ≤ x2 ∧ x2 < 2 then (if x2 = 0 then ((arq_Arq_Output.f x3.a.1).bind fun t84 => (if (x3.way.1.length : Int) + t84.1.length ≤ 1099511627776 then (signalmanlaw15_pair_collect.j1 k x2 (signalmanlaw15_pair_collect.l0 k) ({ a := (t84.2, x3.a.2), way := (x3.way.1 ++ t84.1, x3.way.2), heard := (x3.heard.1, x3.heard.2), said := (x3.said.1, x3.said.2), downs := x3.downs } : signalmanlaw15_pair)) else none)) else ((arq_Arq_Output.f x3.a.2).bind fun t90 => (if (x3.way.2.length : Int) + t90.1.length ≤ 1099511627776 then (signalmanlaw15_pair_collect.j1 k x2 (signalmanlaw15_pair_collect.l0 k) ({ a := (x3.a.1, t90.2), way := (x3.way.1, x3.way.2 ++ t90.1), heard := (x3.heard.1, x3.heard.2), said := (x3.said.1, x3.said.2), downs := x3.downs } : signalmanlaw15_pair)) else none))) else none) else some x3)
def signalmanlaw15_pair_collect.l2 : Nat → Int → (Int → signalmanlaw15_pair → Option signalmanlaw15_pair) → signalmanlaw15_pair → Option signalmanlaw15_pair
  | 0, _, _, _ => none
  | k + 1, x2, Lq9, x11 => (if 0 ≤ x2 ∧ x2 < 2 then (if x2 = 0 then ((arq_Arq_Recv.f x11.a.1).bind fun t75 => (signalmanlaw15_pair_collect.j3 k x2 Lq9 (signalmanlaw15_pair_collect.l2 k x2 Lq9) ({ a := (t75.2.2, x11.a.2), way := (x11.way.1, x11.way.2), heard := (x11.heard.1, x11.heard.2), said := (x11.said.1, x11.said.2), downs := x11.downs } : signalmanlaw15_pair) t75.1 t75.2.1)) else ((arq_Arq_Recv.f x11.a.2).bind fun t78 => (signalmanlaw15_pair_collect.j3 k x2 Lq9 (signalmanlaw15_pair_collect.l2 k x2 Lq9) ({ a := (x11.a.1, t78.2.2), way := (x11.way.1, x11.way.2), heard := (x11.heard.1, x11.heard.2), said := (x11.said.1, x11.said.2), downs := x11.downs } : signalmanlaw15_pair) t78.1 t78.2.1))) else none)
def signalmanlaw15_pair_collect.l5 : Nat → Int → (Int → signalmanlaw15_pair → Option signalmanlaw15_pair) → (List Int) → Int → signalmanlaw15_pair → Option signalmanlaw15_pair
  | 0, _, _, _, _, _ => none
  | k + 1, x2, Lq48, x46, x51, x52 => (if x51 < (x46.length : Int) then (if 0 ≤ x51 ∧ x51 < (x46.length : Int) then (if (x46.getD x51.toNat 0) = 1 then (signalmanlaw15_pair_collect.l5 k x2 Lq48 x46 (w64 (x51 + 1)) x52) else (signalmanlaw15_pair_collect.l5 k x2 Lq48 x46 (w64 (x51 + 1)) ({ a := (x52.a.1, x52.a.2), way := (x52.way.1, x52.way.2), heard := (x52.heard.1, x52.heard.2), said := (x52.said.1, x52.said.2), downs := w64 (x52.downs + 1) } : signalmanlaw15_pair))) else none) else (Lq48 (w64 (x2 + 1)) x52))
def signalmanlaw15_pair_collect.j4 (k : Nat) (x2 : Int) (Lq48 : Int → signalmanlaw15_pair → Option signalmanlaw15_pair) (x43 : signalmanlaw15_pair) (x46 : List Int) : Option signalmanlaw15_pair := (signalmanlaw15_pair_collect.l5 k x2 Lq48 x46 0 x43)
def signalmanlaw15_pair_collect.j3 (k : Nat) (x2 : Int) (Lq20 : Int → signalmanlaw15_pair → Option signalmanlaw15_pair) (Lq22 : signalmanlaw15_pair → Option signalmanlaw15_pair) (x14 : signalmanlaw15_pair) (x17 : List Int) (x18 : Bool) : Option signalmanlaw15_pair := (if x18 = true then (if 0 ≤ x2 ∧ x2 < 2 then (if x2 = 0 then (if (x14.heard.1.length : Int) + (([x17] : List (List Int))).length ≤ 1099511627776 then (Lq22 ({ a := (x14.a.1, x14.a.2), way := (x14.way.1, x14.way.2), heard := (x14.heard.1 ++ ([x17] : List (List Int)), x14.heard.2), said := (x14.said.1, x14.said.2), downs := x14.downs } : signalmanlaw15_pair)) else none) else (if (x14.heard.2.length : Int) + (([x17] : List (List Int))).length ≤ 1099511627776 then (Lq22 ({ a := (x14.a.1, x14.a.2), way := (x14.way.1, x14.way.2), heard := (x14.heard.1, x14.heard.2 ++ ([x17] : List (List Int))), said := (x14.said.1, x14.said.2), downs := x14.downs } : signalmanlaw15_pair)) else none)) else none) else (if 0 ≤ x2 ∧ x2 < 2 then (if x2 = 0 then ((arq_Arq_Inds.f x14.a.1).bind fun t66 => (signalmanlaw15_pair_collect.j4 k x2 Lq20 ({ a := (t66.2, x14.a.2), way := (x14.way.1, x14.way.2), heard := (x14.heard.1, x14.heard.2), said := (x14.said.1, x14.said.2), downs := x14.downs } : signalmanlaw15_pair) t66.1)) else ((arq_Arq_Inds.f x14.a.2).bind fun t69 => (signalmanlaw15_pair_collect.j4 k x2 Lq20 ({ a := (x14.a.1, t69.2), way := (x14.way.1, x14.way.2), heard := (x14.heard.1, x14.heard.2), said := (x14.said.1, x14.said.2), downs := x14.downs } : signalmanlaw15_pair) t69.1))) else none))
def signalmanlaw15_pair_collect.j1 (k : Nat) (x2 : Int) (Lq9 : Int → signalmanlaw15_pair → Option signalmanlaw15_pair) (x7 : signalmanlaw15_pair) : Option signalmanlaw15_pair := (signalmanlaw15_pair_collect.l2 k x2 Lq9 x7)
end
def signalmanlaw15_pair_collect.f (k : Nat) (a0 : signalmanlaw15_pair) : Option signalmanlaw15_pair := (signalmanlaw15_pair_collect.l0 k 0 a0)
theorem signalmanlaw15_pair_collect.calls {k : Nat} {a0 : signalmanlaw15_pair} {R : As} {w0 w : World} {b0 : Nat} {r : signalmanlaw15_pair} (H : signalmanlaw15_pair_collect.f k a0 = some r) (HS : Sep.St [signalmanlaw15_pair.at b0 a0, R] w0 w)  : Calls Try.prog 32 #[Value.pointer (some ⟨b0, 0, none⟩)] w (Ret fun u w => u = Value.tuple #[] ∧ Sep.St [signalmanlaw15_pair.at b0 r, R] w0 w) := by
  unfold signalmanlaw15_pair_collect.f at H
  refine calls_enter Try.func32 rfl rfl ?_
  have H : _ = some r := H
  refine V.seq (V.region (W.as rfl (W.nx (V.block (V.loop (σ := Int × signalmanlaw15_pair) (fun kq (st : Int × signalmanlaw15_pair) w => match st with | (x2, x3) => Sep.St [signalmanlaw15_pair.at b0 x3, R] w0 w ∧ signalmanlaw15_pair_collect.l0 kq x2 x3 = some r ∧ kq ≤ k) (fun st => match st with | (x2, x3) => [(0, Value.pointer (some ⟨b0, 0, none⟩)), (2, Value.int .i64 x2)]) k (0, a0) ⟨rfl, rfl, trivial⟩ ⟨HS, H, Nat.le_refl _⟩ ?_)))))
  rintro kq4 ⟨x2, x3⟩ w ⟨HS, H, hk5⟩
  cases kq4 with
  | zero => exact absurd H (by simp [signalmanlaw15_pair_collect.l0])
  | succ kq4 =>
    simp only [signalmanlaw15_pair_collect.l0] at H
    refine V.seq (V.seq (V.region (W.mv rfl (W.r (X.cmp (decide (x2 < 2)) rfl rfl rfl rfl) rfl (W.nx ?_)))))
    by_cases c6 : x2 < 2
    · replace H := ite_t c6 H
      refine V.condT (sb (decide_eq_true c6)) (V.skip (At.next (V.seq (V.block (V.meet (σ := signalmanlaw15_pair) (fun st w => match st with | x7 => Sep.St [signalmanlaw15_pair.at b0 x7, R] w0 w ∧ ∃ kf8 kl10, kf8 ≤ kq4 ∧ kl10 ≤ kq4 ∧ signalmanlaw15_pair_collect.j1 kf8 x2 (signalmanlaw15_pair_collect.l0 kl10) x7 = some r) (fun st => match st with | x7 => [(0, Value.pointer (some ⟨b0, 0, none⟩)), (2, Value.int .i64 x2)]) ?_ ?_)))))
      · obtain ⟨b0_80, b1_80, a2_80, c2_80, d2_80, a3_80, c3_80, d3_80, a4_80, c4_80, a5_80, c5_80, a6_80, c6_80, a7_80, c7_80, hi81, HS⟩ := signalmanlaw15_pair.open HS
        obtain ⟨c82, H⟩ := ite_n H
        by_cases c83 : x2 = 0
        · replace H := ite_t c83 H
          refine V.dr [14, 15, 19] [18] [(11, Value.pointer (some ⟨b0, 0, none⟩)), (12, Value.int .i64 x2), (13, Value.pointer (some ⟨b0, 0, none⟩)), (14, Value.int .i64 x2), (15, Value.pointer (some ⟨b0, 0, none⟩)), (16, Value.pointer (some ⟨b0, 0 + 2, none⟩)), (17, Value.pointer (some ⟨b0, 0 + 2 + 0 * 1, none⟩)), (18, Value.slice a2_80 x3.way.1.length c2_80), (19, Value.pointer (some ⟨b0, 0, none⟩)), (20, Value.int .i64 x2), (21, Value.pointer (some ⟨b0, 0, none⟩)), (22, Value.pointer (some ⟨b0, 0 + 0, none⟩)), (23, Value.pointer (some ⟨b0, 0 + 0 + 0 * 1, none⟩)), (24, Value.pointer (some ⟨b0_80, 0, none⟩)), (27, Value.pointer (some ⟨b0, 0, none⟩)), (28, Value.pointer (some ⟨b0, 0 + 2, none⟩))] mo HS ?_
          refine T.ev [(24, _)] [18] [8, 9, 10, 11, 12, 13] ⟨rfl, trivial⟩ ⟨.mv 0, .mv 2, .mv 0, .mv 2, .nc 13, .fa 15 fo59_1, .n2 14 16 rfl rfl rfl (fun w HS => X.indexArK 0 c83 Try.underlying55 inf30 rfl rfl c82.1 c82.2), .ld 17 0 Try.underlying30, .mv 0, .mv 2, .nc 19, .fa 21 fo59_0, .n2 20 22 rfl rfl rfl (fun w HS => X.indexArK 0 c83 Try.underlying54 inf26 rfl rfl c82.1 c82.2), .ld 23 0 Try.underlying26, .nc 11, .fa 27 fo59_1, trivial⟩ rfl (fun w HS => ?_)
          obtain ⟨t84, A85, H⟩ := bind_s H
          replace HS := HS.pm [1, 0, 2, 3, 4, 5, 6, 7, 8, 9, 10, 11]
          refine ⟨_, Y.cl Try.func20 (arq_Arq_Output.calls A85 HS.j1), ?_⟩
          rintro _ w ⟨at84_0, ct84_0, dt84_0, rfl, HS⟩
          replace HS := HS.o3
          refine T.nw HS ?_
          refine T.ev [(18, _), (25, _)] [] [2, 3, 4, 5, 6, 7] ⟨rfl, rfl, trivial⟩ ⟨.mv 0, .mv 2, .mv 0, .mv 2, .nc 13, .fa 15 fo59_1, .n2 14 16 rfl rfl rfl (fun w HS => X.indexArK 0 c83 Try.underlying55 inf30 rfl rfl c82.1 c82.2), .ld 17 3 Try.underlying30, .nc 11, .fa 27 fo59_1, trivial⟩ rfl (fun w HS => ?_)
          obtain ⟨c86, H⟩ := ite_n H
          refine ⟨_, Y.app (xs := x3.way.1) (ys := t84.1) 5 Try.underlying30 ap39 rfl (by decide) HS rfl rfl rfl (rdC.at 0 row_rd HS rfl) (St.tie_one 1 HS rfl) (by omega) (by omega), ?_⟩
          rintro _ w ⟨ra87, rc88, rfl, HS⟩
          replace HS := HS.fr 6
          replace HS := St.tie_app 2 HS rfl
          refine T.nm [(26, Value.slice ra87 (x3.way.1 ++ t84.1).length rc88), (29, Value.pointer (some ⟨b0, 0 + 2 + 0 * 1, none⟩))] HS ⟨.inl ⟨rfl, rfl⟩, ⟨.inr ⟨by decide, rfl⟩, trivial⟩⟩ ?_
          refine T.ev [(26, _), (29, _)] [] [0, 1, 16, 17, 18] ⟨rfl, rfl, trivial⟩ ⟨.mv 0, .mv 2, .nc 11, .fa 27 fo59_1, .n2 12 28 rfl rfl rfl (fun w HS => X.indexArK 0 c83 Try.underlying55 inf30 rfl rfl c82.1 c82.2), trivial⟩ rfl (fun w HS => ?_)
          refine ⟨_, Y.sto 4 2 HS inf30 rfl rfl rfl rfl rfl rfl, ?_⟩
          rintro _ w HS
          refine T.nn HS ?_
          refine T.fn [(0, _), (2, _)] ⟨rfl, rfl, trivial⟩ trivial (fun w HS => ?_)
          replace HS := HS.pm [4, 3, 5, 6, 0, 7, 8, 9, 10, 11, 12, 1, 2, 13]
          replace HS := signalmanlaw15_pair.close trivial HS
          replace HS := HS.pk [0, 3] [1, 2]
          exact At.meet (({ a := (t84.2, x3.a.2), way := (x3.way.1 ++ t84.1, x3.way.2), heard := (x3.heard.1, x3.heard.2), said := (x3.said.1, x3.said.2), downs := x3.downs } : signalmanlaw15_pair)) ⟨rfl, rfl, trivial⟩ ⟨HS, kq4, kq4, by omega, by omega, H⟩
        · replace H := ite_f c83 H
          have hk89 : x2 = 1 := by omega
          refine V.dr [14, 15, 19] [18] [(11, Value.pointer (some ⟨b0, 0, none⟩)), (12, Value.int .i64 x2), (13, Value.pointer (some ⟨b0, 0, none⟩)), (14, Value.int .i64 x2), (15, Value.pointer (some ⟨b0, 0, none⟩)), (16, Value.pointer (some ⟨b0, 0 + 2, none⟩)), (17, Value.pointer (some ⟨b0, 0 + 2 + 1 * 1, none⟩)), (18, Value.slice a3_80 x3.way.2.length c3_80), (19, Value.pointer (some ⟨b0, 0, none⟩)), (20, Value.int .i64 x2), (21, Value.pointer (some ⟨b0, 0, none⟩)), (22, Value.pointer (some ⟨b0, 0 + 0, none⟩)), (23, Value.pointer (some ⟨b0, 0 + 0 + 1 * 1, none⟩)), (24, Value.pointer (some ⟨b1_80, 0, none⟩)), (27, Value.pointer (some ⟨b0, 0, none⟩)), (28, Value.pointer (some ⟨b0, 0 + 2, none⟩))] mo HS ?_
          refine T.ev [(24, _)] [18] [8, 9, 10, 11, 12, 13] ⟨rfl, trivial⟩ ⟨.mv 0, .mv 2, .mv 0, .mv 2, .nc 13, .fa 15 fo59_1, .n2 14 16 rfl rfl rfl (fun w HS => X.indexArK 1 hk89 Try.underlying55 inf30 rfl rfl c82.1 c82.2), .ld 17 0 Try.underlying30, .mv 0, .mv 2, .nc 19, .fa 21 fo59_0, .n2 20 22 rfl rfl rfl (fun w HS => X.indexArK 1 hk89 Try.underlying54 inf26 rfl rfl c82.1 c82.2), .ld 23 0 Try.underlying26, .nc 11, .fa 27 fo59_1, trivial⟩ rfl (fun w HS => ?_)
          obtain ⟨t90, A91, H⟩ := bind_s H
          replace HS := HS.pm [2, 0, 1, 3, 4, 5, 6, 7, 8, 9, 10, 11]
          refine ⟨_, Y.cl Try.func20 (arq_Arq_Output.calls A91 HS.j1), ?_⟩
          rintro _ w ⟨at90_0, ct90_0, dt90_0, rfl, HS⟩
          replace HS := HS.o3
          refine T.nw HS ?_
          refine T.ev [(18, _), (25, _)] [] [2, 3, 4, 5, 6, 7] ⟨rfl, rfl, trivial⟩ ⟨.mv 0, .mv 2, .mv 0, .mv 2, .nc 13, .fa 15 fo59_1, .n2 14 16 rfl rfl rfl (fun w HS => X.indexArK 1 hk89 Try.underlying55 inf30 rfl rfl c82.1 c82.2), .ld 17 3 Try.underlying30, .nc 11, .fa 27 fo59_1, trivial⟩ rfl (fun w HS => ?_)
          obtain ⟨c92, H⟩ := ite_n H
          refine ⟨_, Y.app (xs := x3.way.2) (ys := t90.1) 7 Try.underlying30 ap39 rfl (by decide) HS rfl rfl rfl (rdC.at 0 row_rd HS rfl) (St.tie_one 1 HS rfl) (by omega) (by omega), ?_⟩
          rintro _ w ⟨ra93, rc94, rfl, HS⟩
          replace HS := HS.fr 8
          replace HS := St.tie_app 2 HS rfl
          refine T.nm [(26, Value.slice ra93 (x3.way.2 ++ t90.1).length rc94), (29, Value.pointer (some ⟨b0, 0 + 2 + 1 * 1, none⟩))] HS ⟨.inl ⟨rfl, rfl⟩, ⟨.inr ⟨by decide, rfl⟩, trivial⟩⟩ ?_
          refine T.ev [(26, _), (29, _)] [] [0, 1, 16, 17, 18] ⟨rfl, rfl, trivial⟩ ⟨.mv 0, .mv 2, .nc 11, .fa 27 fo59_1, .n2 12 28 rfl rfl rfl (fun w HS => X.indexArK 1 hk89 Try.underlying55 inf30 rfl rfl c82.1 c82.2), trivial⟩ rfl (fun w HS => ?_)
          refine ⟨_, Y.sto 4 3 HS inf30 rfl rfl rfl rfl rfl rfl, ?_⟩
          rintro _ w HS
          refine T.nn HS ?_
          refine T.fn [(0, _), (2, _)] ⟨rfl, rfl, trivial⟩ trivial (fun w HS => ?_)
          replace HS := HS.pm [4, 5, 3, 6, 7, 8, 0, 9, 10, 11, 12, 1, 2, 13]
          replace HS := signalmanlaw15_pair.close trivial HS
          replace HS := HS.pk [0, 3] [1, 2]
          exact At.meet (({ a := (x3.a.1, t90.2), way := (x3.way.1, x3.way.2 ++ t90.1), heard := (x3.heard.1, x3.heard.2), said := (x3.said.1, x3.said.2), downs := x3.downs } : signalmanlaw15_pair)) ⟨rfl, rfl, trivial⟩ ⟨HS, kq4, kq4, by omega, by omega, H⟩
      · rintro x7 w ⟨HS, kf8, kl10, hkkf8, hkkl10, H⟩
        unfold signalmanlaw15_pair_collect.j1 at H
        refine V.seq (V.block (V.loop (σ := signalmanlaw15_pair) (fun kq (st : signalmanlaw15_pair) w => match st with | x11 => Sep.St [signalmanlaw15_pair.at b0 x11, R] w0 w ∧ signalmanlaw15_pair_collect.l2 kq x2 (signalmanlaw15_pair_collect.l0 kl10) x11 = some r ∧ kq ≤ kf8) (fun st => match st with | x11 => [(0, Value.pointer (some ⟨b0, 0, none⟩)), (2, Value.int .i64 x2)]) kf8 x7 ⟨rfl, rfl, trivial⟩ ⟨HS, H, Nat.le_refl _⟩ ?_))
        rintro kq12 x11 w ⟨HS, H, hk13⟩
        cases kq12 with
        | zero => exact absurd H (by simp [signalmanlaw15_pair_collect.l2])
        | succ kq12 =>
          simp only [signalmanlaw15_pair_collect.l2] at H
          refine V.block (V.meet (σ := signalmanlaw15_pair × Option Addr × Nat × List Int × Bool) (fun st w => match st with | (x14, ra15, rc16, x17, x18) => Sep.St [fsl 1 (.slice ra15 x17.length rc16) x17.length (x17.map (Value.int .u8)), signalmanlaw15_pair.at b0 x14, R] w0 w ∧ ∃ kf19 kl21 kl23, kf19 ≤ kq12 ∧ kl21 ≤ kl10 ∧ kl23 ≤ kq12 ∧ signalmanlaw15_pair_collect.j3 kf19 x2 (signalmanlaw15_pair_collect.l0 kl21) (signalmanlaw15_pair_collect.l2 kl23 x2 (signalmanlaw15_pair_collect.l0 kl10)) x14 x17 x18 = some r) (fun st => match st with | (x14, ra15, rc16, x17, x18) => [(0, Value.pointer (some ⟨b0, 0, none⟩)), (2, Value.int .i64 x2), (3, Value.slice ra15 x17.length rc16), (4, Value.bool x18)]) ?_ ?_)
          · refine V.region (W.mv rfl (W.mv rfl (W.nc rfl ?_)))
            obtain ⟨b0_71, b1_71, a2_71, c2_71, d2_71, a3_71, c3_71, d3_71, a4_71, c4_71, a5_71, c5_71, a6_71, c6_71, a7_71, c7_71, hi72, HS⟩ := signalmanlaw15_pair.open HS
            refine W.fa fo59_0 rfl ?_
            obtain ⟨c73, H⟩ := ite_n H
            by_cases c74 : x2 = 0
            · replace H := ite_t c74 H
              refine W.r (X.indexArK 0 c74 Try.underlying54 inf26 rfl rfl c73.1 c73.2) rfl (W.ld 0 HS Try.underlying26 rfl rfl rfl rfl ?_)
              obtain ⟨t75, A76, H⟩ := bind_s H
              replace HS := HS.pm [1, 0, 2, 3, 4, 5, 6, 7, 8, 9, 10, 11]
              refine W.e (Y.cl Try.func31 (arq_Arq_Recv.calls A76 HS.j1)) rfl ?_
              rintro _ w ⟨at75_0, ct75_0, rfl, HS⟩
              replace HS := HS.o2
              refine W.mv rfl (W.r (X.extract rfl rfl) rfl (W.r (X.extract rfl rfl) rfl (W.as rfl (W.as rfl (W.nil ?_)))))
              replace HS := HS.pm [2, 1, 3, 4, 5, 6, 7, 8, 9, 10, 11, 0, 12]
              replace HS := signalmanlaw15_pair.close trivial HS
              replace HS := HS.pk [1, 0, 2] []
              exact At.meet (({ a := (t75.2.2, x11.a.2), way := (x11.way.1, x11.way.2), heard := (x11.heard.1, x11.heard.2), said := (x11.said.1, x11.said.2), downs := x11.downs } : signalmanlaw15_pair), at75_0, ct75_0, t75.1, t75.2.1) ⟨rfl, rfl, rfl, rfl, trivial⟩ ⟨HS, kq12, kl10, kq12, by omega, by omega, by omega, H⟩
            · replace H := ite_f c74 H
              have hk77 : x2 = 1 := by omega
              refine W.r (X.indexArK 1 hk77 Try.underlying54 inf26 rfl rfl c73.1 c73.2) rfl (W.ld 0 HS Try.underlying26 rfl rfl rfl rfl ?_)
              obtain ⟨t78, A79, H⟩ := bind_s H
              replace HS := HS.pm [2, 0, 1, 3, 4, 5, 6, 7, 8, 9, 10, 11]
              refine W.e (Y.cl Try.func31 (arq_Arq_Recv.calls A79 HS.j1)) rfl ?_
              rintro _ w ⟨at78_0, ct78_0, rfl, HS⟩
              replace HS := HS.o2
              refine W.mv rfl (W.r (X.extract rfl rfl) rfl (W.r (X.extract rfl rfl) rfl (W.as rfl (W.as rfl (W.nil ?_)))))
              replace HS := HS.pm [2, 3, 1, 4, 5, 6, 7, 8, 9, 10, 11, 0, 12]
              replace HS := signalmanlaw15_pair.close trivial HS
              replace HS := HS.pk [1, 0, 2] []
              exact At.meet (({ a := (x11.a.1, t78.2.2), way := (x11.way.1, x11.way.2), heard := (x11.heard.1, x11.heard.2), said := (x11.said.1, x11.said.2), downs := x11.downs } : signalmanlaw15_pair), at78_0, ct78_0, t78.1, t78.2.1) ⟨rfl, rfl, rfl, rfl, trivial⟩ ⟨HS, kq12, kl10, kq12, by omega, by omega, by omega, H⟩
          · rintro ⟨x14, ra15, rc16, x17, x18⟩ w ⟨HS, kf19, kl21, kl23, hkkf19, hkkl21, hkkl23, H⟩
            unfold signalmanlaw15_pair_collect.j3 at H
            refine V.seq (V.seq (V.region (W.mv rfl (W.r (X.not rfl) rfl (W.nx ?_)))))
            by_cases c25 : x18 = true
            · replace H := ite_t c25 H
              refine V.condF (sb (n_t c25)) (V.skip (At.next ?_))
              replace HS := HS.fr 1
              obtain ⟨b0_26, b1_26, a2_26, c2_26, d2_26, a3_26, c3_26, d3_26, a4_26, c4_26, a5_26, c5_26, a6_26, c6_26, a7_26, c7_26, hi27, HS⟩ := signalmanlaw15_pair.open HS
              obtain ⟨c28, H⟩ := ite_n H
              by_cases c29 : x2 = 0
              · replace H := ite_t c29 H
                refine V.dr [10, 11, 15] [14] [(42, Value.pointer (some ⟨b0, 0, none⟩)), (43, Value.int .i64 x2), (44, Value.pointer (some ⟨b0, 0, none⟩)), (45, Value.int .i64 x2), (46, Value.pointer (some ⟨b0, 0, none⟩)), (47, Value.pointer (some ⟨b0, 0 + 4, none⟩)), (48, Value.pointer (some ⟨b0, 0 + 4 + 0 * 1, none⟩)), (49, Value.slice a4_26 x14.heard.1.length c4_26), (50, Value.slice ra15 x17.length rc16), (51, Value.string (strOf x17)), (54, Value.pointer (some ⟨b0, 0, none⟩)), (55, Value.pointer (some ⟨b0, 0 + 4, none⟩))] mo HS ?_
                refine T.ev [(51, _)] [14] [8, 9] ⟨rfl, trivial⟩ ⟨.mv 0, .mv 2, .mv 0, .mv 2, .nc 44, .fa 46 fo59_2, .n2 45 47 rfl rfl rfl (fun w HS => X.indexArK 0 c29 Try.underlying57 inf56 rfl rfl c28.1 c28.2), .ld 48 0 Try.underlying56, .mv 3, .n1 50 rfl rfl (fun w HS => X.bytesStr Try.underlying39 Try.underlying5 Try.underlying9 rfl (rdC.at 11 fsl.rd HS rfl)), .nc 42, .fa 54 fo59_2, trivial⟩ rfl (fun w HS => ?_)
                refine ⟨_, Y.ls (e := 9) (fun x => Value.string (strOf x)) ([x17] : List (List Int)) HS rfl rfl (fun _ => by kernel_rfl), ?_⟩
                rintro _ w ⟨lb32, rfl, HS⟩
                refine T.nw HS ?_
                refine T.ev [(49, _), (52, _)] [] [2, 3, 4, 5, 6, 7] ⟨rfl, rfl, trivial⟩ ⟨.mv 0, .mv 2, .mv 0, .mv 2, .nc 44, .fa 46 fo59_2, .n2 45 47 rfl rfl rfl (fun w HS => X.indexArK 0 c29 Try.underlying57 inf56 rfl rfl c28.1 c28.2), .ld 48 1 Try.underlying56, .nc 42, .fa 54 fo59_2, trivial⟩ rfl (fun w HS => ?_)
                obtain ⟨c33, H⟩ := ite_n H
                refine ⟨_, Y.appF (fun x => Value.string (strOf x)) (fun _ => rfl) 8 Try.underlying56 ap9 rfl HS rfl rfl rfl (rdC.at 0 row_rd HS rfl) (by omega) (by omega), ?_⟩
                rintro _ w ⟨ra34, rc35, rfl, HS⟩
                refine T.nm [(53, Value.slice ra34 (x14.heard.1 ++ ([x17] : List (List Int))).length rc35), (56, Value.pointer (some ⟨b0, 0 + 4 + 0 * 1, none⟩))] HS ⟨.inl ⟨rfl, rfl⟩, ⟨.inr ⟨by decide, rfl⟩, trivial⟩⟩ ?_
                refine T.ev [(53, _), (56, _)] [] [0, 1, 12, 13, 14] ⟨rfl, rfl, trivial⟩ ⟨.mv 0, .mv 2, .nc 42, .fa 54 fo59_2, .n2 43 55 rfl rfl rfl (fun w HS => X.indexArK 0 c29 Try.underlying57 inf56 rfl rfl c28.1 c28.2), trivial⟩ rfl (fun w HS => ?_)
                refine ⟨_, Y.sto 1 4 HS inf56 rfl rfl rfl rfl rfl rfl, ?_⟩
                rintro _ w HS
                refine T.nn HS ?_
                refine T.fn [(0, _), (2, _)] ⟨rfl, rfl, trivial⟩ trivial (fun w HS => ?_)
                refine At.blockEnd ?_
                replace HS := HS.pm [1, 2, 3, 4, 5, 6, 7, 8, 9, 10, 11, 0, 12, 13]
                replace HS := signalmanlaw15_pair.close trivial HS
                replace HS := HS.pk [0, 3] [1, 2]
                exact At.round kl23 (by omega) (({ a := (x14.a.1, x14.a.2), way := (x14.way.1, x14.way.2), heard := (x14.heard.1 ++ ([x17] : List (List Int)), x14.heard.2), said := (x14.said.1, x14.said.2), downs := x14.downs } : signalmanlaw15_pair)) ⟨rfl, rfl, trivial⟩ ⟨HS, H, by omega⟩
              · replace H := ite_f c29 H
                have hk36 : x2 = 1 := by omega
                refine V.dr [10, 11, 15] [14] [(42, Value.pointer (some ⟨b0, 0, none⟩)), (43, Value.int .i64 x2), (44, Value.pointer (some ⟨b0, 0, none⟩)), (45, Value.int .i64 x2), (46, Value.pointer (some ⟨b0, 0, none⟩)), (47, Value.pointer (some ⟨b0, 0 + 4, none⟩)), (48, Value.pointer (some ⟨b0, 0 + 4 + 1 * 1, none⟩)), (49, Value.slice a5_26 x14.heard.2.length c5_26), (50, Value.slice ra15 x17.length rc16), (51, Value.string (strOf x17)), (54, Value.pointer (some ⟨b0, 0, none⟩)), (55, Value.pointer (some ⟨b0, 0 + 4, none⟩))] mo HS ?_
                refine T.ev [(51, _)] [14] [8, 9] ⟨rfl, trivial⟩ ⟨.mv 0, .mv 2, .mv 0, .mv 2, .nc 44, .fa 46 fo59_2, .n2 45 47 rfl rfl rfl (fun w HS => X.indexArK 1 hk36 Try.underlying57 inf56 rfl rfl c28.1 c28.2), .ld 48 0 Try.underlying56, .mv 3, .n1 50 rfl rfl (fun w HS => X.bytesStr Try.underlying39 Try.underlying5 Try.underlying9 rfl (rdC.at 11 fsl.rd HS rfl)), .nc 42, .fa 54 fo59_2, trivial⟩ rfl (fun w HS => ?_)
                refine ⟨_, Y.ls (e := 9) (fun x => Value.string (strOf x)) ([x17] : List (List Int)) HS rfl rfl (fun _ => by kernel_rfl), ?_⟩
                rintro _ w ⟨lb39, rfl, HS⟩
                refine T.nw HS ?_
                refine T.ev [(49, _), (52, _)] [] [2, 3, 4, 5, 6, 7] ⟨rfl, rfl, trivial⟩ ⟨.mv 0, .mv 2, .mv 0, .mv 2, .nc 44, .fa 46 fo59_2, .n2 45 47 rfl rfl rfl (fun w HS => X.indexArK 1 hk36 Try.underlying57 inf56 rfl rfl c28.1 c28.2), .ld 48 1 Try.underlying56, .nc 42, .fa 54 fo59_2, trivial⟩ rfl (fun w HS => ?_)
                obtain ⟨c40, H⟩ := ite_n H
                refine ⟨_, Y.appF (fun x => Value.string (strOf x)) (fun _ => rfl) 9 Try.underlying56 ap9 rfl HS rfl rfl rfl (rdC.at 0 row_rd HS rfl) (by omega) (by omega), ?_⟩
                rintro _ w ⟨ra41, rc42, rfl, HS⟩
                refine T.nm [(53, Value.slice ra41 (x14.heard.2 ++ ([x17] : List (List Int))).length rc42), (56, Value.pointer (some ⟨b0, 0 + 4 + 1 * 1, none⟩))] HS ⟨.inl ⟨rfl, rfl⟩, ⟨.inr ⟨by decide, rfl⟩, trivial⟩⟩ ?_
                refine T.ev [(53, _), (56, _)] [] [0, 1, 12, 13, 14] ⟨rfl, rfl, trivial⟩ ⟨.mv 0, .mv 2, .nc 42, .fa 54 fo59_2, .n2 43 55 rfl rfl rfl (fun w HS => X.indexArK 1 hk36 Try.underlying57 inf56 rfl rfl c28.1 c28.2), trivial⟩ rfl (fun w HS => ?_)
                refine ⟨_, Y.sto 1 5 HS inf56 rfl rfl rfl rfl rfl rfl, ?_⟩
                rintro _ w HS
                refine T.nn HS ?_
                refine T.fn [(0, _), (2, _)] ⟨rfl, rfl, trivial⟩ trivial (fun w HS => ?_)
                refine At.blockEnd ?_
                replace HS := HS.pm [1, 2, 3, 4, 5, 6, 7, 8, 9, 10, 11, 0, 12, 13]
                replace HS := signalmanlaw15_pair.close trivial HS
                replace HS := HS.pk [0, 3] [1, 2]
                exact At.round kl23 (by omega) (({ a := (x14.a.1, x14.a.2), way := (x14.way.1, x14.way.2), heard := (x14.heard.1, x14.heard.2 ++ ([x17] : List (List Int))), said := (x14.said.1, x14.said.2), downs := x14.downs } : signalmanlaw15_pair)) ⟨rfl, rfl, trivial⟩ ⟨HS, H, by omega⟩
            · replace H := ite_f c25 H
              refine V.condT (sb (n_f (b_f c25))) (V.exit (At.thenExit (At.blockPast rfl (At.thenExit (At.blockExit (At.next (V.meet (σ := signalmanlaw15_pair × Option Addr × Nat × List Int) (fun st w => match st with | (x43, ra44, rc45, x46) => Sep.St [row 3 1 (.slice ra44 x46.length rc45) x46.length (x46.map (Value.int .i64)), fsl 1 (.slice ra15 x17.length rc16) x17.length (x17.map (Value.int .u8)), signalmanlaw15_pair.at b0 x43, R] w0 w ∧ ∃ kf47 kl49, kf47 ≤ kf19 ∧ kl49 ≤ kl21 ∧ signalmanlaw15_pair_collect.j4 kf47 x2 (signalmanlaw15_pair_collect.l0 kl49) x43 x46 = some r) (fun st => match st with | (x43, ra44, rc45, x46) => [(0, Value.pointer (some ⟨b0, 0, none⟩)), (2, Value.int .i64 x2), (5, Value.slice ra44 x46.length rc45)]) ?_ ?_)))))))
              · refine V.region (W.mv rfl (W.mv rfl (W.nc rfl ?_)))
                replace HS := HS.fr 1
                obtain ⟨b0_62, b1_62, a2_62, c2_62, d2_62, a3_62, c3_62, d3_62, a4_62, c4_62, a5_62, c5_62, a6_62, c6_62, a7_62, c7_62, hi63, HS⟩ := signalmanlaw15_pair.open HS
                refine W.fa fo59_0 rfl ?_
                obtain ⟨c64, H⟩ := ite_n H
                by_cases c65 : x2 = 0
                · replace H := ite_t c65 H
                  refine W.r (X.indexArK 0 c65 Try.underlying54 inf26 rfl rfl c64.1 c64.2) rfl (W.ld 0 HS Try.underlying26 rfl rfl rfl rfl ?_)
                  obtain ⟨t66, A67, H⟩ := bind_s H
                  replace HS := HS.pm [1, 0, 2, 3, 4, 5, 6, 7, 8, 9, 10, 11, 12]
                  refine W.e (Y.cl Try.func23 (arq_Arq_Inds.calls A67 HS.j1)) rfl ?_
                  rintro _ w ⟨at66_0, ct66_0, rfl, HS⟩
                  replace HS := HS.o2
                  refine W.as rfl (W.nil ?_)
                  replace HS := HS.pm [2, 1, 3, 4, 5, 6, 7, 8, 9, 10, 11, 0, 12, 13]
                  replace HS := signalmanlaw15_pair.close trivial HS
                  replace HS := HS.pk [1, 2, 0, 3] []
                  exact At.meet (({ a := (t66.2, x14.a.2), way := (x14.way.1, x14.way.2), heard := (x14.heard.1, x14.heard.2), said := (x14.said.1, x14.said.2), downs := x14.downs } : signalmanlaw15_pair), at66_0, ct66_0, t66.1) ⟨rfl, rfl, rfl, trivial⟩ ⟨HS, kf19, kl21, by omega, by omega, H⟩
                · replace H := ite_f c65 H
                  have hk68 : x2 = 1 := by omega
                  refine W.r (X.indexArK 1 hk68 Try.underlying54 inf26 rfl rfl c64.1 c64.2) rfl (W.ld 0 HS Try.underlying26 rfl rfl rfl rfl ?_)
                  obtain ⟨t69, A70, H⟩ := bind_s H
                  replace HS := HS.pm [2, 0, 1, 3, 4, 5, 6, 7, 8, 9, 10, 11, 12]
                  refine W.e (Y.cl Try.func23 (arq_Arq_Inds.calls A70 HS.j1)) rfl ?_
                  rintro _ w ⟨at69_0, ct69_0, rfl, HS⟩
                  replace HS := HS.o2
                  refine W.as rfl (W.nil ?_)
                  replace HS := HS.pm [2, 3, 1, 4, 5, 6, 7, 8, 9, 10, 11, 0, 12, 13]
                  replace HS := signalmanlaw15_pair.close trivial HS
                  replace HS := HS.pk [1, 2, 0, 3] []
                  exact At.meet (({ a := (x14.a.1, t69.2), way := (x14.way.1, x14.way.2), heard := (x14.heard.1, x14.heard.2), said := (x14.said.1, x14.said.2), downs := x14.downs } : signalmanlaw15_pair), at69_0, ct69_0, t69.1) ⟨rfl, rfl, rfl, trivial⟩ ⟨HS, kf19, kl21, by omega, by omega, H⟩
              · rintro ⟨x43, ra44, rc45, x46⟩ w ⟨HS, kf47, kl49, hkkf47, hkkl49, H⟩
                unfold signalmanlaw15_pair_collect.j4 at H
                refine V.seq (V.region (W.as rfl (W.nx (V.block (V.loop (σ := Int × signalmanlaw15_pair) (fun kq (st : Int × signalmanlaw15_pair) w => match st with | (x51, x52) => Sep.St [row 3 1 (.slice ra44 x46.length rc45) x46.length (x46.map (Value.int .i64)), fsl 1 (.slice ra15 x17.length rc16) x17.length (x17.map (Value.int .u8)), signalmanlaw15_pair.at b0 x52, R] w0 w ∧ signalmanlaw15_pair_collect.l5 kq x2 (signalmanlaw15_pair_collect.l0 kl49) x46 x51 x52 = some r ∧ kq ≤ kf47) (fun st => match st with | (x51, x52) => [(0, Value.pointer (some ⟨b0, 0, none⟩)), (2, Value.int .i64 x2), (5, Value.slice ra44 x46.length rc45), (6, Value.int .i64 x51)]) kf47 (0, x43) ⟨rfl, rfl, rfl, rfl, trivial⟩ ⟨HS, H, Nat.le_refl _⟩ ?_)))))
                rintro kq53 ⟨x51, x52⟩ w ⟨HS, H, hk54⟩
                cases kq53 with
                | zero => exact absurd H (by simp [signalmanlaw15_pair_collect.l5])
                | succ kq53 =>
                  simp only [signalmanlaw15_pair_collect.l5] at H
                  refine V.seq (V.seq (V.region (W.mv rfl (W.mv rfl (W.r (X.lenSl Try.underlying34 rfl) rfl (W.r (X.cmp (decide (x51 < (x46.length : Int))) rfl rfl rfl rfl) rfl (W.nx ?_)))))))
                  by_cases c55 : x51 < (x46.length : Int)
                  · replace H := ite_t c55 H
                    refine V.condT (sb (decide_eq_true c55)) (V.skip (At.next (V.seq (V.block (V.seq (V.region (W.mv rfl (W.mv rfl ?_))))))))
                    obtain ⟨c56, H⟩ := ite_n H
                    obtain ⟨eb57, eo58, hh⟩ := (rdC.at 0 row_rd HS rfl).some (by decide) c56.1 c56.2; subst hh
                    refine W.r (X.indexSl Try.underlying34 inf3 rfl rfl c56.1 c56.2) rfl (W.r (X.load Try.underlying3 rfl rfl ((rdC.at 0 row_rd HS rfl).cellI c56.1 c56.2)) rfl (W.r (X.cmp (!(decide ((x46.getD x51.toNat 0) = 1))) rfl rfl rfl rfl) rfl (W.nx ?_)))
                    by_cases c59 : (x46.getD x51.toNat 0) = 1
                    · replace H := ite_t c59 H
                      refine V.condF (sb (n_t (decide_eq_true c59))) (V.skip (At.blockEnd (At.next (V.region (W.mv rfl (W.r (X.add rfl rfl) rfl (W.as rfl (W.nil ?_))))))))
                      exact At.round kq53 (by omega) (w64 (x51 + 1), x52) ⟨rfl, rfl, rfl, rfl, trivial⟩ ⟨HS, H, by omega⟩
                    · replace H := ite_f c59 H
                      refine V.condT (sb (n_f (decide_eq_false c59))) (V.region (W.mv rfl (W.nc rfl ?_)))
                      replace HS := HS.fr 2
                      obtain ⟨b0_60, b1_60, a2_60, c2_60, d2_60, a3_60, c3_60, d3_60, a4_60, c4_60, a5_60, c5_60, a6_60, c6_60, a7_60, c7_60, hi61, HS⟩ := signalmanlaw15_pair.open HS
                      refine W.fa fo59_4 rfl (W.ld 0 HS Try.underlying3 rfl rfl rfl rfl (W.r (X.add rfl rfl) rfl (W.nc rfl (W.fa fo59_4 rfl (W.st 0 8 HS inf3 rfl rfl rfl rfl rfl rfl fun w HS => ?_)))))
                      refine W.nil (At.blockEnd (At.next (V.region (W.mv rfl (W.r (X.add rfl rfl) rfl (W.as rfl (W.nil ?_)))))))
                      replace HS := signalmanlaw15_pair.close trivial HS
                      replace HS := HS.pk [1, 2, 0, 3] []
                      exact At.round kq53 (by omega) (w64 (x51 + 1), ({ a := (x52.a.1, x52.a.2), way := (x52.way.1, x52.way.2), heard := (x52.heard.1, x52.heard.2), said := (x52.said.1, x52.said.2), downs := w64 (x52.downs + 1) } : signalmanlaw15_pair)) ⟨rfl, rfl, rfl, rfl, trivial⟩ ⟨HS, H, by omega⟩
                  · replace H := ite_f c55 H
                    refine V.condF (sb (decide_eq_false c55)) (V.exit (At.thenExit (At.thenExit (At.blockExit (At.blockEnd (At.next (V.region (W.mv rfl (W.r (X.add rfl rfl) rfl (W.as rfl (W.nil ?_)))))))))))
                    replace HS := HS.pk [2, 3] [0, 1]
                    exact At.round kl49 (by omega) (w64 (x2 + 1), x52) ⟨rfl, rfl, trivial⟩ ⟨HS, H, by omega⟩
    · replace H := ite_f c6 H
      refine V.condF (sb (decide_eq_false c6)) (V.exit (At.thenExit (At.thenExit (At.blockExit ?_))))
      cases H
      exact At.end0 rfl ⟨_, rfl, rfl, HS⟩

/-! ### (*signalman/signalmanlaw15.pair).carry: function 33 -/
mutual
def signalmanlaw15_pair_carry.j3 (k : Nat)  (x13 : signalmanlaw15_pair) : Option signalmanlaw15_pair := ((signalmanlaw15_pair_collect.f k x13).bind fun t15 => some t15)
def signalmanlaw15_pair_carry.j2 (k : Nat) (a1 : Int) (x2 : Bool) (x8 : List Int) (x11 : signalmanlaw15_pair) : Option signalmanlaw15_pair := (if x2 = true then (signalmanlaw15_pair_carry.j3 k x11) else (if 0 ≤ w64 (1 - a1) ∧ w64 (1 - a1) < 2 then (if w64 (1 - a1) = 0 then ((arq_Arq_Input.f k x11.a.1 x8).bind fun t22 => (signalmanlaw15_pair_carry.j3 k ({ a := (t22, x11.a.2), way := (x11.way.1, x11.way.2), heard := (x11.heard.1, x11.heard.2), said := (x11.said.1, x11.said.2), downs := x11.downs } : signalmanlaw15_pair))) else ((arq_Arq_Input.f k x11.a.2 x8).bind fun t25 => (signalmanlaw15_pair_carry.j3 k ({ a := (x11.a.1, t25), way := (x11.way.1, x11.way.2), heard := (x11.heard.1, x11.heard.2), said := (x11.said.1, x11.said.2), downs := x11.downs } : signalmanlaw15_pair)))) else none))
def signalmanlaw15_pair_carry.j1 (k : Nat) (a0 : signalmanlaw15_pair) (a1 : Int) (x2 : Bool) (x8 : List Int) : Option signalmanlaw15_pair := (if 0 ≤ a1 ∧ a1 < 2 then (if a1 = 0 then (if 0 ≤ (1 : Int) ∧ (1 : Int) ≤ (a0.way.1.length : Int) ∧ (a0.way.1.length : Int) ≤ (a0.way.1.length : Int) then (signalmanlaw15_pair_carry.j2 k a1 x2 x8 ({ a := (a0.a.1, a0.a.2), way := (cut a0.way.1 (1 : Int) (a0.way.1.length : Int), a0.way.2), heard := (a0.heard.1, a0.heard.2), said := (a0.said.1, a0.said.2), downs := a0.downs } : signalmanlaw15_pair)) else none) else (if 0 ≤ (1 : Int) ∧ (1 : Int) ≤ (a0.way.2.length : Int) ∧ (a0.way.2.length : Int) ≤ (a0.way.2.length : Int) then (signalmanlaw15_pair_carry.j2 k a1 x2 x8 ({ a := (a0.a.1, a0.a.2), way := (a0.way.1, cut a0.way.2 (1 : Int) (a0.way.2.length : Int)), heard := (a0.heard.1, a0.heard.2), said := (a0.said.1, a0.said.2), downs := a0.downs } : signalmanlaw15_pair)) else none)) else none)
def signalmanlaw15_pair_carry.j0 (k : Nat) (a0 : signalmanlaw15_pair) (a1 : Int) (x2 : Bool) (x3 : Bool) : Option signalmanlaw15_pair := (if x3 = true then (if 0 ≤ a1 ∧ a1 < 2 then (if a1 = 0 then (if 0 ≤ (0 : Int) ∧ (0 : Int) < (a0.way.1.length : Int) then (signalmanlaw15_pair_carry.j1 k a0 a1 x2 (a0.way.1.getD (0 : Int).toNat [])) else none) else (if 0 ≤ (0 : Int) ∧ (0 : Int) < (a0.way.2.length : Int) then (signalmanlaw15_pair_carry.j1 k a0 a1 x2 (a0.way.2.getD (0 : Int).toNat [])) else none)) else none) else some a0)
end
def signalmanlaw15_pair_carry.f (k : Nat) (a0 : signalmanlaw15_pair) (a1 : Int) (a2 : Bool) : Option signalmanlaw15_pair := (if 0 ≤ a1 ∧ a1 < 2 then (if a1 = 0 then (signalmanlaw15_pair_carry.j0 k a0 a1 a2 (decide ((a0.way.1.length : Int) > 0))) else (signalmanlaw15_pair_carry.j0 k a0 a1 a2 (decide ((a0.way.2.length : Int) > 0)))) else none)
theorem signalmanlaw15_pair_carry.calls {k : Nat} {a0 : signalmanlaw15_pair} {a1 : Int} {a2 : Bool} {R : As} {w0 w : World} {b0 : Nat} {r : signalmanlaw15_pair} (H : signalmanlaw15_pair_carry.f k a0 a1 a2 = some r) (HS : Sep.St [signalmanlaw15_pair.at b0 a0, R] w0 w)  : Calls Try.prog 33 #[Value.pointer (some ⟨b0, 0, none⟩), Value.int .i64 a1, Value.bool a2] w (Ret fun u w => u = Value.tuple #[] ∧ Sep.St [signalmanlaw15_pair.at b0 r, R] w0 w) := by
  unfold signalmanlaw15_pair_carry.f at H
  refine calls_enter Try.func33 rfl rfl ?_
  have H : _ = some r := H
  refine V.meet (σ := Bool × Bool) (fun st w => match st with | (x2, x3) => Sep.St [signalmanlaw15_pair.at b0 a0, R] w0 w ∧ ∃ kf4, kf4 ≤ k ∧ signalmanlaw15_pair_carry.j0 kf4 a0 a1 x2 x3 = some r) (fun st => match st with | (x2, x3) => [(0, Value.pointer (some ⟨b0, 0, none⟩)), (1, Value.int .i64 a1), (2, Value.bool x2), (14, Value.bool x3)]) ?_ ?_
  · refine V.region (W.mv rfl (W.mv rfl (W.nc rfl ?_)))
    obtain ⟨b0_57, b1_57, a2_57, c2_57, d2_57, a3_57, c3_57, d3_57, a4_57, c4_57, a5_57, c5_57, a6_57, c6_57, a7_57, c7_57, hi58, HS⟩ := signalmanlaw15_pair.open HS
    refine W.fa fo59_1 rfl ?_
    obtain ⟨c59, H⟩ := ite_n H
    by_cases c60 : a1 = 0
    · replace H := ite_t c60 H
      refine W.r (X.indexArK 0 c60 Try.underlying55 inf30 rfl rfl c59.1 c59.2) rfl (W.ld 0 HS Try.underlying30 rfl rfl rfl rfl (W.r (X.lenSl Try.underlying30 rfl) rfl (W.r (X.cmp (decide ((a0.way.1.length : Int) > 0)) rfl rfl rfl rfl) rfl (W.nil ?_))))
      replace HS := signalmanlaw15_pair.close trivial HS
      exact At.meet (a2, decide ((a0.way.1.length : Int) > 0)) ⟨rfl, rfl, rfl, rfl, trivial⟩ ⟨HS, k, by omega, H⟩
    · replace H := ite_f c60 H
      have hk61 : a1 = 1 := by omega
      refine W.r (X.indexArK 1 hk61 Try.underlying55 inf30 rfl rfl c59.1 c59.2) rfl (W.ld 0 HS Try.underlying30 rfl rfl rfl rfl (W.r (X.lenSl Try.underlying30 rfl) rfl (W.r (X.cmp (decide ((a0.way.2.length : Int) > 0)) rfl rfl rfl rfl) rfl (W.nil ?_))))
      replace HS := signalmanlaw15_pair.close trivial HS
      exact At.meet (a2, decide ((a0.way.2.length : Int) > 0)) ⟨rfl, rfl, rfl, rfl, trivial⟩ ⟨HS, k, by omega, H⟩
  · rintro ⟨x2, x3⟩ w ⟨HS, kf4, hkkf4, H⟩
    unfold signalmanlaw15_pair_carry.j0 at H
    by_cases c5 : x3 = true
    · replace H := ite_t c5 H
      refine V.condT (sb c5) (V.meet (σ := Option Addr × Nat × List Int) (fun st w => match st with | (ra6, rc7, x8) => Sep.St [fsl 1 (.slice ra6 x8.length rc7) x8.length (x8.map (Value.int .u8)), signalmanlaw15_pair.at b0 a0, R] w0 w ∧ ∃ kf9, kf9 ≤ kf4 ∧ signalmanlaw15_pair_carry.j1 kf9 a0 a1 x2 x8 = some r) (fun st => match st with | (ra6, rc7, x8) => [(0, Value.pointer (some ⟨b0, 0, none⟩)), (1, Value.int .i64 a1), (2, Value.bool x2), (6, Value.slice ra6 x8.length rc7)]) ?_ ?_)
      · refine V.region (W.mv rfl (W.mv rfl (W.nc rfl ?_)))
        obtain ⟨b0_34, b1_34, a2_34, c2_34, d2_34, a3_34, c3_34, d3_34, a4_34, c4_34, a5_34, c5_34, a6_34, c6_34, a7_34, c7_34, hi35, HS⟩ := signalmanlaw15_pair.open HS
        refine W.fa fo59_1 rfl ?_
        obtain ⟨c36, H⟩ := ite_n H
        by_cases c37 : a1 = 0
        · replace H := ite_t c37 H
          refine W.r (X.indexArK 0 c37 Try.underlying55 inf30 rfl rfl c36.1 c36.2) rfl (W.ld 0 HS Try.underlying30 rfl rfl rfl rfl ?_)
          obtain ⟨c38, H⟩ := ite_n H
          obtain ⟨eb39, eo40, hh⟩ := (rdC.at 3 row_rd HS rfl).some (by decide) c38.1 c38.2; subst hh
          refine W.r (X.indexSl Try.underlying30 inf39 rfl rfl c38.1 c38.2) rfl ?_
          obtain ⟨ec41, hc42, HS⟩ := St.tie_at 4 HS rfl ([]) c38.1 c38.2
          obtain ⟨ea43, em44, he46, HN⟩ := St.sl_openF (Value.int .u8) (fun t => tie_int t) HS; clear HS; subst he46; have HS := HN
          refine W.r (X.load Try.underlying39 rfl rfl ((rdC.at 4 row_rd HS rfl).cellEl0 (hc42 0 _ rfl))) rfl (W.as rfl (W.nil ?_))
          replace HS := HS.pm [1, 2, 3, 4, 5, 6, 7, 8, 9, 10, 11, 0, 12]
          replace HS := signalmanlaw15_pair.close trivial HS
          replace HS := HS.pk [1, 0, 2] []
          exact At.meet (ea43, em44, a0.way.1.getD (0 : Int).toNat []) ⟨rfl, rfl, rfl, rfl, trivial⟩ ⟨HS, kf4, by omega, H⟩
        · replace H := ite_f c37 H
          have hk47 : a1 = 1 := by omega
          refine W.r (X.indexArK 1 hk47 Try.underlying55 inf30 rfl rfl c36.1 c36.2) rfl (W.ld 0 HS Try.underlying30 rfl rfl rfl rfl ?_)
          obtain ⟨c48, H⟩ := ite_n H
          obtain ⟨eb49, eo50, hh⟩ := (rdC.at 5 row_rd HS rfl).some (by decide) c48.1 c48.2; subst hh
          refine W.r (X.indexSl Try.underlying30 inf39 rfl rfl c48.1 c48.2) rfl ?_
          obtain ⟨ec51, hc52, HS⟩ := St.tie_at 6 HS rfl ([]) c48.1 c48.2
          obtain ⟨ea53, em54, he56, HN⟩ := St.sl_openF (Value.int .u8) (fun t => tie_int t) HS; clear HS; subst he56; have HS := HN
          refine W.r (X.load Try.underlying39 rfl rfl ((rdC.at 6 row_rd HS rfl).cellEl0 (hc52 0 _ rfl))) rfl (W.as rfl (W.nil ?_))
          replace HS := HS.pm [1, 2, 3, 4, 5, 6, 7, 8, 9, 10, 11, 0, 12]
          replace HS := signalmanlaw15_pair.close trivial HS
          replace HS := HS.pk [1, 0, 2] []
          exact At.meet (ea53, em54, a0.way.2.getD (0 : Int).toNat []) ⟨rfl, rfl, rfl, rfl, trivial⟩ ⟨HS, kf4, by omega, H⟩
      · rintro ⟨ra6, rc7, x8⟩ w ⟨HS, kf9, hkkf9, H⟩
        unfold signalmanlaw15_pair_carry.j1 at H
        refine V.meet (σ := signalmanlaw15_pair) (fun st w => match st with | x11 => Sep.St [fsl 1 (.slice ra6 x8.length rc7) x8.length (x8.map (Value.int .u8)), signalmanlaw15_pair.at b0 x11, R] w0 w ∧ ∃ kf12, kf12 ≤ kf9 ∧ signalmanlaw15_pair_carry.j2 kf12 a1 x2 x8 x11 = some r) (fun st => match st with | x11 => [(0, Value.pointer (some ⟨b0, 0, none⟩)), (1, Value.int .i64 a1), (2, Value.bool x2), (6, Value.slice ra6 x8.length rc7)]) ?_ ?_
        · replace HS := HS.fr 1
          obtain ⟨b0_27, b1_27, a2_27, c2_27, d2_27, a3_27, c3_27, d3_27, a4_27, c4_27, a5_27, c5_27, a6_27, c6_27, a7_27, c7_27, hi28, HS⟩ := signalmanlaw15_pair.open HS
          obtain ⟨c29, H⟩ := ite_n H
          by_cases c30 : a1 = 0
          · replace H := ite_t c30 H
            obtain ⟨c31, H⟩ := ite_n H
            refine V.dr [12] [] [(23, Value.pointer (some ⟨b0, 0, none⟩)), (24, Value.int .i64 a1), (25, Value.pointer (some ⟨b0, 0, none⟩)), (26, Value.int .i64 a1), (27, Value.pointer (some ⟨b0, 0, none⟩)), (28, Value.pointer (some ⟨b0, 0 + 2, none⟩)), (29, Value.pointer (some ⟨b0, 0 + 2 + 0 * 1, none⟩)), (30, Value.slice a2_27 a0.way.1.length c2_27), (31, Value.slice (vaddr a2_27 c2_27 (1 : Int).toNat 1) (cut a0.way.1 (1 : Int) (a0.way.1.length : Int)).length (c2_27 - (1 : Int).toNat)), (32, Value.pointer (some ⟨b0, 0, none⟩)), (33, Value.pointer (some ⟨b0, 0 + 2, none⟩)), (34, Value.pointer (some ⟨b0, 0 + 2 + 0 * 1, none⟩))] mo HS ?_
            refine T.ev [(31, _), (34, _)] [] [0, 1, 2, 3, 4, 5, 6, 7, 8, 9, 10, 11] ⟨rfl, rfl, trivial⟩ ⟨.mv 0, .mv 1, .mv 0, .mv 1, .nc 25, .fa 27 fo59_1, .n2 26 28 rfl rfl rfl (fun w HS => X.indexArK 0 c30 Try.underlying55 inf30 rfl rfl c29.1 c29.2), .ld 29 0 Try.underlying30, .n1 30 rfl rfl (fun w HS => X.slL Try.underlying30 inf39 rfl rfl c31), .nc 23, .fa 32 fo59_1, .n2 24 33 rfl rfl rfl (fun w HS => X.indexArK 0 c30 Try.underlying55 inf30 rfl rfl c29.1 c29.2), trivial⟩ rfl (fun w HS => ?_)
            refine ⟨_, Y.sto 0 2 HS inf30 rfl rfl rfl rfl rfl rfl, ?_⟩
            rintro _ w HS
            refine T.nn HS ?_
            refine T.fn [(0, _), (1, _), (2, _), (6, _)] ⟨rfl, rfl, rfl, rfl, trivial⟩ trivial (fun w HS => ?_)
            replace HS := HS.fr 3
            replace HS := St.row_sub HS c31
            replace HS := HS.fr 4
            replace HS := St.tie_cut (1 : Int) (a0.way.1.length : Int) HS
            replace HS := HS.pm [2, 3, 4, 1, 0, 5, 6, 7, 8, 9, 10, 11, 12]
            replace HS := signalmanlaw15_pair.close trivial HS
            replace HS := HS.pk [1, 0, 2] []
            exact At.meet (({ a := (a0.a.1, a0.a.2), way := (cut a0.way.1 (1 : Int) (a0.way.1.length : Int), a0.way.2), heard := (a0.heard.1, a0.heard.2), said := (a0.said.1, a0.said.2), downs := a0.downs } : signalmanlaw15_pair)) ⟨rfl, rfl, rfl, rfl, trivial⟩ ⟨HS, kf9, by omega, H⟩
          · replace H := ite_f c30 H
            have hk32 : a1 = 1 := by omega
            obtain ⟨c33, H⟩ := ite_n H
            refine V.dr [12] [] [(23, Value.pointer (some ⟨b0, 0, none⟩)), (24, Value.int .i64 a1), (25, Value.pointer (some ⟨b0, 0, none⟩)), (26, Value.int .i64 a1), (27, Value.pointer (some ⟨b0, 0, none⟩)), (28, Value.pointer (some ⟨b0, 0 + 2, none⟩)), (29, Value.pointer (some ⟨b0, 0 + 2 + 1 * 1, none⟩)), (30, Value.slice a3_27 a0.way.2.length c3_27), (31, Value.slice (vaddr a3_27 c3_27 (1 : Int).toNat 1) (cut a0.way.2 (1 : Int) (a0.way.2.length : Int)).length (c3_27 - (1 : Int).toNat)), (32, Value.pointer (some ⟨b0, 0, none⟩)), (33, Value.pointer (some ⟨b0, 0 + 2, none⟩)), (34, Value.pointer (some ⟨b0, 0 + 2 + 1 * 1, none⟩))] mo HS ?_
            refine T.ev [(31, _), (34, _)] [] [0, 1, 2, 3, 4, 5, 6, 7, 8, 9, 10, 11] ⟨rfl, rfl, trivial⟩ ⟨.mv 0, .mv 1, .mv 0, .mv 1, .nc 25, .fa 27 fo59_1, .n2 26 28 rfl rfl rfl (fun w HS => X.indexArK 1 hk32 Try.underlying55 inf30 rfl rfl c29.1 c29.2), .ld 29 0 Try.underlying30, .n1 30 rfl rfl (fun w HS => X.slL Try.underlying30 inf39 rfl rfl c33), .nc 23, .fa 32 fo59_1, .n2 24 33 rfl rfl rfl (fun w HS => X.indexArK 1 hk32 Try.underlying55 inf30 rfl rfl c29.1 c29.2), trivial⟩ rfl (fun w HS => ?_)
            refine ⟨_, Y.sto 0 3 HS inf30 rfl rfl rfl rfl rfl rfl, ?_⟩
            rintro _ w HS
            refine T.nn HS ?_
            refine T.fn [(0, _), (1, _), (2, _), (6, _)] ⟨rfl, rfl, rfl, rfl, trivial⟩ trivial (fun w HS => ?_)
            replace HS := HS.fr 5
            replace HS := St.row_sub HS c33
            replace HS := HS.fr 6
            replace HS := St.tie_cut (1 : Int) (a0.way.2.length : Int) HS
            replace HS := HS.pm [2, 3, 4, 5, 6, 1, 0, 7, 8, 9, 10, 11, 12]
            replace HS := signalmanlaw15_pair.close trivial HS
            replace HS := HS.pk [1, 0, 2] []
            exact At.meet (({ a := (a0.a.1, a0.a.2), way := (a0.way.1, cut a0.way.2 (1 : Int) (a0.way.2.length : Int)), heard := (a0.heard.1, a0.heard.2), said := (a0.said.1, a0.said.2), downs := a0.downs } : signalmanlaw15_pair)) ⟨rfl, rfl, rfl, rfl, trivial⟩ ⟨HS, kf9, by omega, H⟩
        · rintro x11 w ⟨HS, kf12, hkkf12, H⟩
          unfold signalmanlaw15_pair_carry.j2 at H
          refine V.meet (σ := signalmanlaw15_pair) (fun st w => match st with | x13 => Sep.St [fsl 1 (.slice ra6 x8.length rc7) x8.length (x8.map (Value.int .u8)), signalmanlaw15_pair.at b0 x13, R] w0 w ∧ ∃ kf14, kf14 ≤ kf12 ∧ signalmanlaw15_pair_carry.j3 kf14 x13 = some r) (fun st => match st with | x13 => [(0, Value.pointer (some ⟨b0, 0, none⟩))]) ?_ ?_
          · refine V.seq (V.region (W.mv rfl (W.r (X.not rfl) rfl (W.nx ?_))))
            by_cases c17 : x2 = true
            · replace H := ite_t c17 H
              refine V.condF (sb (n_t c17)) (V.skip ?_)
              exact At.meet x11 ⟨rfl, trivial⟩ ⟨HS, kf12, by omega, H⟩
            · replace H := ite_f c17 H
              refine V.condT (sb (n_f (b_f c17))) (V.region (W.mv rfl (W.mv rfl (W.r (X.sub rfl rfl) rfl (W.nc rfl ?_)))))
              replace HS := HS.fr 1
              obtain ⟨b0_18, b1_18, a2_18, c2_18, d2_18, a3_18, c3_18, d3_18, a4_18, c4_18, a5_18, c5_18, a6_18, c6_18, a7_18, c7_18, hi19, HS⟩ := signalmanlaw15_pair.open HS
              refine W.fa fo59_0 rfl ?_
              obtain ⟨c20, H⟩ := ite_n H
              by_cases c21 : w64 (1 - a1) = 0
              · replace H := ite_t c21 H
                refine W.r (X.indexArK 0 c21 Try.underlying54 inf26 rfl rfl c20.1 c20.2) rfl (W.ld 0 HS Try.underlying26 rfl rfl rfl rfl (W.mv rfl ?_))
                obtain ⟨t22, A23, H⟩ := bind_s H
                replace HS := HS.pm [1, 0, 2, 3, 4, 5, 6, 7, 8, 9, 10, 11, 12]
                refine W.e (Y.cl Try.func24 (arq_Arq_Input.calls A23 HS.j1 (rdC.part 10 fsl.rd rfl))) rfl ?_
                rintro _ w ⟨rfl, HS⟩
                replace HS := HS.o1
                refine W.nil ?_
                replace HS := HS.pm [1, 0, 2, 3, 4, 5, 6, 7, 8, 9, 10, 11, 12]
                replace HS := signalmanlaw15_pair.close trivial HS
                replace HS := HS.pk [1, 0, 2] []
                exact At.meet (({ a := (t22, x11.a.2), way := (x11.way.1, x11.way.2), heard := (x11.heard.1, x11.heard.2), said := (x11.said.1, x11.said.2), downs := x11.downs } : signalmanlaw15_pair)) ⟨rfl, trivial⟩ ⟨HS, kf12, by omega, H⟩
              · replace H := ite_f c21 H
                have hk24 : w64 (1 - a1) = 1 := by omega
                refine W.r (X.indexArK 1 hk24 Try.underlying54 inf26 rfl rfl c20.1 c20.2) rfl (W.ld 0 HS Try.underlying26 rfl rfl rfl rfl (W.mv rfl ?_))
                obtain ⟨t25, A26, H⟩ := bind_s H
                replace HS := HS.pm [2, 0, 1, 3, 4, 5, 6, 7, 8, 9, 10, 11, 12]
                refine W.e (Y.cl Try.func24 (arq_Arq_Input.calls A26 HS.j1 (rdC.part 10 fsl.rd rfl))) rfl ?_
                rintro _ w ⟨rfl, HS⟩
                replace HS := HS.o1
                refine W.nil ?_
                replace HS := HS.pm [1, 2, 0, 3, 4, 5, 6, 7, 8, 9, 10, 11, 12]
                replace HS := signalmanlaw15_pair.close trivial HS
                replace HS := HS.pk [1, 0, 2] []
                exact At.meet (({ a := (x11.a.1, t25), way := (x11.way.1, x11.way.2), heard := (x11.heard.1, x11.heard.2), said := (x11.said.1, x11.said.2), downs := x11.downs } : signalmanlaw15_pair)) ⟨rfl, trivial⟩ ⟨HS, kf12, by omega, H⟩
          · rintro x13 w ⟨HS, kf14, hkkf14, H⟩
            unfold signalmanlaw15_pair_carry.j3 at H
            refine V.region (W.mv rfl ?_)
            obtain ⟨t15, A16, H⟩ := bind_s H
            replace HS := HS.pm [1, 0, 2]
            refine W.e (Y.cl Try.func32 (signalmanlaw15_pair_collect.calls A16 HS.j1)) rfl ?_
            rintro _ w ⟨rfl, HS⟩
            replace HS := HS.o1
            refine W.nil ?_
            replace HS := HS.pk [0, 2] [1]
            cases H
            exact At.end0 rfl ⟨_, rfl, rfl, HS⟩
    · replace H := ite_f c5 H
      refine V.condF (sb (b_f c5)) (V.skip ?_)
      cases H
      exact At.end0 rfl ⟨_, rfl, rfl, HS⟩

/-! ### signalman/signalmanlaw15.up: function 36 -/
mutual
def signalmanlaw15_up.l0 : Nat → Int → signalmanlaw15_pair → Option signalmanlaw15_pair
  | 0, _, _ => none
  | k + 1, x15, x16 => (if x15 < 4 then ((signalmanlaw15_pair_carry.f k x16 (iand .i64 x15 (1)) false).bind fun t20 => (signalmanlaw15_up.l0 k (w64 (x15 + 1)) t20)) else some x16)
end
def signalmanlaw15_up.f (k : Nat) (a0 : api_Config) : Option signalmanlaw15_pair := ((arq_New.f a0).bind fun t5 => ((arq_New.f a0).bind fun t8 => ((arq_Arq_Connect.f k t5).bind fun t11 => ((signalmanlaw15_pair_collect.f k ({ a := (t11.2, t8), way := (([] : List (List Int)), ([] : List (List Int))), heard := (([] : List (List Int)), ([] : List (List Int))), said := (([] : List (List Int)), ([] : List (List Int))), downs := 0 } : signalmanlaw15_pair)).bind fun t13 => (signalmanlaw15_up.l0 k 0 t13)))))
theorem signalmanlaw15_up.calls {k : Nat} {a0 : api_Config} {R : As} {w0 w : World}  {r : signalmanlaw15_pair} (H : signalmanlaw15_up.f k a0 = some r) (HS : Sep.St [R] w0 w)  : Calls Try.prog 36 #[Value.agg #[Value.int .i64 a0.Mode, Value.int .i64 a0.Modulus, Value.int .i64 a0.Window, Value.int .i64 a0.T1, Value.int .i64 a0.N2, Value.int .i64 a0.Hold, Value.int .i64 a0.Wait, Value.int .i64 a0.Keep, Value.int .i64 a0.Queue, Value.int .i64 a0.Size, Value.int .i64 a0.Ring, Value.int .i64 a0.Rate, Value.int .i64 a0.Bad, Value.int .i64 a0.Good, Value.bool a0.Revert, Value.bool a0.Wide]] w (Ret fun u w => ∃ (bq0 : Nat), u = Value.pointer (some ⟨bq0, 0, none⟩) ∧ Sep.St [signalmanlaw15_pair.at bq0 r, R] w0 w) := by
  unfold signalmanlaw15_up.f at H
  refine calls_enter Try.func36 rfl rfl ?_
  have H : _ = some r := H
  refine V.seq (V.region (W.e (Y.box HS rfl) rfl ?_))
  rintro _ w ⟨nb1, rfl, HS⟩
  refine W.as rfl (W.nx (V.seq (V.region (W.r (X.bd (Value.agg #[Value.pointer none, Value.pointer none, Value.slice none 0 0, Value.slice none 0 0, Value.slice none 0 0, Value.slice none 0 0, Value.slice none 0 0, Value.slice none 0 0, Value.int .i64 (0)]) rfl (fun _ => by kernel_rfl)) rfl (W.e (Y.box HS rfl) rfl ?_)))))
  rintro _ w ⟨nb2, rfl, HS⟩
  refine W.as rfl (W.nx (V.seq (V.dr [2, 6] [5] [(7, Value.pointer (some ⟨nb2, 0, none⟩)), (8, Value.agg #[Value.int .i64 a0.Mode, Value.int .i64 a0.Modulus, Value.int .i64 a0.Window, Value.int .i64 a0.T1, Value.int .i64 a0.N2, Value.int .i64 a0.Hold, Value.int .i64 a0.Wait, Value.int .i64 a0.Keep, Value.int .i64 a0.Queue, Value.int .i64 a0.Size, Value.int .i64 a0.Ring, Value.int .i64 a0.Rate, Value.int .i64 a0.Bad, Value.int .i64 a0.Good, Value.bool a0.Revert, Value.bool a0.Wide]), (10, Value.pointer (some ⟨nb2, 0, none⟩)), (11, Value.pointer (some ⟨nb2, 0 + 0, none⟩))] mo HS ?_)))
  refine T.ev [(8, _)] [] [1] ⟨rfl, trivial⟩ ⟨.mv 3, .n1 1 rfl rfl (fun w HS => X.loadSt 1 [Value.int .i64 a0.Mode, Value.int .i64 a0.Modulus, Value.int .i64 a0.Window, Value.int .i64 a0.T1, Value.int .i64 a0.N2, Value.int .i64 a0.Hold, Value.int .i64 a0.Wait, Value.int .i64 a0.Keep, Value.int .i64 a0.Queue, Value.int .i64 a0.Size, Value.int .i64 a0.Ring, Value.int .i64 a0.Rate, Value.int .i64 a0.Bad, Value.int .i64 a0.Good, Value.bool a0.Revert, Value.bool a0.Wide] HS rfl Try.underlying24 rfl inf24 rfl rfl), .nc 7, .fa 10 fo59_0, trivial⟩ rfl (fun w HS => ?_)
  obtain ⟨t5, A6, H⟩ := bind_s H
  refine ⟨_, Y.cl Try.func17 (arq_New.calls A6 HS.j0), ?_⟩
  rintro _ w ⟨bt5_0, rfl, HS⟩
  replace HS := HS.o1
  refine T.nm [(9, Value.pointer (some ⟨bt5_0, 0, none⟩)), (12, Value.pointer (some ⟨nb2, 0 + 0 + 0 * 1, none⟩))] HS ⟨.inl ⟨rfl, rfl⟩, ⟨.inr ⟨by decide, rfl⟩, trivial⟩⟩ ?_
  refine T.ev [(9, _), (12, _)] [] [0, 3, 4, 5] ⟨rfl, rfl, trivial⟩ ⟨.mv 3, .nc 7, .fa 10 fo59_0, .n1 11 rfl rfl (fun w HS => X.indexArK 0 rfl Try.underlying54 inf26 rfl rfl (by decide) (by decide)), trivial⟩ rfl (fun w HS => ?_)
  refine ⟨_, Y.sto 1 0 HS inf26 rfl rfl rfl rfl rfl rfl, ?_⟩
  rintro _ w HS
  refine T.nn HS ?_
  refine T.fn [(1, _), (3, _)] ⟨rfl, rfl, trivial⟩ trivial (fun w HS => ?_)
  refine At.next (V.seq (V.dr [2, 6] [5] [(13, Value.pointer (some ⟨nb2, 0, none⟩)), (14, Value.agg #[Value.int .i64 a0.Mode, Value.int .i64 a0.Modulus, Value.int .i64 a0.Window, Value.int .i64 a0.T1, Value.int .i64 a0.N2, Value.int .i64 a0.Hold, Value.int .i64 a0.Wait, Value.int .i64 a0.Keep, Value.int .i64 a0.Queue, Value.int .i64 a0.Size, Value.int .i64 a0.Ring, Value.int .i64 a0.Rate, Value.int .i64 a0.Bad, Value.int .i64 a0.Good, Value.bool a0.Revert, Value.bool a0.Wide]), (16, Value.pointer (some ⟨nb2, 0, none⟩)), (17, Value.pointer (some ⟨nb2, 0 + 0, none⟩))] mo HS ?_))
  refine T.ev [(14, _)] [] [1] ⟨rfl, trivial⟩ ⟨.mv 3, .n1 1 rfl rfl (fun w HS => X.loadSt 2 [Value.int .i64 a0.Mode, Value.int .i64 a0.Modulus, Value.int .i64 a0.Window, Value.int .i64 a0.T1, Value.int .i64 a0.N2, Value.int .i64 a0.Hold, Value.int .i64 a0.Wait, Value.int .i64 a0.Keep, Value.int .i64 a0.Queue, Value.int .i64 a0.Size, Value.int .i64 a0.Ring, Value.int .i64 a0.Rate, Value.int .i64 a0.Bad, Value.int .i64 a0.Good, Value.bool a0.Revert, Value.bool a0.Wide] HS rfl Try.underlying24 rfl inf24 rfl rfl), .nc 13, .fa 16 fo59_0, trivial⟩ rfl (fun w HS => ?_)
  obtain ⟨t8, A9, H⟩ := bind_s H
  refine ⟨_, Y.cl Try.func17 (arq_New.calls A9 HS.j0), ?_⟩
  rintro _ w ⟨bt8_0, rfl, HS⟩
  replace HS := HS.o1
  refine T.nm [(15, Value.pointer (some ⟨bt8_0, 0, none⟩)), (18, Value.pointer (some ⟨nb2, 0 + 0 + 1 * 1, none⟩))] HS ⟨.inl ⟨rfl, rfl⟩, ⟨.inr ⟨by decide, rfl⟩, trivial⟩⟩ ?_
  refine T.ev [(15, _), (18, _)] [] [0, 3, 4, 5] ⟨rfl, rfl, trivial⟩ ⟨.mv 3, .nc 13, .fa 16 fo59_0, .n1 17 rfl rfl (fun w HS => X.indexArK 1 rfl Try.underlying54 inf26 rfl rfl (by decide) (by decide)), trivial⟩ rfl (fun w HS => ?_)
  refine ⟨_, Y.sto 2 1 HS inf26 rfl rfl rfl rfl rfl rfl, ?_⟩
  rintro _ w HS
  refine T.nn HS ?_
  refine T.fn [(3, _)] ⟨rfl, trivial⟩ trivial (fun w HS => ?_)
  refine At.next (V.seq (V.region (W.mv rfl (W.nc rfl (W.fa fo59_0 rfl (W.r (X.indexArK 0 rfl Try.underlying54 inf26 rfl rfl (by decide) (by decide)) rfl (W.ld 2 HS Try.underlying26 rfl rfl rfl rfl ?_)))))))
  obtain ⟨t11, A12, H⟩ := bind_s H
  replace HS := HS.pm [1, 0, 2, 3, 4]
  refine W.e (Y.cl Try.func18 (arq_Arq_Connect.calls A12 HS.j1)) rfl ?_
  rintro _ w ⟨rfl, HS⟩
  replace HS := HS.o1
  refine W.nx (V.seq (V.region (W.mv rfl ?_)))
  replace HS := row_nilE (El.sl (El.int .u8)) 39 1 HS
  replace HS := row_nilE (El.sl (El.int .u8)) 39 1 HS
  replace HS := row_nilF (fun x => Value.string (strOf x)) 9 1 HS
  replace HS := row_nilF (fun x => Value.string (strOf x)) 9 1 HS
  replace HS := row_nilF (fun x => Value.string (strOf x)) 9 1 HS
  replace HS := row_nilF (fun x => Value.string (strOf x)) 9 1 HS
  replace HS := HS.pm [10, 8, 9, 6, 7, 4, 5, 3, 2, 1, 0, 11, 12]
  replace HS := signalmanlaw15_pair.close (l2 := ([] : List (List Int))) (l3 := ([] : List (List Int))) (l4 := ([] : List (List Int))) (l5 := ([] : List (List Int))) (l6 := ([] : List (List Int))) (l7 := ([] : List (List Int))) trivial HS
  obtain ⟨t13, A14, H⟩ := bind_s H
  refine W.e (Y.cl Try.func32 (signalmanlaw15_pair_collect.calls A14 HS.j1)) rfl ?_
  rintro _ w ⟨rfl, HS⟩
  replace HS := HS.o1
  refine W.nx (V.seq (V.seq (V.region (W.as rfl (W.nx (V.block ?_))))))
  replace HS := HS.pm [1, 0, 2]
  replace HS := api_Config.close trivial HS
  refine V.loop (σ := Int × signalmanlaw15_pair) (fun kq (st : Int × signalmanlaw15_pair) w => match st with | (x15, x16) => Sep.St [api_Config.at nb1 a0, signalmanlaw15_pair.at nb2 x16, R] w0 w ∧ signalmanlaw15_up.l0 kq x15 x16 = some r ∧ kq ≤ k) (fun st => match st with | (x15, x16) => [(3, Value.pointer (some ⟨nb2, 0, none⟩)), (4, Value.int .i64 x15)]) k (0, t13) ⟨rfl, rfl, trivial⟩ ⟨HS, H, Nat.le_refl _⟩ ?_
  rintro kq17 ⟨x15, x16⟩ w ⟨HS, H, hk18⟩
  cases kq17 with
  | zero => exact absurd H (by simp [signalmanlaw15_up.l0])
  | succ kq17 =>
    simp only [signalmanlaw15_up.l0] at H
    refine V.seq (V.seq (V.region (W.mv rfl (W.r (X.cmp (decide (x15 < 4)) rfl rfl rfl rfl) rfl (W.nx ?_)))))
    by_cases c19 : x15 < 4
    · replace H := ite_t c19 H
      refine V.condT (sb (decide_eq_true c19)) (V.skip (At.next (V.seq (V.block (V.region (W.mv rfl (W.mv rfl (W.r (X.and rfl rfl) rfl ?_))))))))
      obtain ⟨t20, A21, H⟩ := bind_s H
      replace HS := HS.pm [1, 0, 2]
      refine W.e (Y.cl Try.func33 (signalmanlaw15_pair_carry.calls A21 HS.j1)) rfl ?_
      rintro _ w ⟨rfl, HS⟩
      replace HS := HS.o1
      refine W.nil (At.blockEnd (At.next (V.region (W.mv rfl (W.r (X.add rfl rfl) rfl (W.as rfl (W.nil ?_)))))))
      replace HS := HS.pk [1, 0, 2] []
      exact At.round kq17 (by omega) (w64 (x15 + 1), t20) ⟨rfl, rfl, trivial⟩ ⟨HS, H, by omega⟩
    · replace H := ite_f c19 H
      refine V.condF (sb (decide_eq_false c19)) (V.exit (At.thenExit (At.thenExit (At.blockExit (At.next (V.seq (V.region (W.mv rfl (W.as rfl (W.nx (V.ret ?_)))))))))))
      replace HS := HS.pk [1, 2] [0]
      cases H
      exact At.ret1 rfl rfl ⟨_, rfl, nb2, rfl, HS⟩

/-! ### signalman/signalmanlaw15.ArqCloses: function 12 -/
mutual
def signalmanlaw15_ArqCloses.l1 : Nat → Int → Int → Bool → Int → signalmanlaw15_pair → Option Bool
  | 0, _, _, _, _, _ => none
  | k + 1, a0, a1, a2, x13, x14 => (if x13 < a0 then ((arq_Arq_Send.f k x14.a.1 ([IntKind.u8.wrap x13] : List Int)).bind fun t23 => (signalmanlaw15_ArqCloses.l1 k a0 a1 a2 (w64 (x13 + 1)) ({ a := (t23.2, x14.a.2), way := (x14.way.1, x14.way.2), heard := (x14.heard.1, x14.heard.2), said := (x14.said.1, x14.said.2), downs := x14.downs } : signalmanlaw15_pair))) else ((signalmanlaw15_pair_collect.f k x14).bind fun t25 => (signalmanlaw15_ArqCloses.l2 k a0 a1 a2 0 t25)))
def signalmanlaw15_ArqCloses.l2 : Nat → Int → Int → Bool → Int → signalmanlaw15_pair → Option Bool
  | 0, _, _, _, _, _ => none
  | k + 1, a0, a1, a2, x27, x28 => (if x27 < a1 then ((signalmanlaw15_pair_carry.f k x28 (iand .i64 x27 (1)) false).bind fun t32 => (signalmanlaw15_ArqCloses.l2 k a0 a1 a2 (w64 (x27 + 1)) t32)) else (if a2 = true then (signalmanlaw15_ArqCloses.j3 k a0 x28 1) else (signalmanlaw15_ArqCloses.j3 k a0 x28 0)))
def signalmanlaw15_ArqCloses.l6 : Nat → Int → Int → Int → Int → signalmanlaw15_pair → Option Bool
  | 0, _, _, _, _, _ => none
  | k + 1, a0, x37, x40, x44, x45 => (if x44 < 200 then ((signalmanlaw15_pair_carry.f k x45 0 false).bind fun t49 => ((signalmanlaw15_pair_carry.f k t49 1 false).bind fun t51 => (signalmanlaw15_ArqCloses.l6 k a0 x37 x40 (w64 (x44 + 1)) t51))) else ((arq_Arq_Counts.f x45.a.1).bind fun t57 => ((signalmanlaw15_num.f x37).bind fun t59 => (if t59 = 0 then ((signalmanlaw15_num.f x40).bind fun t62 => (if t62 = 7 then ((arq_Arq_State.f x45.a.1).bind fun t65 => (if t65 = 0 then ((arq_Arq_State.f x45.a.2).bind fun t70 => (if t70 = 0 then (if t57.1 = a0 then (if (w64 (t57.2.1 + t57.2.2)) = a0 then some (decide (t57.2.1 ≤ (x45.heard.2.length : Int))) else some false) else some false) else some false)) else some false)) else some false)) else some false))))
def signalmanlaw15_ArqCloses.j5 (k : Nat) (a0 : Int) (x37 : Int) (x39 : signalmanlaw15_pair) (x40 : Int) : Option Bool := ((signalmanlaw15_pair_collect.f k x39).bind fun t42 => (signalmanlaw15_ArqCloses.l6 k a0 x37 x40 0 t42))
def signalmanlaw15_ArqCloses.j4 (k : Nat) (a0 : Int) (x34 : Int) (x36 : signalmanlaw15_pair) (x37 : Int) : Option Bool := (if 0 ≤ x34 ∧ x34 < 2 then (if x34 = 0 then ((arq_Arq_Close.f k x36.a.1).bind fun t79 => (signalmanlaw15_ArqCloses.j5 k a0 x37 ({ a := (t79.2, x36.a.2), way := (x36.way.1, x36.way.2), heard := (x36.heard.1, x36.heard.2), said := (x36.said.1, x36.said.2), downs := x36.downs } : signalmanlaw15_pair) t79.1)) else ((arq_Arq_Close.f k x36.a.2).bind fun t82 => (signalmanlaw15_ArqCloses.j5 k a0 x37 ({ a := (x36.a.1, t82.2), way := (x36.way.1, x36.way.2), heard := (x36.heard.1, x36.heard.2), said := (x36.said.1, x36.said.2), downs := x36.downs } : signalmanlaw15_pair) t82.1))) else none)
def signalmanlaw15_ArqCloses.j3 (k : Nat) (a0 : Int) (x28 : signalmanlaw15_pair) (x34 : Int) : Option Bool := (if 0 ≤ x34 ∧ x34 < 2 then (if x34 = 0 then ((arq_Arq_Close.f k x28.a.1).bind fun t88 => (signalmanlaw15_ArqCloses.j4 k a0 x34 ({ a := (t88.2, x28.a.2), way := (x28.way.1, x28.way.2), heard := (x28.heard.1, x28.heard.2), said := (x28.said.1, x28.said.2), downs := x28.downs } : signalmanlaw15_pair) t88.1)) else ((arq_Arq_Close.f k x28.a.2).bind fun t91 => (signalmanlaw15_ArqCloses.j4 k a0 x34 ({ a := (x28.a.1, t91.2), way := (x28.way.1, x28.way.2), heard := (x28.heard.1, x28.heard.2), said := (x28.said.1, x28.said.2), downs := x28.downs } : signalmanlaw15_pair) t91.1))) else none)
def signalmanlaw15_ArqCloses.j0 (k : Nat) (a0 : Int) (a1 : Int) (a2 : Bool) (t1 : Bool) (x3 : Bool) : Option Bool := (if x3 = true then some t1 else ((signalmanlaw15_shape.f 128 4 30).bind fun t6 => ((signalmanlaw15_up.f k t6).bind fun t9 => (signalmanlaw15_ArqCloses.l1 k a0 a1 a2 0 t9))))
end
def signalmanlaw15_ArqCloses.f (k : Nat) (a0 : Int) (a1 : Int) (a2 : Bool) : Option Bool := ((signalmanlaw15_alive.f k ).bind fun t1 => (if t1 = true then (if a0 < 0 then (signalmanlaw15_ArqCloses.j0 k a0 a1 a2 t1 true) else (if a0 > 20 then (signalmanlaw15_ArqCloses.j0 k a0 a1 a2 t1 true) else (if a1 < 0 then (signalmanlaw15_ArqCloses.j0 k a0 a1 a2 t1 true) else (signalmanlaw15_ArqCloses.j0 k a0 a1 a2 t1 (decide (a1 > 60)))))) else (signalmanlaw15_ArqCloses.j0 k a0 a1 a2 t1 true)))
theorem signalmanlaw15_ArqCloses.calls {k : Nat} {a0 : Int} {a1 : Int} {a2 : Bool} {R : As} {w0 w : World}  {r : Bool} (H : signalmanlaw15_ArqCloses.f k a0 a1 a2 = some r) (HS : Sep.St [R] w0 w)  : Calls Try.prog 12 #[Value.int .i64 a0, Value.int .i64 a1, Value.bool a2] w (Ret fun u w => u = Value.bool r ∧ Sep.St [R] w0 w) := by
  unfold signalmanlaw15_ArqCloses.f at H
  refine calls_enter Try.func12 rfl rfl ?_
  have H : _ = some r := H
  refine V.seq (V.region (W.as rfl (W.nx (V.seq (V.region ?_)))))
  obtain ⟨t1, A2, H⟩ := bind_s H
  refine W.e (Y.cl Try.func15 (signalmanlaw15_alive.calls A2 HS.j0)) rfl ?_
  rintro _ w ⟨rfl, HS⟩
  replace HS := HS.o0
  refine W.as rfl (W.nx (V.seq (V.meet (σ := Bool) (fun st w => match st with | x3 => Sep.St [R] w0 w ∧ ∃ kf4, kf4 ≤ k ∧ signalmanlaw15_ArqCloses.j0 kf4 a0 a1 a2 t1 x3 = some r) (fun st => match st with | x3 => [(0, Value.int .i64 a0), (1, Value.int .i64 a1), (2, Value.bool a2), (7, Value.bool t1), (37, Value.bool x3)]) ?_ ?_)))
  · refine V.region (W.mv rfl (W.r (X.not rfl) rfl (W.mv rfl ?_)))
    by_cases c94 : t1 = true
    · replace H := ite_t c94 H
      refine W.want 22 rfl (sb (n_t c94)) (W.mv rfl (W.want 22 rfl (sb (n_t c94)) (W.r (X.cmp (decide (a0 < 0)) rfl rfl rfl rfl) rfl (W.r (X.pickF (sb (n_t c94)) rfl) rfl (W.mv rfl ?_)))))
      by_cases c95 : a0 < 0
      · replace H := ite_t c95 H
        refine W.pass 26 rfl (sb (decide_eq_true c95)) rfl rfl (W.pass 26 rfl (sb (decide_eq_true c95)) rfl rfl (W.r (X.pickT (sb (decide_eq_true c95)) rfl) rfl (W.mv rfl (W.pass 30 rfl rfl rfl rfl (W.pass 30 rfl rfl rfl rfl (W.r (X.pickT rfl rfl) rfl (W.mv rfl (W.pass 34 rfl rfl rfl rfl (W.pass 34 rfl rfl rfl rfl (W.r (X.pickT rfl rfl) rfl (W.nil ?_)))))))))))
        exact At.meet true ⟨rfl, rfl, rfl, rfl, rfl, trivial⟩ ⟨HS, k, by omega, H⟩
      · replace H := ite_f c95 H
        refine W.want 26 rfl (sb (decide_eq_false c95)) (W.mv rfl (W.want 26 rfl (sb (decide_eq_false c95)) (W.r (X.cmp (decide (a0 > 20)) rfl rfl rfl rfl) rfl (W.r (X.pickF (sb (decide_eq_false c95)) rfl) rfl (W.mv rfl ?_)))))
        by_cases c96 : a0 > 20
        · replace H := ite_t c96 H
          refine W.pass 30 rfl (sb (decide_eq_true c96)) rfl rfl (W.pass 30 rfl (sb (decide_eq_true c96)) rfl rfl (W.r (X.pickT (sb (decide_eq_true c96)) rfl) rfl (W.mv rfl (W.pass 34 rfl rfl rfl rfl (W.pass 34 rfl rfl rfl rfl (W.r (X.pickT rfl rfl) rfl (W.nil ?_)))))))
          exact At.meet true ⟨rfl, rfl, rfl, rfl, rfl, trivial⟩ ⟨HS, k, by omega, H⟩
        · replace H := ite_f c96 H
          refine W.want 30 rfl (sb (decide_eq_false c96)) (W.mv rfl (W.want 30 rfl (sb (decide_eq_false c96)) (W.r (X.cmp (decide (a1 < 0)) rfl rfl rfl rfl) rfl (W.r (X.pickF (sb (decide_eq_false c96)) rfl) rfl (W.mv rfl ?_)))))
          by_cases c97 : a1 < 0
          · replace H := ite_t c97 H
            refine W.pass 34 rfl (sb (decide_eq_true c97)) rfl rfl (W.pass 34 rfl (sb (decide_eq_true c97)) rfl rfl (W.r (X.pickT (sb (decide_eq_true c97)) rfl) rfl (W.nil ?_)))
            exact At.meet true ⟨rfl, rfl, rfl, rfl, rfl, trivial⟩ ⟨HS, k, by omega, H⟩
          · replace H := ite_f c97 H
            refine W.want 34 rfl (sb (decide_eq_false c97)) (W.mv rfl (W.want 34 rfl (sb (decide_eq_false c97)) (W.r (X.cmp (decide (a1 > 60)) rfl rfl rfl rfl) rfl (W.r (X.pickF (sb (decide_eq_false c97)) rfl) rfl (W.nil ?_)))))
            exact At.meet (decide (a1 > 60)) ⟨rfl, rfl, rfl, rfl, rfl, trivial⟩ ⟨HS, k, by omega, H⟩
    · replace H := ite_f c94 H
      refine W.pass 22 rfl (sb (n_f (b_f c94))) rfl rfl (W.pass 22 rfl (sb (n_f (b_f c94))) rfl rfl (W.r (X.pickT (sb (n_f (b_f c94))) rfl) rfl (W.mv rfl (W.pass 26 rfl rfl rfl rfl (W.pass 26 rfl rfl rfl rfl (W.r (X.pickT rfl rfl) rfl (W.mv rfl (W.pass 30 rfl rfl rfl rfl (W.pass 30 rfl rfl rfl rfl (W.r (X.pickT rfl rfl) rfl (W.mv rfl (W.pass 34 rfl rfl rfl rfl (W.pass 34 rfl rfl rfl rfl (W.r (X.pickT rfl rfl) rfl (W.nil ?_)))))))))))))))
      exact At.meet true ⟨rfl, rfl, rfl, rfl, rfl, trivial⟩ ⟨HS, k, by omega, H⟩
  · rintro x3 w ⟨HS, kf4, hkkf4, H⟩
    unfold signalmanlaw15_ArqCloses.j0 at H
    by_cases c5 : x3 = true
    · replace H := ite_t c5 H
      refine V.condT (sb c5) (V.seq (V.region (W.mv rfl (W.as rfl (W.nx (V.ret (At.thenRet ?_)))))))
      cases H
      exact At.ret1 rfl rfl ⟨_, rfl, rfl, HS⟩
    · replace H := ite_f c5 H
      refine V.condF (sb (b_f c5)) (V.skip (At.next (V.seq (V.region ?_))))
      obtain ⟨t6, A7, H⟩ := bind_s H
      refine W.e (Y.cl Try.func16 (signalmanlaw15_shape.calls A7 HS.j0)) rfl ?_
      rintro _ w ⟨rfl, HS⟩
      replace HS := HS.o0
      refine W.e (Y.alloc (z := Value.agg (#[Value.int .i64 (0), Value.int .i64 (0), Value.int .i64 (0), Value.int .i64 (0), Value.int .i64 (0), Value.int .i64 (0), Value.int .i64 (0), Value.int .i64 (0), Value.int .i64 (0), Value.int .i64 (0), Value.int .i64 (0), Value.int .i64 (0), Value.int .i64 (0), Value.int .i64 (0), Value.bool false, Value.bool false])) HS ze24) rfl ?_
      rintro _ w ⟨nb8, rfl, HS⟩
      refine W.en (Y.storeSt (c' := #[Value.int .i64 t6.Mode, Value.int .i64 t6.Modulus, Value.int .i64 t6.Window, Value.int .i64 t6.T1, Value.int .i64 t6.N2, Value.int .i64 t6.Hold, Value.int .i64 t6.Wait, Value.int .i64 t6.Keep, Value.int .i64 t6.Queue, Value.int .i64 t6.Size, Value.int .i64 t6.Ring, Value.int .i64 t6.Rate, Value.int .i64 t6.Bad, Value.int .i64 t6.Good, Value.bool t6.Revert, Value.bool t6.Wide]) 0 [Value.int .i64 t6.Mode, Value.int .i64 t6.Modulus, Value.int .i64 t6.Window, Value.int .i64 t6.T1, Value.int .i64 t6.N2, Value.int .i64 t6.Hold, Value.int .i64 t6.Wait, Value.int .i64 t6.Keep, Value.int .i64 t6.Queue, Value.int .i64 t6.Size, Value.int .i64 t6.Ring, Value.int .i64 t6.Rate, Value.int .i64 t6.Bad, Value.int .i64 t6.Good, Value.bool t6.Revert, Value.bool t6.Wide] HS rfl inf24 rfl rfl rfl rfl rfl rfl) rfl ?_
      rintro _ w HS
      refine W.nx (V.seq (V.region (W.r (X.loadSt 0 [Value.int .i64 t6.Mode, Value.int .i64 t6.Modulus, Value.int .i64 t6.Window, Value.int .i64 t6.T1, Value.int .i64 t6.N2, Value.int .i64 t6.Hold, Value.int .i64 t6.Wait, Value.int .i64 t6.Keep, Value.int .i64 t6.Queue, Value.int .i64 t6.Size, Value.int .i64 t6.Ring, Value.int .i64 t6.Rate, Value.int .i64 t6.Bad, Value.int .i64 t6.Good, Value.bool t6.Revert, Value.bool t6.Wide] HS rfl Try.underlying24 rfl inf24 rfl rfl) rfl ?_)))
      obtain ⟨t9, A10, H⟩ := bind_s H
      refine W.e (Y.cl Try.func36 (signalmanlaw15_up.calls A10 HS.j0)) rfl ?_
      rintro _ w ⟨bt9_0, rfl, HS⟩
      replace HS := HS.o1
      refine W.as rfl (W.nx (V.seq (V.seq (V.region (W.as rfl (W.nx (V.block ?_)))))))
      replace HS := HS.pm [1, 0, 2]
      replace HS := api_Config.close trivial HS
      refine V.loop (σ := Int × signalmanlaw15_pair) (fun kq (st : Int × signalmanlaw15_pair) w => match st with | (x13, x14) => Sep.St [api_Config.at nb8 t6, signalmanlaw15_pair.at bt9_0 x14, R] w0 w ∧ signalmanlaw15_ArqCloses.l1 kq a0 a1 a2 x13 x14 = some r ∧ kq ≤ kf4) (fun st => match st with | (x13, x14) => [(0, Value.int .i64 a0), (1, Value.int .i64 a1), (2, Value.bool a2), (9, Value.pointer (some ⟨bt9_0, 0, none⟩)), (10, Value.int .i64 x13)]) kf4 (0, t9) ⟨rfl, rfl, rfl, rfl, rfl, trivial⟩ ⟨HS, H, Nat.le_refl _⟩ ?_
      rintro kq15 ⟨x13, x14⟩ w ⟨HS, H, hk16⟩
      cases kq15 with
      | zero => exact absurd H (by simp [signalmanlaw15_ArqCloses.l1])
      | succ kq15 =>
        simp only [signalmanlaw15_ArqCloses.l1] at H
        refine V.seq (V.seq (V.region (W.mv rfl (W.mv rfl (W.r (X.cmp (decide (x13 < a0)) rfl rfl rfl rfl) rfl (W.nx ?_))))))
        by_cases c17 : x13 < a0
        · replace H := ite_t c17 H
          refine V.condT (sb (decide_eq_true c17)) (V.skip (At.next (V.seq (V.block (V.region (W.mv rfl (W.nc rfl ?_)))))))
          replace HS := HS.fr 1
          obtain ⟨b0_18, b1_18, a2_18, c2_18, d2_18, a3_18, c3_18, d3_18, a4_18, c4_18, a5_18, c5_18, a6_18, c6_18, a7_18, c7_18, hi19, HS⟩ := signalmanlaw15_pair.open HS
          refine W.fa fo59_0 rfl (W.r (X.indexArK 0 rfl Try.underlying54 inf26 rfl rfl (by decide) (by decide)) rfl (W.ld 0 HS Try.underlying26 rfl rfl rfl rfl (W.mv rfl (W.r (X.conv Try.underlying3 Try.underlying5 rfl) rfl (W.e (Y.ls (e := 5) (Value.int .u8) ([IntKind.u8.wrap x13] : List Int) HS rfl rfl (fun _ => by kernel_rfl)) rfl ?_)))))
          rintro _ w ⟨lb22, rfl, HS⟩
          obtain ⟨t23, A24, H⟩ := bind_s H
          replace HS := HS.pm [2, 0, 1, 3, 4, 5, 6, 7, 8, 9, 10, 11, 12, 13]
          refine W.e (Y.cl Try.func34 (arq_Arq_Send.calls A24 HS.j1 (rdC.part 0 row_rd rfl))) rfl ?_
          rintro _ w ⟨rfl, HS⟩
          replace HS := HS.o1
          refine W.nil (At.blockEnd (At.next (V.region (W.mv rfl (W.r (X.add rfl rfl) rfl (W.as rfl (W.nil ?_)))))))
          replace HS := HS.pm [2, 0, 3, 4, 5, 6, 7, 8, 9, 10, 11, 1, 12, 13]
          replace HS := signalmanlaw15_pair.close trivial HS
          replace HS := HS.pk [2, 0, 3] [1]
          exact At.round kq15 (by omega) (w64 (x13 + 1), ({ a := (t23.2, x14.a.2), way := (x14.way.1, x14.way.2), heard := (x14.heard.1, x14.heard.2), said := (x14.said.1, x14.said.2), downs := x14.downs } : signalmanlaw15_pair)) ⟨rfl, rfl, rfl, rfl, rfl, trivial⟩ ⟨HS, H, by omega⟩
        · replace H := ite_f c17 H
          refine V.condF (sb (decide_eq_false c17)) (V.exit (At.thenExit (At.thenExit (At.blockExit (At.next (V.seq (V.region (W.mv rfl ?_))))))))
          obtain ⟨t25, A26, H⟩ := bind_s H
          replace HS := HS.pm [1, 0, 2]
          refine W.e (Y.cl Try.func32 (signalmanlaw15_pair_collect.calls A26 HS.j1)) rfl ?_
          rintro _ w ⟨rfl, HS⟩
          replace HS := HS.o1
          refine W.nx (V.seq (V.seq (V.region (W.as rfl (W.nx (V.block (V.loop (σ := Int × signalmanlaw15_pair) (fun kq (st : Int × signalmanlaw15_pair) w => match st with | (x27, x28) => Sep.St [signalmanlaw15_pair.at bt9_0 x28, api_Config.at nb8 t6, R] w0 w ∧ signalmanlaw15_ArqCloses.l2 kq a0 a1 a2 x27 x28 = some r ∧ kq ≤ kq15) (fun st => match st with | (x27, x28) => [(0, Value.int .i64 a0), (1, Value.int .i64 a1), (2, Value.bool a2), (9, Value.pointer (some ⟨bt9_0, 0, none⟩)), (11, Value.int .i64 x27)]) kq15 (0, t25) ⟨rfl, rfl, rfl, rfl, rfl, trivial⟩ ⟨HS, H, Nat.le_refl _⟩ ?_)))))))
          rintro kq29 ⟨x27, x28⟩ w ⟨HS, H, hk30⟩
          cases kq29 with
          | zero => exact absurd H (by simp [signalmanlaw15_ArqCloses.l2])
          | succ kq29 =>
            simp only [signalmanlaw15_ArqCloses.l2] at H
            refine V.seq (V.seq (V.region (W.mv rfl (W.mv rfl (W.r (X.cmp (decide (x27 < a1)) rfl rfl rfl rfl) rfl (W.nx ?_))))))
            by_cases c31 : x27 < a1
            · replace H := ite_t c31 H
              refine V.condT (sb (decide_eq_true c31)) (V.skip (At.next (V.seq (V.block (V.region (W.mv rfl (W.mv rfl (W.r (X.and rfl rfl) rfl ?_))))))))
              obtain ⟨t32, A33, H⟩ := bind_s H
              refine W.e (Y.cl Try.func33 (signalmanlaw15_pair_carry.calls A33 HS.j1)) rfl ?_
              rintro _ w ⟨rfl, HS⟩
              replace HS := HS.o1
              refine W.nil (At.blockEnd (At.next (V.region (W.mv rfl (W.r (X.add rfl rfl) rfl (W.as rfl (W.nil ?_)))))))
              exact At.round kq29 (by omega) (w64 (x27 + 1), t32) ⟨rfl, rfl, rfl, rfl, rfl, trivial⟩ ⟨HS, H, by omega⟩
            · replace H := ite_f c31 H
              refine V.condF (sb (decide_eq_false c31)) (V.exit (At.thenExit (At.thenExit (At.blockExit (At.next (V.seq (V.region (W.as rfl (W.nx (V.meet (σ := Int) (fun st w => match st with | x34 => Sep.St [signalmanlaw15_pair.at bt9_0 x28, api_Config.at nb8 t6, R] w0 w ∧ ∃ kf35, kf35 ≤ kq29 ∧ signalmanlaw15_ArqCloses.j3 kf35 a0 x28 x34 = some r) (fun st => match st with | x34 => [(0, Value.int .i64 a0), (9, Value.pointer (some ⟨bt9_0, 0, none⟩)), (12, Value.int .i64 x34)]) ?_ ?_))))))))))
              · refine V.seq (V.region (W.mv rfl (W.nx ?_)))
                by_cases c93 : a2 = true
                · replace H := ite_t c93 H
                  refine V.condT (sb c93) (V.region (W.as rfl (W.nil ?_)))
                  exact At.meet (1) ⟨rfl, rfl, rfl, trivial⟩ ⟨HS, kq29, by omega, H⟩
                · replace H := ite_f c93 H
                  refine V.condF (sb (b_f c93)) (V.skip ?_)
                  exact At.meet (0) ⟨rfl, rfl, rfl, trivial⟩ ⟨HS, kq29, by omega, H⟩
              · rintro x34 w ⟨HS, kf35, hkkf35, H⟩
                unfold signalmanlaw15_ArqCloses.j3 at H
                refine V.meet (σ := signalmanlaw15_pair × Int) (fun st w => match st with | (x36, x37) => Sep.St [signalmanlaw15_pair.at bt9_0 x36, api_Config.at nb8 t6, R] w0 w ∧ ∃ kf38, kf38 ≤ kf35 ∧ signalmanlaw15_ArqCloses.j4 kf38 a0 x34 x36 x37 = some r) (fun st => match st with | (x36, x37) => [(0, Value.int .i64 a0), (9, Value.pointer (some ⟨bt9_0, 0, none⟩)), (12, Value.int .i64 x34), (13, Value.int .i64 x37)]) ?_ ?_
                · refine V.region (W.mv rfl (W.mv rfl (W.nc rfl ?_)))
                  obtain ⟨b0_84, b1_84, a2_84, c2_84, d2_84, a3_84, c3_84, d3_84, a4_84, c4_84, a5_84, c5_84, a6_84, c6_84, a7_84, c7_84, hi85, HS⟩ := signalmanlaw15_pair.open HS
                  refine W.fa fo59_0 rfl ?_
                  obtain ⟨c86, H⟩ := ite_n H
                  by_cases c87 : x34 = 0
                  · replace H := ite_t c87 H
                    refine W.r (X.indexArK 0 c87 Try.underlying54 inf26 rfl rfl c86.1 c86.2) rfl (W.ld 0 HS Try.underlying26 rfl rfl rfl rfl ?_)
                    obtain ⟨t88, A89, H⟩ := bind_s H
                    replace HS := HS.pm [1, 0, 2, 3, 4, 5, 6, 7, 8, 9, 10, 11, 12]
                    refine W.e (Y.cl Try.func19 (arq_Arq_Close.calls A89 HS.j1)) rfl ?_
                    rintro _ w ⟨rfl, HS⟩
                    replace HS := HS.o1
                    refine W.as rfl (W.nil ?_)
                    replace HS := HS.pm [1, 0, 2, 3, 4, 5, 6, 7, 8, 9, 10, 11, 12]
                    replace HS := signalmanlaw15_pair.close trivial HS
                    exact At.meet (({ a := (t88.2, x28.a.2), way := (x28.way.1, x28.way.2), heard := (x28.heard.1, x28.heard.2), said := (x28.said.1, x28.said.2), downs := x28.downs } : signalmanlaw15_pair), t88.1) ⟨rfl, rfl, rfl, rfl, trivial⟩ ⟨HS, kf35, by omega, H⟩
                  · replace H := ite_f c87 H
                    have hk90 : x34 = 1 := by omega
                    refine W.r (X.indexArK 1 hk90 Try.underlying54 inf26 rfl rfl c86.1 c86.2) rfl (W.ld 0 HS Try.underlying26 rfl rfl rfl rfl ?_)
                    obtain ⟨t91, A92, H⟩ := bind_s H
                    replace HS := HS.pm [2, 0, 1, 3, 4, 5, 6, 7, 8, 9, 10, 11, 12]
                    refine W.e (Y.cl Try.func19 (arq_Arq_Close.calls A92 HS.j1)) rfl ?_
                    rintro _ w ⟨rfl, HS⟩
                    replace HS := HS.o1
                    refine W.as rfl (W.nil ?_)
                    replace HS := HS.pm [1, 2, 0, 3, 4, 5, 6, 7, 8, 9, 10, 11, 12]
                    replace HS := signalmanlaw15_pair.close trivial HS
                    exact At.meet (({ a := (x28.a.1, t91.2), way := (x28.way.1, x28.way.2), heard := (x28.heard.1, x28.heard.2), said := (x28.said.1, x28.said.2), downs := x28.downs } : signalmanlaw15_pair), t91.1) ⟨rfl, rfl, rfl, rfl, trivial⟩ ⟨HS, kf35, by omega, H⟩
                · rintro ⟨x36, x37⟩ w ⟨HS, kf38, hkkf38, H⟩
                  unfold signalmanlaw15_ArqCloses.j4 at H
                  refine V.meet (σ := signalmanlaw15_pair × Int) (fun st w => match st with | (x39, x40) => Sep.St [signalmanlaw15_pair.at bt9_0 x39, api_Config.at nb8 t6, R] w0 w ∧ ∃ kf41, kf41 ≤ kf38 ∧ signalmanlaw15_ArqCloses.j5 kf41 a0 x37 x39 x40 = some r) (fun st => match st with | (x39, x40) => [(0, Value.int .i64 a0), (9, Value.pointer (some ⟨bt9_0, 0, none⟩)), (13, Value.int .i64 x37), (14, Value.int .i64 x40)]) ?_ ?_
                  · refine V.region (W.mv rfl (W.mv rfl (W.nc rfl ?_)))
                    obtain ⟨b0_75, b1_75, a2_75, c2_75, d2_75, a3_75, c3_75, d3_75, a4_75, c4_75, a5_75, c5_75, a6_75, c6_75, a7_75, c7_75, hi76, HS⟩ := signalmanlaw15_pair.open HS
                    refine W.fa fo59_0 rfl ?_
                    obtain ⟨c77, H⟩ := ite_n H
                    by_cases c78 : x34 = 0
                    · replace H := ite_t c78 H
                      refine W.r (X.indexArK 0 c78 Try.underlying54 inf26 rfl rfl c77.1 c77.2) rfl (W.ld 0 HS Try.underlying26 rfl rfl rfl rfl ?_)
                      obtain ⟨t79, A80, H⟩ := bind_s H
                      replace HS := HS.pm [1, 0, 2, 3, 4, 5, 6, 7, 8, 9, 10, 11, 12]
                      refine W.e (Y.cl Try.func19 (arq_Arq_Close.calls A80 HS.j1)) rfl ?_
                      rintro _ w ⟨rfl, HS⟩
                      replace HS := HS.o1
                      refine W.as rfl (W.nil ?_)
                      replace HS := HS.pm [1, 0, 2, 3, 4, 5, 6, 7, 8, 9, 10, 11, 12]
                      replace HS := signalmanlaw15_pair.close trivial HS
                      exact At.meet (({ a := (t79.2, x36.a.2), way := (x36.way.1, x36.way.2), heard := (x36.heard.1, x36.heard.2), said := (x36.said.1, x36.said.2), downs := x36.downs } : signalmanlaw15_pair), t79.1) ⟨rfl, rfl, rfl, rfl, trivial⟩ ⟨HS, kf38, by omega, H⟩
                    · replace H := ite_f c78 H
                      have hk81 : x34 = 1 := by omega
                      refine W.r (X.indexArK 1 hk81 Try.underlying54 inf26 rfl rfl c77.1 c77.2) rfl (W.ld 0 HS Try.underlying26 rfl rfl rfl rfl ?_)
                      obtain ⟨t82, A83, H⟩ := bind_s H
                      replace HS := HS.pm [2, 0, 1, 3, 4, 5, 6, 7, 8, 9, 10, 11, 12]
                      refine W.e (Y.cl Try.func19 (arq_Arq_Close.calls A83 HS.j1)) rfl ?_
                      rintro _ w ⟨rfl, HS⟩
                      replace HS := HS.o1
                      refine W.as rfl (W.nil ?_)
                      replace HS := HS.pm [1, 2, 0, 3, 4, 5, 6, 7, 8, 9, 10, 11, 12]
                      replace HS := signalmanlaw15_pair.close trivial HS
                      exact At.meet (({ a := (x36.a.1, t82.2), way := (x36.way.1, x36.way.2), heard := (x36.heard.1, x36.heard.2), said := (x36.said.1, x36.said.2), downs := x36.downs } : signalmanlaw15_pair), t82.1) ⟨rfl, rfl, rfl, rfl, trivial⟩ ⟨HS, kf38, by omega, H⟩
                  · rintro ⟨x39, x40⟩ w ⟨HS, kf41, hkkf41, H⟩
                    unfold signalmanlaw15_ArqCloses.j5 at H
                    refine V.seq (V.region (W.mv rfl ?_))
                    obtain ⟨t42, A43, H⟩ := bind_s H
                    refine W.e (Y.cl Try.func32 (signalmanlaw15_pair_collect.calls A43 HS.j1)) rfl ?_
                    rintro _ w ⟨rfl, HS⟩
                    replace HS := HS.o1
                    refine W.nx (V.seq (V.seq (V.region (W.as rfl (W.nx (V.block (V.loop (σ := Int × signalmanlaw15_pair) (fun kq (st : Int × signalmanlaw15_pair) w => match st with | (x44, x45) => Sep.St [signalmanlaw15_pair.at bt9_0 x45, api_Config.at nb8 t6, R] w0 w ∧ signalmanlaw15_ArqCloses.l6 kq a0 x37 x40 x44 x45 = some r ∧ kq ≤ kf41) (fun st => match st with | (x44, x45) => [(0, Value.int .i64 a0), (9, Value.pointer (some ⟨bt9_0, 0, none⟩)), (13, Value.int .i64 x37), (14, Value.int .i64 x40), (15, Value.int .i64 x44)]) kf41 (0, t42) ⟨rfl, rfl, rfl, rfl, rfl, trivial⟩ ⟨HS, H, Nat.le_refl _⟩ ?_)))))))
                    rintro kq46 ⟨x44, x45⟩ w ⟨HS, H, hk47⟩
                    cases kq46 with
                    | zero => exact absurd H (by simp [signalmanlaw15_ArqCloses.l6])
                    | succ kq46 =>
                      simp only [signalmanlaw15_ArqCloses.l6] at H
                      refine V.seq (V.seq (V.region (W.mv rfl (W.r (X.cmp (decide (x44 < 200)) rfl rfl rfl rfl) rfl (W.nx ?_)))))
                      by_cases c48 : x44 < 200
                      · replace H := ite_t c48 H
                        refine V.condT (sb (decide_eq_true c48)) (V.skip (At.next (V.seq (V.block (V.seq (V.region (W.mv rfl ?_)))))))
                        obtain ⟨t49, A50, H⟩ := bind_s H
                        refine W.e (Y.cl Try.func33 (signalmanlaw15_pair_carry.calls A50 HS.j1)) rfl ?_
                        rintro _ w ⟨rfl, HS⟩
                        replace HS := HS.o1
                        refine W.nx (V.region (W.mv rfl ?_))
                        obtain ⟨t51, A52, H⟩ := bind_s H
                        refine W.e (Y.cl Try.func33 (signalmanlaw15_pair_carry.calls A52 HS.j1)) rfl ?_
                        rintro _ w ⟨rfl, HS⟩
                        replace HS := HS.o1
                        refine W.nil (At.blockEnd (At.next (V.region (W.mv rfl (W.r (X.add rfl rfl) rfl (W.as rfl (W.nil ?_)))))))
                        exact At.round kq46 (by omega) (w64 (x44 + 1), t51) ⟨rfl, rfl, rfl, rfl, rfl, trivial⟩ ⟨HS, H, by omega⟩
                      · replace H := ite_f c48 H
                        refine V.condF (sb (decide_eq_false c48)) (V.exit (At.thenExit (At.thenExit (At.blockExit (At.next (V.seq (V.region (W.mv rfl (W.nc rfl ?_)))))))))
                        obtain ⟨b0_53, b1_53, a2_53, c2_53, d2_53, a3_53, c3_53, d3_53, a4_53, c4_53, a5_53, c5_53, a6_53, c6_53, a7_53, c7_53, hi54, HS⟩ := signalmanlaw15_pair.open HS
                        refine W.fa fo59_0 rfl (W.r (X.indexArK 0 rfl Try.underlying54 inf26 rfl rfl (by decide) (by decide)) rfl (W.ld 0 HS Try.underlying26 rfl rfl rfl rfl ?_))
                        replace HS := HS.fr 1
                        obtain ⟨b8_55, b9_55, b10_55, a11_55, c11_55, d11_55, a12_55, c12_55, hi56, HS⟩ := arq_Arq.open HS
                        obtain ⟨t57, A58, H⟩ := bind_s H
                        refine W.e (Y.cl Try.func37 (arq_Arq_Counts.calls A58 HS.j7)) rfl ?_
                        rintro _ w ⟨rfl, HS⟩
                        replace HS := HS.o7
                        refine W.mv rfl (W.r (X.extract rfl rfl) rfl (W.r (X.extract rfl rfl) rfl (W.r (X.extract rfl rfl) rfl (W.as rfl (W.as rfl (W.as rfl (W.nx (V.seq (V.region (W.mv rfl ?_))))))))))
                        obtain ⟨t59, A60, H⟩ := bind_s H
                        refine W.e (Y.cl Try.func35 (signalmanlaw15_num.calls A60 HS.j0)) rfl ?_
                        rintro _ w ⟨rfl, HS⟩
                        replace HS := HS.o0
                        refine W.r (X.cmp (decide (t59 = 0)) rfl rfl rfl rfl) rfl (W.mv rfl ?_)
                        by_cases c61 : t59 = 0
                        · replace H := ite_t c61 H
                          refine W.want 105 rfl (sb (decide_eq_true c61)) (W.mv rfl (W.want 105 rfl (sb (decide_eq_true c61)) ?_))
                          obtain ⟨t62, A63, H⟩ := bind_s H
                          refine W.e (Y.cl Try.func35 (signalmanlaw15_num.calls A63 HS.j0)) rfl ?_
                          rintro _ w ⟨rfl, HS⟩
                          replace HS := HS.o0
                          refine W.want 105 rfl (sb (decide_eq_true c61)) (W.r (X.cmp (decide (t62 = 7)) rfl rfl rfl rfl) rfl (W.r (X.pickT (sb (decide_eq_true c61)) rfl) rfl (W.mv rfl ?_)))
                          by_cases c64 : t62 = 7
                          · replace H := ite_t c64 H
                            refine W.want 110 rfl (sb (decide_eq_true c64)) (W.mv rfl (W.want 110 rfl (sb (decide_eq_true c64)) (W.nc rfl (W.want 110 rfl (sb (decide_eq_true c64)) (W.fa fo59_0 rfl (W.want 110 rfl (sb (decide_eq_true c64)) (W.r (X.indexArK 0 rfl Try.underlying54 inf26 rfl rfl (by decide) (by decide)) rfl (W.want 110 rfl (sb (decide_eq_true c64)) (W.ld 7 HS Try.underlying26 rfl rfl rfl rfl (W.want 110 rfl (sb (decide_eq_true c64)) ?_))))))))))
                            obtain ⟨t65, A66, H⟩ := bind_s H
                            refine W.e (Y.cl Try.func22 (arq_Arq_State.calls A66 HS.j7)) rfl ?_
                            rintro _ w ⟨rfl, HS⟩
                            replace HS := HS.o7
                            refine W.want 110 rfl (sb (decide_eq_true c64)) (W.r (X.cmp (decide (t65 = 0)) rfl rfl rfl rfl) rfl (W.r (X.pickT (sb (decide_eq_true c64)) rfl) rfl (W.mv rfl ?_)))
                            by_cases c67 : t65 = 0
                            · replace H := ite_t c67 H
                              refine W.want 119 rfl (sb (decide_eq_true c67)) (W.mv rfl (W.want 119 rfl (sb (decide_eq_true c67)) (W.nc rfl (W.want 119 rfl (sb (decide_eq_true c67)) (W.fa fo59_0 rfl (W.want 119 rfl (sb (decide_eq_true c67)) (W.r (X.indexArK 1 rfl Try.underlying54 inf26 rfl rfl (by decide) (by decide)) rfl (W.want 119 rfl (sb (decide_eq_true c67)) (W.ld 7 HS Try.underlying26 rfl rfl rfl rfl (W.want 119 rfl (sb (decide_eq_true c67)) ?_))))))))))
                              replace HS := HS.fr 8
                              obtain ⟨b8_68, b9_68, b10_68, a11_68, c11_68, d11_68, a12_68, c12_68, hi69, HS⟩ := arq_Arq.open HS
                              obtain ⟨t70, A71, H⟩ := bind_s H
                              refine W.e (Y.cl Try.func22 (arq_Arq_State.calls A71 HS.j7)) rfl ?_
                              rintro _ w ⟨rfl, HS⟩
                              replace HS := HS.o7
                              refine W.want 119 rfl (sb (decide_eq_true c67)) (W.r (X.cmp (decide (t70 = 0)) rfl rfl rfl rfl) rfl (W.r (X.pickT (sb (decide_eq_true c67)) rfl) rfl (W.mv rfl ?_)))
                              by_cases c72 : t70 = 0
                              · replace H := ite_t c72 H
                                refine W.want 128 rfl (sb (decide_eq_true c72)) (W.mv rfl (W.want 128 rfl (sb (decide_eq_true c72)) (W.mv rfl (W.want 128 rfl (sb (decide_eq_true c72)) (W.r (X.cmp (decide (t57.1 = a0)) rfl rfl rfl rfl) rfl (W.r (X.pickT (sb (decide_eq_true c72)) rfl) rfl (W.mv rfl ?_)))))))
                                by_cases c73 : t57.1 = a0
                                · replace H := ite_t c73 H
                                  refine W.want 133 rfl (sb (decide_eq_true c73)) (W.mv rfl (W.want 133 rfl (sb (decide_eq_true c73)) (W.mv rfl (W.want 133 rfl (sb (decide_eq_true c73)) (W.r (X.add rfl rfl) rfl (W.want 133 rfl (sb (decide_eq_true c73)) (W.mv rfl (W.want 133 rfl (sb (decide_eq_true c73)) (W.r (X.cmp (decide ((w64 (t57.2.1 + t57.2.2)) = a0)) rfl rfl rfl rfl) rfl (W.r (X.pickT (sb (decide_eq_true c73)) rfl) rfl (W.mv rfl ?_)))))))))))
                                  by_cases c74 : (w64 (t57.2.1 + t57.2.2)) = a0
                                  · replace H := ite_t c74 H
                                    refine W.want 140 rfl (sb (decide_eq_true c74)) (W.mv rfl (W.want 140 rfl (sb (decide_eq_true c74)) (W.mv rfl (W.want 140 rfl (sb (decide_eq_true c74)) (W.nc rfl (W.want 140 rfl (sb (decide_eq_true c74)) (W.fa fo59_2 rfl (W.want 140 rfl (sb (decide_eq_true c74)) (W.r (X.indexArK 1 rfl Try.underlying57 inf56 rfl rfl (by decide) (by decide)) rfl (W.want 140 rfl (sb (decide_eq_true c74)) (W.ld 14 HS Try.underlying56 rfl rfl rfl rfl (W.want 140 rfl (sb (decide_eq_true c74)) (W.r (X.lenSl Try.underlying56 rfl) rfl (W.want 140 rfl (sb (decide_eq_true c74)) (W.r (X.cmp (decide (t57.2.1 ≤ (x45.heard.2.length : Int))) rfl rfl rfl rfl) rfl (W.r (X.pickT (sb (decide_eq_true c74)) rfl) rfl (W.as rfl (W.nx (V.ret ?_)))))))))))))))))))
                                    replace HS := HS.pk [24] [0, 1, 2, 3, 4, 5, 6, 7, 8, 9, 10, 11, 12, 13, 14, 15, 16, 17, 18, 19, 20, 21, 22, 23]
                                    cases H
                                    exact At.ret1 rfl rfl ⟨_, rfl, rfl, HS⟩
                                  · replace H := ite_f c74 H
                                    refine W.pass 140 rfl (sb (decide_eq_false c74)) rfl rfl (W.pass 140 rfl (sb (decide_eq_false c74)) rfl rfl (W.pass 140 rfl (sb (decide_eq_false c74)) rfl rfl (W.pass 140 rfl (sb (decide_eq_false c74)) rfl rfl (W.pass 140 rfl (sb (decide_eq_false c74)) rfl rfl (W.pass 140 rfl (sb (decide_eq_false c74)) rfl rfl (W.pass 140 rfl (sb (decide_eq_false c74)) rfl rfl (W.pass 140 rfl (sb (decide_eq_false c74)) rfl rfl (W.r (X.pickF (sb (decide_eq_false c74)) rfl) rfl (W.as rfl (W.nx (V.ret ?_)))))))))))
                                    replace HS := HS.pk [24] [0, 1, 2, 3, 4, 5, 6, 7, 8, 9, 10, 11, 12, 13, 14, 15, 16, 17, 18, 19, 20, 21, 22, 23]
                                    cases H
                                    exact At.ret1 rfl rfl ⟨_, rfl, rfl, HS⟩
                                · replace H := ite_f c73 H
                                  refine W.pass 133 rfl (sb (decide_eq_false c73)) rfl rfl (W.pass 133 rfl (sb (decide_eq_false c73)) rfl rfl (W.pass 133 rfl (sb (decide_eq_false c73)) rfl rfl (W.pass 133 rfl (sb (decide_eq_false c73)) rfl rfl (W.pass 133 rfl (sb (decide_eq_false c73)) rfl rfl (W.r (X.pickF (sb (decide_eq_false c73)) rfl) rfl (W.mv rfl (W.pass 140 rfl rfl rfl rfl (W.pass 140 rfl rfl rfl rfl (W.pass 140 rfl rfl rfl rfl (W.pass 140 rfl rfl rfl rfl (W.pass 140 rfl rfl rfl rfl (W.pass 140 rfl rfl rfl rfl (W.pass 140 rfl rfl rfl rfl (W.pass 140 rfl rfl rfl rfl (W.r (X.pickF rfl rfl) rfl (W.as rfl (W.nx (V.ret ?_))))))))))))))))))
                                  replace HS := HS.pk [24] [0, 1, 2, 3, 4, 5, 6, 7, 8, 9, 10, 11, 12, 13, 14, 15, 16, 17, 18, 19, 20, 21, 22, 23]
                                  cases H
                                  exact At.ret1 rfl rfl ⟨_, rfl, rfl, HS⟩
                              · replace H := ite_f c72 H
                                refine W.pass 128 rfl (sb (decide_eq_false c72)) rfl rfl (W.pass 128 rfl (sb (decide_eq_false c72)) rfl rfl (W.pass 128 rfl (sb (decide_eq_false c72)) rfl rfl (W.r (X.pickF (sb (decide_eq_false c72)) rfl) rfl (W.mv rfl (W.pass 133 rfl rfl rfl rfl (W.pass 133 rfl rfl rfl rfl (W.pass 133 rfl rfl rfl rfl (W.pass 133 rfl rfl rfl rfl (W.pass 133 rfl rfl rfl rfl (W.r (X.pickF rfl rfl) rfl (W.mv rfl (W.pass 140 rfl rfl rfl rfl (W.pass 140 rfl rfl rfl rfl (W.pass 140 rfl rfl rfl rfl (W.pass 140 rfl rfl rfl rfl (W.pass 140 rfl rfl rfl rfl (W.pass 140 rfl rfl rfl rfl (W.pass 140 rfl rfl rfl rfl (W.pass 140 rfl rfl rfl rfl (W.r (X.pickF rfl rfl) rfl (W.as rfl (W.nx (V.ret ?_)))))))))))))))))))))))
                                replace HS := HS.pk [24] [0, 1, 2, 3, 4, 5, 6, 7, 8, 9, 10, 11, 12, 13, 14, 15, 16, 17, 18, 19, 20, 21, 22, 23]
                                cases H
                                exact At.ret1 rfl rfl ⟨_, rfl, rfl, HS⟩
                            · replace H := ite_f c67 H
                              refine W.pass 119 rfl (sb (decide_eq_false c67)) rfl rfl (W.pass 119 rfl (sb (decide_eq_false c67)) rfl rfl (W.pass 119 rfl (sb (decide_eq_false c67)) rfl rfl (W.pass 119 rfl (sb (decide_eq_false c67)) rfl rfl (W.pass 119 rfl (sb (decide_eq_false c67)) rfl rfl (W.pass 119 rfl (sb (decide_eq_false c67)) rfl rfl (W.pass 119 rfl (sb (decide_eq_false c67)) rfl rfl (W.r (X.pickF (sb (decide_eq_false c67)) rfl) rfl (W.mv rfl (W.pass 128 rfl rfl rfl rfl (W.pass 128 rfl rfl rfl rfl (W.pass 128 rfl rfl rfl rfl (W.r (X.pickF rfl rfl) rfl (W.mv rfl (W.pass 133 rfl rfl rfl rfl (W.pass 133 rfl rfl rfl rfl (W.pass 133 rfl rfl rfl rfl (W.pass 133 rfl rfl rfl rfl (W.pass 133 rfl rfl rfl rfl (W.r (X.pickF rfl rfl) rfl (W.mv rfl (W.pass 140 rfl rfl rfl rfl (W.pass 140 rfl rfl rfl rfl (W.pass 140 rfl rfl rfl rfl (W.pass 140 rfl rfl rfl rfl (W.pass 140 rfl rfl rfl rfl (W.pass 140 rfl rfl rfl rfl (W.pass 140 rfl rfl rfl rfl (W.pass 140 rfl rfl rfl rfl (W.r (X.pickF rfl rfl) rfl (W.as rfl (W.nx (V.ret ?_))))))))))))))))))))))))))))))))
                              replace HS := HS.pk [18] [0, 1, 2, 3, 4, 5, 6, 7, 8, 9, 10, 11, 12, 13, 14, 15, 16, 17]
                              cases H
                              exact At.ret1 rfl rfl ⟨_, rfl, rfl, HS⟩
                          · replace H := ite_f c64 H
                            refine W.pass 110 rfl (sb (decide_eq_false c64)) rfl rfl (W.pass 110 rfl (sb (decide_eq_false c64)) rfl rfl (W.pass 110 rfl (sb (decide_eq_false c64)) rfl rfl (W.pass 110 rfl (sb (decide_eq_false c64)) rfl rfl (W.pass 110 rfl (sb (decide_eq_false c64)) rfl rfl (W.pass 110 rfl (sb (decide_eq_false c64)) rfl rfl (W.pass 110 rfl (sb (decide_eq_false c64)) rfl rfl (W.r (X.pickF (sb (decide_eq_false c64)) rfl) rfl (W.mv rfl (W.pass 119 rfl rfl rfl rfl (W.pass 119 rfl rfl rfl rfl (W.pass 119 rfl rfl rfl rfl (W.pass 119 rfl rfl rfl rfl (W.pass 119 rfl rfl rfl rfl (W.pass 119 rfl rfl rfl rfl (W.pass 119 rfl rfl rfl rfl (W.r (X.pickF rfl rfl) rfl (W.mv rfl (W.pass 128 rfl rfl rfl rfl (W.pass 128 rfl rfl rfl rfl (W.pass 128 rfl rfl rfl rfl (W.r (X.pickF rfl rfl) rfl (W.mv rfl (W.pass 133 rfl rfl rfl rfl (W.pass 133 rfl rfl rfl rfl (W.pass 133 rfl rfl rfl rfl (W.pass 133 rfl rfl rfl rfl (W.pass 133 rfl rfl rfl rfl (W.r (X.pickF rfl rfl) rfl (W.mv rfl (W.pass 140 rfl rfl rfl rfl (W.pass 140 rfl rfl rfl rfl (W.pass 140 rfl rfl rfl rfl (W.pass 140 rfl rfl rfl rfl (W.pass 140 rfl rfl rfl rfl (W.pass 140 rfl rfl rfl rfl (W.pass 140 rfl rfl rfl rfl (W.pass 140 rfl rfl rfl rfl (W.r (X.pickF rfl rfl) rfl (W.as rfl ?_)))))))))))))))))))))))))))))))))))))))
                            refine W.nx (V.ret ?_)
                            replace HS := HS.pk [18] [0, 1, 2, 3, 4, 5, 6, 7, 8, 9, 10, 11, 12, 13, 14, 15, 16, 17]
                            cases H
                            exact At.ret1 rfl rfl ⟨_, rfl, rfl, HS⟩
                        · replace H := ite_f c61 H
                          refine W.pass 105 rfl (sb (decide_eq_false c61)) rfl rfl (W.pass 105 rfl (sb (decide_eq_false c61)) rfl rfl (W.pass 105 rfl (sb (decide_eq_false c61)) rfl rfl (W.r (X.pickF (sb (decide_eq_false c61)) rfl) rfl (W.mv rfl (W.pass 110 rfl rfl rfl rfl (W.pass 110 rfl rfl rfl rfl (W.pass 110 rfl rfl rfl rfl (W.pass 110 rfl rfl rfl rfl (W.pass 110 rfl rfl rfl rfl (W.pass 110 rfl rfl rfl rfl (W.pass 110 rfl rfl rfl rfl (W.r (X.pickF rfl rfl) rfl (W.mv rfl (W.pass 119 rfl rfl rfl rfl (W.pass 119 rfl rfl rfl rfl (W.pass 119 rfl rfl rfl rfl (W.pass 119 rfl rfl rfl rfl (W.pass 119 rfl rfl rfl rfl (W.pass 119 rfl rfl rfl rfl (W.pass 119 rfl rfl rfl rfl (W.r (X.pickF rfl rfl) rfl (W.mv rfl (W.pass 128 rfl rfl rfl rfl (W.pass 128 rfl rfl rfl rfl (W.pass 128 rfl rfl rfl rfl (W.r (X.pickF rfl rfl) rfl (W.mv rfl (W.pass 133 rfl rfl rfl rfl (W.pass 133 rfl rfl rfl rfl (W.pass 133 rfl rfl rfl rfl (W.pass 133 rfl rfl rfl rfl (W.pass 133 rfl rfl rfl rfl (W.r (X.pickF rfl rfl) rfl (W.mv rfl (W.pass 140 rfl rfl rfl rfl (W.pass 140 rfl rfl rfl rfl (W.pass 140 rfl rfl rfl rfl (W.pass 140 rfl rfl rfl rfl (W.pass 140 rfl rfl rfl rfl ?_)))))))))))))))))))))))))))))))))))))))
                          refine W.pass 140 rfl rfl rfl rfl (W.pass 140 rfl rfl rfl rfl (W.pass 140 rfl rfl rfl rfl (W.r (X.pickF rfl rfl) rfl (W.as rfl (W.nx (V.ret ?_))))))
                          replace HS := HS.pk [18] [0, 1, 2, 3, 4, 5, 6, 7, 8, 9, 10, 11, 12, 13, 14, 15, 16, 17]
                          cases H
                          exact At.ret1 rfl rfl ⟨_, rfl, rfl, HS⟩

def signalmanlaw15_ArqCloses.Pure : Prop := ∀ (a0 : Int) (a1 : Int) (a2 : Bool), (Lit.int .i64 a0).wf = true → (Lit.int .i64 a1).wf = true → ∃ k, signalmanlaw15_ArqCloses.f k a0 a1 a2 = some true
end Go.Proofs.Ytnlcafmkmfnobaa

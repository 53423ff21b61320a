/- ArqStale: the functions that its law reaches, as plain functions, and that the machine's calls come to what these say. Conditions: those that stand at each. -/
import Derived.Test.YtnlcafmkmfnobaaRunArqStaleP2
set_option linter.all false
set_option maxRecDepth 100000
set_option maxHeartbeats 4000000
set_option synthInstance.maxSize 100000
set_option synthInstance.maxHeartbeats 1000000
namespace Go.Proofs.Ytnlcafmkmfnobaa
open Go.RowKit Go.Proofs.Ytnlcafmkmfnobaa.Sep Go.Proofs.Ytnlcafmkmfnobaa.Walk
/-! ### (*signalman/signalmanlaw15.pair).collect: function 32 -/
mutual
def signalmanlaw15_pair_collect.l0 : Nat → Int → signalmanlaw15_pair → Option signalmanlaw15_pair
  | 0, _, _ => none
  | k + 1, x2, x3 => (if x2 < 2 then (if 0 ≤ x2 ∧ x2 < 2 then (if x2 = 0 then ((arq_Arq_Output.f x3.a.1).bind fun t84 => (if (x3.way.1.length : Int) + t84.1.length ≤ 1099511627776 then (signalmanlaw15_pair_collect.j1 k x2 (signalmanlaw15_pair_collect.l0 k) ({ a := (t84.2, x3.a.2), way := (x3.way.1 ++ t84.1, x3.way.2), heard := (x3.heard.1, x3.heard.2), said := (x3.said.1, x3.said.2), downs := x3.downs } : signalmanlaw15_pair)) else none)) else ((arq_Arq_Output.f x3.a.2).bind fun t90 => (if (x3.way.2.length : Int) + t90.1.length ≤ 1099511627776 then (signalmanlaw15_pair_collect.j1 k x2 (signalmanlaw15_pair_collect.l0 k) ({ a := (x3.a.1, t90.2), way := (x3.way.1, x3.way.2 ++ t90.1), heard := (x3.heard.1, x3.heard.2), said := (x3.said.1, x3.said.2), downs := x3.downs } : signalmanlaw15_pair)) else none))) else none) else some x3)
def signalmanlaw15_pair_collect.l2 : Nat → Int → (Int → signalmanlaw15_pair → Option signalmanlaw15_pair) → signalmanlaw15_pair → Option signalmanlaw15_pair
  | 0, _, _, _ => none
  | k + 1, x2, Lq9, x11 => (if 0 ≤ x2 ∧ x2 < 2 then (if x2 = 0 then ((arq_Arq_Recv.f x11.a.1).bind fun t75 => (signalmanlaw15_pair_collect.j3 k x2 Lq9 (signalmanlaw15_pair_collect.l2 k x2 Lq9) ({ a := (t75.2.2, x11.a.2), way := (x11.way.1, x11.way.2), heard := (x11.heard.1, x11.heard.2), said := (x11.said.1, x11.said.2), downs := x11.downs } : signalmanlaw15_pair) t75.1 t75.2.1)) else ((arq_Arq_Recv.f x11.a.2).bind fun t78 => (signalmanlaw15_pair_collect.j3 k x2 Lq9 (signalmanlaw15_pair_collect.l2 k x2 Lq9) ({ a := (x11.a.1, t78.2.2), way := (x11.way.1, x11.way.2), heard := (x11.heard.1, x11.heard.2), said := (x11.said.1, x11.said.2), downs := x11.downs } : signalmanlaw15_pair) t78.1 t78.2.1))) else none)
def signalmanlaw15_pair_collect.l5 : Nat → Int → (Int → signalmanlaw15_pair → Option signalmanlaw15_pair) → (List Int) → Int → signalmanlaw15_pair → Option signalmanlaw15_pair
  | 0, _, _, _, _, _ => none
  | k + 1, x2, Lq48, x46, x51, x52 => (if x51 < (x46.length : Int) then (if 0 ≤ x51 ∧ x51 < (x46.length : Int) then (if (x46.getD x51.toNat 0) = 1 then (signalmanlaw15_pair_collect.l5 k x2 Lq48 x46 (w64 (x51 + 1)) x52) else (signalmanlaw15_pair_collect.l5 k x2 Lq48 x46 (w64 (x51 + 1)) ({ a := (x52.a.1, x52.a.2), way := (x52.way.1, x52.way.2), heard := (x52.heard.1, x52.heard.2), said := (x52.said.1, x52.said.2), downs := w64 (x52.downs + 1) } : signalmanlaw15_pair))) else none) else (Lq48 (w64 (x2 + 1)) x52))
def signalmanlaw15_pair_collect.j4 (k : Nat) (x2 : Int) (Lq48 : Int → signalmanlaw15_pair → Option signalmanlaw15_pair) (x43 : signalmanlaw15_pair) (x46 : List Int) : Option signalmanlaw15_pair := (signalmanlaw15_pair_collect.l5 k x2 Lq48 x46 0 x43)
def signalmanlaw15_pair_collect.j3 (k : Nat) (x2 : Int) (Lq20 : Int → signalmanlaw15_pair → Option signalmanlaw15_pair) (Lq22 : signalmanlaw15_pair → Option signalmanlaw15_pair) (x14 : signalmanlaw15_pair) (x17 : List Int) (x18 : Bool) : Option signalmanlaw15_pair := (if x18 = true then (if 0 ≤ x2 ∧ x2 < 2 then (if x2 = 0 then (if (x14.heard.1.length : Int) + (([x17] : List (List Int))).length ≤ 1099511627776 then (Lq22 ({ a := (x14.a.1, x14.a.2), way := (x14.way.1, x14.way.2), heard := (x14.heard.1 ++ ([x17] : List (List Int)), x14.heard.2), said := (x14.said.1, x14.said.2), downs := x14.downs } : signalmanlaw15_pair)) else none) else (if (x14.heard.2.length : Int) + (([x17] : List (List Int))).length ≤ 1099511627776 then (Lq22 ({ a := (x14.a.1, x14.a.2), way := (x14.way.1, x14.way.2), heard := (x14.heard.1, x14.heard.2 ++ ([x17] : List (List Int))), said := (x14.said.1, x14.said.2), downs := x14.downs } : signalmanlaw15_pair)) else none)) else none) else (if 0 ≤ x2 ∧ x2 < 2 then (if x2 = 0 then ((arq_Arq_Inds.f x14.a.1).bind fun t66 => (signalmanlaw15_pair_collect.j4 k x2 Lq20 ({ a := (t66.2, x14.a.2), way := (x14.way.1, x14.way.2), heard := (x14.heard.1, x14.heard.2), said := (x14.said.1, x14.said.2), downs := x14.downs } : signalmanlaw15_pair) t66.1)) else ((arq_Arq_Inds.f x14.a.2).bind fun t69 => (signalmanlaw15_pair_collect.j4 k x2 Lq20 ({ a := (x14.a.1, t69.2), way := (x14.way.1, x14.way.2), heard := (x14.heard.1, x14.heard.2), said := (x14.said.1, x14.said.2), downs := x14.downs } : signalmanlaw15_pair) t69.1))) else none))
def signalmanlaw15_pair_collect.j1 (k : Nat) (x2 : Int) (Lq9 : Int → signalmanlaw15_pair → Option signalmanlaw15_pair) (x7 : signalmanlaw15_pair) : Option signalmanlaw15_pair := (signalmanlaw15_pair_collect.l2 k x2 Lq9 x7)
end
def signalmanlaw15_pair_collect.f (k : Nat) (a0 : signalmanlaw15_pair) : Option signalmanlaw15_pair := (signalmanlaw15_pair_collect.l0 k 0 a0)
theorem signalmanlaw15_pair_collect.calls {k : Nat} {a0 : signalmanlaw15_pair} {R : As} {w0 w : World} {b0 : Nat} {r : signalmanlaw15_pair} (H : signalmanlaw15_pair_collect.f k a0 = some r) (HS : Sep.St [signalmanlaw15_pair.at b0 a0, R] w0 w)  : Calls Try.prog 32 #[Value.pointer (some ⟨b0, 0, none⟩)] w (Ret fun u w => u = Value.tuple #[] ∧ Sep.St [signalmanlaw15_pair.at b0 r, R] w0 w) := by
  unfold signalmanlaw15_pair_collect.f at H
  refine calls_enter Try.func32 rfl rfl ?_
  have H : _ = some r := H
  refine V.seq (V.region (W.as rfl (W.nx (V.block (V.loop (σ := Int × signalmanlaw15_pair) (fun kq (st : Int × signalmanlaw15_pair) w => match st with | (x2, x3) => Sep.St [signalmanlaw15_pair.at b0 x3, R] w0 w ∧ signalmanlaw15_pair_collect.l0 kq x2 x3 = some r ∧ kq ≤ k) (fun st => match st with | (x2, x3) => [(0, Value.pointer (some ⟨b0, 0, none⟩)), (2, Value.int .i64 x2)]) k (0, a0) ⟨rfl, rfl, trivial⟩ ⟨HS, H, Nat.le_refl _⟩ ?_)))))
  rintro kq4 ⟨x2, x3⟩ w ⟨HS, H, hk5⟩
  cases kq4 with
  | zero => exact absurd H (by simp [signalmanlaw15_pair_collect.l0])
  | succ kq4 =>
    simp only [signalmanlaw15_pair_collect.l0] at H
    refine V.seq (V.seq (V.region (W.mv rfl (W.r (X.cmp (decide (x2 < 2)) rfl rfl rfl rfl) rfl (W.nx ?_)))))
    by_cases c6 : x2 < 2
    · replace H := ite_t c6 H
      refine V.condT (sb (decide_eq_true c6)) (V.skip (At.next (V.seq (V.block (V.meet (σ := signalmanlaw15_pair) (fun st w => match st with | x7 => Sep.St [signalmanlaw15_pair.at b0 x7, R] w0 w ∧ ∃ kf8 kl10, kf8 ≤ kq4 ∧ kl10 ≤ kq4 ∧ signalmanlaw15_pair_collect.j1 kf8 x2 (signalmanlaw15_pair_collect.l0 kl10) x7 = some r) (fun st => match st with | x7 => [(0, Value.pointer (some ⟨b0, 0, none⟩)), (2, Value.int .i64 x2)]) ?_ ?_)))))
      · obtain ⟨b0_80, b1_80, a2_80, c2_80, d2_80, a3_80, c3_80, d3_80, a4_80, c4_80, a5_80, c5_80, a6_80, c6_80, a7_80, c7_80, hi81, HS⟩ := signalmanlaw15_pair.open HS
        obtain ⟨c82, H⟩ := ite_n H
        by_cases c83 : x2 = 0
        · replace H := ite_t c83 H
          refine V.dr [14, 15, 19] [18] [(11, Value.pointer (some ⟨b0, 0, none⟩)), (12, Value.int .i64 x2), (13, Value.pointer (some ⟨b0, 0, none⟩)), (14, Value.int .i64 x2), (15, Value.pointer (some ⟨b0, 0, none⟩)), (16, Value.pointer (some ⟨b0, 0 + 2, none⟩)), (17, Value.pointer (some ⟨b0, 0 + 2 + 0 * 1, none⟩)), (18, Value.slice a2_80 x3.way.1.length c2_80), (19, Value.pointer (some ⟨b0, 0, none⟩)), (20, Value.int .i64 x2), (21, Value.pointer (some ⟨b0, 0, none⟩)), (22, Value.pointer (some ⟨b0, 0 + 0, none⟩)), (23, Value.pointer (some ⟨b0, 0 + 0 + 0 * 1, none⟩)), (24, Value.pointer (some ⟨b0_80, 0, none⟩)), (27, Value.pointer (some ⟨b0, 0, none⟩)), (28, Value.pointer (some ⟨b0, 0 + 2, none⟩))] mo HS ?_
          refine T.ev [(24, _)] [18] [8, 9, 10, 11, 12, 13] ⟨rfl, trivial⟩ ⟨.mv 0, .mv 2, .mv 0, .mv 2, .nc 13, .fa 15 fo59_1, .n2 14 16 rfl rfl rfl (fun w HS => X.indexArK 0 c83 Try.underlying55 inf30 rfl rfl c82.1 c82.2), .ld 17 0 Try.underlying30, .mv 0, .mv 2, .nc 19, .fa 21 fo59_0, .n2 20 22 rfl rfl rfl (fun w HS => X.indexArK 0 c83 Try.underlying54 inf26 rfl rfl c82.1 c82.2), .ld 23 0 Try.underlying26, .nc 11, .fa 27 fo59_1, trivial⟩ rfl (fun w HS => ?_)
          obtain ⟨t84, A85, H⟩ := bind_s H
          replace HS := HS.pm [1, 0, 2, 3, 4, 5, 6, 7, 8, 9, 10, 11]
          refine ⟨_, Y.cl Try.func20 (arq_Arq_Output.calls A85 HS.j1), ?_⟩
          rintro _ w ⟨at84_0, ct84_0, dt84_0, rfl, HS⟩
          replace HS := HS.o3
          refine T.nw HS ?_
          refine T.ev [(18, _), (25, _)] [] [2, 3, 4, 5, 6, 7] ⟨rfl, rfl, trivial⟩ ⟨.mv 0, .mv 2, .mv 0, .mv 2, .nc 13, .fa 15 fo59_1, .n2 14 16 rfl rfl rfl (fun w HS => X.indexArK 0 c83 Try.underlying55 inf30 rfl rfl c82.1 c82.2), .ld 17 3 Try.underlying30, .nc 11, .fa 27 fo59_1, trivial⟩ rfl (fun w HS => ?_)
          obtain ⟨c86, H⟩ := ite_n H
          refine ⟨_, Y.app (xs := x3.way.1) (ys := t84.1) 5 Try.underlying30 ap39 rfl (by decide) HS rfl rfl rfl (rdC.at 0 row_rd HS rfl) (St.tie_one 1 HS rfl) (by omega) (by omega), ?_⟩
          rintro _ w ⟨ra87, rc88, rfl, HS⟩
          replace HS := HS.fr 6
          replace HS := St.tie_app 2 HS rfl
          refine T.nm [(26, Value.slice ra87 (x3.way.1 ++ t84.1).length rc88), (29, Value.pointer (some ⟨b0, 0 + 2 + 0 * 1, none⟩))] HS ⟨.inl ⟨rfl, rfl⟩, ⟨.inr ⟨by decide, rfl⟩, trivial⟩⟩ ?_
          refine T.ev [(26, _), (29, _)] [] [0, 1, 16, 17, 18] ⟨rfl, rfl, trivial⟩ ⟨.mv 0, .mv 2, .nc 11, .fa 27 fo59_1, .n2 12 28 rfl rfl rfl (fun w HS => X.indexArK 0 c83 Try.underlying55 inf30 rfl rfl c82.1 c82.2), trivial⟩ rfl (fun w HS => ?_)
          refine ⟨_, Y.sto 4 2 HS inf30 rfl rfl rfl rfl rfl rfl, ?_⟩
          rintro _ w HS
          refine T.nn HS ?_
          refine T.fn [(0, _), (2, _)] ⟨rfl, rfl, trivial⟩ trivial (fun w HS => ?_)
          replace HS := HS.pm [4, 3, 5, 6, 0, 7, 8, 9, 10, 11, 12, 1, 2, 13]
          replace HS := signalmanlaw15_pair.close trivial HS
          replace HS := HS.pk [0, 3] [1, 2]
          exact At.meet (({ a := (t84.2, x3.a.2), way := (x3.way.1 ++ t84.1, x3.way.2), heard := (x3.heard.1, x3.heard.2), said := (x3.said.1, x3.said.2), downs := x3.downs } : signalmanlaw15_pair)) ⟨rfl, rfl, trivial⟩ ⟨HS, kq4, kq4, by omega, by omega, H⟩
        · replace H := ite_f c83 H
          have hk89 : x2 = 1 := by omega
          refine V.dr [14, 15, 19] [18] [(11, Value.pointer (some ⟨b0, 0, none⟩)), (12, Value.int .i64 x2), (13, Value.pointer (some ⟨b0, 0, none⟩)), (14, Value.int .i64 x2), (15, Value.pointer (some ⟨b0, 0, none⟩)), (16, Value.pointer (some ⟨b0, 0 + 2, none⟩)), (17, Value.pointer (some ⟨b0, 0 + 2 + 1 * 1, none⟩)), (18, Value.slice a3_80 x3.way.2.length c3_80), (19, Value.pointer (some ⟨b0, 0, none⟩)), (20, Value.int .i64 x2), (21, Value.pointer (some ⟨b0, 0, none⟩)), (22, Value.pointer (some ⟨b0, 0 + 0, none⟩)), (23, Value.pointer (some ⟨b0, 0 + 0 + 1 * 1, none⟩)), (24, Value.pointer (some ⟨b1_80, 0, none⟩)), (27, Value.pointer (some ⟨b0, 0, none⟩)), (28, Value.pointer (some ⟨b0, 0 + 2, none⟩))] mo HS ?_
          refine T.ev [(24, _)] [18] [8, 9, 10, 11, 12, 13] ⟨rfl, trivial⟩ ⟨.mv 0, .mv 2, .mv 0, .mv 2, .nc 13, .fa 15 fo59_1, .n2 14 16 rfl rfl rfl (fun w HS => X.indexArK 1 hk89 Try.underlying55 inf30 rfl rfl c82.1 c82.2), .ld 17 0 Try.underlying30, .mv 0, .mv 2, .nc 19, .fa 21 fo59_0, .n2 20 22 rfl rfl rfl (fun w HS => X.indexArK 1 hk89 Try.underlying54 inf26 rfl rfl c82.1 c82.2), .ld 23 0 Try.underlying26, .nc 11, .fa 27 fo59_1, trivial⟩ rfl (fun w HS => ?_)
          obtain ⟨t90, A91, H⟩ := bind_s H
          replace HS := HS.pm [2, 0, 1, 3, 4, 5, 6, 7, 8, 9, 10, 11]
          refine ⟨_, Y.cl Try.func20 (arq_Arq_Output.calls A91 HS.j1), ?_⟩
          rintro _ w ⟨at90_0, ct90_0, dt90_0, rfl, HS⟩
          replace HS := HS.o3
          refine T.nw HS ?_
          refine T.ev [(18, _), (25, _)] [] [2, 3, 4, 5, 6, 7] ⟨rfl, rfl, trivial⟩ ⟨.mv 0, .mv 2, .mv 0, .mv 2, .nc 13, .fa 15 fo59_1, .n2 14 16 rfl rfl rfl (fun w HS => X.indexArK 1 hk89 Try.underlying55 inf30 rfl rfl c82.1 c82.2), .ld 17 3 Try.underlying30, .nc 11, .fa 27 fo59_1, trivial⟩ rfl (fun w HS => ?_)
          obtain ⟨c92, H⟩ := ite_n H
          refine ⟨_, Y.app (xs := x3.way.2) (ys := t90.1) 7 Try.underlying30 ap39 rfl (by decide) HS rfl rfl rfl (rdC.at 0 row_rd HS rfl) (St.tie_one 1 HS rfl) (by omega) (by omega), ?_⟩
          rintro _ w ⟨ra93, rc94, rfl, HS⟩
          replace HS := HS.fr 8
          replace HS := St.tie_app 2 HS rfl
          refine T.nm [(26, Value.slice ra93 (x3.way.2 ++ t90.1).length rc94), (29, Value.pointer (some ⟨b0, 0 + 2 + 1 * 1, none⟩))] HS ⟨.inl ⟨rfl, rfl⟩, ⟨.inr ⟨by decide, rfl⟩, trivial⟩⟩ ?_
          refine T.ev [(26, _), (29, _)] [] [0, 1, 16, 17, 18] ⟨rfl, rfl, trivial⟩ ⟨.mv 0, .mv 2, .nc 11, .fa 27 fo59_1, .n2 12 28 rfl rfl rfl (fun w HS => X.indexArK 1 hk89 Try.underlying55 inf30 rfl rfl c82.1 c82.2), trivial⟩ rfl (fun w HS => ?_)
          refine ⟨_, Y.sto 4 3 HS inf30 rfl rfl rfl rfl rfl rfl, ?_⟩
          rintro _ w HS
          refine T.nn HS ?_
          refine T.fn [(0, _), (2, _)] ⟨rfl, rfl, trivial⟩ trivial (fun w HS => ?_)
          replace HS := HS.pm [4, 5, 3, 6, 7, 8, 0, 9, 10, 11, 12, 1, 2, 13]
          replace HS := signalmanlaw15_pair.close trivial HS
          replace HS := HS.pk [0, 3] [1, 2]
          exact At.meet (({ a := (x3.a.1, t90.2), way := (x3.way.1, x3.way.2 ++ t90.1), heard := (x3.heard.1, x3.heard.2), said := (x3.said.1, x3.said.2), downs := x3.downs } : signalmanlaw15_pair)) ⟨rfl, rfl, trivial⟩ ⟨HS, kq4, kq4, by omega, by omega, H⟩
      · rintro x7 w ⟨HS, kf8, kl10, hkkf8, hkkl10, H⟩
        unfold signalmanlaw15_pair_collect.j1 at H
        refine V.seq (V.block (V.loop (σ := signalmanlaw15_pair) (fun kq (st : signalmanlaw15_pair) w => match st with | x11 => Sep.St [signalmanlaw15_pair.at b0 x11, R] w0 w ∧ signalmanlaw15_pair_collect.l2 kq x2 (signalmanlaw15_pair_collect.l0 kl10) x11 = some r ∧ kq ≤ kf8) (fun st => match st with | x11 => [(0, Value.pointer (some ⟨b0, 0, none⟩)), (2, Value.int .i64 x2)]) kf8 x7 ⟨rfl, rfl, trivial⟩ ⟨HS, H, Nat.le_refl _⟩ ?_))
        rintro kq12 x11 w ⟨HS, H, hk13⟩
        cases kq12 with
        | zero => exact absurd H (by simp [signalmanlaw15_pair_collect.l2])
        | succ kq12 =>
          simp only [signalmanlaw15_pair_collect.l2] at H
          refine V.block (V.meet (σ := signalmanlaw15_pair × Option Addr × Nat × List Int × Bool) (fun st w => match st with | (x14, ra15, rc16, x17, x18) => Sep.St [fsl 1 (.slice ra15 x17.length rc16) x17.length (x17.map (Value.int .u8)), signalmanlaw15_pair.at b0 x14, R] w0 w ∧ ∃ kf19 kl21 kl23, kf19 ≤ kq12 ∧ kl21 ≤ kl10 ∧ kl23 ≤ kq12 ∧ signalmanlaw15_pair_collect.j3 kf19 x2 (signalmanlaw15_pair_collect.l0 kl21) (signalmanlaw15_pair_collect.l2 kl23 x2 (signalmanlaw15_pair_collect.l0 kl10)) x14 x17 x18 = some r) (fun st => match st with | (x14, ra15, rc16, x17, x18) => [(0, Value.pointer (some ⟨b0, 0, none⟩)), (2, Value.int .i64 x2), (3, Value.slice ra15 x17.length rc16), (4, Value.bool x18)]) ?_ ?_)
          · refine V.region (W.mv rfl (W.mv rfl (W.nc rfl ?_)))
            obtain ⟨b0_71, b1_71, a2_71, c2_71, d2_71, a3_71, c3_71, d3_71, a4_71, c4_71, a5_71, c5_71, a6_71, c6_71, a7_71, c7_71, hi72, HS⟩ := signalmanlaw15_pair.open HS
            refine W.fa fo59_0 rfl ?_
            obtain ⟨c73, H⟩ := ite_n H
            by_cases c74 : x2 = 0
            · replace H := ite_t c74 H
              refine W.r (X.indexArK 0 c74 Try.underlying54 inf26 rfl rfl c73.1 c73.2) rfl (W.ld 0 HS Try.underlying26 rfl rfl rfl rfl ?_)
              obtain ⟨t75, A76, H⟩ := bind_s H
              replace HS := HS.pm [1, 0, 2, 3, 4, 5, 6, 7, 8, 9, 10, 11]
              refine W.e (Y.cl Try.func31 (arq_Arq_Recv.calls A76 HS.j1)) rfl ?_
              rintro _ w ⟨at75_0, ct75_0, rfl, HS⟩
              replace HS := HS.o2
              refine W.mv rfl (W.r (X.extract rfl rfl) rfl (W.r (X.extract rfl rfl) rfl (W.as rfl (W.as rfl (W.nil ?_)))))
              replace HS := HS.pm [2, 1, 3, 4, 5, 6, 7, 8, 9, 10, 11, 0, 12]
              replace HS := signalmanlaw15_pair.close trivial HS
              replace HS := HS.pk [1, 0, 2] []
              exact At.meet (({ a := (t75.2.2, x11.a.2), way := (x11.way.1, x11.way.2), heard := (x11.heard.1, x11.heard.2), said := (x11.said.1, x11.said.2), downs := x11.downs } : signalmanlaw15_pair), at75_0, ct75_0, t75.1, t75.2.1) ⟨rfl, rfl, rfl, rfl, trivial⟩ ⟨HS, kq12, kl10, kq12, by omega, by omega, by omega, H⟩
            · replace H := ite_f c74 H
              have hk77 : x2 = 1 := by omega
              refine W.r (X.indexArK 1 hk77 Try.underlying54 inf26 rfl rfl c73.1 c73.2) rfl (W.ld 0 HS Try.underlying26 rfl rfl rfl rfl ?_)
              obtain ⟨t78, A79, H⟩ := bind_s H
              replace HS := HS.pm [2, 0, 1, 3, 4, 5, 6, 7, 8, 9, 10, 11]
              refine W.e (Y.cl Try.func31 (arq_Arq_Recv.calls A79 HS.j1)) rfl ?_
              rintro _ w ⟨at78_0, ct78_0, rfl, HS⟩
              replace HS := HS.o2
              refine W.mv rfl (W.r (X.extract rfl rfl) rfl (W.r (X.extract rfl rfl) rfl (W.as rfl (W.as rfl (W.nil ?_)))))
              replace HS := HS.pm [2, 3, 1, 4, 5, 6, 7, 8, 9, 10, 11, 0, 12]
              replace HS := signalmanlaw15_pair.close trivial HS
              replace HS := HS.pk [1, 0, 2] []
              exact At.meet (({ a := (x11.a.1, t78.2.2), way := (x11.way.1, x11.way.2), heard := (x11.heard.1, x11.heard.2), said := (x11.said.1, x11.said.2), downs := x11.downs } : signalmanlaw15_pair), at78_0, ct78_0, t78.1, t78.2.1) ⟨rfl, rfl, rfl, rfl, trivial⟩ ⟨HS, kq12, kl10, kq12, by omega, by omega, by omega, H⟩
          · rintro ⟨x14, ra15, rc16, x17, x18⟩ w ⟨HS, kf19, kl21, kl23, hkkf19, hkkl21, hkkl23, H⟩
            unfold signalmanlaw15_pair_collect.j3 at H
            refine V.seq (V.seq (V.region (W.mv rfl (W.r (X.not rfl) rfl (W.nx ?_)))))
            by_cases c25 : x18 = true
            · replace H := ite_t c25 H
              refine V.condF (sb (n_t c25)) (V.skip (At.next ?_))
              replace HS := HS.fr 1
              obtain ⟨b0_26, b1_26, a2_26, c2_26, d2_26, a3_26, c3_26, d3_26, a4_26, c4_26, a5_26, c5_26, a6_26, c6_26, a7_26, c7_26, hi27, HS⟩ := signalmanlaw15_pair.open HS
              obtain ⟨c28, H⟩ := ite_n H
              by_cases c29 : x2 = 0
              · replace H := ite_t c29 H
                refine V.dr [10, 11, 15] [14] [(42, Value.pointer (some ⟨b0, 0, none⟩)), (43, Value.int .i64 x2), (44, Value.pointer (some ⟨b0, 0, none⟩)), (45, Value.int .i64 x2), (46, Value.pointer (some ⟨b0, 0, none⟩)), (47, Value.pointer (some ⟨b0, 0 + 4, none⟩)), (48, Value.pointer (some ⟨b0, 0 + 4 + 0 * 1, none⟩)), (49, Value.slice a4_26 x14.heard.1.length c4_26), (50, Value.slice ra15 x17.length rc16), (51, Value.string (strOf x17)), (54, Value.pointer (some ⟨b0, 0, none⟩)), (55, Value.pointer (some ⟨b0, 0 + 4, none⟩))] mo HS ?_
                refine T.ev [(51, _)] [14] [8, 9] ⟨rfl, trivial⟩ ⟨.mv 0, .mv 2, .mv 0, .mv 2, .nc 44, .fa 46 fo59_2, .n2 45 47 rfl rfl rfl (fun w HS => X.indexArK 0 c29 Try.underlying57 inf56 rfl rfl c28.1 c28.2), .ld 48 0 Try.underlying56, .mv 3, .n1 50 rfl rfl (fun w HS => X.bytesStr Try.underlying39 Try.underlying5 Try.underlying9 rfl (rdC.at 11 fsl.rd HS rfl)), .nc 42, .fa 54 fo59_2, trivial⟩ rfl (fun w HS => ?_)
                refine ⟨_, Y.ls (e := 9) (fun x => Value.string (strOf x)) ([x17] : List (List Int)) HS rfl rfl (fun _ => by kernel_rfl), ?_⟩
                rintro _ w ⟨lb32, rfl, HS⟩
                refine T.nw HS ?_
                refine T.ev [(49, _), (52, _)] [] [2, 3, 4, 5, 6, 7] ⟨rfl, rfl, trivial⟩ ⟨.mv 0, .mv 2, .mv 0, .mv 2, .nc 44, .fa 46 fo59_2, .n2 45 47 rfl rfl rfl (fun w HS => X.indexArK 0 c29 Try.underlying57 inf56 rfl rfl c28.1 c28.2), .ld 48 1 Try.underlying56, .nc 42, .fa 54 fo59_2, trivial⟩ rfl (fun w HS => ?_)
                obtain ⟨c33, H⟩ := ite_n H
                refine ⟨_, Y.appF (fun x => Value.string (strOf x)) (fun _ => rfl) 8 Try.underlying56 ap9 rfl HS rfl rfl rfl (rdC.at 0 row_rd HS rfl) (by omega) (by omega), ?_⟩
                rintro _ w ⟨ra34, rc35, rfl, HS⟩
                refine T.nm [(53, Value.slice ra34 (x14.heard.1 ++ ([x17] : List (List Int))).length rc35), (56, Value.pointer (some ⟨b0, 0 + 4 + 0 * 1, none⟩))] HS ⟨.inl ⟨rfl, rfl⟩, ⟨.inr ⟨by decide, rfl⟩, trivial⟩⟩ ?_
                refine T.ev [(53, _), (56, _)] [] [0, 1, 12, 13, 14] ⟨rfl, rfl, trivial⟩ ⟨.mv 0, .mv 2, .nc 42, .fa 54 fo59_2, .n2 43 55 rfl rfl rfl (fun w HS => X.indexArK 0 c29 Try.underlying57 inf56 rfl rfl c28.1 c28.2), trivial⟩ rfl (fun w HS => ?_)
                refine ⟨_, Y.sto 1 4 HS inf56 rfl rfl rfl rfl rfl rfl, ?_⟩
                rintro _ w HS
                refine T.nn HS ?_
                refine T.fn [(0, _), (2, _)] ⟨rfl, rfl, trivial⟩ trivial (fun w HS => ?_)
                refine At.blockEnd ?_
                replace HS := HS.pm [1, 2, 3, 4, 5, 6, 7, 8, 9, 10, 11, 0, 12, 13]
                replace HS := signalmanlaw15_pair.close trivial HS
                replace HS := HS.pk [0, 3] [1, 2]
                exact At.round kl23 (by omega) (({ a := (x14.a.1, x14.a.2), way := (x14.way.1, x14.way.2), heard := (x14.heard.1 ++ ([x17] : List (List Int)), x14.heard.2), said := (x14.said.1, x14.said.2), downs := x14.downs } : signalmanlaw15_pair)) ⟨rfl, rfl, trivial⟩ ⟨HS, H, by omega⟩
              · replace H := ite_f c29 H
                have hk36 : x2 = 1 := by omega
                refine V.dr [10, 11, 15] [14] [(42, Value.pointer (some ⟨b0, 0, none⟩)), (43, Value.int .i64 x2), (44, Value.pointer (some ⟨b0, 0, none⟩)), (45, Value.int .i64 x2), (46, Value.pointer (some ⟨b0, 0, none⟩)), (47, Value.pointer (some ⟨b0, 0 + 4, none⟩)), (48, Value.pointer (some ⟨b0, 0 + 4 + 1 * 1, none⟩)), (49, Value.slice a5_26 x14.heard.2.length c5_26), (50, Value.slice ra15 x17.length rc16), (51, Value.string (strOf x17)), (54, Value.pointer (some ⟨b0, 0, none⟩)), (55, Value.pointer (some ⟨b0, 0 + 4, none⟩))] mo HS ?_
                refine T.ev [(51, _)] [14] [8, 9] ⟨rfl, trivial⟩ ⟨.mv 0, .mv 2, .mv 0, .mv 2, .nc 44, .fa 46 fo59_2, .n2 45 47 rfl rfl rfl (fun w HS => X.indexArK 1 hk36 Try.underlying57 inf56 rfl rfl c28.1 c28.2), .ld 48 0 Try.underlying56, .mv 3, .n1 50 rfl rfl (fun w HS => X.bytesStr Try.underlying39 Try.underlying5 Try.underlying9 rfl (rdC.at 11 fsl.rd HS rfl)), .nc 42, .fa 54 fo59_2, trivial⟩ rfl (fun w HS => ?_)
                refine ⟨_, Y.ls (e := 9) (fun x => Value.string (strOf x)) ([x17] : List (List Int)) HS rfl rfl (fun _ => by kernel_rfl), ?_⟩
                rintro _ w ⟨lb39, rfl, HS⟩
                refine T.nw HS ?_
                refine T.ev [(49, _), (52, _)] [] [2, 3, 4, 5, 6, 7] ⟨rfl, rfl, trivial⟩ ⟨.mv 0, .mv 2, .mv 0, .mv 2, .nc 44, .fa 46 fo59_2, .n2 45 47 rfl rfl rfl (fun w HS => X.indexArK 1 hk36 Try.underlying57 inf56 rfl rfl c28.1 c28.2), .ld 48 1 Try.underlying56, .nc 42, .fa 54 fo59_2, trivial⟩ rfl (fun w HS => ?_)
                obtain ⟨c40, H⟩ := ite_n H
                refine ⟨_, Y.appF (fun x => Value.string (strOf x)) (fun _ => rfl) 9 Try.underlying56 ap9 rfl HS rfl rfl rfl (rdC.at 0 row_rd HS rfl) (by omega) (by omega), ?_⟩
                rintro _ w ⟨ra41, rc42, rfl, HS⟩
                refine T.nm [(53, Value.slice ra41 (x14.heard.2 ++ ([x17] : List (List Int))).length rc42), (56, Value.pointer (some ⟨b0, 0 + 4 + 1 * 1, none⟩))] HS ⟨.inl ⟨rfl, rfl⟩, ⟨.inr ⟨by decide, rfl⟩, trivial⟩⟩ ?_
                refine T.ev [(53, _), (56, _)] [] [0, 1, 12, 13, 14] ⟨rfl, rfl, trivial⟩ ⟨.mv 0, .mv 2, .nc 42, .fa 54 fo59_2, .n2 43 55 rfl rfl rfl (fun w HS => X.indexArK 1 hk36 Try.underlying57 inf56 rfl rfl c28.1 c28.2), trivial⟩ rfl (fun w HS => ?_)
                refine ⟨_, Y.sto 1 5 HS inf56 rfl rfl rfl rfl rfl rfl, ?_⟩
                rintro _ w HS
                refine T.nn HS ?_
                refine T.fn [(0, _), (2, _)] ⟨rfl, rfl, trivial⟩ trivial (fun w HS => ?_)
                refine At.blockEnd ?_
                replace HS := HS.pm [1, 2, 3, 4, 5, 6, 7, 8, 9, 10, 11, 0, 12, 13]
                replace HS := signalmanlaw15_pair.close trivial HS
                replace HS := HS.pk [0, 3] [1, 2]
                exact At.round kl23 (by omega) (({ a := (x14.a.1, x14.a.2), way := (x14.way.1, x14.way.2), heard := (x14.heard.1, x14.heard.2 ++ ([x17] : List (List Int))), said := (x14.said.1, x14.said.2), downs := x14.downs } : signalmanlaw15_pair)) ⟨rfl, rfl, trivial⟩ ⟨HS, H, by omega⟩
            · replace H := ite_f c25 H
              refine V.condT (sb (n_f (b_f c25))) (V.exit (At.thenExit (At.blockPast rfl (At.thenExit (At.blockExit (At.next (V.meet (σ := signalmanlaw15_pair × Option Addr × Nat × List Int) (fun st w => match st with | (x43, ra44, rc45, x46) => Sep.St [row 3 1 (.slice ra44 x46.length rc45) x46.length (x46.map (Value.int .i64)), fsl 1 (.slice ra15 x17.length rc16) x17.length (x17.map (Value.int .u8)), signalmanlaw15_pair.at b0 x43, R] w0 w ∧ ∃ kf47 kl49, kf47 ≤ kf19 ∧ kl49 ≤ kl21 ∧ signalmanlaw15_pair_collect.j4 kf47 x2 (signalmanlaw15_pair_collect.l0 kl49) x43 x46 = some r) (fun st => match st with | (x43, ra44, rc45, x46) => [(0, Value.pointer (some ⟨b0, 0, none⟩)), (2, Value.int .i64 x2), (5, Value.slice ra44 x46.length rc45)]) ?_ ?_)))))))
              · refine V.region (W.mv rfl (W.mv rfl (W.nc rfl ?_)))
                replace HS := HS.fr 1
                obtain ⟨b0_62, b1_62, a2_62, c2_62, d2_62, a3_62, c3_62, d3_62, a4_62, c4_62, a5_62, c5_62, a6_62, c6_62, a7_62, c7_62, hi63, HS⟩ := signalmanlaw15_pair.open HS
                refine W.fa fo59_0 rfl ?_
                obtain ⟨c64, H⟩ := ite_n H
                by_cases c65 : x2 = 0
                · replace H := ite_t c65 H
                  refine W.r (X.indexArK 0 c65 Try.underlying54 inf26 rfl rfl c64.1 c64.2) rfl (W.ld 0 HS Try.underlying26 rfl rfl rfl rfl ?_)
                  obtain ⟨t66, A67, H⟩ := bind_s H
                  replace HS := HS.pm [1, 0, 2, 3, 4, 5, 6, 7, 8, 9, 10, 11, 12]
                  refine W.e (Y.cl Try.func23 (arq_Arq_Inds.calls A67 HS.j1)) rfl ?_
                  rintro _ w ⟨at66_0, ct66_0, rfl, HS⟩
                  replace HS := HS.o2
                  refine W.as rfl (W.nil ?_)
                  replace HS := HS.pm [2, 1, 3, 4, 5, 6, 7, 8, 9, 10, 11, 0, 12, 13]
                  replace HS := signalmanlaw15_pair.close trivial HS
                  replace HS := HS.pk [1, 2, 0, 3] []
                  exact At.meet (({ a := (t66.2, x14.a.2), way := (x14.way.1, x14.way.2), heard := (x14.heard.1, x14.heard.2), said := (x14.said.1, x14.said.2), downs := x14.downs } : signalmanlaw15_pair), at66_0, ct66_0, t66.1) ⟨rfl, rfl, rfl, trivial⟩ ⟨HS, kf19, kl21, by omega, by omega, H⟩
                · replace H := ite_f c65 H
                  have hk68 : x2 = 1 := by omega
                  refine W.r (X.indexArK 1 hk68 Try.underlying54 inf26 rfl rfl c64.1 c64.2) rfl (W.ld 0 HS Try.underlying26 rfl rfl rfl rfl ?_)
                  obtain ⟨t69, A70, H⟩ := bind_s H
                  replace HS := HS.pm [2, 0, 1, 3, 4, 5, 6, 7, 8, 9, 10, 11, 12]
                  refine W.e (Y.cl Try.func23 (arq_Arq_Inds.calls A70 HS.j1)) rfl ?_
                  rintro _ w ⟨at69_0, ct69_0, rfl, HS⟩
                  replace HS := HS.o2
                  refine W.as rfl (W.nil ?_)
                  replace HS := HS.pm [2, 3, 1, 4, 5, 6, 7, 8, 9, 10, 11, 0, 12, 13]
                  replace HS := signalmanlaw15_pair.close trivial HS
                  replace HS := HS.pk [1, 2, 0, 3] []
                  exact At.meet (({ a := (x14.a.1, t69.2), way := (x14.way.1, x14.way.2), heard := (x14.heard.1, x14.heard.2), said := (x14.said.1, x14.said.2), downs := x14.downs } : signalmanlaw15_pair), at69_0, ct69_0, t69.1) ⟨rfl, rfl, rfl, trivial⟩ ⟨HS, kf19, kl21, by omega, by omega, H⟩
              · rintro ⟨x43, ra44, rc45, x46⟩ w ⟨HS, kf47, kl49, hkkf47, hkkl49, H⟩
                unfold signalmanlaw15_pair_collect.j4 at H
                refine V.seq (V.region (W.as rfl (W.nx (V.block (V.loop (σ := Int × signalmanlaw15_pair) (fun kq (st : Int × signalmanlaw15_pair) w => match st with | (x51, x52) => Sep.St [row 3 1 (.slice ra44 x46.length rc45) x46.length (x46.map (Value.int .i64)), fsl 1 (.slice ra15 x17.length rc16) x17.length (x17.map (Value.int .u8)), signalmanlaw15_pair.at b0 x52, R] w0 w ∧ signalmanlaw15_pair_collect.l5 kq x2 (signalmanlaw15_pair_collect.l0 kl49) x46 x51 x52 = some r ∧ kq ≤ kf47) (fun st => match st with | (x51, x52) => [(0, Value.pointer (some ⟨b0, 0, none⟩)), (2, Value.int .i64 x2), (5, Value.slice ra44 x46.length rc45), (6, Value.int .i64 x51)]) kf47 (0, x43) ⟨rfl, rfl, rfl, rfl, trivial⟩ ⟨HS, H, Nat.le_refl _⟩ ?_)))))
                rintro kq53 ⟨x51, x52⟩ w ⟨HS, H, hk54⟩
                cases kq53 with
                | zero => exact absurd H (by simp [signalmanlaw15_pair_collect.l5])
                | succ kq53 =>
                  simp only [signalmanlaw15_pair_collect.l5] at H
                  refine V.seq (V.seq (V.region (W.mv rfl (W.mv rfl (W.r (X.lenSl Try.underlying34 rfl) rfl (W.r (X.cmp (decide (x51 < (x46.length : Int))) rfl rfl rfl rfl) rfl (W.nx ?_)))))))
                  by_cases c55 : x51 < (x46.length : Int)
                  · replace H := ite_t c55 H
                    refine V.condT (sb (decide_eq_true c55)) (V.skip (At.next (V.seq (V.block (V.seq (V.region (W.mv rfl (W.mv rfl ?_))))))))
                    obtain ⟨c56, H⟩ := ite_n H
                    obtain ⟨eb57, eo58, hh⟩ := (rdC.at 0 row_rd HS rfl).some (by decide) c56.1 c56.2; subst hh
                    refine W.r (X.indexSl Try.underlying34 inf3 rfl rfl c56.1 c56.2) rfl (W.r (X.load Try.underlying3 rfl rfl ((rdC.at 0 row_rd HS rfl).cellI c56.1 c56.2)) rfl (W.r (X.cmp (!(decide ((x46.getD x51.toNat 0) = 1))) rfl rfl rfl rfl) rfl (W.nx ?_)))
                    by_cases c59 : (x46.getD x51.toNat 0) = 1
                    · replace H := ite_t c59 H
                      refine V.condF (sb (n_t (decide_eq_true c59))) (V.skip (At.blockEnd (At.next (V.region (W.mv rfl (W.r (X.add rfl rfl) rfl (W.as rfl (W.nil ?_))))))))
                      exact At.round kq53 (by omega) (w64 (x51 + 1), x52) ⟨rfl, rfl, rfl, rfl, trivial⟩ ⟨HS, H, by omega⟩
                    · replace H := ite_f c59 H
                      refine V.condT (sb (n_f (decide_eq_false c59))) (V.region (W.mv rfl (W.nc rfl ?_)))
                      replace HS := HS.fr 2
                      obtain ⟨b0_60, b1_60, a2_60, c2_60, d2_60, a3_60, c3_60, d3_60, a4_60, c4_60, a5_60, c5_60, a6_60, c6_60, a7_60, c7_60, hi61, HS⟩ := signalmanlaw15_pair.open HS
                      refine W.fa fo59_4 rfl (W.ld 0 HS Try.underlying3 rfl rfl rfl rfl (W.r (X.add rfl rfl) rfl (W.nc rfl (W.fa fo59_4 rfl (W.st 0 8 HS inf3 rfl rfl rfl rfl rfl rfl fun w HS => ?_)))))
                      refine W.nil (At.blockEnd (At.next (V.region (W.mv rfl (W.r (X.add rfl rfl) rfl (W.as rfl (W.nil ?_)))))))
                      replace HS := signalmanlaw15_pair.close trivial HS
                      replace HS := HS.pk [1, 2, 0, 3] []
                      exact At.round kq53 (by omega) (w64 (x51 + 1), ({ a := (x52.a.1, x52.a.2), way := (x52.way.1, x52.way.2), heard := (x52.heard.1, x52.heard.2), said := (x52.said.1, x52.said.2), downs := w64 (x52.downs + 1) } : signalmanlaw15_pair)) ⟨rfl, rfl, rfl, rfl, trivial⟩ ⟨HS, H, by omega⟩
                  · replace H := ite_f c55 H
                    refine V.condF (sb (decide_eq_false c55)) (V.exit (At.thenExit (At.thenExit (At.blockExit (At.blockEnd (At.next (V.region (W.mv rfl (W.r (X.add rfl rfl) rfl (W.as rfl (W.nil ?_)))))))))))
                    replace HS := HS.pk [2, 3] [0, 1]
                    exact At.round kl49 (by omega) (w64 (x2 + 1), x52) ⟨rfl, rfl, trivial⟩ ⟨HS, H, by omega⟩
    · replace H := ite_f c6 H
      refine V.condF (sb (decide_eq_false c6)) (V.exit (At.thenExit (At.thenExit (At.blockExit ?_))))
      cases H
      exact At.end0 rfl ⟨_, rfl, rfl, HS⟩

/-! ### (*signalman/signalmanlaw15.pair).carry: function 33 -/
mutual
def signalmanlaw15_pair_carry.j3 (k : Nat)  (x13 : signalmanlaw15_pair) : Option signalmanlaw15_pair := ((signalmanlaw15_pair_collect.f k x13).bind fun t15 => some t15)
def signalmanlaw15_pair_carry.j2 (k : Nat) (a1 : Int) (x2 : Bool) (x8 : List Int) (x11 : signalmanlaw15_pair) : Option signalmanlaw15_pair := (if x2 = true then (signalmanlaw15_pair_carry.j3 k x11) else (if 0 ≤ w64 (1 - a1) ∧ w64 (1 - a1) < 2 then (if w64 (1 - a1) = 0 then ((arq_Arq_Input.f k x11.a.1 x8).bind fun t22 => (signalmanlaw15_pair_carry.j3 k ({ a := (t22, x11.a.2), way := (x11.way.1, x11.way.2), heard := (x11.heard.1, x11.heard.2), said := (x11.said.1, x11.said.2), downs := x11.downs } : signalmanlaw15_pair))) else ((arq_Arq_Input.f k x11.a.2 x8).bind fun t25 => (signalmanlaw15_pair_carry.j3 k ({ a := (x11.a.1, t25), way := (x11.way.1, x11.way.2), heard := (x11.heard.1, x11.heard.2), said := (x11.said.1, x11.said.2), downs := x11.downs } : signalmanlaw15_pair)))) else none))
def signalmanlaw15_pair_carry.j1 (k : Nat) (a0 : signalmanlaw15_pair) (a1 : Int) (x2 : Bool) (x8 : List Int) : Option signalmanlaw15_pair := (if 0 ≤ a1 ∧ a1 < 2 then (if a1 = 0 then (if 0 ≤ (1 : Int) ∧ (1 : Int) ≤ (a0.way.1.length : Int) ∧ (a0.way.1.length : Int) ≤ (a0.way.1.length : Int) then (signalmanlaw15_pair_carry.j2 k a1 x2 x8 ({ a := (a0.a.1, a0.a.2), way := (cut a0.way.1 (1 : Int) (a0.way.1.length : Int), a0.way.2), heard := (a0.heard.1, a0.heard.2), said := (a0.said.1, a0.said.2), downs := a0.downs } : signalmanlaw15_pair)) else none) else (if 0 ≤ (1 : Int) ∧ (1 : Int) ≤ (a0.way.2.length : Int) ∧ (a0.way.2.length : Int) ≤ (a0.way.2.length : Int) then (signalmanlaw15_pair_carry.j2 k a1 x2 x8 ({ a := (a0.a.1, a0.a.2), way := (a0.way.1, cut a0.way.2 (1 : Int) (a0.way.2.length : Int)), heard := (a0.heard.1, a0.heard.2), said := (a0.said.1, a0.said.2), downs := a0.downs } : signalmanlaw15_pair)) else none)) else none)
def signalmanlaw15_pair_carry.j0 (k : Nat) (a0 : signalmanlaw15_pair) (a1 : Int) (x2 : Bool) (x3 : Bool) : Option signalmanlaw15_pair := (if x3 = true then (if 0 ≤ a1 ∧ a1 < 2 then (if a1 = 0 then (if 0 ≤ (0 : Int) ∧ (0 : Int) < (a0.way.1.length : Int) then (signalmanlaw15_pair_carry.j1 k a0 a1 x2 (a0.way.1.getD (0 : Int).toNat [])) else none) else (if 0 ≤ (0 : Int) ∧ (0 : Int) < (a0.way.2.length : Int) then (signalmanlaw15_pair_carry.j1 k a0 a1 x2 (a0.way.2.getD (0 : Int).toNat [])) else none)) else none) else some a0)
end
def signalmanlaw15_pair_carry.f (k : Nat) (a0 : signalmanlaw15_pair) (a1 : Int) (a2 : Bool) : Option signalmanlaw15_pair := (if 0 ≤ a1 ∧ a1 < 2 then (if a1 = 0 then (signalmanlaw15_pair_carry.j0 k a0 a1 a2 (decide ((a0.way.1.length : Int) > 0))) else (signalmanlaw15_pair_carry.j0 k a0 a1 a2 (decide ((a0.way.2.length : Int) > 0)))) else none)
theorem signalmanlaw15_pair_carry.calls {k : Nat} {a0 : signalmanlaw15_pair} {a1 : Int} {a2 : Bool} {R : As} {w0 w : World} {b0 : Nat} {r : signalmanlaw15_pair} (H : signalmanlaw15_pair_carry.f k a0 a1 a2 = some r) (HS : Sep.St [signalmanlaw15_pair.at b0 a0, R] w0 w)  : Calls Try.prog 33 #[Value.pointer (some ⟨b0, 0, none⟩), Value.int .i64 a1, Value.bool a2] w (Ret fun u w => u = Value.tuple #[] ∧ Sep.St [signalmanlaw15_pair.at b0 r, R] w0 w) := by
  unfold signalmanlaw15_pair_carry.f at H
  refine calls_enter Try.func33 rfl rfl ?_
  have H : _ = some r := H
  refine V.meet (σ := Bool × Bool) (fun st w => match st with | (x2, x3) => Sep.St [signalmanlaw15_pair.at b0 a0, R] w0 w ∧ ∃ kf4, kf4 ≤ k ∧ signalmanlaw15_pair_carry.j0 kf4 a0 a1 x2 x3 = some r) (fun st => match st with | (x2, x3) => [(0, Value.pointer (some ⟨b0, 0, none⟩)), (1, Value.int .i64 a1), (2, Value.bool x2), (14, Value.bool x3)]) ?_ ?_
  · refine V.region (W.mv rfl (W.mv rfl (W.nc rfl ?_)))
    obtain ⟨b0_57, b1_57, a2_57, c2_57, d2_57, a3_57, c3_57, d3_57, a4_57, c4_57, a5_57, c5_57, a6_57, c6_57, a7_57, c7_57, hi58, HS⟩ := signalmanlaw15_pair.open HS
    refine W.fa fo59_1 rfl ?_
    obtain ⟨c59, H⟩ := ite_n H
    by_cases c60 : a1 = 0
    · replace H := ite_t c60 H
      refine W.r (X.indexArK 0 c60 Try.underlying55 inf30 rfl rfl c59.1 c59.2) rfl (W.ld 0 HS Try.underlying30 rfl rfl rfl rfl (W.r (X.lenSl Try.underlying30 rfl) rfl (W.r (X.cmp (decide ((a0.way.1.length : Int) > 0)) rfl rfl rfl rfl) rfl (W.nil ?_))))
      replace HS := signalmanlaw15_pair.close trivial HS
      exact At.meet (a2, decide ((a0.way.1.length : Int) > 0)) ⟨rfl, rfl, rfl, rfl, trivial⟩ ⟨HS, k, by omega, H⟩
    · replace H := ite_f c60 H
      have hk61 : a1 = 1 := by omega
      refine W.r (X.indexArK 1 hk61 Try.underlying55 inf30 rfl rfl c59.1 c59.2) rfl (W.ld 0 HS Try.underlying30 rfl rfl rfl rfl (W.r (X.lenSl Try.underlying30 rfl) rfl (W.r (X.cmp (decide ((a0.way.2.length : Int) > 0)) rfl rfl rfl rfl) rfl (W.nil ?_))))
      replace HS := signalmanlaw15_pair.close trivial HS
      exact At.meet (a2, decide ((a0.way.2.length : Int) > 0)) ⟨rfl, rfl, rfl, rfl, trivial⟩ ⟨HS, k, by omega, H⟩
  · rintro ⟨x2, x3⟩ w ⟨HS, kf4, hkkf4, H⟩
    unfold signalmanlaw15_pair_carry.j0 at H
    by_cases c5 : x3 = true
    · replace H := ite_t c5 H
      refine V.condT (sb c5) (V.meet (σ := Option Addr × Nat × List Int) (fun st w => match st with | (ra6, rc7, x8) => Sep.St [fsl 1 (.slice ra6 x8.length rc7) x8.length (x8.map (Value.int .u8)), signalmanlaw15_pair.at b0 a0, R] w0 w ∧ ∃ kf9, kf9 ≤ kf4 ∧ signalmanlaw15_pair_carry.j1 kf9 a0 a1 x2 x8 = some r) (fun st => match st with | (ra6, rc7, x8) => [(0, Value.pointer (some ⟨b0, 0, none⟩)), (1, Value.int .i64 a1), (2, Value.bool x2), (6, Value.slice ra6 x8.length rc7)]) ?_ ?_)
      · refine V.region (W.mv rfl (W.mv rfl (W.nc rfl ?_)))
        obtain ⟨b0_34, b1_34, a2_34, c2_34, d2_34, a3_34, c3_34, d3_34, a4_34, c4_34, a5_34, c5_34, a6_34, c6_34, a7_34, c7_34, hi35, HS⟩ := signalmanlaw15_pair.open HS
        refine W.fa fo59_1 rfl ?_
        obtain ⟨c36, H⟩ := ite_n H
        by_cases c37 : a1 = 0
        · replace H := ite_t c37 H
          refine W.r (X.indexArK 0 c37 Try.underlying55 inf30 rfl rfl c36.1 c36.2) rfl (W.ld 0 HS Try.underlying30 rfl rfl rfl rfl ?_)
          obtain ⟨c38, H⟩ := ite_n H
          obtain ⟨eb39, eo40, hh⟩ := (rdC.at 3 row_rd HS rfl).some (by decide) c38.1 c38.2; subst hh
          refine W.r (X.indexSl Try.underlying30 inf39 rfl rfl c38.1 c38.2) rfl ?_
          obtain ⟨ec41, hc42, HS⟩ := St.tie_at 4 HS rfl ([]) c38.1 c38.2
          obtain ⟨ea43, em44, he46, HN⟩ := St.sl_openF (Value.int .u8) (fun t => tie_int t) HS; clear HS; subst he46; have HS := HN
          refine W.r (X.load Try.underlying39 rfl rfl ((rdC.at 4 row_rd HS rfl).cellEl0 (hc42 0 _ rfl))) rfl (W.as rfl (W.nil ?_))
          replace HS := HS.pm [1, 2, 3, 4, 5, 6, 7, 8, 9, 10, 11, 0, 12]
          replace HS := signalmanlaw15_pair.close trivial HS
          replace HS := HS.pk [1, 0, 2] []
          exact At.meet (ea43, em44, a0.way.1.getD (0 : Int).toNat []) ⟨rfl, rfl, rfl, rfl, trivial⟩ ⟨HS, kf4, by omega, H⟩
        · replace H := ite_f c37 H
          have hk47 : a1 = 1 := by omega
          refine W.r (X.indexArK 1 hk47 Try.underlying55 inf30 rfl rfl c36.1 c36.2) rfl (W.ld 0 HS Try.underlying30 rfl rfl rfl rfl ?_)
          obtain ⟨c48, H⟩ := ite_n H
          obtain ⟨eb49, eo50, hh⟩ := (rdC.at 5 row_rd HS rfl).some (by decide) c48.1 c48.2; subst hh
          refine W.r (X.indexSl Try.underlying30 inf39 rfl rfl c48.1 c48.2) rfl ?_
          obtain ⟨ec51, hc52, HS⟩ := St.tie_at 6 HS rfl ([]) c48.1 c48.2
          obtain ⟨ea53, em54, he56, HN⟩ := St.sl_openF (Value.int .u8) (fun t => tie_int t) HS; clear HS; subst he56; have HS := HN
          refine W.r (X.load Try.underlying39 rfl rfl ((rdC.at 6 row_rd HS rfl).cellEl0 (hc52 0 _ rfl))) rfl (W.as rfl (W.nil ?_))
          replace HS := HS.pm [1, 2, 3, 4, 5, 6, 7, 8, 9, 10, 11, 0, 12]
          replace HS := signalmanlaw15_pair.close trivial HS
          replace HS := HS.pk [1, 0, 2] []
          exact At.meet (ea53, em54, a0.way.2.getD (0 : Int).toNat []) ⟨rfl, rfl, rfl, rfl, trivial⟩ ⟨HS, kf4, by omega, H⟩
      · rintro ⟨ra6, rc7, x8⟩ w ⟨HS, kf9, hkkf9, H⟩
        unfold signalmanlaw15_pair_carry.j1 at H
        refine V.meet (σ := signalmanlaw15_pair) (fun st w => match st with | x11 => Sep.St [fsl 1 (.slice ra6 x8.length rc7) x8.length (x8.map (Value.int .u8)), signalmanlaw15_pair.at b0 x11, R] w0 w ∧ ∃ kf12, kf12 ≤ kf9 ∧ signalmanlaw15_pair_carry.j2 kf12 a1 x2 x8 x11 = some r) (fun st => match st with | x11 => [(0, Value.pointer (some ⟨b0, 0, none⟩)), (1, Value.int .i64 a1), (2, Value.bool x2), (6, Value.slice ra6 x8.length rc7)]) ?_ ?_
        · replace HS := HS.fr 1
          obtain ⟨b0_27, b1_27, a2_27, c2_27, d2_27, a3_27, c3_27, d3_27, a4_27, c4_27, a5_27, c5_27, a6_27, c6_27, a7_27, c7_27, hi28, HS⟩ := signalmanlaw15_pair.open HS
          obtain ⟨c29, H⟩ := ite_n H
          by_cases c30 : a1 = 0
          · replace H := ite_t c30 H
            obtain ⟨c31, H⟩ := ite_n H
            refine V.dr [12] [] [(23, Value.pointer (some ⟨b0, 0, none⟩)), (24, Value.int .i64 a1), (25, Value.pointer (some ⟨b0, 0, none⟩)), (26, Value.int .i64 a1), (27, Value.pointer (some ⟨b0, 0, none⟩)), (28, Value.pointer (some ⟨b0, 0 + 2, none⟩)), (29, Value.pointer (some ⟨b0, 0 + 2 + 0 * 1, none⟩)), (30, Value.slice a2_27 a0.way.1.length c2_27), (31, Value.slice (vaddr a2_27 c2_27 (1 : Int).toNat 1) (cut a0.way.1 (1 : Int) (a0.way.1.length : Int)).length (c2_27 - (1 : Int).toNat)), (32, Value.pointer (some ⟨b0, 0, none⟩)), (33, Value.pointer (some ⟨b0, 0 + 2, none⟩)), (34, Value.pointer (some ⟨b0, 0 + 2 + 0 * 1, none⟩))] mo HS ?_
            refine T.ev [(31, _), (34, _)] [] [0, 1, 2, 3, 4, 5, 6, 7, 8, 9, 10, 11] ⟨rfl, rfl, trivial⟩ ⟨.mv 0, .mv 1, .mv 0, .mv 1, .nc 25, .fa 27 fo59_1, .n2 26 28 rfl rfl rfl (fun w HS => X.indexArK 0 c30 Try.underlying55 inf30 rfl rfl c29.1 c29.2), .ld 29 0 Try.underlying30, .n1 30 rfl rfl (fun w HS => X.slL Try.underlying30 inf39 rfl rfl c31), .nc 23, .fa 32 fo59_1, .n2 24 33 rfl rfl rfl (fun w HS => X.indexArK 0 c30 Try.underlying55 inf30 rfl rfl c29.1 c29.2), trivial⟩ rfl (fun w HS => ?_)
            refine ⟨_, Y.sto 0 2 HS inf30 rfl rfl rfl rfl rfl rfl, ?_⟩
            rintro _ w HS
            refine T.nn HS ?_
            refine T.fn [(0, _), (1, _), (2, _), (6, _)] ⟨rfl, rfl, rfl, rfl, trivial⟩ trivial (fun w HS => ?_)
            replace HS := HS.fr 3
            replace HS := St.row_sub HS c31
            replace HS := HS.fr 4
            replace HS := St.tie_cut (1 : Int) (a0.way.1.length : Int) HS
            replace HS := HS.pm [2, 3, 4, 1, 0, 5, 6, 7, 8, 9, 10, 11, 12]
            replace HS := signalmanlaw15_pair.close trivial HS
            replace HS := HS.pk [1, 0, 2] []
            exact At.meet (({ a := (a0.a.1, a0.a.2), way := (cut a0.way.1 (1 : Int) (a0.way.1.length : Int), a0.way.2), heard := (a0.heard.1, a0.heard.2), said := (a0.said.1, a0.said.2), downs := a0.downs } : signalmanlaw15_pair)) ⟨rfl, rfl, rfl, rfl, trivial⟩ ⟨HS, kf9, by omega, H⟩
          · replace H := ite_f c30 H
            have hk32 : a1 = 1 := by omega
            obtain ⟨c33, H⟩ := ite_n H
            refine V.dr [12] [] [(23, Value.pointer (some ⟨b0, 0, none⟩)), (24, Value.int .i64 a1), (25, Value.pointer (some ⟨b0, 0, none⟩)), (26, Value.int .i64 a1), (27, Value.pointer (some ⟨b0, 0, none⟩)), (28, Value.pointer (some ⟨b0, 0 + 2, none⟩)), (29, Value.pointer (some ⟨b0, 0 + 2 + 1 * 1, none⟩)), (30, Value.slice a3_27 a0.way.2.length c3_27), (31, Value.slice (vaddr a3_27 c3_27 (1 : Int).toNat 1) (cut a0.way.2 (1 : Int) (a0.way.2.length : Int)).length (c3_27 - (1 : Int).toNat)), (32, Value.pointer (some ⟨b0, 0, none⟩)), (33, Value.pointer (some ⟨b0, 0 + 2, none⟩)), (34, Value.pointer (some ⟨b0, 0 + 2 + 1 * 1, none⟩))] mo HS ?_
            refine T.ev [(31, _), (34, _)] [] [0, 1, 2, 3, 4, 5, 6, 7, 8, 9, 10, 11] ⟨rfl, rfl, trivial⟩ ⟨.mv 0, .mv 1, .mv 0, .mv 1, .nc 25, .fa 27 fo59_1, .n2 26 28 rfl rfl rfl (fun w HS => X.indexArK 1 hk32 Try.underlying55 inf30 rfl rfl c29.1 c29.2), .ld 29 0 Try.underlying30, .n1 30 rfl rfl (fun w HS => X.slL Try.underlying30 inf39 rfl rfl c33), .nc 23, .fa 32 fo59_1, .n2 24 33 rfl rfl rfl (fun w HS => X.indexArK 1 hk32 Try.underlying55 inf30 rfl rfl c29.1 c29.2), trivial⟩ rfl (fun w HS => ?_)
            refine ⟨_, Y.sto 0 3 HS inf30 rfl rfl rfl rfl rfl rfl, ?_⟩
            rintro _ w HS
            refine T.nn HS ?_
            refine T.fn [(0, _), (1, _), (2, _), (6, _)] ⟨rfl, rfl, rfl, rfl, trivial⟩ trivial (fun w HS => ?_)
            replace HS := HS.fr 5
            replace HS := St.row_sub HS c33
            replace HS := HS.fr 6
            replace HS := St.tie_cut (1 : Int) (a0.way.2.length : Int) HS
            replace HS := HS.pm [2, 3, 4, 5, 6, 1, 0, 7, 8, 9, 10, 11, 12]
            replace HS := signalmanlaw15_pair.close trivial HS
            replace HS := HS.pk [1, 0, 2] []
            exact At.meet (({ a := (a0.a.1, a0.a.2), way := (a0.way.1, cut a0.way.2 (1 : Int) (a0.way.2.length : Int)), heard := (a0.heard.1, a0.heard.2), said := (a0.said.1, a0.said.2), downs := a0.downs } : signalmanlaw15_pair)) ⟨rfl, rfl, rfl, rfl, trivial⟩ ⟨HS, kf9, by omega, H⟩
        · rintro x11 w ⟨HS, kf12, hkkf12, H⟩
          unfold signalmanlaw15_pair_carry.j2 at H
          refine V.meet (σ := signalmanlaw15_pair) (fun st w => match st with | x13 => Sep.St [fsl 1 (.slice ra6 x8.length rc7) x8.length (x8.map (Value.int .u8)), signalmanlaw15_pair.at b0 x13, R] w0 w ∧ ∃ kf14, kf14 ≤ kf12 ∧ signalmanlaw15_pair_carry.j3 kf14 x13 = some r) (fun st => match st with | x13 => [(0, Value.pointer (some ⟨b0, 0, none⟩))]) ?_ ?_
          · refine V.seq (V.region (W.mv rfl (W.r (X.not rfl) rfl (W.nx ?_))))
            by_cases c17 : x2 = true
            · replace H := ite_t c17 H
              refine V.condF (sb (n_t c17)) (V.skip ?_)
              exact At.meet x11 ⟨rfl, trivial⟩ ⟨HS, kf12, by omega, H⟩
            · replace H := ite_f c17 H
              refine V.condT (sb (n_f (b_f c17))) (V.region (W.mv rfl (W.mv rfl (W.r (X.sub rfl rfl) rfl (W.nc rfl ?_)))))
              replace HS := HS.fr 1
              obtain ⟨b0_18, b1_18, a2_18, c2_18, d2_18, a3_18, c3_18, d3_18, a4_18, c4_18, a5_18, c5_18, a6_18, c6_18, a7_18, c7_18, hi19, HS⟩ := signalmanlaw15_pair.open HS
              refine W.fa fo59_0 rfl ?_
              obtain ⟨c20, H⟩ := ite_n H
              by_cases c21 : w64 (1 - a1) = 0
              · replace H := ite_t c21 H
                refine W.r (X.indexArK 0 c21 Try.underlying54 inf26 rfl rfl c20.1 c20.2) rfl (W.ld 0 HS Try.underlying26 rfl rfl rfl rfl (W.mv rfl ?_))
                obtain ⟨t22, A23, H⟩ := bind_s H
                replace HS := HS.pm [1, 0, 2, 3, 4, 5, 6, 7, 8, 9, 10, 11, 12]
                refine W.e (Y.cl Try.func24 (arq_Arq_Input.calls A23 HS.j1 (rdC.part 10 fsl.rd rfl))) rfl ?_
                rintro _ w ⟨rfl, HS⟩
                replace HS := HS.o1
                refine W.nil ?_
                replace HS := HS.pm [1, 0, 2, 3, 4, 5, 6, 7, 8, 9, 10, 11, 12]
                replace HS := signalmanlaw15_pair.close trivial HS
                replace HS := HS.pk [1, 0, 2] []
                exact At.meet (({ a := (t22, x11.a.2), way := (x11.way.1, x11.way.2), heard := (x11.heard.1, x11.heard.2), said := (x11.said.1, x11.said.2), downs := x11.downs } : signalmanlaw15_pair)) ⟨rfl, trivial⟩ ⟨HS, kf12, by omega, H⟩
              · replace H := ite_f c21 H
                have hk24 : w64 (1 - a1) = 1 := by omega
                refine W.r (X.indexArK 1 hk24 Try.underlying54 inf26 rfl rfl c20.1 c20.2) rfl (W.ld 0 HS Try.underlying26 rfl rfl rfl rfl (W.mv rfl ?_))
                obtain ⟨t25, A26, H⟩ := bind_s H
                replace HS := HS.pm [2, 0, 1, 3, 4, 5, 6, 7, 8, 9, 10, 11, 12]
                refine W.e (Y.cl Try.func24 (arq_Arq_Input.calls A26 HS.j1 (rdC.part 10 fsl.rd rfl))) rfl ?_
                rintro _ w ⟨rfl, HS⟩
                replace HS := HS.o1
                refine W.nil ?_
                replace HS := HS.pm [1, 2, 0, 3, 4, 5, 6, 7, 8, 9, 10, 11, 12]
                replace HS := signalmanlaw15_pair.close trivial HS
                replace HS := HS.pk [1, 0, 2] []
                exact At.meet (({ a := (x11.a.1, t25), way := (x11.way.1, x11.way.2), heard := (x11.heard.1, x11.heard.2), said := (x11.said.1, x11.said.2), downs := x11.downs } : signalmanlaw15_pair)) ⟨rfl, trivial⟩ ⟨HS, kf12, by omega, H⟩
          · rintro x13 w ⟨HS, kf14, hkkf14, H⟩
            unfold signalmanlaw15_pair_carry.j3 at H
            refine V.region (W.mv rfl ?_)
            obtain ⟨t15, A16, H⟩ := bind_s H
            replace HS := HS.pm [1, 0, 2]
            refine W.e (Y.cl Try.func32 (signalmanlaw15_pair_collect.calls A16 HS.j1)) rfl ?_
            rintro _ w ⟨rfl, HS⟩
            replace HS := HS.o1
            refine W.nil ?_
            replace HS := HS.pk [0, 2] [1]
            cases H
            exact At.end0 rfl ⟨_, rfl, rfl, HS⟩
    · replace H := ite_f c5 H
      refine V.condF (sb (b_f c5)) (V.skip ?_)
      cases H
      exact At.end0 rfl ⟨_, rfl, rfl, HS⟩

/-! ### signalman/signalmanlaw15.up: function 36 -/
mutual
def signalmanlaw15_up.l0 : Nat → Int → signalmanlaw15_pair → Option signalmanlaw15_pair
  | 0, _, _ => none
  | k + 1, x15, x16 => (if x15 < 4 then ((signalmanlaw15_pair_carry.f k x16 (iand .i64 x15 (1)) false).bind fun t20 => (signalmanlaw15_up.l0 k (w64 (x15 + 1)) t20)) else some x16)
end
def signalmanlaw15_up.f (k : Nat) (a0 : api_Config) : Option signalmanlaw15_pair := ((arq_New.f a0).bind fun t5 => ((arq_New.f a0).bind fun t8 => ((arq_Arq_Connect.f k t5).bind fun t11 => ((signalmanlaw15_pair_collect.f k ({ a := (t11.2, t8), way := (([] : List (List Int)), ([] : List (List Int))), heard := (([] : List (List Int)), ([] : List (List Int))), said := (([] : List (List Int)), ([] : List (List Int))), downs := 0 } : signalmanlaw15_pair)).bind fun t13 => (signalmanlaw15_up.l0 k 0 t13)))))
theorem signalmanlaw15_up.calls {k : Nat} {a0 : api_Config} {R : As} {w0 w : World}  {r : signalmanlaw15_pair} (H : signalmanlaw15_up.f k a0 = some r) (HS : Sep.St [R] w0 w)  : Calls Try.prog 36 #[Value.agg #[Value.int .i64 a0.Mode, Value.int .i64 a0.Modulus, Value.int .i64 a0.Window, Value.int .i64 a0.T1, Value.int .i64 a0.N2, Value.int .i64 a0.Hold, Value.int .i64 a0.Wait, Value.int .i64 a0.Keep, Value.int .i64 a0.Queue, Value.int .i64 a0.Size, Value.int .i64 a0.Ring, Value.int .i64 a0.Rate, Value.int .i64 a0.Bad, Value.int .i64 a0.Good, Value.bool a0.Revert, Value.bool a0.Wide]] w (Ret fun u w => ∃ (bq0 : Nat), u = Value.pointer (some ⟨bq0, 0, none⟩) ∧ Sep.St [signalmanlaw15_pair.at bq0 r, R] w0 w) := by
  unfold signalmanlaw15_up.f at H
  refine calls_enter Try.func36 rfl rfl ?_
  have H : _ = some r := H
  refine V.seq (V.region (W.e (Y.box HS rfl) rfl ?_))
  rintro _ w ⟨nb1, rfl, HS⟩
  refine W.as rfl (W.nx (V.seq (V.region (W.r (X.bd (Value.agg #[Value.pointer none, Value.pointer none, Value.slice none 0 0, Value.slice none 0 0, Value.slice none 0 0, Value.slice none 0 0, Value.slice none 0 0, Value.slice none 0 0, Value.int .i64 (0)]) rfl (fun _ => by kernel_rfl)) rfl (W.e (Y.box HS rfl) rfl ?_)))))
  rintro _ w ⟨nb2, rfl, HS⟩
  refine W.as rfl (W.nx (V.seq (V.dr [2, 6] [5] [(7, Value.pointer (some ⟨nb2, 0, none⟩)), (8, Value.agg #[Value.int .i64 a0.Mode, Value.int .i64 a0.Modulus, Value.int .i64 a0.Window, Value.int .i64 a0.T1, Value.int .i64 a0.N2, Value.int .i64 a0.Hold, Value.int .i64 a0.Wait, Value.int .i64 a0.Keep, Value.int .i64 a0.Queue, Value.int .i64 a0.Size, Value.int .i64 a0.Ring, Value.int .i64 a0.Rate, Value.int .i64 a0.Bad, Value.int .i64 a0.Good, Value.bool a0.Revert, Value.bool a0.Wide]), (10, Value.pointer (some ⟨nb2, 0, none⟩)), (11, Value.pointer (some ⟨nb2, 0 + 0, none⟩))] mo HS ?_)))
  refine T.ev [(8, _)] [] [1] ⟨rfl, trivial⟩ ⟨.mv 3, .n1 1 rfl rfl (fun w HS => X.loadSt 1 [Value.int .i64 a0.Mode, Value.int .i64 a0.Modulus, Value.int .i64 a0.Window, Value.int .i64 a0.T1, Value.int .i64 a0.N2, Value.int .i64 a0.Hold, Value.int .i64 a0.Wait, Value.int .i64 a0.Keep, Value.int .i64 a0.Queue, Value.int .i64 a0.Size, Value.int .i64 a0.Ring, Value.int .i64 a0.Rate, Value.int .i64 a0.Bad, Value.int .i64 a0.Good, Value.bool a0.Revert, Value.bool a0.Wide] HS rfl Try.underlying24 rfl inf24 rfl rfl), .nc 7, .fa 10 fo59_0, trivial⟩ rfl (fun w HS => ?_)
  obtain ⟨t5, A6, H⟩ := bind_s H
  refine ⟨_, Y.cl Try.func17 (arq_New.calls A6 HS.j0), ?_⟩
  rintro _ w ⟨bt5_0, rfl, HS⟩
  replace HS := HS.o1
  refine T.nm [(9, Value.pointer (some ⟨bt5_0, 0, none⟩)), (12, Value.pointer (some ⟨nb2, 0 + 0 + 0 * 1, none⟩))] HS ⟨.inl ⟨rfl, rfl⟩, ⟨.inr ⟨by decide, rfl⟩, trivial⟩⟩ ?_
  refine T.ev [(9, _), (12, _)] [] [0, 3, 4, 5] ⟨rfl, rfl, trivial⟩ ⟨.mv 3, .nc 7, .fa 10 fo59_0, .n1 11 rfl rfl (fun w HS => X.indexArK 0 rfl Try.underlying54 inf26 rfl rfl (by decide) (by decide)), trivial⟩ rfl (fun w HS => ?_)
  refine ⟨_, Y.sto 1 0 HS inf26 rfl rfl rfl rfl rfl rfl, ?_⟩
  rintro _ w HS
  refine T.nn HS ?_
  refine T.fn [(1, _), (3, _)] ⟨rfl, rfl, trivial⟩ trivial (fun w HS => ?_)
  refine At.next (V.seq (V.dr [2, 6] [5] [(13, Value.pointer (some ⟨nb2, 0, none⟩)), (14, Value.agg #[Value.int .i64 a0.Mode, Value.int .i64 a0.Modulus, Value.int .i64 a0.Window, Value.int .i64 a0.T1, Value.int .i64 a0.N2, Value.int .i64 a0.Hold, Value.int .i64 a0.Wait, Value.int .i64 a0.Keep, Value.int .i64 a0.Queue, Value.int .i64 a0.Size, Value.int .i64 a0.Ring, Value.int .i64 a0.Rate, Value.int .i64 a0.Bad, Value.int .i64 a0.Good, Value.bool a0.Revert, Value.bool a0.Wide]), (16, Value.pointer (some ⟨nb2, 0, none⟩)), (17, Value.pointer (some ⟨nb2, 0 + 0, none⟩))] mo HS ?_))
  refine T.ev [(14, _)] [] [1] ⟨rfl, trivial⟩ ⟨.mv 3, .n1 1 rfl rfl (fun w HS => X.loadSt 2 [Value.int .i64 a0.Mode, Value.int .i64 a0.Modulus, Value.int .i64 a0.Window, Value.int .i64 a0.T1, Value.int .i64 a0.N2, Value.int .i64 a0.Hold, Value.int .i64 a0.Wait, Value.int .i64 a0.Keep, Value.int .i64 a0.Queue, Value.int .i64 a0.Size, Value.int .i64 a0.Ring, Value.int .i64 a0.Rate, Value.int .i64 a0.Bad, Value.int .i64 a0.Good, Value.bool a0.Revert, Value.bool a0.Wide] HS rfl Try.underlying24 rfl inf24 rfl rfl), .nc 13, .fa 16 fo59_0, trivial⟩ rfl (fun w HS => ?_)
  obtain ⟨t8, A9, H⟩ := bind_s H
  refine ⟨_, Y.cl Try.func17 (arq_New.calls A9 HS.j0), ?_⟩
  rintro _ w ⟨bt8_0, rfl, HS⟩
  replace HS := HS.o1
  refine T.nm [(15, Value.pointer (some ⟨bt8_0, 0, none⟩)), (18, Value.pointer (some ⟨nb2, 0 + 0 + 1 * 1, none⟩))] HS ⟨.inl ⟨rfl, rfl⟩, ⟨.inr ⟨by decide, rfl⟩, trivial⟩⟩ ?_
  refine T.ev [(15, _), (18, _)] [] [0, 3, 4, 5] ⟨rfl, rfl, trivial⟩ ⟨.mv 3, .nc 13, .fa 16 fo59_0, .n1 17 rfl rfl (fun w HS => X.indexArK 1 rfl Try.underlying54 inf26 rfl rfl (by decide) (by decide)), trivial⟩ rfl (fun w HS => ?_)
  refine ⟨_, Y.sto 2 1 HS inf26 rfl rfl rfl rfl rfl rfl, ?_⟩
  rintro _ w HS
  refine T.nn HS ?_
  refine T.fn [(3, _)] ⟨rfl, trivial⟩ trivial (fun w HS => ?_)
  refine At.next (V.seq (V.region (W.mv rfl (W.nc rfl (W.fa fo59_0 rfl (W.r (X.indexArK 0 rfl Try.underlying54 inf26 rfl rfl (by decide) (by decide)) rfl (W.ld 2 HS Try.underlying26 rfl rfl rfl rfl ?_)))))))
  obtain ⟨t11, A12, H⟩ := bind_s H
  replace HS := HS.pm [1, 0, 2, 3, 4]
  refine W.e (Y.cl Try.func18 (arq_Arq_Connect.calls A12 HS.j1)) rfl ?_
  rintro _ w ⟨rfl, HS⟩
  replace HS := HS.o1
  refine W.nx (V.seq (V.region (W.mv rfl ?_)))
  replace HS := row_nilE (El.sl (El.int .u8)) 39 1 HS
  replace HS := row_nilE (El.sl (El.int .u8)) 39 1 HS
  replace HS := row_nilF (fun x => Value.string (strOf x)) 9 1 HS
  replace HS := row_nilF (fun x => Value.string (strOf x)) 9 1 HS
  replace HS := row_nilF (fun x => Value.string (strOf x)) 9 1 HS
  replace HS := row_nilF (fun x => Value.string (strOf x)) 9 1 HS
  replace HS := HS.pm [10, 8, 9, 6, 7, 4, 5, 3, 2, 1, 0, 11, 12]
  replace HS := signalmanlaw15_pair.close (l2 := ([] : List (List Int))) (l3 := ([] : List (List Int))) (l4 := ([] : List (List Int))) (l5 := ([] : List (List Int))) (l6 := ([] : List (List Int))) (l7 := ([] : List (List Int))) trivial HS
  obtain ⟨t13, A14, H⟩ := bind_s H
  refine W.e (Y.cl Try.func32 (signalmanlaw15_pair_collect.calls A14 HS.j1)) rfl ?_
  rintro _ w ⟨rfl, HS⟩
  replace HS := HS.o1
  refine W.nx (V.seq (V.seq (V.region (W.as rfl (W.nx (V.block ?_))))))
  replace HS := HS.pm [1, 0, 2]
  replace HS := api_Config.close trivial HS
  refine V.loop (σ := Int × signalmanlaw15_pair) (fun kq (st : Int × signalmanlaw15_pair) w => match st with | (x15, x16) => Sep.St [api_Config.at nb1 a0, signalmanlaw15_pair.at nb2 x16, R] w0 w ∧ signalmanlaw15_up.l0 kq x15 x16 = some r ∧ kq ≤ k) (fun st => match st with | (x15, x16) => [(3, Value.pointer (some ⟨nb2, 0, none⟩)), (4, Value.int .i64 x15)]) k (0, t13) ⟨rfl, rfl, trivial⟩ ⟨HS, H, Nat.le_refl _⟩ ?_
  rintro kq17 ⟨x15, x16⟩ w ⟨HS, H, hk18⟩
  cases kq17 with
  | zero => exact absurd H (by simp [signalmanlaw15_up.l0])
  | succ kq17 =>
    simp only [signalmanlaw15_up.l0] at H
    refine V.seq (V.seq (V.region (W.mv rfl (W.r (X.cmp (decide (x15 < 4)) rfl rfl rfl rfl) rfl (W.nx ?_)))))
    by_cases c19 : x15 < 4
    · replace H := ite_t c19 H
      refine V.condT (sb (decide_eq_true c19)) (V.skip (At.next (V.seq (V.block (V.region (W.mv rfl (W.mv rfl (W.r (X.and rfl rfl) rfl ?_))))))))
      obtain ⟨t20, A21, H⟩ := bind_s H
      replace HS := HS.pm [1, 0, 2]
      refine W.e (Y.cl Try.func33 (signalmanlaw15_pair_carry.calls A21 HS.j1)) rfl ?_
      rintro _ w ⟨rfl, HS⟩
      replace HS := HS.o1
      refine W.nil (At.blockEnd (At.next (V.region (W.mv rfl (W.r (X.add rfl rfl) rfl (W.as rfl (W.nil ?_)))))))
      replace HS := HS.pk [1, 0, 2] []
      exact At.round kq17 (by omega) (w64 (x15 + 1), t20) ⟨rfl, rfl, trivial⟩ ⟨HS, H, by omega⟩
    · replace H := ite_f c19 H
      refine V.condF (sb (decide_eq_false c19)) (V.exit (At.thenExit (At.thenExit (At.blockExit (At.next (V.seq (V.region (W.mv rfl (W.as rfl (W.nx (V.ret ?_)))))))))))
      replace HS := HS.pk [1, 2] [0]
      cases H
      exact At.ret1 rfl rfl ⟨_, rfl, nb2, rfl, HS⟩

/-! ### signalman/signalmanref6.RightCtl: function 59 -/
mutual
def signalmanref6_RightCtl.j3 (a0 : api_Ctl) (x5 : Bool) (x14 : Bool) : Option Bool := (if x14 = true then (if a0.Ns = 0 then some x5 else some false) else (if a0.Kind ≥ 3 then (if a0.Kind ≤ 7 then (if a0.Ns = 0 then some (decide (a0.Nr = 0)) else some false) else some false) else some false))
def signalmanref6_RightCtl.j2 (a0 : api_Ctl) (x3 : Bool) (x5 : Bool) (x7 : Bool) : Option Bool := (if x7 = true then some false else (if a0.Kind = 0 then (if x3 = true then some x5 else some false) else (if a0.Kind = 1 then (signalmanref6_RightCtl.j3 a0 x5 true) else (signalmanref6_RightCtl.j3 a0 x5 (decide (a0.Kind = 2))))))
def signalmanref6_RightCtl.j1 (a0 : api_Ctl) (a1 : Int) (x3 : Bool) (x5 : Bool) : Option Bool := (if a1 = 128 then (signalmanref6_RightCtl.j2 a0 x3 x5 false) else (signalmanref6_RightCtl.j2 a0 x3 x5 (!(decide (a1 = 32768)))))
def signalmanref6_RightCtl.j0 (a0 : api_Ctl) (a1 : Int) (x3 : Bool) : Option Bool := (if a0.Nr ≥ 0 then (signalmanref6_RightCtl.j1 a0 a1 x3 (decide (a0.Nr < a1))) else (signalmanref6_RightCtl.j1 a0 a1 x3 false))
end
def signalmanref6_RightCtl.f (a0 : api_Ctl) (a1 : Int) : Option Bool := (if a0.Ns ≥ 0 then (signalmanref6_RightCtl.j0 a0 a1 (decide (a0.Ns < a1))) else (signalmanref6_RightCtl.j0 a0 a1 false))
theorem signalmanref6_RightCtl.calls {a0 : api_Ctl} {a1 : Int} {R : As} {w0 w : World}  {r : Bool} (H : signalmanref6_RightCtl.f a0 a1 = some r) (HS : Sep.St [R] w0 w)  : Calls Try.prog 59 #[Value.agg #[Value.int .i64 a0.Kind, Value.int .i64 a0.Ns, Value.int .i64 a0.Nr, Value.bool a0.Poll], Value.int .i64 a1] w (Ret fun u w => u = Value.bool r ∧ Sep.St [R] w0 w) := by
  unfold signalmanref6_RightCtl.f at H
  refine calls_enter Try.func59 rfl rfl ?_
  have H : _ = some r := H
  refine V.seq (V.region (W.e (Y.box HS rfl) rfl ?_))
  rintro _ w ⟨nb1, rfl, HS⟩
  refine W.as rfl (W.nx (V.meet (σ := Bool) (fun st w => match st with | x3 => Sep.St [api_Ctl.at nb1 a0, R] w0 w ∧ signalmanref6_RightCtl.j0 a0 a1 x3 = some r) (fun st => match st with | x3 => [(1, Value.int .i64 a1), (2, Value.pointer (some ⟨nb1, 0, none⟩)), (5, Value.bool x3)]) ?_ ?_))
  · refine V.region (W.fa fo42_1 rfl (W.ld 0 HS Try.underlying3 rfl rfl rfl rfl (W.r (X.cmp (decide (a0.Ns ≥ 0)) rfl rfl rfl rfl) rfl (W.mv rfl ?_))))
    by_cases c30 : a0.Ns ≥ 0
    · replace H := ite_t c30 H
      refine W.want 10 rfl (sb (decide_eq_true c30)) (W.fa fo42_1 rfl (W.want 10 rfl (sb (decide_eq_true c30)) (W.ld 0 HS Try.underlying3 rfl rfl rfl rfl (W.want 10 rfl (sb (decide_eq_true c30)) (W.mv rfl (W.want 10 rfl (sb (decide_eq_true c30)) (W.r (X.cmp (decide (a0.Ns < a1)) rfl rfl rfl rfl) rfl (W.r (X.pickT (sb (decide_eq_true c30)) rfl) rfl (W.as rfl (W.nil ?_))))))))))
      replace HS := api_Ctl.close trivial HS
      exact At.meet (decide (a0.Ns < a1)) ⟨rfl, rfl, rfl, trivial⟩ ⟨HS, H⟩
    · replace H := ite_f c30 H
      refine W.pass 10 rfl (sb (decide_eq_false c30)) rfl rfl (W.pass 10 rfl (sb (decide_eq_false c30)) rfl rfl (W.pass 10 rfl (sb (decide_eq_false c30)) rfl rfl (W.pass 10 rfl (sb (decide_eq_false c30)) rfl rfl (W.r (X.pickF (sb (decide_eq_false c30)) rfl) rfl (W.as rfl (W.nil ?_))))))
      replace HS := api_Ctl.close trivial HS
      exact At.meet false ⟨rfl, rfl, rfl, trivial⟩ ⟨HS, H⟩
  · rintro x3 w ⟨HS, H⟩
    unfold signalmanref6_RightCtl.j0 at H
    refine V.meet (σ := Bool) (fun st w => match st with | x5 => Sep.St [api_Ctl.at nb1 a0, R] w0 w ∧ signalmanref6_RightCtl.j1 a0 a1 x3 x5 = some r) (fun st => match st with | x5 => [(1, Value.int .i64 a1), (2, Value.pointer (some ⟨nb1, 0, none⟩)), (5, Value.bool x3), (6, Value.bool x5)]) ?_ ?_
    · refine V.region ?_
      obtain ⟨hi28, HS⟩ := api_Ctl.open HS
      refine W.fa fo42_2 rfl (W.ld 0 HS Try.underlying3 rfl rfl rfl rfl (W.r (X.cmp (decide (a0.Nr ≥ 0)) rfl rfl rfl rfl) rfl (W.mv rfl ?_)))
      by_cases c29 : a0.Nr ≥ 0
      · replace H := ite_t c29 H
        refine W.want 19 rfl (sb (decide_eq_true c29)) (W.fa fo42_2 rfl (W.want 19 rfl (sb (decide_eq_true c29)) (W.ld 0 HS Try.underlying3 rfl rfl rfl rfl (W.want 19 rfl (sb (decide_eq_true c29)) (W.mv rfl (W.want 19 rfl (sb (decide_eq_true c29)) (W.r (X.cmp (decide (a0.Nr < a1)) rfl rfl rfl rfl) rfl (W.r (X.pickT (sb (decide_eq_true c29)) rfl) rfl (W.as rfl (W.nil ?_))))))))))
        replace HS := api_Ctl.close trivial HS
        exact At.meet (decide (a0.Nr < a1)) ⟨rfl, rfl, rfl, rfl, trivial⟩ ⟨HS, H⟩
      · replace H := ite_f c29 H
        refine W.pass 19 rfl (sb (decide_eq_false c29)) rfl rfl (W.pass 19 rfl (sb (decide_eq_false c29)) rfl rfl (W.pass 19 rfl (sb (decide_eq_false c29)) rfl rfl (W.pass 19 rfl (sb (decide_eq_false c29)) rfl rfl (W.r (X.pickF (sb (decide_eq_false c29)) rfl) rfl (W.as rfl (W.nil ?_))))))
        replace HS := api_Ctl.close trivial HS
        exact At.meet false ⟨rfl, rfl, rfl, rfl, trivial⟩ ⟨HS, H⟩
    · rintro x5 w ⟨HS, H⟩
      unfold signalmanref6_RightCtl.j1 at H
      refine V.seq (V.meet (σ := Bool) (fun st w => match st with | x7 => Sep.St [api_Ctl.at nb1 a0, R] w0 w ∧ signalmanref6_RightCtl.j2 a0 x3 x5 x7 = some r) (fun st => match st with | x7 => [(2, Value.pointer (some ⟨nb1, 0, none⟩)), (5, Value.bool x3), (6, Value.bool x5), (30, Value.bool x7)]) ?_ ?_)
      · refine V.region (W.mv rfl (W.r (X.cmp (!(decide (a1 = 128))) rfl rfl rfl rfl) rfl (W.mv rfl ?_)))
        by_cases c26 : a1 = 128
        · replace H := ite_t c26 H
          refine W.pass 27 rfl (sb (n_t (decide_eq_true c26))) rfl rfl (W.pass 27 rfl (sb (n_t (decide_eq_true c26))) rfl rfl (W.r (X.pickF (sb (n_t (decide_eq_true c26))) rfl) rfl (W.nil ?_)))
          exact At.meet false ⟨rfl, rfl, rfl, rfl, trivial⟩ ⟨HS, H⟩
        · replace H := ite_f c26 H
          refine W.want 27 rfl (sb (n_f (decide_eq_false c26))) (W.mv rfl (W.want 27 rfl (sb (n_f (decide_eq_false c26))) (W.r (X.cmp (!(decide (a1 = 32768))) rfl rfl rfl rfl) rfl (W.r (X.pickT (sb (n_f (decide_eq_false c26))) rfl) rfl (W.nil ?_)))))
          exact At.meet (!(decide (a1 = 32768))) ⟨rfl, rfl, rfl, rfl, trivial⟩ ⟨HS, H⟩
      · rintro x7 w ⟨HS, H⟩
        unfold signalmanref6_RightCtl.j2 at H
        by_cases c9 : x7 = true
        · replace H := ite_t c9 H
          refine V.condT (sb c9) (V.seq (V.region (W.as rfl (W.nx (V.ret (At.thenRet ?_))))))
          replace HS := HS.pk [1] [0]
          cases H
          exact At.ret1 rfl rfl ⟨_, rfl, rfl, HS⟩
        · replace H := ite_f c9 H
          refine V.condF (sb (b_f c9)) (V.skip (At.next (V.seq (V.block (V.seq (V.region ?_))))))
          obtain ⟨hi11, HS⟩ := api_Ctl.open HS
          refine W.fa fo42_0 rfl (W.ld 0 HS Try.underlying3 rfl rfl rfl rfl (W.r (X.cmp (decide (a0.Kind = 0)) rfl rfl rfl rfl) rfl (W.as rfl (W.nx ?_))))
          by_cases c12 : a0.Kind = 0
          · replace H := ite_t c12 H
            refine V.condT (sb (decide_eq_true c12)) (V.seq (V.region (W.mv rfl (W.mv rfl ?_))))
            by_cases c13 : x3 = true
            · replace H := ite_t c13 H
              refine W.want 36 rfl (sb c13) (W.mv rfl (W.r (X.pickT (sb c13) rfl) rfl (W.as rfl (W.nx (V.ret (At.blockRet (At.thenRet ?_)))))))
              replace HS := HS.pk [1] [0]
              cases H
              exact At.ret1 rfl rfl ⟨_, rfl, rfl, HS⟩
            · replace H := ite_f c13 H
              refine W.pass 36 rfl (sb (b_f c13)) rfl rfl (W.r (X.pickF (sb (b_f c13)) rfl) rfl (W.as rfl (W.nx (V.ret (At.blockRet (At.thenRet ?_))))))
              replace HS := HS.pk [1] [0]
              cases H
              exact At.ret1 rfl rfl ⟨_, rfl, rfl, HS⟩
          · replace H := ite_f c12 H
            refine V.condF (sb (decide_eq_false c12)) (V.meet (σ := Bool) (fun st w => match st with | x14 => Sep.St [api_Ctl.at nb1 a0, R] w0 w ∧ signalmanref6_RightCtl.j3 a0 x5 x14 = some r) (fun st => match st with | x14 => [(2, Value.pointer (some ⟨nb1, 0, none⟩)), (6, Value.bool x5), (39, Value.bool x14)]) ?_ ?_)
            · refine V.region (W.fa fo42_0 rfl (W.ld 0 HS Try.underlying3 rfl rfl rfl rfl (W.r (X.cmp (decide (a0.Kind = 1)) rfl rfl rfl rfl) rfl (W.mv rfl ?_))))
              by_cases c25 : a0.Kind = 1
              · replace H := ite_t c25 H
                refine W.pass 43 rfl (sb (decide_eq_true c25)) rfl rfl (W.pass 43 rfl (sb (decide_eq_true c25)) rfl rfl (W.pass 43 rfl (sb (decide_eq_true c25)) rfl rfl (W.r (X.pickT (sb (decide_eq_true c25)) rfl) rfl (W.as rfl (W.nil ?_)))))
                replace HS := api_Ctl.close trivial HS
                exact At.meet true ⟨rfl, rfl, rfl, trivial⟩ ⟨HS, H⟩
              · replace H := ite_f c25 H
                refine W.want 43 rfl (sb (decide_eq_false c25)) (W.fa fo42_0 rfl (W.want 43 rfl (sb (decide_eq_false c25)) (W.ld 0 HS Try.underlying3 rfl rfl rfl rfl (W.want 43 rfl (sb (decide_eq_false c25)) (W.r (X.cmp (decide (a0.Kind = 2)) rfl rfl rfl rfl) rfl (W.r (X.pickF (sb (decide_eq_false c25)) rfl) rfl (W.as rfl (W.nil ?_))))))))
                replace HS := api_Ctl.close trivial HS
                exact At.meet (decide (a0.Kind = 2)) ⟨rfl, rfl, rfl, trivial⟩ ⟨HS, H⟩
            · rintro x14 w ⟨HS, H⟩
              unfold signalmanref6_RightCtl.j3 at H
              by_cases c16 : x14 = true
              · replace H := ite_t c16 H
                refine V.condT (sb c16) (V.seq (V.region ?_))
                obtain ⟨hi18, HS⟩ := api_Ctl.open HS
                refine W.fa fo42_1 rfl (W.ld 0 HS Try.underlying3 rfl rfl rfl rfl (W.r (X.cmp (decide (a0.Ns = 0)) rfl rfl rfl rfl) rfl (W.mv rfl ?_)))
                by_cases c19 : a0.Ns = 0
                · replace H := ite_t c19 H
                  refine W.want 51 rfl (sb (decide_eq_true c19)) (W.mv rfl (W.r (X.pickT (sb (decide_eq_true c19)) rfl) rfl (W.as rfl (W.nx (V.ret (At.blockRet (At.thenRet ?_)))))))
                  replace HS := HS.pk [1] [0]
                  cases H
                  exact At.ret1 rfl rfl ⟨_, rfl, rfl, HS⟩
                · replace H := ite_f c19 H
                  refine W.pass 51 rfl (sb (decide_eq_false c19)) rfl rfl (W.r (X.pickF (sb (decide_eq_false c19)) rfl) rfl (W.as rfl (W.nx (V.ret (At.blockRet (At.thenRet ?_))))))
                  replace HS := HS.pk [1] [0]
                  cases H
                  exact At.ret1 rfl rfl ⟨_, rfl, rfl, HS⟩
              · replace H := ite_f c16 H
                refine V.condF (sb (b_f c16)) (V.skip (At.blockEnd (At.next (V.seq (V.region ?_)))))
                obtain ⟨hi21, HS⟩ := api_Ctl.open HS
                refine W.fa fo42_0 rfl (W.ld 0 HS Try.underlying3 rfl rfl rfl rfl (W.r (X.cmp (decide (a0.Kind ≥ 3)) rfl rfl rfl rfl) rfl (W.mv rfl ?_)))
                by_cases c22 : a0.Kind ≥ 3
                · replace H := ite_t c22 H
                  refine W.want 57 rfl (sb (decide_eq_true c22)) (W.fa fo42_0 rfl (W.want 57 rfl (sb (decide_eq_true c22)) (W.ld 0 HS Try.underlying3 rfl rfl rfl rfl (W.want 57 rfl (sb (decide_eq_true c22)) (W.r (X.cmp (decide (a0.Kind ≤ 7)) rfl rfl rfl rfl) rfl (W.r (X.pickT (sb (decide_eq_true c22)) rfl) rfl (W.mv rfl ?_)))))))
                  by_cases c23 : a0.Kind ≤ 7
                  · replace H := ite_t c23 H
                    refine W.want 62 rfl (sb (decide_eq_true c23)) (W.fa fo42_1 rfl (W.want 62 rfl (sb (decide_eq_true c23)) (W.ld 0 HS Try.underlying3 rfl rfl rfl rfl (W.want 62 rfl (sb (decide_eq_true c23)) (W.r (X.cmp (decide (a0.Ns = 0)) rfl rfl rfl rfl) rfl (W.r (X.pickT (sb (decide_eq_true c23)) rfl) rfl (W.mv rfl ?_)))))))
                    by_cases c24 : a0.Ns = 0
                    · replace H := ite_t c24 H
                      refine W.want 67 rfl (sb (decide_eq_true c24)) (W.fa fo42_2 rfl (W.want 67 rfl (sb (decide_eq_true c24)) (W.ld 0 HS Try.underlying3 rfl rfl rfl rfl (W.want 67 rfl (sb (decide_eq_true c24)) (W.r (X.cmp (decide (a0.Nr = 0)) rfl rfl rfl rfl) rfl (W.r (X.pickT (sb (decide_eq_true c24)) rfl) rfl (W.as rfl (W.nx (V.ret ?_)))))))))
                      replace HS := HS.pk [1] [0]
                      cases H
                      exact At.ret1 rfl rfl ⟨_, rfl, rfl, HS⟩
                    · replace H := ite_f c24 H
                      refine W.pass 67 rfl (sb (decide_eq_false c24)) rfl rfl (W.pass 67 rfl (sb (decide_eq_false c24)) rfl rfl (W.pass 67 rfl (sb (decide_eq_false c24)) rfl rfl (W.r (X.pickF (sb (decide_eq_false c24)) rfl) rfl (W.as rfl (W.nx (V.ret ?_))))))
                      replace HS := HS.pk [1] [0]
                      cases H
                      exact At.ret1 rfl rfl ⟨_, rfl, rfl, HS⟩
                  · replace H := ite_f c23 H
                    refine W.pass 62 rfl (sb (decide_eq_false c23)) rfl rfl (W.pass 62 rfl (sb (decide_eq_false c23)) rfl rfl (W.pass 62 rfl (sb (decide_eq_false c23)) rfl rfl (W.r (X.pickF (sb (decide_eq_false c23)) rfl) rfl (W.mv rfl (W.pass 67 rfl rfl rfl rfl (W.pass 67 rfl rfl rfl rfl (W.pass 67 rfl rfl rfl rfl (W.r (X.pickF rfl rfl) rfl (W.as rfl (W.nx (V.ret ?_)))))))))))
                    replace HS := HS.pk [1] [0]
                    cases H
                    exact At.ret1 rfl rfl ⟨_, rfl, rfl, HS⟩
                · replace H := ite_f c22 H
                  refine W.pass 57 rfl (sb (decide_eq_false c22)) rfl rfl (W.pass 57 rfl (sb (decide_eq_false c22)) rfl rfl (W.pass 57 rfl (sb (decide_eq_false c22)) rfl rfl (W.r (X.pickF (sb (decide_eq_false c22)) rfl) rfl (W.mv rfl (W.pass 62 rfl rfl rfl rfl (W.pass 62 rfl rfl rfl rfl (W.pass 62 rfl rfl rfl rfl (W.r (X.pickF rfl rfl) rfl (W.mv rfl (W.pass 67 rfl rfl rfl rfl (W.pass 67 rfl rfl rfl rfl (W.pass 67 rfl rfl rfl rfl (W.r (X.pickF rfl rfl) rfl (W.as rfl (W.nx (V.ret ?_))))))))))))))))
                  replace HS := HS.pk [1] [0]
                  cases H
                  exact At.ret1 rfl rfl ⟨_, rfl, rfl, HS⟩

/-! ### signalman/signalmanref6.field: function 60 -/
def signalmanref6_field.f (a0 : Int) (a1 : Int) (a2 : Int) : Option (List Int) := (if a2 = 128 then some (([IntKind.u8.wrap (w64 ((w64 (a0 * 2)) + a1))] : List Int)) else some (([IntKind.u8.wrap (iand .i64 (w64 ((w64 (a0 * 2)) + a1)) (255)), IntKind.u8.wrap ((w64 ((w64 (a0 * 2)) + a1)).fdiv (2 ^ (min (8 : Int).toNat IntKind.i64.bits)))] : List Int)))
theorem signalmanref6_field.calls {a0 : Int} {a1 : Int} {a2 : Int} {R : As} {w0 w : World}  {r : List Int} (H : signalmanref6_field.f a0 a1 a2 = some r) (HS : Sep.St [R] w0 w)  : Calls Try.prog 60 #[Value.int .i64 a0, Value.int .i64 a1, Value.int .i64 a2] w (Ret fun u w => ∃ (aq0 : Option Addr) (cq0 : Nat), u = Value.slice aq0 r.length cq0 ∧ Sep.St [row 5 1 (.slice aq0 r.length cq0) r.length (r.map (Value.int .u8)), R] w0 w) := by
  unfold signalmanref6_field.f at H
  refine calls_enter Try.func60 rfl rfl ?_
  have H : _ = some r := H
  refine V.seq (V.region (W.as rfl (W.nx (V.seq (V.region (W.mv rfl (W.r (X.mul rfl rfl) rfl (W.mv rfl (W.r (X.add rfl rfl) rfl (W.as rfl (W.nx (V.seq (V.seq (V.region (W.mv rfl (W.r (X.cmp (decide (a2 = 128)) rfl rfl rfl rfl) rfl (W.nx ?_)))))))))))))))))
  by_cases c1 : a2 = 128
  · replace H := ite_t c1 H
    refine V.condT (sb (decide_eq_true c1)) (V.seq (V.region (W.mv rfl (W.r (X.conv Try.underlying3 Try.underlying5 rfl) rfl (W.e (Y.ls (e := 5) (Value.int .u8) ([IntKind.u8.wrap (w64 ((w64 (a0 * 2)) + a1))] : List Int) HS rfl rfl (fun _ => by kernel_rfl)) rfl ?_)))))
    rintro _ w ⟨lb4, rfl, HS⟩
    refine W.as rfl (W.nx (V.ret (At.thenRet ?_)))
    cases H
    exact At.ret1 rfl rfl ⟨_, rfl, (some ⟨lb4, 0, none⟩), 1, rfl, HS⟩
  · replace H := ite_f c1 H
    refine V.condF (sb (decide_eq_false c1)) (V.skip (At.next (V.seq (V.region (W.mv rfl (W.r (X.and rfl rfl) rfl (W.r (X.conv Try.underlying3 Try.underlying5 rfl) rfl (W.mv rfl (W.r (X.shr rfl rfl (by decide)) rfl (W.r (X.conv Try.underlying3 Try.underlying5 rfl) rfl (W.e (Y.ls (e := 5) (Value.int .u8) ([IntKind.u8.wrap (iand .i64 (w64 ((w64 (a0 * 2)) + a1)) (255)), IntKind.u8.wrap ((w64 ((w64 (a0 * 2)) + a1)).fdiv (2 ^ (min (8 : Int).toNat IntKind.i64.bits)))] : List Int) HS rfl rfl (fun _ => by kernel_rfl)) rfl ?_)))))))))))
    rintro _ w ⟨lb7, rfl, HS⟩
    refine W.as rfl (W.nx (V.ret ?_))
    cases H
    exact At.ret1 rfl rfl ⟨_, rfl, (some ⟨lb7, 0, none⟩), 2, rfl, HS⟩

/-! ### signalman/signalmanref6.bit: function 61 -/
def signalmanref6_bit.f (a0 : Bool) : Option Int := (if a0 = true then some (1) else some (0))
theorem signalmanref6_bit.calls {a0 : Bool} {R : As} {w0 w : World}  {r : Int} (H : signalmanref6_bit.f a0 = some r) (HS : Sep.St [R] w0 w)  : Calls Try.prog 61 #[Value.bool a0] w (Ret fun u w => u = Value.int .i64 r ∧ Sep.St [R] w0 w) := by
  unfold signalmanref6_bit.f at H
  refine calls_enter Try.func61 rfl rfl ?_
  have H : _ = some r := H
  refine V.seq (V.region (W.as rfl (W.nx (V.seq (V.seq (V.region (W.mv rfl (W.nx ?_))))))))
  by_cases c1 : a0 = true
  · replace H := ite_t c1 H
    refine V.condT (sb c1) (V.seq (V.region (W.as rfl (W.nx (V.ret (At.thenRet ?_))))))
    cases H
    exact At.ret1 rfl rfl ⟨_, rfl, rfl, HS⟩
  · replace H := ite_f c1 H
    refine V.condF (sb (b_f c1)) (V.skip (At.next (V.seq (V.region (W.as rfl (W.nx (V.ret ?_)))))))
    cases H
    exact At.ret1 rfl rfl ⟨_, rfl, rfl, HS⟩

/-! ### signalman/signalmanref6.bare: function 62 -/
def signalmanref6_bare.f (a0 : Int) : Option Int := (if 0 ≤ w64 (a0 - 3) ∧ w64 (a0 - 3) < (([111, 99, 67, 15, 135] : List Int).length : Int) then some (([111, 99, 67, 15, 135] : List Int).getD (w64 (a0 - 3)).toNat 0) else none)
theorem signalmanref6_bare.calls {a0 : Int} {R : As} {w0 w : World}  {r : Int} (H : signalmanref6_bare.f a0 = some r) (HS : Sep.St [R] w0 w)  : Calls Try.prog 62 #[Value.int .i64 a0] w (Ret fun u w => u = Value.int .i64 r ∧ Sep.St [R] w0 w) := by
  unfold signalmanref6_bare.f at H
  refine calls_enter Try.func62 rfl rfl ?_
  have H : _ = some r := H
  refine V.seq (V.region (W.as rfl (W.nx (V.seq (V.region (W.e (Y.ls (e := 3) (Value.int .i64) ([111, 99, 67, 15, 135] : List Int) HS rfl rfl (fun _ => by kernel_rfl)) rfl ?_))))))
  rintro _ w ⟨lb3, rfl, HS⟩
  refine W.mv rfl (W.r (X.sub rfl rfl) rfl ?_)
  obtain ⟨c4, H⟩ := ite_n H
  refine W.r (X.indexSl Try.underlying34 inf3 rfl rfl c4.1 c4.2) rfl (W.r (X.load Try.underlying3 rfl rfl ((rdC.at 0 row_rd HS rfl).cellI c4.1 c4.2)) rfl (W.as rfl (W.nx (V.ret ?_))))
  replace HS := HS.pk [1] [0]
  cases H
  exact At.ret1 rfl rfl ⟨_, rfl, rfl, HS⟩

/-! ### signalman/signalmanref6.CtlBytes: function 25 -/
mutual
def signalmanref6_CtlBytes.j0 (a0 : api_Ctl) (a1 : Int) (x23 : List Int) : Option (List Int) := ((signalmanref6_bit.f a0.Poll).bind fun t27 => ((signalmanref6_field.f a0.Nr t27 a1).bind fun t29 => (if (x23.length : Int) + t29.length ≤ 1099511627776 then some (x23 ++ t29) else none)))
end
def signalmanref6_CtlBytes.f (a0 : api_Ctl) (a1 : Int) : Option (List Int) := ((signalmanref6_RightCtl.f a0 a1).bind fun t3 => (if t3 = true then (if a0.Kind = 0 then ((signalmanref6_field.f a0.Ns 0 a1).bind fun t7 => ((signalmanref6_bit.f a0.Poll).bind fun t9 => ((signalmanref6_field.f a0.Nr t9 a1).bind fun t11 => (if (t7.length : Int) + t11.length ≤ 1099511627776 then some (t7 ++ t11) else none)))) else (if a0.Kind ≤ 2 then (if a1 = 128 then (signalmanref6_CtlBytes.j0 a0 a1 ([IntKind.u8.wrap (w64 (1 + (w64 (8 * (w64 (a0.Kind - 1))))))] : List Int)) else (if ((([IntKind.u8.wrap (w64 (1 + (w64 (8 * (w64 (a0.Kind - 1))))))] : List Int)).length : Int) + ([0] : List Int).length ≤ 1099511627776 then (signalmanref6_CtlBytes.j0 a0 a1 (([IntKind.u8.wrap (w64 (1 + (w64 (8 * (w64 (a0.Kind - 1))))))] : List Int) ++ ([0] : List Int))) else none)) else ((signalmanref6_bare.f a0.Kind).bind fun t41 => ((signalmanref6_bit.f a0.Poll).bind fun t43 => some (([IntKind.u8.wrap (w64 (t41 + (w64 (16 * t43))))] : List Int)))))) else some ([] : List Int)))
theorem signalmanref6_CtlBytes.calls {a0 : api_Ctl} {a1 : Int} {R : As} {w0 w : World}  {r : List Int} (H : signalmanref6_CtlBytes.f a0 a1 = some r) (HS : Sep.St [R] w0 w)  : Calls Try.prog 25 #[Value.agg #[Value.int .i64 a0.Kind, Value.int .i64 a0.Ns, Value.int .i64 a0.Nr, Value.bool a0.Poll], Value.int .i64 a1] w (Ret fun u w => ∃ (aq0 : Option Addr) (cq0 : Nat), u = Value.slice aq0 r.length cq0 ∧ Sep.St [row 5 1 (.slice aq0 r.length cq0) r.length (r.map (Value.int .u8)), R] w0 w) := by
  unfold signalmanref6_CtlBytes.f at H
  refine calls_enter Try.func25 rfl rfl ?_
  have H : _ = some r := H
  refine V.seq (V.region (W.e (Y.box HS rfl) rfl ?_))
  rintro _ w ⟨nb1, rfl, HS⟩
  refine W.as rfl (W.nx (V.seq (V.seq (V.region (W.r (X.loadSt 0 [Value.int .i64 a0.Kind, Value.int .i64 a0.Ns, Value.int .i64 a0.Nr, Value.bool a0.Poll] HS rfl Try.underlying42 rfl inf42 rfl rfl) rfl (W.mv rfl ?_))))))
  obtain ⟨t3, A4, H⟩ := bind_s H
  refine W.e (Y.cl Try.func59 (signalmanref6_RightCtl.calls A4 HS.j0)) rfl ?_
  rintro _ w ⟨rfl, HS⟩
  replace HS := HS.o0
  refine W.r (X.not rfl) rfl (W.nx ?_)
  by_cases c5 : t3 = true
  · replace H := ite_t c5 H
    refine V.condF (sb (n_t c5)) (V.skip (At.next (V.seq (V.block (V.seq (V.region (W.fa fo42_0 rfl (W.ld 0 HS Try.underlying3 rfl rfl rfl rfl (W.r (X.cmp (decide (a0.Kind = 0)) rfl rfl rfl rfl) rfl (W.as rfl (W.nx ?_)))))))))))
    by_cases c6 : a0.Kind = 0
    · replace H := ite_t c6 H
      refine V.condT (sb (decide_eq_true c6)) (V.seq (V.dr [3, 8, 10, 11] [12] [(14, Value.pointer (some ⟨nb1, 0 + 1, none⟩)), (15, Value.int .i64 a0.Ns), (16, Value.int .i64 a1), (18, Value.pointer (some ⟨nb1, 0 + 2, none⟩)), (19, Value.int .i64 a0.Nr), (20, Value.pointer (some ⟨nb1, 0 + 3, none⟩)), (21, Value.bool a0.Poll), (23, Value.int .i64 a1)] mo HS ?_))
      refine T.ev [(15, _), (16, _)] [12] [0, 1, 2] ⟨rfl, rfl, trivial⟩ ⟨.fa 2 fo42_1, .ld 14 0 Try.underlying3, .mv 1, .fa 2 fo42_2, .ld 18 0 Try.underlying3, .fa 2 fo42_3, .ld 20 0 Try.underlying4, .mv 1, trivial⟩ rfl (fun w HS => ?_)
      obtain ⟨t7, A8, H⟩ := bind_s H
      refine ⟨_, Y.cl Try.func60 (signalmanref6_field.calls A8 HS.j0), ?_⟩
      rintro _ w ⟨at7_0, ct7_0, rfl, HS⟩
      replace HS := HS.o1
      refine T.nw HS ?_
      refine T.ev [(21, _)] [12] [6, 7] ⟨rfl, trivial⟩ ⟨.fa 2 fo42_2, .ld 18 1 Try.underlying3, .fa 2 fo42_3, .ld 20 1 Try.underlying4, .mv 1, trivial⟩ rfl (fun w HS => ?_)
      obtain ⟨t9, A10, H⟩ := bind_s H
      refine ⟨_, Y.cl Try.func61 (signalmanref6_bit.calls A10 HS.j0), ?_⟩
      rintro _ w ⟨rfl, HS⟩
      replace HS := HS.o0
      refine T.nw HS ?_
      refine T.ev [(19, _), (22, _), (23, _)] [12] [4, 5, 9] ⟨rfl, rfl, rfl, trivial⟩ ⟨.fa 2 fo42_2, .ld 18 1 Try.underlying3, .mv 1, trivial⟩ rfl (fun w HS => ?_)
      obtain ⟨t11, A12, H⟩ := bind_s H
      refine ⟨_, Y.cl Try.func60 (signalmanref6_field.calls A12 HS.j0), ?_⟩
      rintro _ w ⟨at11_0, ct11_0, rfl, HS⟩
      replace HS := HS.o1
      refine T.nw HS ?_
      refine T.ev [(17, _), (24, _)] [] [] ⟨rfl, rfl, trivial⟩ trivial rfl (fun w HS => ?_)
      obtain ⟨c13, H⟩ := ite_n H
      refine ⟨_, Y.appF (Value.int .u8) (fun _ => rfl) 1 Try.underlying39 ap5 rfl HS rfl rfl rfl (rdC.at 0 row_rd HS rfl) (by omega) (by omega), ?_⟩
      rintro _ w ⟨ra14, rc15, rfl, HS⟩
      refine T.nm [(25, Value.slice ra14 (t7 ++ t11).length rc15), (4, Value.slice ra14 (t7 ++ t11).length rc15)] HS ⟨.inl ⟨rfl, rfl⟩, ⟨.inr ⟨by decide, rfl⟩, trivial⟩⟩ ?_
      refine T.fn [(4, _)] ⟨rfl, trivial⟩ ⟨.as 25, trivial⟩ (fun w HS => ?_)
      refine At.next (V.ret (At.blockRet (At.thenRet ?_)))
      replace HS := HS.pk [1, 3] [0, 2]
      cases H
      exact At.ret1 rfl rfl ⟨_, rfl, ra14, rc15, rfl, HS⟩
    · replace H := ite_f c6 H
      refine V.condF (sb (decide_eq_false c6)) (V.seq (V.region (W.fa fo42_0 rfl (W.ld 0 HS Try.underlying3 rfl rfl rfl rfl (W.r (X.cmp (decide (a0.Kind ≤ 2)) rfl rfl rfl rfl) rfl (W.as rfl (W.nx ?_)))))))
      by_cases c16 : a0.Kind ≤ 2
      · replace H := ite_t c16 H
        refine V.condT (sb (decide_eq_true c16)) (V.seq (V.region (W.fa fo42_0 rfl (W.ld 0 HS Try.underlying3 rfl rfl rfl rfl (W.r (X.sub rfl rfl) rfl (W.r (X.mul rfl rfl) rfl (W.r (X.add rfl rfl) rfl (W.r (X.conv Try.underlying3 Try.underlying5 rfl) rfl (W.e (Y.ls (e := 5) (Value.int .u8) ([IntKind.u8.wrap (w64 (1 + (w64 (8 * (w64 (a0.Kind - 1))))))] : List Int) HS rfl rfl (fun _ => by kernel_rfl)) rfl ?_)))))))))
        rintro _ w ⟨lb19, rfl, HS⟩
        refine W.as rfl (W.nx (V.meet (σ := Option Addr × Nat × List Int) (fun st w => match st with | (ra21, rc22, x23) => Sep.St [api_Ctl.at nb1 a0, row 5 1 (.slice ra21 x23.length rc22) x23.length (x23.map (Value.int .u8)), R] w0 w ∧ signalmanref6_CtlBytes.j0 a0 a1 x23 = some r) (fun st => match st with | (ra21, rc22, x23) => [(1, Value.int .i64 a1), (2, Value.pointer (some ⟨nb1, 0, none⟩)), (5, Value.slice ra21 x23.length rc22)]) ?_ ?_))
        · refine V.seq (V.region (W.mv rfl (W.r (X.cmp (!(decide (a1 = 128))) rfl rfl rfl rfl) rfl (W.nx ?_))))
          by_cases c34 : a1 = 128
          · replace H := ite_t c34 H
            refine V.condF (sb (n_t (decide_eq_true c34))) (V.skip ?_)
            replace HS := HS.pm [1, 0, 2]
            replace HS := api_Ctl.close trivial HS
            exact At.meet ((some ⟨lb19, 0, none⟩), 1, ([IntKind.u8.wrap (w64 (1 + (w64 (8 * (w64 (a0.Kind - 1))))))] : List Int)) ⟨rfl, rfl, rfl, trivial⟩ ⟨HS, H⟩
          · replace H := ite_f c34 H
            refine V.condT (sb (n_f (decide_eq_false c34))) (V.region (W.mv rfl (W.e (Y.ls (e := 5) (Value.int .u8) ([0] : List Int) HS rfl rfl (fun _ => by kernel_rfl)) rfl ?_)))
            rintro _ w ⟨lb37, rfl, HS⟩
            obtain ⟨c38, H⟩ := ite_n H
            refine W.e (Y.appF (Value.int .u8) (fun _ => rfl) 1 Try.underlying39 ap5 rfl HS rfl rfl rfl (rdC.at 0 row_rd HS rfl) (by omega) (by omega)) rfl ?_
            rintro _ w ⟨ra39, rc40, rfl, HS⟩
            refine W.as rfl (W.nil ?_)
            replace HS := HS.pm [2, 0, 1, 3]
            replace HS := api_Ctl.close trivial HS
            replace HS := HS.pk [0, 2, 3] [1]
            exact At.meet (ra39, rc40, ([IntKind.u8.wrap (w64 (1 + (w64 (8 * (w64 (a0.Kind - 1))))))] : List Int) ++ ([0] : List Int)) ⟨rfl, rfl, rfl, trivial⟩ ⟨HS, H⟩
        · rintro ⟨ra21, rc22, x23⟩ w ⟨HS, H⟩
          unfold signalmanref6_CtlBytes.j0 at H
          refine V.seq ?_
          obtain ⟨hi26, HS⟩ := api_Ctl.open HS
          refine V.dr [5, 7, 8] [9] [(42, Value.slice ra21 x23.length rc22), (43, Value.pointer (some ⟨nb1, 0 + 2, none⟩)), (44, Value.int .i64 a0.Nr), (45, Value.pointer (some ⟨nb1, 0 + 3, none⟩)), (46, Value.bool a0.Poll), (48, Value.int .i64 a1)] mo HS ?_
          refine T.ev [(46, _)] [9] [3, 4] ⟨rfl, trivial⟩ ⟨.mv 5, .fa 2 fo42_2, .ld 43 0 Try.underlying3, .fa 2 fo42_3, .ld 45 0 Try.underlying4, .mv 1, trivial⟩ rfl (fun w HS => ?_)
          obtain ⟨t27, A28, H⟩ := bind_s H
          refine ⟨_, Y.cl Try.func61 (signalmanref6_bit.calls A28 HS.j0), ?_⟩
          rintro _ w ⟨rfl, HS⟩
          replace HS := HS.o0
          refine T.nw HS ?_
          refine T.ev [(44, _), (47, _), (48, _)] [9] [1, 2, 6] ⟨rfl, rfl, rfl, trivial⟩ ⟨.mv 5, .fa 2 fo42_2, .ld 43 0 Try.underlying3, .mv 1, trivial⟩ rfl (fun w HS => ?_)
          obtain ⟨t29, A30, H⟩ := bind_s H
          refine ⟨_, Y.cl Try.func60 (signalmanref6_field.calls A30 HS.j0), ?_⟩
          rintro _ w ⟨at29_0, ct29_0, rfl, HS⟩
          replace HS := HS.o1
          refine T.nw HS ?_
          refine T.ev [(42, _), (49, _)] [] [0] ⟨rfl, rfl, trivial⟩ ⟨.mv 5, trivial⟩ rfl (fun w HS => ?_)
          obtain ⟨c31, H⟩ := ite_n H
          refine ⟨_, Y.appF (Value.int .u8) (fun _ => rfl) 2 Try.underlying39 ap5 rfl HS rfl rfl rfl (rdC.at 0 row_rd HS rfl) (by omega) (by omega), ?_⟩
          rintro _ w ⟨ra32, rc33, rfl, HS⟩
          refine T.nm [(50, Value.slice ra32 (x23 ++ t29).length rc33), (4, Value.slice ra32 (x23 ++ t29).length rc33)] HS ⟨.inl ⟨rfl, rfl⟩, ⟨.inr ⟨by decide, rfl⟩, trivial⟩⟩ ?_
          refine T.fn [(4, _)] ⟨rfl, trivial⟩ ⟨.as 50, trivial⟩ (fun w HS => ?_)
          refine At.next (V.ret (At.blockRet (At.thenRet ?_)))
          replace HS := HS.pk [2, 3] [0, 1]
          cases H
          exact At.ret1 rfl rfl ⟨_, rfl, ra32, rc33, rfl, HS⟩
      · replace H := ite_f c16 H
        refine V.condF (sb (decide_eq_false c16)) (V.skip (At.blockEnd (At.next (V.seq (V.dr [2, 5, 9] [6, 7, 8, 10] [(51, Value.pointer (some ⟨nb1, 0 + 0, none⟩)), (52, Value.int .i64 a0.Kind), (54, Value.pointer (some ⟨nb1, 0 + 3, none⟩)), (55, Value.bool a0.Poll)] mo HS ?_)))))
        refine T.ev [(52, _)] [6, 7, 8, 10] [0, 1] ⟨rfl, trivial⟩ ⟨.fa 2 fo42_0, .ld 51 0 Try.underlying3, .fa 2 fo42_3, .ld 54 0 Try.underlying4, trivial⟩ rfl (fun w HS => ?_)
        obtain ⟨t41, A42, H⟩ := bind_s H
        refine ⟨_, Y.cl Try.func62 (signalmanref6_bare.calls A42 HS.j0), ?_⟩
        rintro _ w ⟨rfl, HS⟩
        replace HS := HS.o0
        refine T.nw HS ?_
        refine T.ev [(55, _)] [10] [3, 4] ⟨rfl, trivial⟩ ⟨.fa 2 fo42_3, .ld 54 0 Try.underlying4, trivial⟩ rfl (fun w HS => ?_)
        obtain ⟨t43, A44, H⟩ := bind_s H
        refine ⟨_, Y.cl Try.func61 (signalmanref6_bit.calls A44 HS.j0), ?_⟩
        rintro _ w ⟨rfl, HS⟩
        replace HS := HS.o0
        refine T.nm [(56, Value.int .i64 t43), (57, Value.int .i64 (w64 (16 * t43))), (58, Value.int .i64 (w64 (t41 + (w64 (16 * t43))))), (59, Value.int .u8 (IntKind.u8.wrap (w64 (t41 + (w64 (16 * t43))))))] HS ⟨.inl ⟨rfl, rfl⟩, ⟨.inr ⟨by decide, rfl⟩, ⟨.inr ⟨by decide, rfl⟩, ⟨.inr ⟨by decide, rfl⟩, trivial⟩⟩⟩⟩ ?_
        refine T.ev [(59, _)] [] [6, 7, 8] ⟨rfl, trivial⟩ ⟨.n1 56 rfl rfl (fun w HS => X.mul rfl rfl), .n2 53 57 rfl rfl rfl (fun w HS => X.add rfl rfl), .n1 58 rfl rfl (fun w HS => X.conv Try.underlying3 Try.underlying5 rfl), trivial⟩ rfl (fun w HS => ?_)
        refine ⟨_, Y.ls (e := 5) (Value.int .u8) ([IntKind.u8.wrap (w64 (t41 + (w64 (16 * t43))))] : List Int) HS rfl rfl (fun _ => by kernel_rfl), ?_⟩
        rintro _ w ⟨lb47, rfl, HS⟩
        refine T.nm [(60, Value.slice (some ⟨lb47, 0, none⟩) (([IntKind.u8.wrap (w64 (t41 + (w64 (16 * t43))))] : List Int)).length 1), (4, Value.slice (some ⟨lb47, 0, none⟩) (([IntKind.u8.wrap (w64 (t41 + (w64 (16 * t43))))] : List Int)).length 1)] HS ⟨.inl ⟨rfl, rfl⟩, ⟨.inr ⟨by decide, rfl⟩, trivial⟩⟩ ?_
        refine T.fn [(4, _)] ⟨rfl, trivial⟩ ⟨.as 60, trivial⟩ (fun w HS => ?_)
        refine At.next (V.ret ?_)
        replace HS := HS.pk [0, 2] [1]
        cases H
        exact At.ret1 rfl rfl ⟨_, rfl, (some ⟨lb47, 0, none⟩), 1, rfl, HS⟩
  · replace H := ite_f c5 H
    refine V.condT (sb (n_f (b_f c5))) (V.seq (V.region (W.as rfl (W.nx (V.ret (At.thenRet ?_))))))
    replace HS := row_nilF (Value.int .u8) 5 1 HS
    replace HS := HS.pk [0, 2] [1]
    cases H
    exact At.ret1 rfl rfl ⟨_, rfl, none, 0, rfl, HS⟩

/-! ### signalman/signalmanlaw15.ArqStale: function 9 -/
mutual
def signalmanlaw15_ArqStale.l1 : Nat → Int → Int → (List Int) → Int → signalmanlaw15_pair → Option Bool
  | 0, _, _, _, _, _ => none
  | k + 1, a0, a1, a2, x11, x12 => (if x11 < a1 then ((arq_Arq_Send.f k x12.a.1 ([IntKind.u8.wrap x11] : List Int)).bind fun t21 => (signalmanlaw15_ArqStale.l1 k a0 a1 a2 (w64 (x11 + 1)) ({ a := (t21.2, x12.a.2), way := (x12.way.1, x12.way.2), heard := (x12.heard.1, x12.heard.2), said := (x12.said.1, x12.said.2), downs := x12.downs } : signalmanlaw15_pair))) else ((signalmanlaw15_pair_collect.f k x12).bind fun t23 => (signalmanlaw15_ArqStale.l2 k a0 a1 a2 0 t23)))
def signalmanlaw15_ArqStale.l2 : Nat → Int → Int → (List Int) → Int → signalmanlaw15_pair → Option Bool
  | 0, _, _, _, _, _ => none
  | k + 1, a0, a1, a2, x25, x26 => (if x25 < (a2.length : Int) then (if 0 ≤ x25 ∧ x25 < (a2.length : Int) then (if (iand .i64 (a2.getD x25.toNat 0) (7)) = 3 then (signalmanlaw15_ArqStale.j3 k a0 a2 x25 x26 (signalmanlaw15_ArqStale.l2 k a0 a1 a2) (decide ((iand .i64 (w64 (a0 - 1)) (65535)) ≤ 32767))) else (signalmanlaw15_ArqStale.j3 k a0 a2 x25 x26 (signalmanlaw15_ArqStale.l2 k a0 a1 a2) false)) else none) else ((signalmanlaw15_pair_collect.f k x26).bind fun t55 => (signalmanlaw15_ArqStale.l4 k a1 0 t55)))
def signalmanlaw15_ArqStale.j3 (k : Nat) (a0 : Int) (a2 : List Int) (x25 : Int) (x26 : signalmanlaw15_pair) (Lq35 : Int → signalmanlaw15_pair → Option Bool) (x33 : Bool) : Option Bool := (if x33 = true then (Lq35 (w64 (x25 + 1)) x26) else ((signalmanref6_CtlBytes.f ({ Kind := iand .i64 (a2.getD x25.toNat 0) (7), Ns := 0, Nr := 0, Poll := false } : api_Ctl) 128).bind fun t41 => (if ((([IntKind.u8.wrap (a0.fdiv (2 ^ (min (8 : Int).toNat IntKind.i64.bits))), IntKind.u8.wrap (iand .i64 a0 (255))] : List Int)).length : Int) + t41.length ≤ 1099511627776 then ((arq_Arq_Input.f k x26.a.1 (([IntKind.u8.wrap (a0.fdiv (2 ^ (min (8 : Int).toNat IntKind.i64.bits))), IntKind.u8.wrap (iand .i64 a0 (255))] : List Int) ++ t41)).bind fun t50 => ((arq_Arq_Input.f k x26.a.2 (([IntKind.u8.wrap (a0.fdiv (2 ^ (min (8 : Int).toNat IntKind.i64.bits))), IntKind.u8.wrap (iand .i64 a0 (255))] : List Int) ++ t41)).bind fun t52 => (Lq35 (w64 (x25 + 1)) ({ a := (t50, t52), way := (x26.way.1, x26.way.2), heard := (x26.heard.1, x26.heard.2), said := (x26.said.1, x26.said.2), downs := x26.downs } : signalmanlaw15_pair)))) else none)))
def signalmanlaw15_ArqStale.l4 : Nat → Int → Int → signalmanlaw15_pair → Option Bool
  | 0, _, _, _ => none
  | k + 1, a1, x57, x58 => (if x57 < 300 then ((signalmanlaw15_pair_carry.f k x58 0 false).bind fun t62 => ((signalmanlaw15_pair_carry.f k t62 1 false).bind fun t64 => (signalmanlaw15_ArqStale.l4 k a1 (w64 (x57 + 1)) t64))) else ((arq_Arq_Counts.f x58.a.1).bind fun t70 => (if x58.downs = 0 then ((arq_Arq_State.f x58.a.1).bind fun t73 => (if t73 = 2 then ((arq_Arq_State.f x58.a.2).bind fun t78 => (if t78 = 2 then (if t70.1 = a1 then (if t70.2.1 = a1 then (if t70.2.2 = 0 then some (decide ((x58.heard.2.length : Int) = a1)) else some false) else some false) else some false) else some false)) else some false)) else some false)))
def signalmanlaw15_ArqStale.j0 (k : Nat) (a0 : Int) (a1 : Int) (a2 : List Int) (t1 : Bool) (x3 : Bool) : Option Bool := (if x3 = true then some t1 else ((signalmanlaw15_shape.f 128 4 20).bind fun t6 => ((signalmanlaw15_up.f k t6).bind fun t8 => (signalmanlaw15_ArqStale.l1 k a0 a1 a2 0 t8))))
end
def signalmanlaw15_ArqStale.f (k : Nat) (a0 : Int) (a1 : Int) (a2 : List Int) : Option Bool := ((signalmanlaw15_alive.f k ).bind fun t1 => (if t1 = true then (if a0 < 0 then (signalmanlaw15_ArqStale.j0 k a0 a1 a2 t1 true) else (if a0 > 65535 then (signalmanlaw15_ArqStale.j0 k a0 a1 a2 t1 true) else (if a0 = 1 then (signalmanlaw15_ArqStale.j0 k a0 a1 a2 t1 true) else (if (a2.length : Int) > 40 then (signalmanlaw15_ArqStale.j0 k a0 a1 a2 t1 true) else (if a1 < 0 then (signalmanlaw15_ArqStale.j0 k a0 a1 a2 t1 true) else (signalmanlaw15_ArqStale.j0 k a0 a1 a2 t1 (decide (a1 > 10)))))))) else (signalmanlaw15_ArqStale.j0 k a0 a1 a2 t1 true)))
theorem signalmanlaw15_ArqStale.calls {k : Nat} {a0 : Int} {a1 : Int} {a2 : List Int} {R : As} {w0 w : World} {sa2 : Option Addr} {sc2 : Nat} {r : Bool} (H : signalmanlaw15_ArqStale.f k a0 a1 a2 = some r) (HS : Sep.St [R] w0 w) (hr2 : rdC R 1 (.slice sa2 a2.length sc2) a2.length (a2.map (Value.int .i64))) : Calls Try.prog 9 #[Value.int .i64 a0, Value.int .i64 a1, Value.slice sa2 a2.length sc2] w (Ret fun u w => u = Value.bool r ∧ Sep.St [R] w0 w) := by
  unfold signalmanlaw15_ArqStale.f at H
  refine calls_enter Try.func9 rfl rfl ?_
  have H : _ = some r := H
  refine V.seq (V.region (W.as rfl (W.nx (V.seq (V.region ?_)))))
  obtain ⟨t1, A2, H⟩ := bind_s H
  refine W.e (Y.cl Try.func15 (signalmanlaw15_alive.calls A2 HS.j0)) rfl ?_
  rintro _ w ⟨rfl, HS⟩
  replace HS := HS.o0
  refine W.as rfl (W.nx (V.seq (V.meet (σ := Bool) (fun st w => match st with | x3 => Sep.St [R] w0 w ∧ ∃ kf4, kf4 ≤ k ∧ signalmanlaw15_ArqStale.j0 kf4 a0 a1 a2 t1 x3 = some r) (fun st => match st with | x3 => [(0, Value.int .i64 a0), (1, Value.int .i64 a1), (2, Value.slice sa2 a2.length sc2), (7, Value.bool t1), (45, Value.bool x3)]) ?_ ?_)))
  · refine V.region (W.mv rfl (W.r (X.not rfl) rfl (W.mv rfl ?_)))
    by_cases c84 : t1 = true
    · replace H := ite_t c84 H
      refine W.want 21 rfl (sb (n_t c84)) (W.mv rfl (W.want 21 rfl (sb (n_t c84)) (W.r (X.cmp (decide (a0 < 0)) rfl rfl rfl rfl) rfl (W.r (X.pickF (sb (n_t c84)) rfl) rfl (W.mv rfl ?_)))))
      by_cases c85 : a0 < 0
      · replace H := ite_t c85 H
        refine W.pass 25 rfl (sb (decide_eq_true c85)) rfl rfl (W.pass 25 rfl (sb (decide_eq_true c85)) rfl rfl (W.r (X.pickT (sb (decide_eq_true c85)) rfl) rfl (W.mv rfl (W.pass 29 rfl rfl rfl rfl (W.pass 29 rfl rfl rfl rfl (W.r (X.pickT rfl rfl) rfl (W.mv rfl (W.pass 33 rfl rfl rfl rfl (W.pass 33 rfl rfl rfl rfl (W.pass 33 rfl rfl rfl rfl (W.r (X.pickT rfl rfl) rfl (W.mv rfl (W.pass 38 rfl rfl rfl rfl (W.pass 38 rfl rfl rfl rfl (W.r (X.pickT rfl rfl) rfl (W.mv rfl (W.pass 42 rfl rfl rfl rfl (W.pass 42 rfl rfl rfl rfl (W.r (X.pickT rfl rfl) rfl (W.nil ?_))))))))))))))))))))
        exact At.meet true ⟨rfl, rfl, rfl, rfl, rfl, trivial⟩ ⟨HS, k, by omega, H⟩
      · replace H := ite_f c85 H
        refine W.want 25 rfl (sb (decide_eq_false c85)) (W.mv rfl (W.want 25 rfl (sb (decide_eq_false c85)) (W.r (X.cmp (decide (a0 > 65535)) rfl rfl rfl rfl) rfl (W.r (X.pickF (sb (decide_eq_false c85)) rfl) rfl (W.mv rfl ?_)))))
        by_cases c86 : a0 > 65535
        · replace H := ite_t c86 H
          refine W.pass 29 rfl (sb (decide_eq_true c86)) rfl rfl (W.pass 29 rfl (sb (decide_eq_true c86)) rfl rfl (W.r (X.pickT (sb (decide_eq_true c86)) rfl) rfl (W.mv rfl (W.pass 33 rfl rfl rfl rfl (W.pass 33 rfl rfl rfl rfl (W.pass 33 rfl rfl rfl rfl (W.r (X.pickT rfl rfl) rfl (W.mv rfl (W.pass 38 rfl rfl rfl rfl (W.pass 38 rfl rfl rfl rfl (W.r (X.pickT rfl rfl) rfl (W.mv rfl (W.pass 42 rfl rfl rfl rfl (W.pass 42 rfl rfl rfl rfl (W.r (X.pickT rfl rfl) rfl (W.nil ?_))))))))))))))))
          exact At.meet true ⟨rfl, rfl, rfl, rfl, rfl, trivial⟩ ⟨HS, k, by omega, H⟩
        · replace H := ite_f c86 H
          refine W.want 29 rfl (sb (decide_eq_false c86)) (W.mv rfl (W.want 29 rfl (sb (decide_eq_false c86)) (W.r (X.cmp (decide (a0 = 1)) rfl rfl rfl rfl) rfl (W.r (X.pickF (sb (decide_eq_false c86)) rfl) rfl (W.mv rfl ?_)))))
          by_cases c87 : a0 = 1
          · replace H := ite_t c87 H
            refine W.pass 33 rfl (sb (decide_eq_true c87)) rfl rfl (W.pass 33 rfl (sb (decide_eq_true c87)) rfl rfl (W.pass 33 rfl (sb (decide_eq_true c87)) rfl rfl (W.r (X.pickT (sb (decide_eq_true c87)) rfl) rfl (W.mv rfl (W.pass 38 rfl rfl rfl rfl (W.pass 38 rfl rfl rfl rfl (W.r (X.pickT rfl rfl) rfl (W.mv rfl (W.pass 42 rfl rfl rfl rfl (W.pass 42 rfl rfl rfl rfl (W.r (X.pickT rfl rfl) rfl (W.nil ?_))))))))))))
            exact At.meet true ⟨rfl, rfl, rfl, rfl, rfl, trivial⟩ ⟨HS, k, by omega, H⟩
          · replace H := ite_f c87 H
            refine W.want 33 rfl (sb (decide_eq_false c87)) (W.mv rfl (W.want 33 rfl (sb (decide_eq_false c87)) (W.r (X.lenSl Try.underlying34 rfl) rfl (W.want 33 rfl (sb (decide_eq_false c87)) (W.r (X.cmp (decide ((a2.length : Int) > 40)) rfl rfl rfl rfl) rfl (W.r (X.pickF (sb (decide_eq_false c87)) rfl) rfl (W.mv rfl ?_)))))))
            by_cases c88 : (a2.length : Int) > 40
            · replace H := ite_t c88 H
              refine W.pass 38 rfl (sb (decide_eq_true c88)) rfl rfl (W.pass 38 rfl (sb (decide_eq_true c88)) rfl rfl (W.r (X.pickT (sb (decide_eq_true c88)) rfl) rfl (W.mv rfl (W.pass 42 rfl rfl rfl rfl (W.pass 42 rfl rfl rfl rfl (W.r (X.pickT rfl rfl) rfl (W.nil ?_)))))))
              exact At.meet true ⟨rfl, rfl, rfl, rfl, rfl, trivial⟩ ⟨HS, k, by omega, H⟩
            · replace H := ite_f c88 H
              refine W.want 38 rfl (sb (decide_eq_false c88)) (W.mv rfl (W.want 38 rfl (sb (decide_eq_false c88)) (W.r (X.cmp (decide (a1 < 0)) rfl rfl rfl rfl) rfl (W.r (X.pickF (sb (decide_eq_false c88)) rfl) rfl (W.mv rfl ?_)))))
              by_cases c89 : a1 < 0
              · replace H := ite_t c89 H
                refine W.pass 42 rfl (sb (decide_eq_true c89)) rfl rfl (W.pass 42 rfl (sb (decide_eq_true c89)) rfl rfl (W.r (X.pickT (sb (decide_eq_true c89)) rfl) rfl (W.nil ?_)))
                exact At.meet true ⟨rfl, rfl, rfl, rfl, rfl, trivial⟩ ⟨HS, k, by omega, H⟩
              · replace H := ite_f c89 H
                refine W.want 42 rfl (sb (decide_eq_false c89)) (W.mv rfl (W.want 42 rfl (sb (decide_eq_false c89)) (W.r (X.cmp (decide (a1 > 10)) rfl rfl rfl rfl) rfl (W.r (X.pickF (sb (decide_eq_false c89)) rfl) rfl (W.nil ?_)))))
                exact At.meet (decide (a1 > 10)) ⟨rfl, rfl, rfl, rfl, rfl, trivial⟩ ⟨HS, k, by omega, H⟩
    · replace H := ite_f c84 H
      refine W.pass 21 rfl (sb (n_f (b_f c84))) rfl rfl (W.pass 21 rfl (sb (n_f (b_f c84))) rfl rfl (W.r (X.pickT (sb (n_f (b_f c84))) rfl) rfl (W.mv rfl (W.pass 25 rfl rfl rfl rfl (W.pass 25 rfl rfl rfl rfl (W.r (X.pickT rfl rfl) rfl (W.mv rfl (W.pass 29 rfl rfl rfl rfl (W.pass 29 rfl rfl rfl rfl (W.r (X.pickT rfl rfl) rfl (W.mv rfl (W.pass 33 rfl rfl rfl rfl (W.pass 33 rfl rfl rfl rfl (W.pass 33 rfl rfl rfl rfl (W.r (X.pickT rfl rfl) rfl (W.mv rfl (W.pass 38 rfl rfl rfl rfl (W.pass 38 rfl rfl rfl rfl (W.r (X.pickT rfl rfl) rfl (W.mv rfl (W.pass 42 rfl rfl rfl rfl (W.pass 42 rfl rfl rfl rfl (W.r (X.pickT rfl rfl) rfl (W.nil ?_))))))))))))))))))))))))
      exact At.meet true ⟨rfl, rfl, rfl, rfl, rfl, trivial⟩ ⟨HS, k, by omega, H⟩
  · rintro x3 w ⟨HS, kf4, hkkf4, H⟩
    unfold signalmanlaw15_ArqStale.j0 at H
    by_cases c5 : x3 = true
    · replace H := ite_t c5 H
      refine V.condT (sb c5) (V.seq (V.region (W.mv rfl (W.as rfl (W.nx (V.ret (At.thenRet ?_)))))))
      cases H
      exact At.ret1 rfl rfl ⟨_, rfl, rfl, HS⟩
    · replace H := ite_f c5 H
      refine V.condF (sb (b_f c5)) (V.skip (At.next (V.seq (V.region ?_))))
      obtain ⟨t6, A7, H⟩ := bind_s H
      refine W.e (Y.cl Try.func16 (signalmanlaw15_shape.calls A7 HS.j0)) rfl ?_
      rintro _ w ⟨rfl, HS⟩
      replace HS := HS.o0
      obtain ⟨t8, A9, H⟩ := bind_s H
      refine W.e (Y.cl Try.func36 (signalmanlaw15_up.calls A9 HS.j0)) rfl ?_
      rintro _ w ⟨bt8_0, rfl, HS⟩
      replace HS := HS.o1
      refine W.as rfl (W.nx (V.seq (V.seq (V.region (W.as rfl (W.nx (V.block (V.loop (σ := Int × signalmanlaw15_pair) (fun kq (st : Int × signalmanlaw15_pair) w => match st with | (x11, x12) => Sep.St [signalmanlaw15_pair.at bt8_0 x12, R] w0 w ∧ signalmanlaw15_ArqStale.l1 kq a0 a1 a2 x11 x12 = some r ∧ kq ≤ kf4) (fun st => match st with | (x11, x12) => [(0, Value.int .i64 a0), (1, Value.int .i64 a1), (2, Value.slice sa2 a2.length sc2), (8, Value.pointer (some ⟨bt8_0, 0, none⟩)), (9, Value.int .i64 x11)]) kf4 (0, t8) ⟨rfl, rfl, rfl, rfl, rfl, trivial⟩ ⟨HS, H, Nat.le_refl _⟩ ?_))))))))
      rintro kq13 ⟨x11, x12⟩ w ⟨HS, H, hk14⟩
      cases kq13 with
      | zero => exact absurd H (by simp [signalmanlaw15_ArqStale.l1])
      | succ kq13 =>
        simp only [signalmanlaw15_ArqStale.l1] at H
        refine V.seq (V.seq (V.region (W.mv rfl (W.mv rfl (W.r (X.cmp (decide (x11 < a1)) rfl rfl rfl rfl) rfl (W.nx ?_))))))
        by_cases c15 : x11 < a1
        · replace H := ite_t c15 H
          refine V.condT (sb (decide_eq_true c15)) (V.skip (At.next (V.seq (V.block (V.region (W.mv rfl (W.nc rfl ?_)))))))
          obtain ⟨b0_16, b1_16, a2_16, c2_16, d2_16, a3_16, c3_16, d3_16, a4_16, c4_16, a5_16, c5_16, a6_16, c6_16, a7_16, c7_16, hi17, HS⟩ := signalmanlaw15_pair.open HS
          refine W.fa fo59_0 rfl (W.r (X.indexArK 0 rfl Try.underlying54 inf26 rfl rfl (by decide) (by decide)) rfl (W.ld 0 HS Try.underlying26 rfl rfl rfl rfl (W.mv rfl (W.r (X.conv Try.underlying3 Try.underlying5 rfl) rfl (W.e (Y.ls (e := 5) (Value.int .u8) ([IntKind.u8.wrap x11] : List Int) HS rfl rfl (fun _ => by kernel_rfl)) rfl ?_)))))
          rintro _ w ⟨lb20, rfl, HS⟩
          obtain ⟨t21, A22, H⟩ := bind_s H
          replace HS := HS.pm [2, 0, 1, 3, 4, 5, 6, 7, 8, 9, 10, 11, 12]
          refine W.e (Y.cl Try.func34 (arq_Arq_Send.calls A22 HS.j1 (rdC.part 0 row_rd rfl))) rfl ?_
          rintro _ w ⟨rfl, HS⟩
          replace HS := HS.o1
          refine W.nil (At.blockEnd (At.next (V.region (W.mv rfl (W.r (X.add rfl rfl) rfl (W.as rfl (W.nil ?_)))))))
          replace HS := HS.pm [2, 0, 3, 4, 5, 6, 7, 8, 9, 10, 11, 1, 12]
          replace HS := signalmanlaw15_pair.close trivial HS
          replace HS := HS.pk [0, 2] [1]
          exact At.round kq13 (by omega) (w64 (x11 + 1), ({ a := (t21.2, x12.a.2), way := (x12.way.1, x12.way.2), heard := (x12.heard.1, x12.heard.2), said := (x12.said.1, x12.said.2), downs := x12.downs } : signalmanlaw15_pair)) ⟨rfl, rfl, rfl, rfl, rfl, trivial⟩ ⟨HS, H, by omega⟩
        · replace H := ite_f c15 H
          refine V.condF (sb (decide_eq_false c15)) (V.exit (At.thenExit (At.thenExit (At.blockExit (At.next (V.seq (V.region (W.mv rfl ?_))))))))
          obtain ⟨t23, A24, H⟩ := bind_s H
          refine W.e (Y.cl Try.func32 (signalmanlaw15_pair_collect.calls A24 HS.j1)) rfl ?_
          rintro _ w ⟨rfl, HS⟩
          replace HS := HS.o1
          refine W.nx (V.seq (V.region (W.mv rfl (W.r (X.sub rfl rfl) rfl (W.r (X.and rfl rfl) rfl (W.r (X.cmp (decide ((iand .i64 (w64 (a0 - 1)) (65535)) ≤ 32767)) rfl rfl rfl rfl) rfl (W.as rfl (W.nx (V.seq (V.seq (V.region (W.as rfl (W.nx (V.block (V.loop (σ := Int × signalmanlaw15_pair) (fun kq (st : Int × signalmanlaw15_pair) w => match st with | (x25, x26) => Sep.St [signalmanlaw15_pair.at bt8_0 x26, R] w0 w ∧ signalmanlaw15_ArqStale.l2 kq a0 a1 a2 x25 x26 = some r ∧ kq ≤ kq13) (fun st => match st with | (x25, x26) => [(0, Value.int .i64 a0), (1, Value.int .i64 a1), (2, Value.slice sa2 a2.length sc2), (8, Value.pointer (some ⟨bt8_0, 0, none⟩)), (10, Value.bool (decide ((iand .i64 (w64 (a0 - 1)) (65535)) ≤ 32767))), (11, Value.int .i64 x25)]) kq13 (0, t23) ⟨rfl, rfl, rfl, rfl, rfl, rfl, trivial⟩ ⟨HS, H, Nat.le_refl _⟩ ?_)))))))))))))))
          rintro kq27 ⟨x25, x26⟩ w ⟨HS, H, hk28⟩
          cases kq27 with
          | zero => exact absurd H (by simp [signalmanlaw15_ArqStale.l2])
          | succ kq27 =>
            simp only [signalmanlaw15_ArqStale.l2] at H
            refine V.seq (V.seq (V.region (W.mv rfl (W.mv rfl (W.r (X.lenSl Try.underlying34 rfl) rfl (W.r (X.cmp (decide (x25 < (a2.length : Int))) rfl rfl rfl rfl) rfl (W.nx ?_)))))))
            by_cases c29 : x25 < (a2.length : Int)
            · replace H := ite_t c29 H
              refine V.condT (sb (decide_eq_true c29)) (V.skip (At.next (V.seq (V.block (V.seq (V.region (W.mv rfl (W.mv rfl ?_))))))))
              obtain ⟨c30, H⟩ := ite_n H
              obtain ⟨eb31, eo32, hh⟩ := (rdC.at 1 hr2 HS rfl).some (by decide) c30.1 c30.2; subst hh
              refine W.r (X.indexSl Try.underlying34 inf3 rfl rfl c30.1 c30.2) rfl (W.r (X.load Try.underlying3 rfl rfl ((rdC.at 1 hr2 HS rfl).cellI c30.1 c30.2)) rfl (W.r (X.and rfl rfl) rfl (W.as rfl (W.nx (V.seq (V.meet (σ := Bool) (fun st w => match st with | x33 => Sep.St [signalmanlaw15_pair.at bt8_0 x26, R] w0 w ∧ ∃ kf34 kl36, kf34 ≤ kq27 ∧ kl36 ≤ kq27 ∧ signalmanlaw15_ArqStale.j3 kf34 a0 a2 x25 x26 (signalmanlaw15_ArqStale.l2 kl36 a0 a1 a2) x33 = some r) (fun st => match st with | x33 => [(0, Value.int .i64 a0), (1, Value.int .i64 a1), (2, Value.slice (some ⟨eb31, eo32, none⟩) a2.length sc2), (8, Value.pointer (some ⟨bt8_0, 0, none⟩)), (10, Value.bool (decide ((iand .i64 (w64 (a0 - 1)) (65535)) ≤ 32767))), (11, Value.int .i64 x25), (12, Value.int .i64 (iand .i64 (a2.getD x25.toNat 0) (7))), (84, Value.bool x33)]) ?_ ?_))))))
              · refine V.region (W.mv rfl (W.r (X.cmp (decide ((iand .i64 (a2.getD x25.toNat 0) (7)) = 3)) rfl rfl rfl rfl) rfl (W.mv rfl ?_)))
                by_cases c54 : (iand .i64 (a2.getD x25.toNat 0) (7)) = 3
                · replace H := ite_t c54 H
                  refine W.want 82 rfl (sb (decide_eq_true c54)) (W.mv rfl (W.r (X.pickT (sb (decide_eq_true c54)) rfl) rfl (W.nil ?_)))
                  exact At.meet (decide ((iand .i64 (w64 (a0 - 1)) (65535)) ≤ 32767)) ⟨rfl, rfl, rfl, rfl, rfl, rfl, rfl, rfl, trivial⟩ ⟨HS, kq27, kq27, by omega, by omega, H⟩
                · replace H := ite_f c54 H
                  refine W.pass 82 rfl (sb (decide_eq_false c54)) rfl rfl (W.r (X.pickF (sb (decide_eq_false c54)) rfl) rfl (W.nil ?_))
                  exact At.meet false ⟨rfl, rfl, rfl, rfl, rfl, rfl, rfl, rfl, trivial⟩ ⟨HS, kq27, kq27, by omega, by omega, H⟩
              · rintro x33 w ⟨HS, kf34, kl36, hkkf34, hkkl36, H⟩
                unfold signalmanlaw15_ArqStale.j3 at H
                by_cases c37 : x33 = true
                · replace H := ite_t c37 H
                  refine V.condT (sb c37) (V.exit (At.thenExit (At.blockExit (At.next (V.region (W.mv rfl (W.r (X.add rfl rfl) rfl (W.as rfl (W.nil ?_)))))))))
                  exact At.round kl36 (by omega) (w64 (x25 + 1), x26) ⟨rfl, rfl, rfl, rfl, rfl, rfl, trivial⟩ ⟨HS, H, by omega⟩
                · replace H := ite_f c37 H
                  refine V.condF (sb (b_f c37)) (V.skip (At.next (V.seq (V.region (W.mv rfl (W.r (X.shr rfl rfl (by decide)) rfl (W.r (X.conv Try.underlying3 Try.underlying5 rfl) rfl (W.mv rfl (W.r (X.and rfl rfl) rfl (W.r (X.conv Try.underlying3 Try.underlying5 rfl) rfl (W.e (Y.ls (e := 5) (Value.int .u8) ([IntKind.u8.wrap (a0.fdiv (2 ^ (min (8 : Int).toNat IntKind.i64.bits))), IntKind.u8.wrap (iand .i64 a0 (255))] : List Int) HS rfl rfl (fun _ => by kernel_rfl)) rfl ?_)))))))))))
                  rintro _ w ⟨lb40, rfl, HS⟩
                  refine W.mv rfl (W.r (X.bd (Value.agg #[Value.int .i64 (iand .i64 (a2.getD x25.toNat 0) (7)), Value.int .i64 (0), Value.int .i64 (0), Value.bool false]) rfl (fun _ => by kernel_rfl)) rfl ?_)
                  obtain ⟨t41, A42, H⟩ := bind_s H
                  refine W.e (Y.cl Try.func25 (signalmanref6_CtlBytes.calls A42 HS.j0)) rfl ?_
                  rintro _ w ⟨at41_0, ct41_0, rfl, HS⟩
                  replace HS := HS.o1
                  obtain ⟨c43, H⟩ := ite_n H
                  refine W.e (Y.appF (Value.int .u8) (fun _ => rfl) 1 Try.underlying39 ap5 rfl HS rfl rfl rfl (rdC.at 0 row_rd HS rfl) (by omega) (by omega)) rfl ?_
                  rintro _ w ⟨ra44, rc45, rfl, HS⟩
                  refine W.as rfl (W.nx (V.seq (V.region (W.mv rfl (W.nc rfl ?_)))))
                  replace HS := HS.fr 2
                  obtain ⟨b0_48, b1_48, a2_48, c2_48, d2_48, a3_48, c3_48, d3_48, a4_48, c4_48, a5_48, c5_48, a6_48, c6_48, a7_48, c7_48, hi49, HS⟩ := signalmanlaw15_pair.open HS
                  refine W.fa fo59_0 rfl (W.r (X.indexArK 0 rfl Try.underlying54 inf26 rfl rfl (by decide) (by decide)) rfl (W.ld 0 HS Try.underlying26 rfl rfl rfl rfl (W.mv rfl ?_)))
                  obtain ⟨t50, A51, H⟩ := bind_s H
                  replace HS := HS.pm [1, 0, 2, 3, 4, 5, 6, 7, 8, 9, 10, 11, 12, 13]
                  refine W.e (Y.cl Try.func24 (arq_Arq_Input.calls A51 HS.j1 (rdC.part 11 row_rd rfl))) rfl ?_
                  rintro _ w ⟨rfl, HS⟩
                  replace HS := HS.o1
                  refine W.nx (V.region (W.mv rfl (W.nc rfl (W.fa fo59_0 rfl (W.r (X.indexArK 1 rfl Try.underlying54 inf26 rfl rfl (by decide) (by decide)) rfl (W.ld 1 HS Try.underlying26 rfl rfl rfl rfl (W.mv rfl ?_)))))))
                  obtain ⟨t52, A53, H⟩ := bind_s H
                  replace HS := HS.pm [2, 0, 1, 3, 4, 5, 6, 7, 8, 9, 10, 11, 12, 13]
                  refine W.e (Y.cl Try.func24 (arq_Arq_Input.calls A53 HS.j1 (rdC.part 11 row_rd rfl))) rfl ?_
                  rintro _ w ⟨rfl, HS⟩
                  replace HS := HS.o1
                  refine W.nil (At.blockEnd (At.next (V.region (W.mv rfl (W.r (X.add rfl rfl) rfl (W.as rfl (W.nil ?_)))))))
                  replace HS := HS.pm [2, 1, 0, 3, 4, 5, 6, 7, 8, 9, 10, 11, 12, 13]
                  replace HS := signalmanlaw15_pair.close trivial HS
                  replace HS := HS.pk [0, 3] [1, 2]
                  exact At.round kl36 (by omega) (w64 (x25 + 1), ({ a := (t50, t52), way := (x26.way.1, x26.way.2), heard := (x26.heard.1, x26.heard.2), said := (x26.said.1, x26.said.2), downs := x26.downs } : signalmanlaw15_pair)) ⟨rfl, rfl, rfl, rfl, rfl, rfl, trivial⟩ ⟨HS, H, by omega⟩
            · replace H := ite_f c29 H
              refine V.condF (sb (decide_eq_false c29)) (V.exit (At.thenExit (At.thenExit (At.blockExit (At.next (V.seq (V.region (W.mv rfl ?_))))))))
              obtain ⟨t55, A56, H⟩ := bind_s H
              refine W.e (Y.cl Try.func32 (signalmanlaw15_pair_collect.calls A56 HS.j1)) rfl ?_
              rintro _ w ⟨rfl, HS⟩
              replace HS := HS.o1
              refine W.nx (V.seq (V.seq (V.region (W.as rfl (W.nx (V.block (V.loop (σ := Int × signalmanlaw15_pair) (fun kq (st : Int × signalmanlaw15_pair) w => match st with | (x57, x58) => Sep.St [signalmanlaw15_pair.at bt8_0 x58, R] w0 w ∧ signalmanlaw15_ArqStale.l4 kq a1 x57 x58 = some r ∧ kq ≤ kq27) (fun st => match st with | (x57, x58) => [(1, Value.int .i64 a1), (8, Value.pointer (some ⟨bt8_0, 0, none⟩)), (14, Value.int .i64 x57)]) kq27 (0, t55) ⟨rfl, rfl, rfl, trivial⟩ ⟨HS, H, Nat.le_refl _⟩ ?_)))))))
              rintro kq59 ⟨x57, x58⟩ w ⟨HS, H, hk60⟩
              cases kq59 with
              | zero => exact absurd H (by simp [signalmanlaw15_ArqStale.l4])
              | succ kq59 =>
                simp only [signalmanlaw15_ArqStale.l4] at H
                refine V.seq (V.seq (V.region (W.mv rfl (W.r (X.cmp (decide (x57 < 300)) rfl rfl rfl rfl) rfl (W.nx ?_)))))
                by_cases c61 : x57 < 300
                · replace H := ite_t c61 H
                  refine V.condT (sb (decide_eq_true c61)) (V.skip (At.next (V.seq (V.block (V.seq (V.region (W.mv rfl ?_)))))))
                  obtain ⟨t62, A63, H⟩ := bind_s H
                  refine W.e (Y.cl Try.func33 (signalmanlaw15_pair_carry.calls A63 HS.j1)) rfl ?_
                  rintro _ w ⟨rfl, HS⟩
                  replace HS := HS.o1
                  refine W.nx (V.region (W.mv rfl ?_))
                  obtain ⟨t64, A65, H⟩ := bind_s H
                  refine W.e (Y.cl Try.func33 (signalmanlaw15_pair_carry.calls A65 HS.j1)) rfl ?_
                  rintro _ w ⟨rfl, HS⟩
                  replace HS := HS.o1
                  refine W.nil (At.blockEnd (At.next (V.region (W.mv rfl (W.r (X.add rfl rfl) rfl (W.as rfl (W.nil ?_)))))))
                  exact At.round kq59 (by omega) (w64 (x57 + 1), t64) ⟨rfl, rfl, rfl, trivial⟩ ⟨HS, H, by omega⟩
                · replace H := ite_f c61 H
                  refine V.condF (sb (decide_eq_false c61)) (V.exit (At.thenExit (At.thenExit (At.blockExit (At.next (V.seq (V.region (W.mv rfl (W.nc rfl ?_)))))))))
                  obtain ⟨b0_66, b1_66, a2_66, c2_66, d2_66, a3_66, c3_66, d3_66, a4_66, c4_66, a5_66, c5_66, a6_66, c6_66, a7_66, c7_66, hi67, HS⟩ := signalmanlaw15_pair.open HS
                  refine W.fa fo59_0 rfl (W.r (X.indexArK 0 rfl Try.underlying54 inf26 rfl rfl (by decide) (by decide)) rfl (W.ld 0 HS Try.underlying26 rfl rfl rfl rfl ?_))
                  replace HS := HS.fr 1
                  obtain ⟨b8_68, b9_68, b10_68, a11_68, c11_68, d11_68, a12_68, c12_68, hi69, HS⟩ := arq_Arq.open HS
                  obtain ⟨t70, A71, H⟩ := bind_s H
                  refine W.e (Y.cl Try.func37 (arq_Arq_Counts.calls A71 HS.j7)) rfl ?_
                  rintro _ w ⟨rfl, HS⟩
                  replace HS := HS.o7
                  refine W.mv rfl (W.r (X.extract rfl rfl) rfl (W.r (X.extract rfl rfl) rfl (W.r (X.extract rfl rfl) rfl (W.as rfl (W.as rfl (W.as rfl (W.nx (V.seq (V.region (W.mv rfl (W.nc rfl (W.fa fo59_4 rfl (W.ld 7 HS Try.underlying3 rfl rfl rfl rfl (W.r (X.cmp (decide (x58.downs = 0)) rfl rfl rfl rfl) rfl (W.mv rfl ?_)))))))))))))))
                  by_cases c72 : x58.downs = 0
                  · replace H := ite_t c72 H
                    refine W.want 135 rfl (sb (decide_eq_true c72)) (W.mv rfl (W.want 135 rfl (sb (decide_eq_true c72)) (W.nc rfl (W.want 135 rfl (sb (decide_eq_true c72)) (W.fa fo59_0 rfl (W.want 135 rfl (sb (decide_eq_true c72)) (W.r (X.indexArK 0 rfl Try.underlying54 inf26 rfl rfl (by decide) (by decide)) rfl (W.want 135 rfl (sb (decide_eq_true c72)) (W.ld 7 HS Try.underlying26 rfl rfl rfl rfl (W.want 135 rfl (sb (decide_eq_true c72)) ?_))))))))))
                    obtain ⟨t73, A74, H⟩ := bind_s H
                    refine W.e (Y.cl Try.func22 (arq_Arq_State.calls A74 HS.j7)) rfl ?_
                    rintro _ w ⟨rfl, HS⟩
                    replace HS := HS.o7
                    refine W.want 135 rfl (sb (decide_eq_true c72)) (W.r (X.cmp (decide (t73 = 2)) rfl rfl rfl rfl) rfl (W.r (X.pickT (sb (decide_eq_true c72)) rfl) rfl (W.mv rfl ?_)))
                    by_cases c75 : t73 = 2
                    · replace H := ite_t c75 H
                      refine W.want 144 rfl (sb (decide_eq_true c75)) (W.mv rfl (W.want 144 rfl (sb (decide_eq_true c75)) (W.nc rfl (W.want 144 rfl (sb (decide_eq_true c75)) (W.fa fo59_0 rfl (W.want 144 rfl (sb (decide_eq_true c75)) (W.r (X.indexArK 1 rfl Try.underlying54 inf26 rfl rfl (by decide) (by decide)) rfl (W.want 144 rfl (sb (decide_eq_true c75)) (W.ld 7 HS Try.underlying26 rfl rfl rfl rfl (W.want 144 rfl (sb (decide_eq_true c75)) ?_))))))))))
                      replace HS := HS.fr 8
                      obtain ⟨b8_76, b9_76, b10_76, a11_76, c11_76, d11_76, a12_76, c12_76, hi77, HS⟩ := arq_Arq.open HS
                      obtain ⟨t78, A79, H⟩ := bind_s H
                      refine W.e (Y.cl Try.func22 (arq_Arq_State.calls A79 HS.j7)) rfl ?_
                      rintro _ w ⟨rfl, HS⟩
                      replace HS := HS.o7
                      refine W.want 144 rfl (sb (decide_eq_true c75)) (W.r (X.cmp (decide (t78 = 2)) rfl rfl rfl rfl) rfl (W.r (X.pickT (sb (decide_eq_true c75)) rfl) rfl (W.mv rfl ?_)))
                      by_cases c80 : t78 = 2
                      · replace H := ite_t c80 H
                        refine W.want 153 rfl (sb (decide_eq_true c80)) (W.mv rfl (W.want 153 rfl (sb (decide_eq_true c80)) (W.mv rfl (W.want 153 rfl (sb (decide_eq_true c80)) (W.r (X.cmp (decide (t70.1 = a1)) rfl rfl rfl rfl) rfl (W.r (X.pickT (sb (decide_eq_true c80)) rfl) rfl (W.mv rfl ?_)))))))
                        by_cases c81 : t70.1 = a1
                        · replace H := ite_t c81 H
                          refine W.want 158 rfl (sb (decide_eq_true c81)) (W.mv rfl (W.want 158 rfl (sb (decide_eq_true c81)) (W.mv rfl (W.want 158 rfl (sb (decide_eq_true c81)) (W.r (X.cmp (decide (t70.2.1 = a1)) rfl rfl rfl rfl) rfl (W.r (X.pickT (sb (decide_eq_true c81)) rfl) rfl (W.mv rfl ?_)))))))
                          by_cases c82 : t70.2.1 = a1
                          · replace H := ite_t c82 H
                            refine W.want 163 rfl (sb (decide_eq_true c82)) (W.mv rfl (W.want 163 rfl (sb (decide_eq_true c82)) (W.r (X.cmp (decide (t70.2.2 = 0)) rfl rfl rfl rfl) rfl (W.r (X.pickT (sb (decide_eq_true c82)) rfl) rfl (W.mv rfl ?_)))))
                            by_cases c83 : t70.2.2 = 0
                            · replace H := ite_t c83 H
                              refine W.want 167 rfl (sb (decide_eq_true c83)) (W.mv rfl (W.want 167 rfl (sb (decide_eq_true c83)) (W.nc rfl (W.want 167 rfl (sb (decide_eq_true c83)) (W.fa fo59_2 rfl (W.want 167 rfl (sb (decide_eq_true c83)) (W.r (X.indexArK 1 rfl Try.underlying57 inf56 rfl rfl (by decide) (by decide)) rfl (W.want 167 rfl (sb (decide_eq_true c83)) (W.ld 14 HS Try.underlying56 rfl rfl rfl rfl (W.want 167 rfl (sb (decide_eq_true c83)) (W.r (X.lenSl Try.underlying56 rfl) rfl (W.want 167 rfl (sb (decide_eq_true c83)) (W.mv rfl (W.want 167 rfl (sb (decide_eq_true c83)) (W.r (X.cmp (decide ((x58.heard.2.length : Int) = a1)) rfl rfl rfl rfl) rfl (W.r (X.pickT (sb (decide_eq_true c83)) rfl) rfl (W.as rfl (W.nx (V.ret ?_)))))))))))))))))))
                              replace HS := HS.pk [23] [0, 1, 2, 3, 4, 5, 6, 7, 8, 9, 10, 11, 12, 13, 14, 15, 16, 17, 18, 19, 20, 21, 22]
                              cases H
                              exact At.ret1 rfl rfl ⟨_, rfl, rfl, HS⟩
                            · replace H := ite_f c83 H
                              refine W.pass 167 rfl (sb (decide_eq_false c83)) rfl rfl (W.pass 167 rfl (sb (decide_eq_false c83)) rfl rfl (W.pass 167 rfl (sb (decide_eq_false c83)) rfl rfl (W.pass 167 rfl (sb (decide_eq_false c83)) rfl rfl (W.pass 167 rfl (sb (decide_eq_false c83)) rfl rfl (W.pass 167 rfl (sb (decide_eq_false c83)) rfl rfl (W.pass 167 rfl (sb (decide_eq_false c83)) rfl rfl (W.pass 167 rfl (sb (decide_eq_false c83)) rfl rfl (W.r (X.pickF (sb (decide_eq_false c83)) rfl) rfl (W.as rfl (W.nx (V.ret ?_)))))))))))
                              replace HS := HS.pk [23] [0, 1, 2, 3, 4, 5, 6, 7, 8, 9, 10, 11, 12, 13, 14, 15, 16, 17, 18, 19, 20, 21, 22]
                              cases H
                              exact At.ret1 rfl rfl ⟨_, rfl, rfl, HS⟩
                          · replace H := ite_f c82 H
                            refine W.pass 163 rfl (sb (decide_eq_false c82)) rfl rfl (W.pass 163 rfl (sb (decide_eq_false c82)) rfl rfl (W.r (X.pickF (sb (decide_eq_false c82)) rfl) rfl (W.mv rfl (W.pass 167 rfl rfl rfl rfl (W.pass 167 rfl rfl rfl rfl (W.pass 167 rfl rfl rfl rfl (W.pass 167 rfl rfl rfl rfl (W.pass 167 rfl rfl rfl rfl (W.pass 167 rfl rfl rfl rfl (W.pass 167 rfl rfl rfl rfl (W.pass 167 rfl rfl rfl rfl (W.r (X.pickF rfl rfl) rfl (W.as rfl (W.nx (V.ret ?_)))))))))))))))
                            replace HS := HS.pk [23] [0, 1, 2, 3, 4, 5, 6, 7, 8, 9, 10, 11, 12, 13, 14, 15, 16, 17, 18, 19, 20, 21, 22]
                            cases H
                            exact At.ret1 rfl rfl ⟨_, rfl, rfl, HS⟩
                        · replace H := ite_f c81 H
                          refine W.pass 158 rfl (sb (decide_eq_false c81)) rfl rfl (W.pass 158 rfl (sb (decide_eq_false c81)) rfl rfl (W.pass 158 rfl (sb (decide_eq_false c81)) rfl rfl (W.r (X.pickF (sb (decide_eq_false c81)) rfl) rfl (W.mv rfl (W.pass 163 rfl rfl rfl rfl (W.pass 163 rfl rfl rfl rfl (W.r (X.pickF rfl rfl) rfl (W.mv rfl (W.pass 167 rfl rfl rfl rfl (W.pass 167 rfl rfl rfl rfl (W.pass 167 rfl rfl rfl rfl (W.pass 167 rfl rfl rfl rfl (W.pass 167 rfl rfl rfl rfl (W.pass 167 rfl rfl rfl rfl (W.pass 167 rfl rfl rfl rfl (W.pass 167 rfl rfl rfl rfl (W.r (X.pickF rfl rfl) rfl (W.as rfl (W.nx (V.ret ?_))))))))))))))))))))
                          replace HS := HS.pk [23] [0, 1, 2, 3, 4, 5, 6, 7, 8, 9, 10, 11, 12, 13, 14, 15, 16, 17, 18, 19, 20, 21, 22]
                          cases H
                          exact At.ret1 rfl rfl ⟨_, rfl, rfl, HS⟩
                      · replace H := ite_f c80 H
                        refine W.pass 153 rfl (sb (decide_eq_false c80)) rfl rfl (W.pass 153 rfl (sb (decide_eq_false c80)) rfl rfl (W.pass 153 rfl (sb (decide_eq_false c80)) rfl rfl (W.r (X.pickF (sb (decide_eq_false c80)) rfl) rfl (W.mv rfl (W.pass 158 rfl rfl rfl rfl (W.pass 158 rfl rfl rfl rfl (W.pass 158 rfl rfl rfl rfl (W.r (X.pickF rfl rfl) rfl (W.mv rfl (W.pass 163 rfl rfl rfl rfl (W.pass 163 rfl rfl rfl rfl (W.r (X.pickF rfl rfl) rfl (W.mv rfl (W.pass 167 rfl rfl rfl rfl (W.pass 167 rfl rfl rfl rfl (W.pass 167 rfl rfl rfl rfl (W.pass 167 rfl rfl rfl rfl (W.pass 167 rfl rfl rfl rfl (W.pass 167 rfl rfl rfl rfl (W.pass 167 rfl rfl rfl rfl (W.pass 167 rfl rfl rfl rfl (W.r (X.pickF rfl rfl) rfl (W.as rfl (W.nx (V.ret ?_)))))))))))))))))))))))))
                        replace HS := HS.pk [23] [0, 1, 2, 3, 4, 5, 6, 7, 8, 9, 10, 11, 12, 13, 14, 15, 16, 17, 18, 19, 20, 21, 22]
                        cases H
                        exact At.ret1 rfl rfl ⟨_, rfl, rfl, HS⟩
                    · replace H := ite_f c75 H
                      refine W.pass 144 rfl (sb (decide_eq_false c75)) rfl rfl (W.pass 144 rfl (sb (decide_eq_false c75)) rfl rfl (W.pass 144 rfl (sb (decide_eq_false c75)) rfl rfl (W.pass 144 rfl (sb (decide_eq_false c75)) rfl rfl (W.pass 144 rfl (sb (decide_eq_false c75)) rfl rfl (W.pass 144 rfl (sb (decide_eq_false c75)) rfl rfl (W.pass 144 rfl (sb (decide_eq_false c75)) rfl rfl (W.r (X.pickF (sb (decide_eq_false c75)) rfl) rfl (W.mv rfl (W.pass 153 rfl rfl rfl rfl (W.pass 153 rfl rfl rfl rfl (W.pass 153 rfl rfl rfl rfl (W.r (X.pickF rfl rfl) rfl (W.mv rfl (W.pass 158 rfl rfl rfl rfl (W.pass 158 rfl rfl rfl rfl (W.pass 158 rfl rfl rfl rfl (W.r (X.pickF rfl rfl) rfl (W.mv rfl (W.pass 163 rfl rfl rfl rfl (W.pass 163 rfl rfl rfl rfl (W.r (X.pickF rfl rfl) rfl (W.mv rfl (W.pass 167 rfl rfl rfl rfl (W.pass 167 rfl rfl rfl rfl (W.pass 167 rfl rfl rfl rfl (W.pass 167 rfl rfl rfl rfl (W.pass 167 rfl rfl rfl rfl (W.pass 167 rfl rfl rfl rfl (W.pass 167 rfl rfl rfl rfl (W.pass 167 rfl rfl rfl rfl (W.r (X.pickF rfl rfl) rfl (W.as rfl (W.nx (V.ret ?_))))))))))))))))))))))))))))))))))
                      replace HS := HS.pk [17] [0, 1, 2, 3, 4, 5, 6, 7, 8, 9, 10, 11, 12, 13, 14, 15, 16]
                      cases H
                      exact At.ret1 rfl rfl ⟨_, rfl, rfl, HS⟩
                  · replace H := ite_f c72 H
                    refine W.pass 135 rfl (sb (decide_eq_false c72)) rfl rfl (W.pass 135 rfl (sb (decide_eq_false c72)) rfl rfl (W.pass 135 rfl (sb (decide_eq_false c72)) rfl rfl (W.pass 135 rfl (sb (decide_eq_false c72)) rfl rfl (W.pass 135 rfl (sb (decide_eq_false c72)) rfl rfl (W.pass 135 rfl (sb (decide_eq_false c72)) rfl rfl (W.pass 135 rfl (sb (decide_eq_false c72)) rfl rfl (W.r (X.pickF (sb (decide_eq_false c72)) rfl) rfl (W.mv rfl (W.pass 144 rfl rfl rfl rfl (W.pass 144 rfl rfl rfl rfl (W.pass 144 rfl rfl rfl rfl (W.pass 144 rfl rfl rfl rfl (W.pass 144 rfl rfl rfl rfl (W.pass 144 rfl rfl rfl rfl (W.pass 144 rfl rfl rfl rfl (W.r (X.pickF rfl rfl) rfl (W.mv rfl (W.pass 153 rfl rfl rfl rfl (W.pass 153 rfl rfl rfl rfl (W.pass 153 rfl rfl rfl rfl (W.r (X.pickF rfl rfl) rfl (W.mv rfl (W.pass 158 rfl rfl rfl rfl (W.pass 158 rfl rfl rfl rfl (W.pass 158 rfl rfl rfl rfl (W.r (X.pickF rfl rfl) rfl (W.mv rfl (W.pass 163 rfl rfl rfl rfl (W.pass 163 rfl rfl rfl rfl (W.r (X.pickF rfl rfl) rfl (W.mv rfl (W.pass 167 rfl rfl rfl rfl (W.pass 167 rfl rfl rfl rfl (W.pass 167 rfl rfl rfl rfl (W.pass 167 rfl rfl rfl rfl (W.pass 167 rfl rfl rfl rfl (W.pass 167 rfl rfl rfl rfl (W.pass 167 rfl rfl rfl rfl (W.pass 167 rfl rfl rfl rfl ?_)))))))))))))))))))))))))))))))))))))))
                    refine W.r (X.pickF rfl rfl) rfl (W.as rfl (W.nx (V.ret ?_)))
                    replace HS := HS.pk [17] [0, 1, 2, 3, 4, 5, 6, 7, 8, 9, 10, 11, 12, 13, 14, 15, 16]
                    cases H
                    exact At.ret1 rfl rfl ⟨_, rfl, rfl, HS⟩

def signalmanlaw15_ArqStale.Pure : Prop := ∀ (a0 : Int) (a1 : Int) (a2 : List Int), (Lit.int .i64 a0).wf = true → (Lit.int .i64 a1).wf = true → (∀ z ∈ a2, (Lit.int .i64 z).wf = true) → (a2.length : Int) ≤ 9223372036854775807 → ∃ k, signalmanlaw15_ArqStale.f k a0 a1 a2 = some true
end Go.Proofs.Ytnlcafmkmfnobaa

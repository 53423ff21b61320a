/- ArqWindows: the functions that its law reaches, as plain functions, and that the machine's calls come to what these say. Conditions: those that stand at each. -/
import Derived.Test.YtnlcafmkmfnobaaRunArqWindowsP2
set_option linter.all false
set_option maxRecDepth 100000
set_option maxHeartbeats 4000000
namespace Go.Proofs.Ytnlcafmkmfnobaa
open Go.RowKit Go.Proofs.Ytnlcafmkmfnobaa.Sep Go.Proofs.Ytnlcafmkmfnobaa.Walk
/-! ### (*signalman/signalmanlaw15.pair).collect: function 32 -/
mutual
def signalmanlaw15_pair_collect.l0 : Nat → Int → signalmanlaw15_pair → Option signalmanlaw15_pair
  | 0, _, _ => none
  | k + 1, x2, x3 => (if x2 < 2 then (if 0 ≤ x2 ∧ x2 < 2 then (if x2 = 0 then ((arq_Arq_Output.f x3.a.1).bind fun t80 => (if (x3.way.1.length : Int) + t80.1.length ≤ 1099511627776 then (signalmanlaw15_pair_collect.j1 k x2 (signalmanlaw15_pair_collect.l0 k) ({ a := (t80.2, x3.a.2), way := (x3.way.1 ++ t80.1, x3.way.2), heard := (x3.heard.1, x3.heard.2), said := (x3.said.1, x3.said.2), downs := x3.downs } : signalmanlaw15_pair)) else none)) else ((arq_Arq_Output.f x3.a.2).bind fun t86 => (if (x3.way.2.length : Int) + t86.1.length ≤ 1099511627776 then (signalmanlaw15_pair_collect.j1 k x2 (signalmanlaw15_pair_collect.l0 k) ({ a := (x3.a.1, t86.2), way := (x3.way.1, x3.way.2 ++ t86.1), heard := (x3.heard.1, x3.heard.2), said := (x3.said.1, x3.said.2), downs := x3.downs } : signalmanlaw15_pair)) else none))) else none) else some x3)
def signalmanlaw15_pair_collect.l2 : Nat → Int → (Int → signalmanlaw15_pair → Option signalmanlaw15_pair) → signalmanlaw15_pair → Option signalmanlaw15_pair
  | 0, _, _, _ => none
  | k + 1, x2, Lq9, x10 => (if 0 ≤ x2 ∧ x2 < 2 then (if x2 = 0 then ((arq_Arq_Recv.f x10.a.1).bind fun t71 => (signalmanlaw15_pair_collect.j3 k x2 Lq9 (signalmanlaw15_pair_collect.l2 k x2 Lq9) ({ a := (t71.2.2, x10.a.2), way := (x10.way.1, x10.way.2), heard := (x10.heard.1, x10.heard.2), said := (x10.said.1, x10.said.2), downs := x10.downs } : signalmanlaw15_pair) t71.1 t71.2.1)) else ((arq_Arq_Recv.f x10.a.2).bind fun t74 => (signalmanlaw15_pair_collect.j3 k x2 Lq9 (signalmanlaw15_pair_collect.l2 k x2 Lq9) ({ a := (x10.a.1, t74.2.2), way := (x10.way.1, x10.way.2), heard := (x10.heard.1, x10.heard.2), said := (x10.said.1, x10.said.2), downs := x10.downs } : signalmanlaw15_pair) t74.1 t74.2.1))) else none)
def signalmanlaw15_pair_collect.l5 : Nat → Int → (Int → signalmanlaw15_pair → Option signalmanlaw15_pair) → (List Int) → Int → signalmanlaw15_pair → Option signalmanlaw15_pair
  | 0, _, _, _, _, _ => none
  | k + 1, x2, Lq45, x43, x47, x48 => (if x47 < (x43.length : Int) then (if 0 ≤ x47 ∧ x47 < (x43.length : Int) then (if (x43.getD x47.toNat 0) = 1 then (signalmanlaw15_pair_collect.l5 k x2 Lq45 x43 (w64 (x47 + 1)) x48) else (signalmanlaw15_pair_collect.l5 k x2 Lq45 x43 (w64 (x47 + 1)) ({ a := (x48.a.1, x48.a.2), way := (x48.way.1, x48.way.2), heard := (x48.heard.1, x48.heard.2), said := (x48.said.1, x48.said.2), downs := w64 (x48.downs + 1) } : signalmanlaw15_pair))) else none) else (Lq45 (w64 (x2 + 1)) x48))
def signalmanlaw15_pair_collect.j4 (k : Nat) (x2 : Int) (Lq45 : Int → signalmanlaw15_pair → Option signalmanlaw15_pair) (x40 : signalmanlaw15_pair) (x43 : List Int) : Option signalmanlaw15_pair := (signalmanlaw15_pair_collect.l5 k x2 Lq45 x43 0 x40)
def signalmanlaw15_pair_collect.j3 (k : Nat) (x2 : Int) (Lq19 : Int → signalmanlaw15_pair → Option signalmanlaw15_pair) (Lq20 : signalmanlaw15_pair → Option signalmanlaw15_pair) (x13 : signalmanlaw15_pair) (x16 : List Int) (x17 : Bool) : Option signalmanlaw15_pair := (if x17 = true then (if 0 ≤ x2 ∧ x2 < 2 then (if x2 = 0 then (if (x13.heard.1.length : Int) + (([x16] : List (List Int))).length ≤ 1099511627776 then (Lq20 ({ a := (x13.a.1, x13.a.2), way := (x13.way.1, x13.way.2), heard := (x13.heard.1 ++ ([x16] : List (List Int)), x13.heard.2), said := (x13.said.1, x13.said.2), downs := x13.downs } : signalmanlaw15_pair)) else none) else (if (x13.heard.2.length : Int) + (([x16] : List (List Int))).length ≤ 1099511627776 then (Lq20 ({ a := (x13.a.1, x13.a.2), way := (x13.way.1, x13.way.2), heard := (x13.heard.1, x13.heard.2 ++ ([x16] : List (List Int))), said := (x13.said.1, x13.said.2), downs := x13.downs } : signalmanlaw15_pair)) else none)) else none) else (if 0 ≤ x2 ∧ x2 < 2 then (if x2 = 0 then ((arq_Arq_Inds.f x13.a.1).bind fun t62 => (signalmanlaw15_pair_collect.j4 k x2 Lq19 ({ a := (t62.2, x13.a.2), way := (x13.way.1, x13.way.2), heard := (x13.heard.1, x13.heard.2), said := (x13.said.1, x13.said.2), downs := x13.downs } : signalmanlaw15_pair) t62.1)) else ((arq_Arq_Inds.f x13.a.2).bind fun t65 => (signalmanlaw15_pair_collect.j4 k x2 Lq19 ({ a := (x13.a.1, t65.2), way := (x13.way.1, x13.way.2), heard := (x13.heard.1, x13.heard.2), said := (x13.said.1, x13.said.2), downs := x13.downs } : signalmanlaw15_pair) t65.1))) else none))
def signalmanlaw15_pair_collect.j1 (k : Nat) (x2 : Int) (Lq9 : Int → signalmanlaw15_pair → Option signalmanlaw15_pair) (x7 : signalmanlaw15_pair) : Option signalmanlaw15_pair := (signalmanlaw15_pair_collect.l2 k x2 Lq9 x7)
end
def signalmanlaw15_pair_collect.f (k : Nat) (a0 : signalmanlaw15_pair) : Option signalmanlaw15_pair := (signalmanlaw15_pair_collect.l0 k 0 a0)
theorem signalmanlaw15_pair_collect.calls {k : Nat} {a0 : signalmanlaw15_pair} {R : As} {w0 w : World} {b0 : Nat} {r : signalmanlaw15_pair} (H : signalmanlaw15_pair_collect.f k a0 = some r) (HS : Sep.St [signalmanlaw15_pair.at b0 a0, R] w0 w)  : Calls Try.prog 32 #[Value.pointer (some ⟨b0, 0, none⟩)] w (Ret fun u w => u = Value.tuple #[] ∧ Sep.St [signalmanlaw15_pair.at b0 r, R] w0 w) := by
  unfold signalmanlaw15_pair_collect.f at H
  refine calls_enter Try.func32 rfl rfl ?_
  have H : _ = some r := H
  refine V.seq (V.region (W.as rfl (W.nx (V.block (V.loop (σ := Int × signalmanlaw15_pair) (fun kq (st : Int × signalmanlaw15_pair) w => match st with | (x2, x3) => Sep.St [signalmanlaw15_pair.at b0 x3, R] w0 w ∧ signalmanlaw15_pair_collect.l0 kq x2 x3 = some r ∧ kq ≤ k) (fun st => match st with | (x2, x3) => [(0, Value.pointer (some ⟨b0, 0, none⟩)), (2, Value.int .i64 x2)]) k (0, a0) ⟨rfl, rfl, trivial⟩ ⟨HS, H, Nat.le_refl _⟩ ?_)))))
  rintro kq4 ⟨x2, x3⟩ w ⟨HS, H, hk5⟩
  cases kq4 with
  | zero => exact absurd H (by simp [signalmanlaw15_pair_collect.l0])
  | succ kq4 =>
    simp only [signalmanlaw15_pair_collect.l0] at H
    refine V.seq (V.seq (V.region (W.mv rfl (W.r (X.cmp (decide (x2 < 2)) rfl rfl rfl rfl) rfl (W.nx ?_)))))
    by_cases c6 : x2 < 2
    · replace H := ite_t c6 H
      refine V.condT (sb (decide_eq_true c6)) (V.skip (At.next (V.seq (V.block (V.meet (σ := signalmanlaw15_pair) (fun st w => match st with | x7 => Sep.St [signalmanlaw15_pair.at b0 x7, R] w0 w ∧ ∃ kf8, kf8 ≤ kq4 ∧ signalmanlaw15_pair_collect.j1 kf8 x2 (signalmanlaw15_pair_collect.l0 kf8) x7 = some r) (fun st => match st with | x7 => [(0, Value.pointer (some ⟨b0, 0, none⟩)), (2, Value.int .i64 x2)]) ?_ ?_)))))
      · obtain ⟨b0_76, b1_76, a2_76, c2_76, d2_76, a3_76, c3_76, d3_76, a4_76, c4_76, a5_76, c5_76, a6_76, c6_76, a7_76, c7_76, hi77, HS⟩ := signalmanlaw15_pair.open HS
        obtain ⟨c78, H⟩ := ite_n H
        by_cases c79 : x2 = 0
        · replace H := ite_t c79 H
          refine V.dr [14, 15, 19] [18] [(11, Value.pointer (some ⟨b0, 0, none⟩)), (12, Value.int .i64 x2), (13, Value.pointer (some ⟨b0, 0, none⟩)), (14, Value.int .i64 x2), (15, Value.pointer (some ⟨b0, 0, none⟩)), (16, Value.pointer (some ⟨b0, 0 + 2, none⟩)), (17, Value.pointer (some ⟨b0, 0 + 2 + 0 * 1, none⟩)), (18, Value.slice a2_76 x3.way.1.length c2_76), (19, Value.pointer (some ⟨b0, 0, none⟩)), (20, Value.int .i64 x2), (21, Value.pointer (some ⟨b0, 0, none⟩)), (22, Value.pointer (some ⟨b0, 0 + 0, none⟩)), (23, Value.pointer (some ⟨b0, 0 + 0 + 0 * 1, none⟩)), (24, Value.pointer (some ⟨b0_76, 0, none⟩)), (27, Value.pointer (some ⟨b0, 0, none⟩)), (28, Value.pointer (some ⟨b0, 0 + 2, none⟩))] mo HS ?_
          refine T.ev [(24, _)] [18] [8, 9, 10, 11, 12, 13] ⟨rfl, trivial⟩ ⟨.mv 0, .mv 2, .mv 0, .mv 2, .nc 13, .fa 15 fo59_1, .n2 14 16 rfl rfl rfl (fun w HS => X.indexArK 0 c79 Try.underlying55 inf30 rfl rfl c78.1 c78.2), .ld 17 0 Try.underlying30, .mv 0, .mv 2, .nc 19, .fa 21 fo59_0, .n2 20 22 rfl rfl rfl (fun w HS => X.indexArK 0 c79 Try.underlying54 inf26 rfl rfl c78.1 c78.2), .ld 23 0 Try.underlying26, .nc 11, .fa 27 fo59_1, trivial⟩ rfl (fun w HS => ?_)
          obtain ⟨t80, A81, H⟩ := bind_s H
          replace HS := HS.pm [1, 0, 2, 3, 4, 5, 6, 7, 8, 9, 10, 11]
          refine ⟨_, Y.cl Try.func20 (arq_Arq_Output.calls A81 HS.j1), ?_⟩
          rintro _ w ⟨at80_0, ct80_0, dt80_0, rfl, HS⟩
          replace HS := HS.o3
          refine T.nw HS ?_
          refine T.ev [(18, _), (25, _)] [] [2, 3, 4, 5, 6, 7] ⟨rfl, rfl, trivial⟩ ⟨.mv 0, .mv 2, .mv 0, .mv 2, .nc 13, .fa 15 fo59_1, .n2 14 16 rfl rfl rfl (fun w HS => X.indexArK 0 c79 Try.underlying55 inf30 rfl rfl c78.1 c78.2), .ld 17 3 Try.underlying30, .nc 11, .fa 27 fo59_1, trivial⟩ rfl (fun w HS => ?_)
          obtain ⟨c82, H⟩ := ite_n H
          refine ⟨_, Y.app (xs := x3.way.1) (ys := t80.1) 5 Try.underlying30 ap39 rfl (by decide) HS rfl rfl rfl (rdC.at 0 row_rd HS rfl) (St.tie_one 1 HS rfl) (by omega) (by omega), ?_⟩
          rintro _ w ⟨ra83, rc84, rfl, HS⟩
          replace HS := HS.front 6 rfl
          replace HS := St.tie_app 2 HS rfl
          refine T.nm [(26, Value.slice ra83 (x3.way.1 ++ t80.1).length rc84), (29, Value.pointer (some ⟨b0, 0 + 2 + 0 * 1, none⟩))] HS ⟨.inl ⟨rfl, rfl⟩, ⟨.inr ⟨by decide, rfl⟩, trivial⟩⟩ ?_
          refine T.ev [(26, _), (29, _)] [] [0, 1, 16, 17, 18] ⟨rfl, rfl, trivial⟩ ⟨.mv 0, .mv 2, .nc 11, .fa 27 fo59_1, .n2 12 28 rfl rfl rfl (fun w HS => X.indexArK 0 c79 Try.underlying55 inf30 rfl rfl c78.1 c78.2), trivial⟩ rfl (fun w HS => ?_)
          refine ⟨_, Y.storeAt 4 HS rfl inf30 rfl rfl rfl rfl rfl rfl, ?_⟩
          rintro _ w HS
          refine T.nn HS ?_
          refine T.fn [(0, _), (2, _)] ⟨rfl, rfl, trivial⟩ trivial (fun w HS => ?_)
          replace HS := HS.pm [4, 3, 5, 6, 0, 7, 8, 9, 10, 11, 12, 1, 2, 13]
          replace HS := signalmanlaw15_pair.close trivial HS
          replace HS := HS.pk [0, 3] [1, 2]
          exact At.meet (({ a := (t80.2, x3.a.2), way := (x3.way.1 ++ t80.1, x3.way.2), heard := (x3.heard.1, x3.heard.2), said := (x3.said.1, x3.said.2), downs := x3.downs } : signalmanlaw15_pair)) ⟨rfl, rfl, trivial⟩ ⟨HS, kq4, by omega, H⟩
        · replace H := ite_f c79 H
          have hk85 : x2 = 1 := by omega
          refine V.dr [14, 15, 19] [18] [(11, Value.pointer (some ⟨b0, 0, none⟩)), (12, Value.int .i64 x2), (13, Value.pointer (some ⟨b0, 0, none⟩)), (14, Value.int .i64 x2), (15, Value.pointer (some ⟨b0, 0, none⟩)), (16, Value.pointer (some ⟨b0, 0 + 2, none⟩)), (17, Value.pointer (some ⟨b0, 0 + 2 + 1 * 1, none⟩)), (18, Value.slice a3_76 x3.way.2.length c3_76), (19, Value.pointer (some ⟨b0, 0, none⟩)), (20, Value.int .i64 x2), (21, Value.pointer (some ⟨b0, 0, none⟩)), (22, Value.pointer (some ⟨b0, 0 + 0, none⟩)), (23, Value.pointer (some ⟨b0, 0 + 0 + 1 * 1, none⟩)), (24, Value.pointer (some ⟨b1_76, 0, none⟩)), (27, Value.pointer (some ⟨b0, 0, none⟩)), (28, Value.pointer (some ⟨b0, 0 + 2, none⟩))] mo HS ?_
          refine T.ev [(24, _)] [18] [8, 9, 10, 11, 12, 13] ⟨rfl, trivial⟩ ⟨.mv 0, .mv 2, .mv 0, .mv 2, .nc 13, .fa 15 fo59_1, .n2 14 16 rfl rfl rfl (fun w HS => X.indexArK 1 hk85 Try.underlying55 inf30 rfl rfl c78.1 c78.2), .ld 17 0 Try.underlying30, .mv 0, .mv 2, .nc 19, .fa 21 fo59_0, .n2 20 22 rfl rfl rfl (fun w HS => X.indexArK 1 hk85 Try.underlying54 inf26 rfl rfl c78.1 c78.2), .ld 23 0 Try.underlying26, .nc 11, .fa 27 fo59_1, trivial⟩ rfl (fun w HS => ?_)
          obtain ⟨t86, A87, H⟩ := bind_s H
          replace HS := HS.pm [2, 0, 1, 3, 4, 5, 6, 7, 8, 9, 10, 11]
          refine ⟨_, Y.cl Try.func20 (arq_Arq_Output.calls A87 HS.j1), ?_⟩
          rintro _ w ⟨at86_0, ct86_0, dt86_0, rfl, HS⟩
          replace HS := HS.o3
          refine T.nw HS ?_
          refine T.ev [(18, _), (25, _)] [] [2, 3, 4, 5, 6, 7] ⟨rfl, rfl, trivial⟩ ⟨.mv 0, .mv 2, .mv 0, .mv 2, .nc 13, .fa 15 fo59_1, .n2 14 16 rfl rfl rfl (fun w HS => X.indexArK 1 hk85 Try.underlying55 inf30 rfl rfl c78.1 c78.2), .ld 17 3 Try.underlying30, .nc 11, .fa 27 fo59_1, trivial⟩ rfl (fun w HS => ?_)
          obtain ⟨c88, H⟩ := ite_n H
          refine ⟨_, Y.app (xs := x3.way.2) (ys := t86.1) 7 Try.underlying30 ap39 rfl (by decide) HS rfl rfl rfl (rdC.at 0 row_rd HS rfl) (St.tie_one 1 HS rfl) (by omega) (by omega), ?_⟩
          rintro _ w ⟨ra89, rc90, rfl, HS⟩
          replace HS := HS.front 8 rfl
          replace HS := St.tie_app 2 HS rfl
          refine T.nm [(26, Value.slice ra89 (x3.way.2 ++ t86.1).length rc90), (29, Value.pointer (some ⟨b0, 0 + 2 + 1 * 1, none⟩))] HS ⟨.inl ⟨rfl, rfl⟩, ⟨.inr ⟨by decide, rfl⟩, trivial⟩⟩ ?_
          refine T.ev [(26, _), (29, _)] [] [0, 1, 16, 17, 18] ⟨rfl, rfl, trivial⟩ ⟨.mv 0, .mv 2, .nc 11, .fa 27 fo59_1, .n2 12 28 rfl rfl rfl (fun w HS => X.indexArK 1 hk85 Try.underlying55 inf30 rfl rfl c78.1 c78.2), trivial⟩ rfl (fun w HS => ?_)
          refine ⟨_, Y.storeAt 4 HS rfl inf30 rfl rfl rfl rfl rfl rfl, ?_⟩
          rintro _ w HS
          refine T.nn HS ?_
          refine T.fn [(0, _), (2, _)] ⟨rfl, rfl, trivial⟩ trivial (fun w HS => ?_)
          replace HS := HS.pm [4, 5, 3, 6, 7, 8, 0, 9, 10, 11, 12, 1, 2, 13]
          replace HS := signalmanlaw15_pair.close trivial HS
          replace HS := HS.pk [0, 3] [1, 2]
          exact At.meet (({ a := (x3.a.1, t86.2), way := (x3.way.1, x3.way.2 ++ t86.1), heard := (x3.heard.1, x3.heard.2), said := (x3.said.1, x3.said.2), downs := x3.downs } : signalmanlaw15_pair)) ⟨rfl, rfl, trivial⟩ ⟨HS, kq4, by omega, H⟩
      · rintro x7 w ⟨HS, kf8, hkkf8, H⟩
        unfold signalmanlaw15_pair_collect.j1 at H
        refine V.seq (V.block (V.loop (σ := signalmanlaw15_pair) (fun kq (st : signalmanlaw15_pair) w => match st with | x10 => Sep.St [signalmanlaw15_pair.at b0 x10, R] w0 w ∧ signalmanlaw15_pair_collect.l2 kq x2 (signalmanlaw15_pair_collect.l0 kf8) x10 = some r ∧ kq ≤ kf8) (fun st => match st with | x10 => [(0, Value.pointer (some ⟨b0, 0, none⟩)), (2, Value.int .i64 x2)]) kf8 x7 ⟨rfl, rfl, trivial⟩ ⟨HS, H, Nat.le_refl _⟩ ?_))
        rintro kq11 x10 w ⟨HS, H, hk12⟩
        cases kq11 with
        | zero => exact absurd H (by simp [signalmanlaw15_pair_collect.l2])
        | succ kq11 =>
          simp only [signalmanlaw15_pair_collect.l2] at H
          refine V.block (V.meet (σ := signalmanlaw15_pair × Option Addr × Nat × List Int × Bool) (fun st w => match st with | (x13, ra14, rc15, x16, x17) => Sep.St [fsl 1 (.slice ra14 x16.length rc15) x16.length (x16.map (Value.int .u8)), signalmanlaw15_pair.at b0 x13, R] w0 w ∧ ∃ kf18, kf18 ≤ kq11 ∧ signalmanlaw15_pair_collect.j3 kf18 x2 (signalmanlaw15_pair_collect.l0 kf8) (signalmanlaw15_pair_collect.l2 kf18 x2 (signalmanlaw15_pair_collect.l0 kf8)) x13 x16 x17 = some r) (fun st => match st with | (x13, ra14, rc15, x16, x17) => [(0, Value.pointer (some ⟨b0, 0, none⟩)), (2, Value.int .i64 x2), (3, Value.slice ra14 x16.length rc15), (4, Value.bool x17)]) ?_ ?_)
          · refine V.region (W.mv rfl (W.mv rfl (W.nc rfl ?_)))
            obtain ⟨b0_67, b1_67, a2_67, c2_67, d2_67, a3_67, c3_67, d3_67, a4_67, c4_67, a5_67, c5_67, a6_67, c6_67, a7_67, c7_67, hi68, HS⟩ := signalmanlaw15_pair.open HS
            refine W.fa fo59_0 rfl ?_
            obtain ⟨c69, H⟩ := ite_n H
            by_cases c70 : x2 = 0
            · replace H := ite_t c70 H
              refine W.r (X.indexArK 0 c70 Try.underlying54 inf26 rfl rfl c69.1 c69.2) rfl (W.ld 0 HS Try.underlying26 rfl rfl rfl rfl ?_)
              obtain ⟨t71, A72, H⟩ := bind_s H
              replace HS := HS.pm [1, 0, 2, 3, 4, 5, 6, 7, 8, 9, 10, 11]
              refine W.e (Y.cl Try.func31 (arq_Arq_Recv.calls A72 HS.j1)) rfl ?_
              rintro _ w ⟨at71_0, ct71_0, rfl, HS⟩
              replace HS := HS.o2
              refine W.mv rfl (W.r (X.extract rfl rfl) rfl (W.r (X.extract rfl rfl) rfl (W.as rfl (W.as rfl (W.nil ?_)))))
              replace HS := HS.pm [2, 1, 3, 4, 5, 6, 7, 8, 9, 10, 11, 0, 12]
              replace HS := signalmanlaw15_pair.close trivial HS
              replace HS := HS.pk [1, 0, 2] []
              exact At.meet (({ a := (t71.2.2, x10.a.2), way := (x10.way.1, x10.way.2), heard := (x10.heard.1, x10.heard.2), said := (x10.said.1, x10.said.2), downs := x10.downs } : signalmanlaw15_pair), at71_0, ct71_0, t71.1, t71.2.1) ⟨rfl, rfl, rfl, rfl, trivial⟩ ⟨HS, kq11, by omega, H⟩
            · replace H := ite_f c70 H
              have hk73 : x2 = 1 := by omega
              refine W.r (X.indexArK 1 hk73 Try.underlying54 inf26 rfl rfl c69.1 c69.2) rfl (W.ld 0 HS Try.underlying26 rfl rfl rfl rfl ?_)
              obtain ⟨t74, A75, H⟩ := bind_s H
              replace HS := HS.pm [2, 0, 1, 3, 4, 5, 6, 7, 8, 9, 10, 11]
              refine W.e (Y.cl Try.func31 (arq_Arq_Recv.calls A75 HS.j1)) rfl ?_
              rintro _ w ⟨at74_0, ct74_0, rfl, HS⟩
              replace HS := HS.o2
              refine W.mv rfl (W.r (X.extract rfl rfl) rfl (W.r (X.extract rfl rfl) rfl (W.as rfl (W.as rfl (W.nil ?_)))))
              replace HS := HS.pm [2, 3, 1, 4, 5, 6, 7, 8, 9, 10, 11, 0, 12]
              replace HS := signalmanlaw15_pair.close trivial HS
              replace HS := HS.pk [1, 0, 2] []
              exact At.meet (({ a := (x10.a.1, t74.2.2), way := (x10.way.1, x10.way.2), heard := (x10.heard.1, x10.heard.2), said := (x10.said.1, x10.said.2), downs := x10.downs } : signalmanlaw15_pair), at74_0, ct74_0, t74.1, t74.2.1) ⟨rfl, rfl, rfl, rfl, trivial⟩ ⟨HS, kq11, by omega, H⟩
          · rintro ⟨x13, ra14, rc15, x16, x17⟩ w ⟨HS, kf18, hkkf18, H⟩
            unfold signalmanlaw15_pair_collect.j3 at H
            refine V.seq (V.seq (V.region (W.mv rfl (W.r (X.not rfl) rfl (W.nx ?_)))))
            by_cases c22 : x17 = true
            · replace H := ite_t c22 H
              refine V.condF (sb (n_t c22)) (V.skip (At.next ?_))
              replace HS := HS.front 1 rfl
              obtain ⟨b0_23, b1_23, a2_23, c2_23, d2_23, a3_23, c3_23, d3_23, a4_23, c4_23, a5_23, c5_23, a6_23, c6_23, a7_23, c7_23, hi24, HS⟩ := signalmanlaw15_pair.open HS
              obtain ⟨c25, H⟩ := ite_n H
              by_cases c26 : x2 = 0
              · replace H := ite_t c26 H
                refine V.dr [10, 11, 15] [14] [(42, Value.pointer (some ⟨b0, 0, none⟩)), (43, Value.int .i64 x2), (44, Value.pointer (some ⟨b0, 0, none⟩)), (45, Value.int .i64 x2), (46, Value.pointer (some ⟨b0, 0, none⟩)), (47, Value.pointer (some ⟨b0, 0 + 4, none⟩)), (48, Value.pointer (some ⟨b0, 0 + 4 + 0 * 1, none⟩)), (49, Value.slice a4_23 x13.heard.1.length c4_23), (50, Value.slice ra14 x16.length rc15), (51, Value.string (strOf x16)), (54, Value.pointer (some ⟨b0, 0, none⟩)), (55, Value.pointer (some ⟨b0, 0 + 4, none⟩))] mo HS ?_
                refine T.ev [(51, _)] [14] [8, 9] ⟨rfl, trivial⟩ ⟨.mv 0, .mv 2, .mv 0, .mv 2, .nc 44, .fa 46 fo59_2, .n2 45 47 rfl rfl rfl (fun w HS => X.indexArK 0 c26 Try.underlying57 inf56 rfl rfl c25.1 c25.2), .ld 48 0 Try.underlying56, .mv 3, .n1 50 rfl rfl (fun w HS => X.bytesStr Try.underlying39 Try.underlying5 Try.underlying9 rfl (rdC.at 11 fsl.rd HS rfl)), .nc 42, .fa 54 fo59_2, trivial⟩ rfl (fun w HS => ?_)
                refine ⟨_, Y.ls (e := 9) (fun x => Value.string (strOf x)) ([x16] : List (List Int)) HS rfl rfl (fun _ => by kernel_rfl), ?_⟩
                rintro _ w ⟨lb29, rfl, HS⟩
                refine T.nw HS ?_
                refine T.ev [(49, _), (52, _)] [] [2, 3, 4, 5, 6, 7] ⟨rfl, rfl, trivial⟩ ⟨.mv 0, .mv 2, .mv 0, .mv 2, .nc 44, .fa 46 fo59_2, .n2 45 47 rfl rfl rfl (fun w HS => X.indexArK 0 c26 Try.underlying57 inf56 rfl rfl c25.1 c25.2), .ld 48 1 Try.underlying56, .nc 42, .fa 54 fo59_2, trivial⟩ rfl (fun w HS => ?_)
                obtain ⟨c30, H⟩ := ite_n H
                refine ⟨_, Y.appF (fun x => Value.string (strOf x)) (fun _ => rfl) 8 Try.underlying56 ap9 rfl HS rfl rfl rfl (rdC.at 0 row_rd HS rfl) (by omega) (by omega), ?_⟩
                rintro _ w ⟨ra31, rc32, rfl, HS⟩
                refine T.nm [(53, Value.slice ra31 (x13.heard.1 ++ ([x16] : List (List Int))).length rc32), (56, Value.pointer (some ⟨b0, 0 + 4 + 0 * 1, none⟩))] HS ⟨.inl ⟨rfl, rfl⟩, ⟨.inr ⟨by decide, rfl⟩, trivial⟩⟩ ?_
                refine T.ev [(53, _), (56, _)] [] [0, 1, 12, 13, 14] ⟨rfl, rfl, trivial⟩ ⟨.mv 0, .mv 2, .nc 42, .fa 54 fo59_2, .n2 43 55 rfl rfl rfl (fun w HS => X.indexArK 0 c26 Try.underlying57 inf56 rfl rfl c25.1 c25.2), trivial⟩ rfl (fun w HS => ?_)
                refine ⟨_, Y.storeAt 1 HS rfl inf56 rfl rfl rfl rfl rfl rfl, ?_⟩
                rintro _ w HS
                refine T.nn HS ?_
                refine T.fn [(0, _), (2, _)] ⟨rfl, rfl, trivial⟩ trivial (fun w HS => ?_)
                refine At.blockEnd ?_
                replace HS := HS.pm [1, 2, 3, 4, 5, 6, 7, 8, 9, 10, 11, 0, 12, 13]
                replace HS := signalmanlaw15_pair.close trivial HS
                replace HS := HS.pk [0, 3] [1, 2]
                exact At.round kf18 (by omega) (({ a := (x13.a.1, x13.a.2), way := (x13.way.1, x13.way.2), heard := (x13.heard.1 ++ ([x16] : List (List Int)), x13.heard.2), said := (x13.said.1, x13.said.2), downs := x13.downs } : signalmanlaw15_pair)) ⟨rfl, rfl, trivial⟩ ⟨HS, H, by omega⟩
              · replace H := ite_f c26 H
                have hk33 : x2 = 1 := by omega
                refine V.dr [10, 11, 15] [14] [(42, Value.pointer (some ⟨b0, 0, none⟩)), (43, Value.int .i64 x2), (44, Value.pointer (some ⟨b0, 0, none⟩)), (45, Value.int .i64 x2), (46, Value.pointer (some ⟨b0, 0, none⟩)), (47, Value.pointer (some ⟨b0, 0 + 4, none⟩)), (48, Value.pointer (some ⟨b0, 0 + 4 + 1 * 1, none⟩)), (49, Value.slice a5_23 x13.heard.2.length c5_23), (50, Value.slice ra14 x16.length rc15), (51, Value.string (strOf x16)), (54, Value.pointer (some ⟨b0, 0, none⟩)), (55, Value.pointer (some ⟨b0, 0 + 4, none⟩))] mo HS ?_
                refine T.ev [(51, _)] [14] [8, 9] ⟨rfl, trivial⟩ ⟨.mv 0, .mv 2, .mv 0, .mv 2, .nc 44, .fa 46 fo59_2, .n2 45 47 rfl rfl rfl (fun w HS => X.indexArK 1 hk33 Try.underlying57 inf56 rfl rfl c25.1 c25.2), .ld 48 0 Try.underlying56, .mv 3, .n1 50 rfl rfl (fun w HS => X.bytesStr Try.underlying39 Try.underlying5 Try.underlying9 rfl (rdC.at 11 fsl.rd HS rfl)), .nc 42, .fa 54 fo59_2, trivial⟩ rfl (fun w HS => ?_)
                refine ⟨_, Y.ls (e := 9) (fun x => Value.string (strOf x)) ([x16] : List (List Int)) HS rfl rfl (fun _ => by kernel_rfl), ?_⟩
                rintro _ w ⟨lb36, rfl, HS⟩
                refine T.nw HS ?_
                refine T.ev [(49, _), (52, _)] [] [2, 3, 4, 5, 6, 7] ⟨rfl, rfl, trivial⟩ ⟨.mv 0, .mv 2, .mv 0, .mv 2, .nc 44, .fa 46 fo59_2, .n2 45 47 rfl rfl rfl (fun w HS => X.indexArK 1 hk33 Try.underlying57 inf56 rfl rfl c25.1 c25.2), .ld 48 1 Try.underlying56, .nc 42, .fa 54 fo59_2, trivial⟩ rfl (fun w HS => ?_)
                obtain ⟨c37, H⟩ := ite_n H
                refine ⟨_, Y.appF (fun x => Value.string (strOf x)) (fun _ => rfl) 9 Try.underlying56 ap9 rfl HS rfl rfl rfl (rdC.at 0 row_rd HS rfl) (by omega) (by omega), ?_⟩
                rintro _ w ⟨ra38, rc39, rfl, HS⟩
                refine T.nm [(53, Value.slice ra38 (x13.heard.2 ++ ([x16] : List (List Int))).length rc39), (56, Value.pointer (some ⟨b0, 0 + 4 + 1 * 1, none⟩))] HS ⟨.inl ⟨rfl, rfl⟩, ⟨.inr ⟨by decide, rfl⟩, trivial⟩⟩ ?_
                refine T.ev [(53, _), (56, _)] [] [0, 1, 12, 13, 14] ⟨rfl, rfl, trivial⟩ ⟨.mv 0, .mv 2, .nc 42, .fa 54 fo59_2, .n2 43 55 rfl rfl rfl (fun w HS => X.indexArK 1 hk33 Try.underlying57 inf56 rfl rfl c25.1 c25.2), trivial⟩ rfl (fun w HS => ?_)
                refine ⟨_, Y.storeAt 1 HS rfl inf56 rfl rfl rfl rfl rfl rfl, ?_⟩
                rintro _ w HS
                refine T.nn HS ?_
                refine T.fn [(0, _), (2, _)] ⟨rfl, rfl, trivial⟩ trivial (fun w HS => ?_)
                refine At.blockEnd ?_
                replace HS := HS.pm [1, 2, 3, 4, 5, 6, 7, 8, 9, 10, 11, 0, 12, 13]
                replace HS := signalmanlaw15_pair.close trivial HS
                replace HS := HS.pk [0, 3] [1, 2]
                exact At.round kf18 (by omega) (({ a := (x13.a.1, x13.a.2), way := (x13.way.1, x13.way.2), heard := (x13.heard.1, x13.heard.2 ++ ([x16] : List (List Int))), said := (x13.said.1, x13.said.2), downs := x13.downs } : signalmanlaw15_pair)) ⟨rfl, rfl, trivial⟩ ⟨HS, H, by omega⟩
            · replace H := ite_f c22 H
              refine V.condT (sb (n_f (b_f c22))) (V.exit (At.thenExit (At.blockPast rfl (At.thenExit (At.blockExit (At.next (V.meet (σ := signalmanlaw15_pair × Option Addr × Nat × List Int) (fun st w => match st with | (x40, ra41, rc42, x43) => Sep.St [row 3 1 (.slice ra41 x43.length rc42) x43.length (x43.map (Value.int .i64)), fsl 1 (.slice ra14 x16.length rc15) x16.length (x16.map (Value.int .u8)), signalmanlaw15_pair.at b0 x40, R] w0 w ∧ ∃ kf44, kf44 ≤ kf18 ∧ signalmanlaw15_pair_collect.j4 kf44 x2 (signalmanlaw15_pair_collect.l0 kf8) x40 x43 = some r) (fun st => match st with | (x40, ra41, rc42, x43) => [(0, Value.pointer (some ⟨b0, 0, none⟩)), (2, Value.int .i64 x2), (5, Value.slice ra41 x43.length rc42)]) ?_ ?_)))))))
              · refine V.region (W.mv rfl (W.mv rfl (W.nc rfl ?_)))
                replace HS := HS.front 1 rfl
                obtain ⟨b0_58, b1_58, a2_58, c2_58, d2_58, a3_58, c3_58, d3_58, a4_58, c4_58, a5_58, c5_58, a6_58, c6_58, a7_58, c7_58, hi59, HS⟩ := signalmanlaw15_pair.open HS
                refine W.fa fo59_0 rfl ?_
                obtain ⟨c60, H⟩ := ite_n H
                by_cases c61 : x2 = 0
                · replace H := ite_t c61 H
                  refine W.r (X.indexArK 0 c61 Try.underlying54 inf26 rfl rfl c60.1 c60.2) rfl (W.ld 0 HS Try.underlying26 rfl rfl rfl rfl ?_)
                  obtain ⟨t62, A63, H⟩ := bind_s H
                  replace HS := HS.pm [1, 0, 2, 3, 4, 5, 6, 7, 8, 9, 10, 11, 12]
                  refine W.e (Y.cl Try.func23 (arq_Arq_Inds.calls A63 HS.j1)) rfl ?_
                  rintro _ w ⟨at62_0, ct62_0, rfl, HS⟩
                  replace HS := HS.o2
                  refine W.as rfl (W.nil ?_)
                  replace HS := HS.pm [2, 1, 3, 4, 5, 6, 7, 8, 9, 10, 11, 0, 12, 13]
                  replace HS := signalmanlaw15_pair.close trivial HS
                  replace HS := HS.pk [1, 2, 0, 3] []
                  exact At.meet (({ a := (t62.2, x13.a.2), way := (x13.way.1, x13.way.2), heard := (x13.heard.1, x13.heard.2), said := (x13.said.1, x13.said.2), downs := x13.downs } : signalmanlaw15_pair), at62_0, ct62_0, t62.1) ⟨rfl, rfl, rfl, trivial⟩ ⟨HS, kf18, by omega, H⟩
                · replace H := ite_f c61 H
                  have hk64 : x2 = 1 := by omega
                  refine W.r (X.indexArK 1 hk64 Try.underlying54 inf26 rfl rfl c60.1 c60.2) rfl (W.ld 0 HS Try.underlying26 rfl rfl rfl rfl ?_)
                  obtain ⟨t65, A66, H⟩ := bind_s H
                  replace HS := HS.pm [2, 0, 1, 3, 4, 5, 6, 7, 8, 9, 10, 11, 12]
                  refine W.e (Y.cl Try.func23 (arq_Arq_Inds.calls A66 HS.j1)) rfl ?_
                  rintro _ w ⟨at65_0, ct65_0, rfl, HS⟩
                  replace HS := HS.o2
                  refine W.as rfl (W.nil ?_)
                  replace HS := HS.pm [2, 3, 1, 4, 5, 6, 7, 8, 9, 10, 11, 0, 12, 13]
                  replace HS := signalmanlaw15_pair.close trivial HS
                  replace HS := HS.pk [1, 2, 0, 3] []
                  exact At.meet (({ a := (x13.a.1, t65.2), way := (x13.way.1, x13.way.2), heard := (x13.heard.1, x13.heard.2), said := (x13.said.1, x13.said.2), downs := x13.downs } : signalmanlaw15_pair), at65_0, ct65_0, t65.1) ⟨rfl, rfl, rfl, trivial⟩ ⟨HS, kf18, by omega, H⟩
              · rintro ⟨x40, ra41, rc42, x43⟩ w ⟨HS, kf44, hkkf44, H⟩
                unfold signalmanlaw15_pair_collect.j4 at H
                refine V.seq (V.region (W.as rfl (W.nx (V.block (V.loop (σ := Int × signalmanlaw15_pair) (fun kq (st : Int × signalmanlaw15_pair) w => match st with | (x47, x48) => Sep.St [row 3 1 (.slice ra41 x43.length rc42) x43.length (x43.map (Value.int .i64)), fsl 1 (.slice ra14 x16.length rc15) x16.length (x16.map (Value.int .u8)), signalmanlaw15_pair.at b0 x48, R] w0 w ∧ signalmanlaw15_pair_collect.l5 kq x2 (signalmanlaw15_pair_collect.l0 kf8) x43 x47 x48 = some r ∧ kq ≤ kf44) (fun st => match st with | (x47, x48) => [(0, Value.pointer (some ⟨b0, 0, none⟩)), (2, Value.int .i64 x2), (5, Value.slice ra41 x43.length rc42), (6, Value.int .i64 x47)]) kf44 (0, x40) ⟨rfl, rfl, rfl, rfl, trivial⟩ ⟨HS, H, Nat.le_refl _⟩ ?_)))))
                rintro kq49 ⟨x47, x48⟩ w ⟨HS, H, hk50⟩
                cases kq49 with
                | zero => exact absurd H (by simp [signalmanlaw15_pair_collect.l5])
                | succ kq49 =>
                  simp only [signalmanlaw15_pair_collect.l5] at H
                  refine V.seq (V.seq (V.region (W.mv rfl (W.mv rfl (W.r (X.lenSl Try.underlying34 rfl) rfl (W.r (X.cmp (decide (x47 < (x43.length : Int))) rfl rfl rfl rfl) rfl (W.nx ?_)))))))
                  by_cases c51 : x47 < (x43.length : Int)
                  · replace H := ite_t c51 H
                    refine V.condT (sb (decide_eq_true c51)) (V.skip (At.next (V.seq (V.block (V.seq (V.region (W.mv rfl (W.mv rfl ?_))))))))
                    obtain ⟨c52, H⟩ := ite_n H
                    obtain ⟨eb53, eo54, hh⟩ := (rdC.at 0 row_rd HS rfl).some (by decide) c52.1 c52.2; subst hh
                    refine W.r (X.indexSl Try.underlying34 inf3 rfl rfl c52.1 c52.2) rfl (W.r (X.load Try.underlying3 rfl rfl ((rdC.at 0 row_rd HS rfl).cellI c52.1 c52.2)) rfl (W.r (X.cmp (!(decide ((x43.getD x47.toNat 0) = 1))) rfl rfl rfl rfl) rfl (W.nx ?_)))
                    by_cases c55 : (x43.getD x47.toNat 0) = 1
                    · replace H := ite_t c55 H
                      refine V.condF (sb (n_t (decide_eq_true c55))) (V.skip (At.blockEnd (At.next (V.region (W.mv rfl (W.r (X.add rfl rfl) rfl (W.as rfl (W.nil ?_))))))))
                      exact At.round kq49 (by omega) (w64 (x47 + 1), x48) ⟨rfl, rfl, rfl, rfl, trivial⟩ ⟨HS, H, by omega⟩
                    · replace H := ite_f c55 H
                      refine V.condT (sb (n_f (decide_eq_false c55))) (V.region (W.mv rfl (W.nc rfl ?_)))
                      replace HS := HS.front 2 rfl
                      obtain ⟨b0_56, b1_56, a2_56, c2_56, d2_56, a3_56, c3_56, d3_56, a4_56, c4_56, a5_56, c5_56, a6_56, c6_56, a7_56, c7_56, hi57, HS⟩ := signalmanlaw15_pair.open HS
                      refine W.fa fo59_4 rfl (W.ld 0 HS Try.underlying3 rfl rfl rfl rfl (W.r (X.add rfl rfl) rfl (W.nc rfl (W.fa fo59_4 rfl (W.st 0 HS inf3 fun w HS => ?_)))))
                      refine W.nil (At.blockEnd (At.next (V.region (W.mv rfl (W.r (X.add rfl rfl) rfl (W.as rfl (W.nil ?_)))))))
                      replace HS := signalmanlaw15_pair.close trivial HS
                      replace HS := HS.pk [1, 2, 0, 3] []
                      exact At.round kq49 (by omega) (w64 (x47 + 1), ({ a := (x48.a.1, x48.a.2), way := (x48.way.1, x48.way.2), heard := (x48.heard.1, x48.heard.2), said := (x48.said.1, x48.said.2), downs := w64 (x48.downs + 1) } : signalmanlaw15_pair)) ⟨rfl, rfl, rfl, rfl, trivial⟩ ⟨HS, H, by omega⟩
                  · replace H := ite_f c51 H
                    refine V.condF (sb (decide_eq_false c51)) (V.exit (At.thenExit (At.thenExit (At.blockExit (At.blockEnd (At.next (V.region (W.mv rfl (W.r (X.add rfl rfl) rfl (W.as rfl (W.nil ?_)))))))))))
                    replace HS := HS.pk [2, 3] [0, 1]
                    exact At.round kf8 (by omega) (w64 (x2 + 1), x48) ⟨rfl, rfl, trivial⟩ ⟨HS, H, by omega⟩
    · replace H := ite_f c6 H
      refine V.condF (sb (decide_eq_false c6)) (V.exit (At.thenExit (At.thenExit (At.blockExit ?_))))
      cases H
      exact At.end0 rfl ⟨_, rfl, rfl, HS⟩

/-! ### (*signalman/signalmanlaw15.pair).carry: function 33 -/
mutual
def signalmanlaw15_pair_carry.j3 (k : Nat)  (x13 : signalmanlaw15_pair) : Option signalmanlaw15_pair := ((signalmanlaw15_pair_collect.f k x13).bind fun t15 => some t15)
def signalmanlaw15_pair_carry.j2 (k : Nat) (a1 : Int) (x2 : Bool) (x8 : List Int) (x11 : signalmanlaw15_pair) : Option signalmanlaw15_pair := (if x2 = true then (signalmanlaw15_pair_carry.j3 k x11) else (if 0 ≤ w64 (1 - a1) ∧ w64 (1 - a1) < 2 then (if w64 (1 - a1) = 0 then ((arq_Arq_Input.f k x11.a.1 x8).bind fun t22 => (signalmanlaw15_pair_carry.j3 k ({ a := (t22, x11.a.2), way := (x11.way.1, x11.way.2), heard := (x11.heard.1, x11.heard.2), said := (x11.said.1, x11.said.2), downs := x11.downs } : signalmanlaw15_pair))) else ((arq_Arq_Input.f k x11.a.2 x8).bind fun t25 => (signalmanlaw15_pair_carry.j3 k ({ a := (x11.a.1, t25), way := (x11.way.1, x11.way.2), heard := (x11.heard.1, x11.heard.2), said := (x11.said.1, x11.said.2), downs := x11.downs } : signalmanlaw15_pair)))) else none))
def signalmanlaw15_pair_carry.j1 (k : Nat) (a0 : signalmanlaw15_pair) (a1 : Int) (x2 : Bool) (x8 : List Int) : Option signalmanlaw15_pair := (if 0 ≤ a1 ∧ a1 < 2 then (if a1 = 0 then (if 0 ≤ (1 : Int) ∧ (1 : Int) ≤ (a0.way.1.length : Int) ∧ (a0.way.1.length : Int) ≤ (a0.way.1.length : Int) then (signalmanlaw15_pair_carry.j2 k a1 x2 x8 ({ a := (a0.a.1, a0.a.2), way := (cut a0.way.1 (1 : Int) (a0.way.1.length : Int), a0.way.2), heard := (a0.heard.1, a0.heard.2), said := (a0.said.1, a0.said.2), downs := a0.downs } : signalmanlaw15_pair)) else none) else (if 0 ≤ (1 : Int) ∧ (1 : Int) ≤ (a0.way.2.length : Int) ∧ (a0.way.2.length : Int) ≤ (a0.way.2.length : Int) then (signalmanlaw15_pair_carry.j2 k a1 x2 x8 ({ a := (a0.a.1, a0.a.2), way := (a0.way.1, cut a0.way.2 (1 : Int) (a0.way.2.length : Int)), heard := (a0.heard.1, a0.heard.2), said := (a0.said.1, a0.said.2), downs := a0.downs } : signalmanlaw15_pair)) else none)) else none)
def signalmanlaw15_pair_carry.j0 (k : Nat) (a0 : signalmanlaw15_pair) (a1 : Int) (x2 : Bool) (x3 : Bool) : Option signalmanlaw15_pair := (if x3 = true then (if 0 ≤ a1 ∧ a1 < 2 then (if a1 = 0 then (if 0 ≤ (0 : Int) ∧ (0 : Int) < (a0.way.1.length : Int) then (signalmanlaw15_pair_carry.j1 k a0 a1 x2 (a0.way.1.getD (0 : Int).toNat [])) else none) else (if 0 ≤ (0 : Int) ∧ (0 : Int) < (a0.way.2.length : Int) then (signalmanlaw15_pair_carry.j1 k a0 a1 x2 (a0.way.2.getD (0 : Int).toNat [])) else none)) else none) else some a0)
end
def signalmanlaw15_pair_carry.f (k : Nat) (a0 : signalmanlaw15_pair) (a1 : Int) (a2 : Bool) : Option signalmanlaw15_pair := (if 0 ≤ a1 ∧ a1 < 2 then (if a1 = 0 then (signalmanlaw15_pair_carry.j0 k a0 a1 a2 (decide ((a0.way.1.length : Int) > 0))) else (signalmanlaw15_pair_carry.j0 k a0 a1 a2 (decide ((a0.way.2.length : Int) > 0)))) else none)
theorem signalmanlaw15_pair_carry.calls {k : Nat} {a0 : signalmanlaw15_pair} {a1 : Int} {a2 : Bool} {R : As} {w0 w : World} {b0 : Nat} {r : signalmanlaw15_pair} (H : signalmanlaw15_pair_carry.f k a0 a1 a2 = some r) (HS : Sep.St [signalmanlaw15_pair.at b0 a0, R] w0 w)  : Calls Try.prog 33 #[Value.pointer (some ⟨b0, 0, none⟩), Value.int .i64 a1, Value.bool a2] w (Ret fun u w => u = Value.tuple #[] ∧ Sep.St [signalmanlaw15_pair.at b0 r, R] w0 w) := by
  unfold signalmanlaw15_pair_carry.f at H
  refine calls_enter Try.func33 rfl rfl ?_
  have H : _ = some r := H
  refine V.meet (σ := Bool × Bool) (fun st w => match st with | (x2, x3) => Sep.St [signalmanlaw15_pair.at b0 a0, R] w0 w ∧ ∃ kf4, kf4 ≤ k ∧ signalmanlaw15_pair_carry.j0 kf4 a0 a1 x2 x3 = some r) (fun st => match st with | (x2, x3) => [(0, Value.pointer (some ⟨b0, 0, none⟩)), (1, Value.int .i64 a1), (2, Value.bool x2), (14, Value.bool x3)]) ?_ ?_
  · refine V.region (W.mv rfl (W.mv rfl (W.nc rfl ?_)))
    obtain ⟨b0_57, b1_57, a2_57, c2_57, d2_57, a3_57, c3_57, d3_57, a4_57, c4_57, a5_57, c5_57, a6_57, c6_57, a7_57, c7_57, hi58, HS⟩ := signalmanlaw15_pair.open HS
    refine W.fa fo59_1 rfl ?_
    obtain ⟨c59, H⟩ := ite_n H
    by_cases c60 : a1 = 0
    · replace H := ite_t c60 H
      refine W.r (X.indexArK 0 c60 Try.underlying55 inf30 rfl rfl c59.1 c59.2) rfl (W.ld 0 HS Try.underlying30 rfl rfl rfl rfl (W.r (X.lenSl Try.underlying30 rfl) rfl (W.r (X.cmp (decide ((a0.way.1.length : Int) > 0)) rfl rfl rfl rfl) rfl (W.nil ?_))))
      replace HS := signalmanlaw15_pair.close trivial HS
      exact At.meet (a2, decide ((a0.way.1.length : Int) > 0)) ⟨rfl, rfl, rfl, rfl, trivial⟩ ⟨HS, k, by omega, H⟩
    · replace H := ite_f c60 H
      have hk61 : a1 = 1 := by omega
      refine W.r (X.indexArK 1 hk61 Try.underlying55 inf30 rfl rfl c59.1 c59.2) rfl (W.ld 0 HS Try.underlying30 rfl rfl rfl rfl (W.r (X.lenSl Try.underlying30 rfl) rfl (W.r (X.cmp (decide ((a0.way.2.length : Int) > 0)) rfl rfl rfl rfl) rfl (W.nil ?_))))
      replace HS := signalmanlaw15_pair.close trivial HS
      exact At.meet (a2, decide ((a0.way.2.length : Int) > 0)) ⟨rfl, rfl, rfl, rfl, trivial⟩ ⟨HS, k, by omega, H⟩
  · rintro ⟨x2, x3⟩ w ⟨HS, kf4, hkkf4, H⟩
    unfold signalmanlaw15_pair_carry.j0 at H
    by_cases c5 : x3 = true
    · replace H := ite_t c5 H
      refine V.condT (sb c5) (V.meet (σ := Option Addr × Nat × List Int) (fun st w => match st with | (ra6, rc7, x8) => Sep.St [fsl 1 (.slice ra6 x8.length rc7) x8.length (x8.map (Value.int .u8)), signalmanlaw15_pair.at b0 a0, R] w0 w ∧ ∃ kf9, kf9 ≤ kf4 ∧ signalmanlaw15_pair_carry.j1 kf9 a0 a1 x2 x8 = some r) (fun st => match st with | (ra6, rc7, x8) => [(0, Value.pointer (some ⟨b0, 0, none⟩)), (1, Value.int .i64 a1), (2, Value.bool x2), (6, Value.slice ra6 x8.length rc7)]) ?_ ?_)
      · refine V.region (W.mv rfl (W.mv rfl (W.nc rfl ?_)))
        obtain ⟨b0_34, b1_34, a2_34, c2_34, d2_34, a3_34, c3_34, d3_34, a4_34, c4_34, a5_34, c5_34, a6_34, c6_34, a7_34, c7_34, hi35, HS⟩ := signalmanlaw15_pair.open HS
        refine W.fa fo59_1 rfl ?_
        obtain ⟨c36, H⟩ := ite_n H
        by_cases c37 : a1 = 0
        · replace H := ite_t c37 H
          refine W.r (X.indexArK 0 c37 Try.underlying55 inf30 rfl rfl c36.1 c36.2) rfl (W.ld 0 HS Try.underlying30 rfl rfl rfl rfl ?_)
          obtain ⟨c38, H⟩ := ite_n H
          obtain ⟨eb39, eo40, hh⟩ := (rdC.at 3 row_rd HS rfl).some (by decide) c38.1 c38.2; subst hh
          refine W.r (X.indexSl Try.underlying30 inf39 rfl rfl c38.1 c38.2) rfl ?_
          obtain ⟨ec41, hc42, HS⟩ := St.tie_at 4 HS rfl ([]) c38.1 c38.2
          obtain ⟨ea43, em44, he46, HN⟩ := St.sl_openF (Value.int .u8) (fun t => tie_int t) HS; clear HS; subst he46; have HS := HN
          refine W.r (X.load Try.underlying39 rfl rfl ((rdC.at 4 row_rd HS rfl).cellEl0 (hc42 0 _ rfl))) rfl (W.as rfl (W.nil ?_))
          replace HS := HS.pm [1, 2, 3, 4, 5, 6, 7, 8, 9, 10, 11, 0, 12]
          replace HS := signalmanlaw15_pair.close trivial HS
          replace HS := HS.pk [1, 0, 2] []
          exact At.meet (ea43, em44, a0.way.1.getD (0 : Int).toNat []) ⟨rfl, rfl, rfl, rfl, trivial⟩ ⟨HS, kf4, by omega, H⟩
        · replace H := ite_f c37 H
          have hk47 : a1 = 1 := by omega
          refine W.r (X.indexArK 1 hk47 Try.underlying55 inf30 rfl rfl c36.1 c36.2) rfl (W.ld 0 HS Try.underlying30 rfl rfl rfl rfl ?_)
          obtain ⟨c48, H⟩ := ite_n H
          obtain ⟨eb49, eo50, hh⟩ := (rdC.at 5 row_rd HS rfl).some (by decide) c48.1 c48.2; subst hh
          refine W.r (X.indexSl Try.underlying30 inf39 rfl rfl c48.1 c48.2) rfl ?_
          obtain ⟨ec51, hc52, HS⟩ := St.tie_at 6 HS rfl ([]) c48.1 c48.2
          obtain ⟨ea53, em54, he56, HN⟩ := St.sl_openF (Value.int .u8) (fun t => tie_int t) HS; clear HS; subst he56; have HS := HN
          refine W.r (X.load Try.underlying39 rfl rfl ((rdC.at 6 row_rd HS rfl).cellEl0 (hc52 0 _ rfl))) rfl (W.as rfl (W.nil ?_))
          replace HS := HS.pm [1, 2, 3, 4, 5, 6, 7, 8, 9, 10, 11, 0, 12]
          replace HS := signalmanlaw15_pair.close trivial HS
          replace HS := HS.pk [1, 0, 2] []
          exact At.meet (ea53, em54, a0.way.2.getD (0 : Int).toNat []) ⟨rfl, rfl, rfl, rfl, trivial⟩ ⟨HS, kf4, by omega, H⟩
      · rintro ⟨ra6, rc7, x8⟩ w ⟨HS, kf9, hkkf9, H⟩
        unfold signalmanlaw15_pair_carry.j1 at H
        refine V.meet (σ := signalmanlaw15_pair) (fun st w => match st with | x11 => Sep.St [fsl 1 (.slice ra6 x8.length rc7) x8.length (x8.map (Value.int .u8)), signalmanlaw15_pair.at b0 x11, R] w0 w ∧ ∃ kf12, kf12 ≤ kf9 ∧ signalmanlaw15_pair_carry.j2 kf12 a1 x2 x8 x11 = some r) (fun st => match st with | x11 => [(0, Value.pointer (some ⟨b0, 0, none⟩)), (1, Value.int .i64 a1), (2, Value.bool x2), (6, Value.slice ra6 x8.length rc7)]) ?_ ?_
        · replace HS := HS.front 1 rfl
          obtain ⟨b0_27, b1_27, a2_27, c2_27, d2_27, a3_27, c3_27, d3_27, a4_27, c4_27, a5_27, c5_27, a6_27, c6_27, a7_27, c7_27, hi28, HS⟩ := signalmanlaw15_pair.open HS
          obtain ⟨c29, H⟩ := ite_n H
          by_cases c30 : a1 = 0
          · replace H := ite_t c30 H
            obtain ⟨c31, H⟩ := ite_n H
            refine V.dr [12] [] [(23, Value.pointer (some ⟨b0, 0, none⟩)), (24, Value.int .i64 a1), (25, Value.pointer (some ⟨b0, 0, none⟩)), (26, Value.int .i64 a1), (27, Value.pointer (some ⟨b0, 0, none⟩)), (28, Value.pointer (some ⟨b0, 0 + 2, none⟩)), (29, Value.pointer (some ⟨b0, 0 + 2 + 0 * 1, none⟩)), (30, Value.slice a2_27 a0.way.1.length c2_27), (31, Value.slice (vaddr a2_27 c2_27 (1 : Int).toNat 1) (cut a0.way.1 (1 : Int) (a0.way.1.length : Int)).length (c2_27 - (1 : Int).toNat)), (32, Value.pointer (some ⟨b0, 0, none⟩)), (33, Value.pointer (some ⟨b0, 0 + 2, none⟩)), (34, Value.pointer (some ⟨b0, 0 + 2 + 0 * 1, none⟩))] mo HS ?_
            refine T.ev [(31, _), (34, _)] [] [0, 1, 2, 3, 4, 5, 6, 7, 8, 9, 10, 11] ⟨rfl, rfl, trivial⟩ ⟨.mv 0, .mv 1, .mv 0, .mv 1, .nc 25, .fa 27 fo59_1, .n2 26 28 rfl rfl rfl (fun w HS => X.indexArK 0 c30 Try.underlying55 inf30 rfl rfl c29.1 c29.2), .ld 29 0 Try.underlying30, .n1 30 rfl rfl (fun w HS => X.slL Try.underlying30 inf39 rfl rfl c31), .nc 23, .fa 32 fo59_1, .n2 24 33 rfl rfl rfl (fun w HS => X.indexArK 0 c30 Try.underlying55 inf30 rfl rfl c29.1 c29.2), trivial⟩ rfl (fun w HS => ?_)
            refine ⟨_, Y.storeAt 0 HS rfl inf30 rfl rfl rfl rfl rfl rfl, ?_⟩
            rintro _ w HS
            refine T.nn HS ?_
            refine T.fn [(0, _), (1, _), (2, _), (6, _)] ⟨rfl, rfl, rfl, rfl, trivial⟩ trivial (fun w HS => ?_)
            replace HS := HS.front 3 rfl
            replace HS := St.row_sub HS c31
            replace HS := HS.front 4 rfl
            replace HS := St.tie_cut (1 : Int) (a0.way.1.length : Int) HS
            replace HS := HS.pm [2, 3, 4, 1, 0, 5, 6, 7, 8, 9, 10, 11, 12]
            replace HS := signalmanlaw15_pair.close trivial HS
            replace HS := HS.pk [1, 0, 2] []
            exact At.meet (({ a := (a0.a.1, a0.a.2), way := (cut a0.way.1 (1 : Int) (a0.way.1.length : Int), a0.way.2), heard := (a0.heard.1, a0.heard.2), said := (a0.said.1, a0.said.2), downs := a0.downs } : signalmanlaw15_pair)) ⟨rfl, rfl, rfl, rfl, trivial⟩ ⟨HS, kf9, by omega, H⟩
          · replace H := ite_f c30 H
            have hk32 : a1 = 1 := by omega
            obtain ⟨c33, H⟩ := ite_n H
            refine V.dr [12] [] [(23, Value.pointer (some ⟨b0, 0, none⟩)), (24, Value.int .i64 a1), (25, Value.pointer (some ⟨b0, 0, none⟩)), (26, Value.int .i64 a1), (27, Value.pointer (some ⟨b0, 0, none⟩)), (28, Value.pointer (some ⟨b0, 0 + 2, none⟩)), (29, Value.pointer (some ⟨b0, 0 + 2 + 1 * 1, none⟩)), (30, Value.slice a3_27 a0.way.2.length c3_27), (31, Value.slice (vaddr a3_27 c3_27 (1 : Int).toNat 1) (cut a0.way.2 (1 : Int) (a0.way.2.length : Int)).length (c3_27 - (1 : Int).toNat)), (32, Value.pointer (some ⟨b0, 0, none⟩)), (33, Value.pointer (some ⟨b0, 0 + 2, none⟩)), (34, Value.pointer (some ⟨b0, 0 + 2 + 1 * 1, none⟩))] mo HS ?_
            refine T.ev [(31, _), (34, _)] [] [0, 1, 2, 3, 4, 5, 6, 7, 8, 9, 10, 11] ⟨rfl, rfl, trivial⟩ ⟨.mv 0, .mv 1, .mv 0, .mv 1, .nc 25, .fa 27 fo59_1, .n2 26 28 rfl rfl rfl (fun w HS => X.indexArK 1 hk32 Try.underlying55 inf30 rfl rfl c29.1 c29.2), .ld 29 0 Try.underlying30, .n1 30 rfl rfl (fun w HS => X.slL Try.underlying30 inf39 rfl rfl c33), .nc 23, .fa 32 fo59_1, .n2 24 33 rfl rfl rfl (fun w HS => X.indexArK 1 hk32 Try.underlying55 inf30 rfl rfl c29.1 c29.2), trivial⟩ rfl (fun w HS => ?_)
            refine ⟨_, Y.storeAt 0 HS rfl inf30 rfl rfl rfl rfl rfl rfl, ?_⟩
            rintro _ w HS
            refine T.nn HS ?_
            refine T.fn [(0, _), (1, _), (2, _), (6, _)] ⟨rfl, rfl, rfl, rfl, trivial⟩ trivial (fun w HS => ?_)
            replace HS := HS.front 5 rfl
            replace HS := St.row_sub HS c33
            replace HS := HS.front 6 rfl
            replace HS := St.tie_cut (1 : Int) (a0.way.2.length : Int) HS
            replace HS := HS.pm [2, 3, 4, 5, 6, 1, 0, 7, 8, 9, 10, 11, 12]
            replace HS := signalmanlaw15_pair.close trivial HS
            replace HS := HS.pk [1, 0, 2] []
            exact At.meet (({ a := (a0.a.1, a0.a.2), way := (a0.way.1, cut a0.way.2 (1 : Int) (a0.way.2.length : Int)), heard := (a0.heard.1, a0.heard.2), said := (a0.said.1, a0.said.2), downs := a0.downs } : signalmanlaw15_pair)) ⟨rfl, rfl, rfl, rfl, trivial⟩ ⟨HS, kf9, by omega, H⟩
        · rintro x11 w ⟨HS, kf12, hkkf12, H⟩
          unfold signalmanlaw15_pair_carry.j2 at H
          refine V.meet (σ := signalmanlaw15_pair) (fun st w => match st with | x13 => Sep.St [fsl 1 (.slice ra6 x8.length rc7) x8.length (x8.map (Value.int .u8)), signalmanlaw15_pair.at b0 x13, R] w0 w ∧ ∃ kf14, kf14 ≤ kf12 ∧ signalmanlaw15_pair_carry.j3 kf14 x13 = some r) (fun st => match st with | x13 => [(0, Value.pointer (some ⟨b0, 0, none⟩))]) ?_ ?_
          · refine V.seq (V.region (W.mv rfl (W.r (X.not rfl) rfl (W.nx ?_))))
            by_cases c17 : x2 = true
            · replace H := ite_t c17 H
              refine V.condF (sb (n_t c17)) (V.skip ?_)
              exact At.meet x11 ⟨rfl, trivial⟩ ⟨HS, kf12, by omega, H⟩
            · replace H := ite_f c17 H
              refine V.condT (sb (n_f (b_f c17))) (V.region (W.mv rfl (W.mv rfl (W.r (X.sub rfl rfl) rfl (W.nc rfl ?_)))))
              replace HS := HS.front 1 rfl
              obtain ⟨b0_18, b1_18, a2_18, c2_18, d2_18, a3_18, c3_18, d3_18, a4_18, c4_18, a5_18, c5_18, a6_18, c6_18, a7_18, c7_18, hi19, HS⟩ := signalmanlaw15_pair.open HS
              refine W.fa fo59_0 rfl ?_
              obtain ⟨c20, H⟩ := ite_n H
              by_cases c21 : w64 (1 - a1) = 0
              · replace H := ite_t c21 H
                refine W.r (X.indexArK 0 c21 Try.underlying54 inf26 rfl rfl c20.1 c20.2) rfl (W.ld 0 HS Try.underlying26 rfl rfl rfl rfl (W.mv rfl ?_))
                obtain ⟨t22, A23, H⟩ := bind_s H
                replace HS := HS.pm [1, 0, 2, 3, 4, 5, 6, 7, 8, 9, 10, 11, 12]
                refine W.e (Y.cl Try.func24 (arq_Arq_Input.calls A23 HS.j1 (rdC.part 10 fsl.rd rfl))) rfl ?_
                rintro _ w ⟨rfl, HS⟩
                replace HS := HS.o1
                refine W.nil ?_
                replace HS := HS.pm [1, 0, 2, 3, 4, 5, 6, 7, 8, 9, 10, 11, 12]
                replace HS := signalmanlaw15_pair.close trivial HS
                replace HS := HS.pk [1, 0, 2] []
                exact At.meet (({ a := (t22, x11.a.2), way := (x11.way.1, x11.way.2), heard := (x11.heard.1, x11.heard.2), said := (x11.said.1, x11.said.2), downs := x11.downs } : signalmanlaw15_pair)) ⟨rfl, trivial⟩ ⟨HS, kf12, by omega, H⟩
              · replace H := ite_f c21 H
                have hk24 : w64 (1 - a1) = 1 := by omega
                refine W.r (X.indexArK 1 hk24 Try.underlying54 inf26 rfl rfl c20.1 c20.2) rfl (W.ld 0 HS Try.underlying26 rfl rfl rfl rfl (W.mv rfl ?_))
                obtain ⟨t25, A26, H⟩ := bind_s H
                replace HS := HS.pm [2, 0, 1, 3, 4, 5, 6, 7, 8, 9, 10, 11, 12]
                refine W.e (Y.cl Try.func24 (arq_Arq_Input.calls A26 HS.j1 (rdC.part 10 fsl.rd rfl))) rfl ?_
                rintro _ w ⟨rfl, HS⟩
                replace HS := HS.o1
                refine W.nil ?_
                replace HS := HS.pm [1, 2, 0, 3, 4, 5, 6, 7, 8, 9, 10, 11, 12]
                replace HS := signalmanlaw15_pair.close trivial HS
                replace HS := HS.pk [1, 0, 2] []
                exact At.meet (({ a := (x11.a.1, t25), way := (x11.way.1, x11.way.2), heard := (x11.heard.1, x11.heard.2), said := (x11.said.1, x11.said.2), downs := x11.downs } : signalmanlaw15_pair)) ⟨rfl, trivial⟩ ⟨HS, kf12, by omega, H⟩
          · rintro x13 w ⟨HS, kf14, hkkf14, H⟩
            unfold signalmanlaw15_pair_carry.j3 at H
            refine V.region (W.mv rfl ?_)
            obtain ⟨t15, A16, H⟩ := bind_s H
            replace HS := HS.pm [1, 0, 2]
            refine W.e (Y.cl Try.func32 (signalmanlaw15_pair_collect.calls A16 HS.j1)) rfl ?_
            rintro _ w ⟨rfl, HS⟩
            replace HS := HS.o1
            refine W.nil ?_
            replace HS := HS.pk [0, 2] [1]
            cases H
            exact At.end0 rfl ⟨_, rfl, rfl, HS⟩
    · replace H := ite_f c5 H
      refine V.condF (sb (b_f c5)) (V.skip ?_)
      cases H
      exact At.end0 rfl ⟨_, rfl, rfl, HS⟩

/-! ### signalman/signalmanlaw15.up: function 36 -/
mutual
def signalmanlaw15_up.l0 : Nat → Int → signalmanlaw15_pair → Option signalmanlaw15_pair
  | 0, _, _ => none
  | k + 1, x15, x16 => (if x15 < 4 then ((signalmanlaw15_pair_carry.f k x16 (iand .i64 x15 (1)) false).bind fun t20 => (signalmanlaw15_up.l0 k (w64 (x15 + 1)) t20)) else some x16)
end
def signalmanlaw15_up.f (k : Nat) (a0 : api_Config) : Option signalmanlaw15_pair := ((arq_New.f a0).bind fun t5 => ((arq_New.f a0).bind fun t8 => ((arq_Arq_Connect.f k t5).bind fun t11 => ((signalmanlaw15_pair_collect.f k ({ a := (t11.2, t8), way := (([] : List (List Int)), ([] : List (List Int))), heard := (([] : List (List Int)), ([] : List (List Int))), said := (([] : List (List Int)), ([] : List (List Int))), downs := 0 } : signalmanlaw15_pair)).bind fun t13 => (signalmanlaw15_up.l0 k 0 t13)))))
theorem signalmanlaw15_up.calls {k : Nat} {a0 : api_Config} {R : As} {w0 w : World}  {r : signalmanlaw15_pair} (H : signalmanlaw15_up.f k a0 = some r) (HS : Sep.St [R] w0 w)  : Calls Try.prog 36 #[Value.agg #[Value.int .i64 a0.Mode, Value.int .i64 a0.Modulus, Value.int .i64 a0.Window, Value.int .i64 a0.T1, Value.int .i64 a0.N2, Value.int .i64 a0.Hold, Value.int .i64 a0.Wait, Value.int .i64 a0.Keep, Value.int .i64 a0.Queue, Value.int .i64 a0.Size, Value.int .i64 a0.Ring, Value.int .i64 a0.Rate, Value.int .i64 a0.Bad, Value.int .i64 a0.Good, Value.bool a0.Revert, Value.bool a0.Wide]] w (Ret fun u w => ∃ (bq0 : Nat), u = Value.pointer (some ⟨bq0, 0, none⟩) ∧ Sep.St [signalmanlaw15_pair.at bq0 r, R] w0 w) := by
  unfold signalmanlaw15_up.f at H
  refine calls_enter Try.func36 rfl rfl ?_
  have H : _ = some r := H
  refine V.seq (V.region (W.e (Y.box HS rfl) rfl ?_))
  rintro _ w ⟨nb1, rfl, HS⟩
  refine W.as rfl (W.nx (V.seq (V.region (W.r (X.bd (Value.agg #[Value.pointer none, Value.pointer none, Value.slice none 0 0, Value.slice none 0 0, Value.slice none 0 0, Value.slice none 0 0, Value.slice none 0 0, Value.slice none 0 0, Value.int .i64 (0)]) rfl (fun _ => by kernel_rfl)) rfl (W.e (Y.box HS rfl) rfl ?_)))))
  rintro _ w ⟨nb2, rfl, HS⟩
  refine W.as rfl (W.nx (V.seq (V.dr [2, 6] [5] [(7, Value.pointer (some ⟨nb2, 0, none⟩)), (8, Value.agg #[Value.int .i64 a0.Mode, Value.int .i64 a0.Modulus, Value.int .i64 a0.Window, Value.int .i64 a0.T1, Value.int .i64 a0.N2, Value.int .i64 a0.Hold, Value.int .i64 a0.Wait, Value.int .i64 a0.Keep, Value.int .i64 a0.Queue, Value.int .i64 a0.Size, Value.int .i64 a0.Ring, Value.int .i64 a0.Rate, Value.int .i64 a0.Bad, Value.int .i64 a0.Good, Value.bool a0.Revert, Value.bool a0.Wide]), (10, Value.pointer (some ⟨nb2, 0, none⟩)), (11, Value.pointer (some ⟨nb2, 0 + 0, none⟩))] mo HS ?_)))
  refine T.ev [(8, _)] [] [1] ⟨rfl, trivial⟩ ⟨.mv 3, .n1 1 rfl rfl (fun w HS => X.loadSt 1 [Value.int .i64 a0.Mode, Value.int .i64 a0.Modulus, Value.int .i64 a0.Window, Value.int .i64 a0.T1, Value.int .i64 a0.N2, Value.int .i64 a0.Hold, Value.int .i64 a0.Wait, Value.int .i64 a0.Keep, Value.int .i64 a0.Queue, Value.int .i64 a0.Size, Value.int .i64 a0.Ring, Value.int .i64 a0.Rate, Value.int .i64 a0.Bad, Value.int .i64 a0.Good, Value.bool a0.Revert, Value.bool a0.Wide] HS rfl Try.underlying24 rfl inf24 rfl rfl), .nc 7, .fa 10 fo59_0, trivial⟩ rfl (fun w HS => ?_)
  obtain ⟨t5, A6, H⟩ := bind_s H
  refine ⟨_, Y.cl Try.func17 (arq_New.calls A6 HS.j0), ?_⟩
  rintro _ w ⟨bt5_0, rfl, HS⟩
  replace HS := HS.o1
  refine T.nm [(9, Value.pointer (some ⟨bt5_0, 0, none⟩)), (12, Value.pointer (some ⟨nb2, 0 + 0 + (0 : Int).toNat * 1, none⟩))] HS ⟨.inl ⟨rfl, rfl⟩, ⟨.inr ⟨by decide, rfl⟩, trivial⟩⟩ ?_
  refine T.ev [(9, _), (12, _)] [] [0, 3, 4, 5] ⟨rfl, rfl, trivial⟩ ⟨.mv 3, .nc 7, .fa 10 fo59_0, .n1 11 rfl rfl (fun w HS => X.indexAr Try.underlying54 inf26 rfl rfl (by decide) (by decide)), trivial⟩ rfl (fun w HS => ?_)
  refine ⟨_, Y.storeAt 1 HS rfl inf26 rfl rfl rfl rfl rfl rfl, ?_⟩
  rintro _ w HS
  refine T.nn HS ?_
  refine T.fn [(1, _), (3, _)] ⟨rfl, rfl, trivial⟩ trivial (fun w HS => ?_)
  refine At.next (V.seq (V.dr [2, 6] [5] [(13, Value.pointer (some ⟨nb2, 0, none⟩)), (14, Value.agg #[Value.int .i64 a0.Mode, Value.int .i64 a0.Modulus, Value.int .i64 a0.Window, Value.int .i64 a0.T1, Value.int .i64 a0.N2, Value.int .i64 a0.Hold, Value.int .i64 a0.Wait, Value.int .i64 a0.Keep, Value.int .i64 a0.Queue, Value.int .i64 a0.Size, Value.int .i64 a0.Ring, Value.int .i64 a0.Rate, Value.int .i64 a0.Bad, Value.int .i64 a0.Good, Value.bool a0.Revert, Value.bool a0.Wide]), (16, Value.pointer (some ⟨nb2, 0, none⟩)), (17, Value.pointer (some ⟨nb2, 0 + 0, none⟩))] mo HS ?_))
  refine T.ev [(14, _)] [] [1] ⟨rfl, trivial⟩ ⟨.mv 3, .n1 1 rfl rfl (fun w HS => X.loadSt 2 [Value.int .i64 a0.Mode, Value.int .i64 a0.Modulus, Value.int .i64 a0.Window, Value.int .i64 a0.T1, Value.int .i64 a0.N2, Value.int .i64 a0.Hold, Value.int .i64 a0.Wait, Value.int .i64 a0.Keep, Value.int .i64 a0.Queue, Value.int .i64 a0.Size, Value.int .i64 a0.Ring, Value.int .i64 a0.Rate, Value.int .i64 a0.Bad, Value.int .i64 a0.Good, Value.bool a0.Revert, Value.bool a0.Wide] HS rfl Try.underlying24 rfl inf24 rfl rfl), .nc 13, .fa 16 fo59_0, trivial⟩ rfl (fun w HS => ?_)
  obtain ⟨t8, A9, H⟩ := bind_s H
  refine ⟨_, Y.cl Try.func17 (arq_New.calls A9 HS.j0), ?_⟩
  rintro _ w ⟨bt8_0, rfl, HS⟩
  replace HS := HS.o1
  refine T.nm [(15, Value.pointer (some ⟨bt8_0, 0, none⟩)), (18, Value.pointer (some ⟨nb2, 0 + 0 + (1 : Int).toNat * 1, none⟩))] HS ⟨.inl ⟨rfl, rfl⟩, ⟨.inr ⟨by decide, rfl⟩, trivial⟩⟩ ?_
  refine T.ev [(15, _), (18, _)] [] [0, 3, 4, 5] ⟨rfl, rfl, trivial⟩ ⟨.mv 3, .nc 13, .fa 16 fo59_0, .n1 17 rfl rfl (fun w HS => X.indexAr Try.underlying54 inf26 rfl rfl (by decide) (by decide)), trivial⟩ rfl (fun w HS => ?_)
  refine ⟨_, Y.storeAt 2 HS rfl inf26 rfl rfl rfl rfl rfl rfl, ?_⟩
  rintro _ w HS
  refine T.nn HS ?_
  refine T.fn [(3, _)] ⟨rfl, trivial⟩ trivial (fun w HS => ?_)
  refine At.next (V.seq (V.region (W.mv rfl (W.nc rfl (W.fa fo59_0 rfl (W.r (X.indexAr Try.underlying54 inf26 rfl rfl (by decide) (by decide)) rfl (W.ld 2 HS Try.underlying26 rfl rfl rfl rfl ?_)))))))
  obtain ⟨t11, A12, H⟩ := bind_s H
  replace HS := HS.pm [1, 0, 2, 3, 4]
  refine W.e (Y.cl Try.func18 (arq_Arq_Connect.calls A12 HS.j1)) rfl ?_
  rintro _ w ⟨rfl, HS⟩
  replace HS := HS.o1
  refine W.nx (V.seq (V.region (W.mv rfl ?_)))
  replace HS := row_nilE (El.sl (El.int .u8)) 39 1 HS
  replace HS := row_nilE (El.sl (El.int .u8)) 39 1 HS
  replace HS := row_nilF (fun x => Value.string (strOf x)) 9 1 HS
  replace HS := row_nilF (fun x => Value.string (strOf x)) 9 1 HS
  replace HS := row_nilF (fun x => Value.string (strOf x)) 9 1 HS
  replace HS := row_nilF (fun x => Value.string (strOf x)) 9 1 HS
  replace HS := HS.pm [10, 8, 9, 6, 7, 4, 5, 3, 2, 1, 0, 11, 12]
  replace HS := signalmanlaw15_pair.close (l2 := ([] : List (List Int))) (l3 := ([] : List (List Int))) (l4 := ([] : List (List Int))) (l5 := ([] : List (List Int))) (l6 := ([] : List (List Int))) (l7 := ([] : List (List Int))) trivial HS
  obtain ⟨t13, A14, H⟩ := bind_s H
  refine W.e (Y.cl Try.func32 (signalmanlaw15_pair_collect.calls A14 HS.j1)) rfl ?_
  rintro _ w ⟨rfl, HS⟩
  replace HS := HS.o1
  refine W.nx (V.seq (V.seq (V.region (W.as rfl (W.nx (V.block ?_))))))
  replace HS := HS.pm [1, 0, 2]
  replace HS := api_Config.close trivial HS
  refine V.loop (σ := Int × signalmanlaw15_pair) (fun kq (st : Int × signalmanlaw15_pair) w => match st with | (x15, x16) => Sep.St [api_Config.at nb1 a0, signalmanlaw15_pair.at nb2 x16, R] w0 w ∧ signalmanlaw15_up.l0 kq x15 x16 = some r ∧ kq ≤ k) (fun st => match st with | (x15, x16) => [(3, Value.pointer (some ⟨nb2, 0, none⟩)), (4, Value.int .i64 x15)]) k (0, t13) ⟨rfl, rfl, trivial⟩ ⟨HS, H, Nat.le_refl _⟩ ?_
  rintro kq17 ⟨x15, x16⟩ w ⟨HS, H, hk18⟩
  cases kq17 with
  | zero => exact absurd H (by simp [signalmanlaw15_up.l0])
  | succ kq17 =>
    simp only [signalmanlaw15_up.l0] at H
    refine V.seq (V.seq (V.region (W.mv rfl (W.r (X.cmp (decide (x15 < 4)) rfl rfl rfl rfl) rfl (W.nx ?_)))))
    by_cases c19 : x15 < 4
    · replace H := ite_t c19 H
      refine V.condT (sb (decide_eq_true c19)) (V.skip (At.next (V.seq (V.block (V.region (W.mv rfl (W.mv rfl (W.r (X.and rfl rfl) rfl ?_))))))))
      obtain ⟨t20, A21, H⟩ := bind_s H
      replace HS := HS.pm [1, 0, 2]
      refine W.e (Y.cl Try.func33 (signalmanlaw15_pair_carry.calls A21 HS.j1)) rfl ?_
      rintro _ w ⟨rfl, HS⟩
      replace HS := HS.o1
      refine W.nil (At.blockEnd (At.next (V.region (W.mv rfl (W.r (X.add rfl rfl) rfl (W.as rfl (W.nil ?_)))))))
      replace HS := HS.pk [1, 0, 2] []
      exact At.round kq17 (by omega) (w64 (x15 + 1), t20) ⟨rfl, rfl, trivial⟩ ⟨HS, H, by omega⟩
    · replace H := ite_f c19 H
      refine V.condF (sb (decide_eq_false c19)) (V.exit (At.thenExit (At.thenExit (At.blockExit (At.next (V.seq (V.region (W.mv rfl (W.as rfl (W.nx (V.ret ?_)))))))))))
      replace HS := HS.pk [1, 2] [0]
      cases H
      exact At.ret1 rfl rfl ⟨_, rfl, nb2, rfl, HS⟩

/-! ### signalman/signalmanlaw15.ArqWindows: function 8 -/
mutual
def signalmanlaw15_ArqWindows.l2 : Nat → Int → Int → Int → Int → Int → signalmanlaw15_pair → Option Bool
  | 0, _, _, _, _, _, _ => none
  | k + 1, a1, a2, x3, x14, x15, x16 => (if x15 < x3 then ((arq_Arq_Send.f k x16.a.1 ([IntKind.u8.wrap x15] : List Int)).bind fun t25 => ((signalmanlaw15_num.f t25.1).bind fun t27 => (if t27 = 0 then (signalmanlaw15_ArqWindows.l2 k a1 a2 x3 (w64 (x14 + 1)) (w64 (x15 + 1)) ({ a := (t25.2, x16.a.2), way := (x16.way.1, x16.way.2), heard := (x16.heard.1, x16.heard.2), said := (x16.said.1, x16.said.2), downs := x16.downs } : signalmanlaw15_pair)) else ((signalmanlaw15_num.f t25.1).bind fun t30 => (if t30 = 6 then (signalmanlaw15_ArqWindows.l2 k a1 a2 x3 x14 (w64 (x15 + 1)) ({ a := (t25.2, x16.a.2), way := (x16.way.1, x16.way.2), heard := (x16.heard.1, x16.heard.2), said := (x16.said.1, x16.said.2), downs := x16.downs } : signalmanlaw15_pair)) else some false))))) else (if x3 > (w64 (a1 + a2)) then (signalmanlaw15_ArqWindows.j3 a1 x3 x14 x16 (w64 (a1 + a2))) else (signalmanlaw15_ArqWindows.j3 a1 x3 x14 x16 x3)))
def signalmanlaw15_ArqWindows.j3 (a1 : Int) (x3 : Int) (x14 : Int) (x16 : signalmanlaw15_pair) (x33 : Int) : Option Bool := ((arq_Arq_Output.f x16.a.1).bind fun t37 => ((arq_Arq_Counts.f t37.2).bind fun t53 => (if x3 < a1 then (if x14 = x33 then (if t53.1 = x33 then some (decide ((t37.1.length : Int) = x3)) else some false) else some false) else (if x14 = x33 then (if t53.1 = x33 then some (decide ((t37.1.length : Int) = a1)) else some false) else some false))))
def signalmanlaw15_ArqWindows.j1 (k : Nat) (a1 : Int) (a2 : Int) (t1 : Bool) (x3 : Int) (x4 : Int) (x6 : Bool) : Option Bool := (if x6 = true then some t1 else ((signalmanlaw15_shape.f x4 a1 a2).bind fun t9 => ((signalmanlaw15_up.f k t9).bind fun t11 => (signalmanlaw15_ArqWindows.l2 k a1 a2 x3 0 0 t11))))
def signalmanlaw15_ArqWindows.j0 (k : Nat) (a1 : Int) (a2 : Int) (t1 : Bool) (x3 : Int) (x4 : Int) : Option Bool := (if t1 = true then (if a1 < 1 then (signalmanlaw15_ArqWindows.j1 k a1 a2 t1 x3 x4 true) else (if a1 > 16 then (signalmanlaw15_ArqWindows.j1 k a1 a2 t1 x3 x4 true) else (if a2 < 1 then (signalmanlaw15_ArqWindows.j1 k a1 a2 t1 x3 x4 true) else (if a2 > 30 then (signalmanlaw15_ArqWindows.j1 k a1 a2 t1 x3 x4 true) else (if x3 < 0 then (signalmanlaw15_ArqWindows.j1 k a1 a2 t1 x3 x4 true) else (signalmanlaw15_ArqWindows.j1 k a1 a2 t1 x3 x4 (decide (x3 > 80)))))))) else (signalmanlaw15_ArqWindows.j1 k a1 a2 t1 x3 x4 true))
end
def signalmanlaw15_ArqWindows.f (k : Nat) (a0 : Bool) (a1 : Int) (a2 : Int) (a3 : Int) : Option Bool := ((signalmanlaw15_alive.f k ).bind fun t1 => (if a0 = true then (signalmanlaw15_ArqWindows.j0 k a1 a2 t1 a3 32768) else (signalmanlaw15_ArqWindows.j0 k a1 a2 t1 a3 128)))
theorem signalmanlaw15_ArqWindows.calls {k : Nat} {a0 : Bool} {a1 : Int} {a2 : Int} {a3 : Int} {R : As} {w0 w : World}  {r : Bool} (H : signalmanlaw15_ArqWindows.f k a0 a1 a2 a3 = some r) (HS : Sep.St [R] w0 w)  : Calls Try.prog 8 #[Value.bool a0, Value.int .i64 a1, Value.int .i64 a2, Value.int .i64 a3] w (Ret fun u w => u = Value.bool r ∧ Sep.St [R] w0 w) := by
  unfold signalmanlaw15_ArqWindows.f at H
  refine calls_enter Try.func8 rfl rfl ?_
  have H : _ = some r := H
  refine V.seq (V.region (W.as rfl (W.nx (V.seq (V.region ?_)))))
  obtain ⟨t1, A2, H⟩ := bind_s H
  refine W.e (Y.cl Try.func15 (signalmanlaw15_alive.calls A2 HS.j0)) rfl ?_
  rintro _ w ⟨rfl, HS⟩
  replace HS := HS.o0
  refine W.as rfl (W.nx (V.seq (V.region (W.as rfl (W.nx (V.meet (σ := Int × Int) (fun st w => match st with | (x3, x4) => Sep.St [R] w0 w ∧ ∃ kf5, kf5 ≤ k ∧ signalmanlaw15_ArqWindows.j0 kf5 a1 a2 t1 x3 x4 = some r) (fun st => match st with | (x3, x4) => [(1, Value.int .i64 a1), (2, Value.int .i64 a2), (3, Value.int .i64 x3), (9, Value.bool t1), (10, Value.int .i64 x4)]) ?_ ?_))))))
  · refine V.seq (V.region (W.mv rfl (W.nx ?_)))
    by_cases c67 : a0 = true
    · replace H := ite_t c67 H
      refine V.condT (sb c67) (V.region (W.as rfl (W.nil ?_)))
      exact At.meet (a3, 32768) ⟨rfl, rfl, rfl, rfl, rfl, trivial⟩ ⟨HS, k, by omega, H⟩
    · replace H := ite_f c67 H
      refine V.condF (sb (b_f c67)) (V.skip ?_)
      exact At.meet (a3, 128) ⟨rfl, rfl, rfl, rfl, rfl, trivial⟩ ⟨HS, k, by omega, H⟩
  · rintro ⟨x3, x4⟩ w ⟨HS, kf5, hkkf5, H⟩
    unfold signalmanlaw15_ArqWindows.j0 at H
    refine V.seq (V.meet (σ := Bool) (fun st w => match st with | x6 => Sep.St [R] w0 w ∧ ∃ kf7, kf7 ≤ kf5 ∧ signalmanlaw15_ArqWindows.j1 kf7 a1 a2 t1 x3 x4 x6 = some r) (fun st => match st with | x6 => [(1, Value.int .i64 a1), (2, Value.int .i64 a2), (3, Value.int .i64 x3), (9, Value.bool t1), (10, Value.int .i64 x4), (47, Value.bool x6)]) ?_ ?_)
    · refine V.region (W.mv rfl (W.r (X.not rfl) rfl (W.mv rfl ?_)))
      by_cases c61 : t1 = true
      · replace H := ite_t c61 H
        refine W.want 24 rfl (sb (n_t c61)) (W.mv rfl (W.want 24 rfl (sb (n_t c61)) (W.r (X.cmp (decide (a1 < 1)) rfl rfl rfl rfl) rfl (W.r (X.pickF (sb (n_t c61)) rfl) rfl (W.mv rfl ?_)))))
        by_cases c62 : a1 < 1
        · replace H := ite_t c62 H
          refine W.pass 28 rfl (sb (decide_eq_true c62)) rfl rfl (W.pass 28 rfl (sb (decide_eq_true c62)) rfl rfl (W.r (X.pickT (sb (decide_eq_true c62)) rfl) rfl (W.mv rfl (W.pass 32 rfl rfl rfl rfl (W.pass 32 rfl rfl rfl rfl (W.r (X.pickT rfl rfl) rfl (W.mv rfl (W.pass 36 rfl rfl rfl rfl (W.pass 36 rfl rfl rfl rfl (W.r (X.pickT rfl rfl) rfl (W.mv rfl (W.pass 40 rfl rfl rfl rfl (W.pass 40 rfl rfl rfl rfl (W.r (X.pickT rfl rfl) rfl (W.mv rfl (W.pass 44 rfl rfl rfl rfl (W.pass 44 rfl rfl rfl rfl (W.r (X.pickT rfl rfl) rfl (W.nil ?_)))))))))))))))))))
          exact At.meet true ⟨rfl, rfl, rfl, rfl, rfl, rfl, trivial⟩ ⟨HS, kf5, by omega, H⟩
        · replace H := ite_f c62 H
          refine W.want 28 rfl (sb (decide_eq_false c62)) (W.mv rfl (W.want 28 rfl (sb (decide_eq_false c62)) (W.r (X.cmp (decide (a1 > 16)) rfl rfl rfl rfl) rfl (W.r (X.pickF (sb (decide_eq_false c62)) rfl) rfl (W.mv rfl ?_)))))
          by_cases c63 : a1 > 16
          · replace H := ite_t c63 H
            refine W.pass 32 rfl (sb (decide_eq_true c63)) rfl rfl (W.pass 32 rfl (sb (decide_eq_true c63)) rfl rfl (W.r (X.pickT (sb (decide_eq_true c63)) rfl) rfl (W.mv rfl (W.pass 36 rfl rfl rfl rfl (W.pass 36 rfl rfl rfl rfl (W.r (X.pickT rfl rfl) rfl (W.mv rfl (W.pass 40 rfl rfl rfl rfl (W.pass 40 rfl rfl rfl rfl (W.r (X.pickT rfl rfl) rfl (W.mv rfl (W.pass 44 rfl rfl rfl rfl (W.pass 44 rfl rfl rfl rfl (W.r (X.pickT rfl rfl) rfl (W.nil ?_)))))))))))))))
            exact At.meet true ⟨rfl, rfl, rfl, rfl, rfl, rfl, trivial⟩ ⟨HS, kf5, by omega, H⟩
          · replace H := ite_f c63 H
            refine W.want 32 rfl (sb (decide_eq_false c63)) (W.mv rfl (W.want 32 rfl (sb (decide_eq_false c63)) (W.r (X.cmp (decide (a2 < 1)) rfl rfl rfl rfl) rfl (W.r (X.pickF (sb (decide_eq_false c63)) rfl) rfl (W.mv rfl ?_)))))
            by_cases c64 : a2 < 1
            · replace H := ite_t c64 H
              refine W.pass 36 rfl (sb (decide_eq_true c64)) rfl rfl (W.pass 36 rfl (sb (decide_eq_true c64)) rfl rfl (W.r (X.pickT (sb (decide_eq_true c64)) rfl) rfl (W.mv rfl (W.pass 40 rfl rfl rfl rfl (W.pass 40 rfl rfl rfl rfl (W.r (X.pickT rfl rfl) rfl (W.mv rfl (W.pass 44 rfl rfl rfl rfl (W.pass 44 rfl rfl rfl rfl (W.r (X.pickT rfl rfl) rfl (W.nil ?_)))))))))))
              exact At.meet true ⟨rfl, rfl, rfl, rfl, rfl, rfl, trivial⟩ ⟨HS, kf5, by omega, H⟩
            · replace H := ite_f c64 H
              refine W.want 36 rfl (sb (decide_eq_false c64)) (W.mv rfl (W.want 36 rfl (sb (decide_eq_false c64)) (W.r (X.cmp (decide (a2 > 30)) rfl rfl rfl rfl) rfl (W.r (X.pickF (sb (decide_eq_false c64)) rfl) rfl (W.mv rfl ?_)))))
              by_cases c65 : a2 > 30
              · replace H := ite_t c65 H
                refine W.pass 40 rfl (sb (decide_eq_true c65)) rfl rfl (W.pass 40 rfl (sb (decide_eq_true c65)) rfl rfl (W.r (X.pickT (sb (decide_eq_true c65)) rfl) rfl (W.mv rfl (W.pass 44 rfl rfl rfl rfl (W.pass 44 rfl rfl rfl rfl (W.r (X.pickT rfl rfl) rfl (W.nil ?_)))))))
                exact At.meet true ⟨rfl, rfl, rfl, rfl, rfl, rfl, trivial⟩ ⟨HS, kf5, by omega, H⟩
              · replace H := ite_f c65 H
                refine W.want 40 rfl (sb (decide_eq_false c65)) (W.mv rfl (W.want 40 rfl (sb (decide_eq_false c65)) (W.r (X.cmp (decide (x3 < 0)) rfl rfl rfl rfl) rfl (W.r (X.pickF (sb (decide_eq_false c65)) rfl) rfl (W.mv rfl ?_)))))
                by_cases c66 : x3 < 0
                · replace H := ite_t c66 H
                  refine W.pass 44 rfl (sb (decide_eq_true c66)) rfl rfl (W.pass 44 rfl (sb (decide_eq_true c66)) rfl rfl (W.r (X.pickT (sb (decide_eq_true c66)) rfl) rfl (W.nil ?_)))
                  exact At.meet true ⟨rfl, rfl, rfl, rfl, rfl, rfl, trivial⟩ ⟨HS, kf5, by omega, H⟩
                · replace H := ite_f c66 H
                  refine W.want 44 rfl (sb (decide_eq_false c66)) (W.mv rfl (W.want 44 rfl (sb (decide_eq_false c66)) (W.r (X.cmp (decide (x3 > 80)) rfl rfl rfl rfl) rfl (W.r (X.pickF (sb (decide_eq_false c66)) rfl) rfl (W.nil ?_)))))
                  exact At.meet (decide (x3 > 80)) ⟨rfl, rfl, rfl, rfl, rfl, rfl, trivial⟩ ⟨HS, kf5, by omega, H⟩
      · replace H := ite_f c61 H
        refine W.pass 24 rfl (sb (n_f (b_f c61))) rfl rfl (W.pass 24 rfl (sb (n_f (b_f c61))) rfl rfl (W.r (X.pickT (sb (n_f (b_f c61))) rfl) rfl (W.mv rfl (W.pass 28 rfl rfl rfl rfl (W.pass 28 rfl rfl rfl rfl (W.r (X.pickT rfl rfl) rfl (W.mv rfl (W.pass 32 rfl rfl rfl rfl (W.pass 32 rfl rfl rfl rfl (W.r (X.pickT rfl rfl) rfl (W.mv rfl (W.pass 36 rfl rfl rfl rfl (W.pass 36 rfl rfl rfl rfl (W.r (X.pickT rfl rfl) rfl (W.mv rfl (W.pass 40 rfl rfl rfl rfl (W.pass 40 rfl rfl rfl rfl (W.r (X.pickT rfl rfl) rfl (W.mv rfl (W.pass 44 rfl rfl rfl rfl (W.pass 44 rfl rfl rfl rfl (W.r (X.pickT rfl rfl) rfl (W.nil ?_)))))))))))))))))))))))
        exact At.meet true ⟨rfl, rfl, rfl, rfl, rfl, rfl, trivial⟩ ⟨HS, kf5, by omega, H⟩
    · rintro x6 w ⟨HS, kf7, hkkf7, H⟩
      unfold signalmanlaw15_ArqWindows.j1 at H
      by_cases c8 : x6 = true
      · replace H := ite_t c8 H
        refine V.condT (sb c8) (V.seq (V.region (W.mv rfl (W.as rfl (W.nx (V.ret (At.thenRet ?_)))))))
        cases H
        exact At.ret1 rfl rfl ⟨_, rfl, rfl, HS⟩
      · replace H := ite_f c8 H
        refine V.condF (sb (b_f c8)) (V.skip (At.next (V.seq (V.region (W.mv rfl (W.mv rfl (W.mv rfl ?_)))))))
        obtain ⟨t9, A10, H⟩ := bind_s H
        refine W.e (Y.cl Try.func16 (signalmanlaw15_shape.calls A10 HS.j0)) rfl ?_
        rintro _ w ⟨rfl, HS⟩
        replace HS := HS.o0
        obtain ⟨t11, A12, H⟩ := bind_s H
        refine W.e (Y.cl Try.func36 (signalmanlaw15_up.calls A12 HS.j0)) rfl ?_
        rintro _ w ⟨bt11_0, rfl, HS⟩
        replace HS := HS.o1
        refine W.as rfl (W.nx (V.seq (V.region (W.as rfl (W.nx (V.seq (V.seq (V.region (W.as rfl (W.nx (V.block (V.loop (σ := Int × Int × signalmanlaw15_pair) (fun kq (st : Int × Int × signalmanlaw15_pair) w => match st with | (x14, x15, x16) => Sep.St [signalmanlaw15_pair.at bt11_0 x16, R] w0 w ∧ signalmanlaw15_ArqWindows.l2 kq a1 a2 x3 x14 x15 x16 = some r ∧ kq ≤ kf7) (fun st => match st with | (x14, x15, x16) => [(1, Value.int .i64 a1), (2, Value.int .i64 a2), (3, Value.int .i64 x3), (11, Value.pointer (some ⟨bt11_0, 0, none⟩)), (12, Value.int .i64 x14), (13, Value.int .i64 x15)]) kf7 (0, 0, t11) ⟨rfl, rfl, rfl, rfl, rfl, rfl, trivial⟩ ⟨HS, H, Nat.le_refl _⟩ ?_))))))))))))
        rintro kq17 ⟨x14, x15, x16⟩ w ⟨HS, H, hk18⟩
        cases kq17 with
        | zero => exact absurd H (by simp [signalmanlaw15_ArqWindows.l2])
        | succ kq17 =>
          simp only [signalmanlaw15_ArqWindows.l2] at H
          refine V.seq (V.seq (V.region (W.mv rfl (W.mv rfl (W.r (X.cmp (decide (x15 < x3)) rfl rfl rfl rfl) rfl (W.nx ?_))))))
          by_cases c19 : x15 < x3
          · replace H := ite_t c19 H
            refine V.condT (sb (decide_eq_true c19)) (V.skip (At.next (V.seq (V.block (V.seq (V.region (W.mv rfl (W.nc rfl ?_))))))))
            obtain ⟨b0_20, b1_20, a2_20, c2_20, d2_20, a3_20, c3_20, d3_20, a4_20, c4_20, a5_20, c5_20, a6_20, c6_20, a7_20, c7_20, hi21, HS⟩ := signalmanlaw15_pair.open HS
            refine W.fa fo59_0 rfl (W.r (X.indexAr Try.underlying54 inf26 rfl rfl (by decide) (by decide)) rfl (W.ld 0 HS Try.underlying26 rfl rfl rfl rfl (W.mv rfl (W.r (X.conv Try.underlying3 Try.underlying5 rfl) rfl (W.e (Y.ls (e := 5) (Value.int .u8) ([IntKind.u8.wrap x15] : List Int) HS rfl rfl (fun _ => by kernel_rfl)) rfl ?_)))))
            rintro _ w ⟨lb24, rfl, HS⟩
            obtain ⟨t25, A26, H⟩ := bind_s H
            replace HS := HS.pm [2, 0, 1, 3, 4, 5, 6, 7, 8, 9, 10, 11, 12]
            refine W.e (Y.cl Try.func34 (arq_Arq_Send.calls A26 HS.j1 (rdC.part 0 row_rd rfl))) rfl ?_
            rintro _ w ⟨rfl, HS⟩
            replace HS := HS.o1
            refine W.as rfl (W.nx (V.seq (V.region (W.mv rfl ?_))))
            obtain ⟨t27, A28, H⟩ := bind_s H
            refine W.e (Y.cl Try.func35 (signalmanlaw15_num.calls A28 HS.j0)) rfl ?_
            rintro _ w ⟨rfl, HS⟩
            replace HS := HS.o0
            refine W.r (X.cmp (decide (t27 = 0)) rfl rfl rfl rfl) rfl (W.nx ?_)
            by_cases c29 : t27 = 0
            · replace H := ite_t c29 H
              refine V.condT (sb (decide_eq_true c29)) (V.region (W.mv rfl (W.r (X.add rfl rfl) rfl (W.as rfl (W.nil (At.blockEnd (At.next (V.region (W.mv rfl (W.r (X.add rfl rfl) rfl (W.as rfl (W.nil ?_))))))))))))
              replace HS := HS.pm [2, 0, 3, 4, 5, 6, 7, 8, 9, 10, 11, 1, 12]
              replace HS := signalmanlaw15_pair.close trivial HS
              replace HS := HS.pk [0, 2] [1]
              exact At.round kq17 (by omega) (w64 (x14 + 1), w64 (x15 + 1), ({ a := (t25.2, x16.a.2), way := (x16.way.1, x16.way.2), heard := (x16.heard.1, x16.heard.2), said := (x16.said.1, x16.said.2), downs := x16.downs } : signalmanlaw15_pair)) ⟨rfl, rfl, rfl, rfl, rfl, rfl, trivial⟩ ⟨HS, H, by omega⟩
            · replace H := ite_f c29 H
              refine V.condF (sb (decide_eq_false c29)) (V.seq (V.region (W.mv rfl ?_)))
              obtain ⟨t30, A31, H⟩ := bind_s H
              refine W.e (Y.cl Try.func35 (signalmanlaw15_num.calls A31 HS.j0)) rfl ?_
              rintro _ w ⟨rfl, HS⟩
              replace HS := HS.o0
              refine W.r (X.cmp (!(decide (t30 = 6))) rfl rfl rfl rfl) rfl (W.nx ?_)
              by_cases c32 : t30 = 6
              · replace H := ite_t c32 H
                refine V.condF (sb (n_t (decide_eq_true c32))) (V.skip (At.blockEnd (At.next (V.region (W.mv rfl (W.r (X.add rfl rfl) rfl (W.as rfl (W.nil ?_))))))))
                replace HS := HS.pm [2, 0, 3, 4, 5, 6, 7, 8, 9, 10, 11, 1, 12]
                replace HS := signalmanlaw15_pair.close trivial HS
                replace HS := HS.pk [0, 2] [1]
                exact At.round kq17 (by omega) (x14, w64 (x15 + 1), ({ a := (t25.2, x16.a.2), way := (x16.way.1, x16.way.2), heard := (x16.heard.1, x16.heard.2), said := (x16.said.1, x16.said.2), downs := x16.downs } : signalmanlaw15_pair)) ⟨rfl, rfl, rfl, rfl, rfl, rfl, trivial⟩ ⟨HS, H, by omega⟩
              · replace H := ite_f c32 H
                refine V.condT (sb (n_f (decide_eq_false c32))) (V.seq (V.region (W.as rfl (W.nx (V.ret (At.blockRet (At.thenRet (At.thenRet (At.blockRet (At.thenRet ?_))))))))))
                replace HS := HS.pk [12] [0, 1, 2, 3, 4, 5, 6, 7, 8, 9, 10, 11]
                cases H
                exact At.ret1 rfl rfl ⟨_, rfl, rfl, HS⟩
          · replace H := ite_f c19 H
            refine V.condF (sb (decide_eq_false c19)) (V.exit (At.thenExit (At.thenExit (At.blockExit (At.next (V.seq (V.region (W.mv rfl (W.as rfl (W.nx (V.meet (σ := Int) (fun st w => match st with | x33 => Sep.St [signalmanlaw15_pair.at bt11_0 x16, R] w0 w ∧ signalmanlaw15_ArqWindows.j3 a1 x3 x14 x16 x33 = some r) (fun st => match st with | x33 => [(1, Value.int .i64 a1), (3, Value.int .i64 x3), (11, Value.pointer (some ⟨bt11_0, 0, none⟩)), (12, Value.int .i64 x14), (15, Value.int .i64 x33)]) ?_ ?_)))))))))))
            · refine V.seq (V.region (W.mv rfl (W.mv rfl (W.mv rfl (W.r (X.add rfl rfl) rfl (W.r (X.cmp (decide (x3 > (w64 (a1 + a2)))) rfl rfl rfl rfl) rfl (W.nx ?_)))))))
              by_cases c60 : x3 > (w64 (a1 + a2))
              · replace H := ite_t c60 H
                refine V.condT (sb (decide_eq_true c60)) (V.region (W.mv rfl (W.mv rfl (W.r (X.add rfl rfl) rfl (W.as rfl (W.nil ?_))))))
                exact At.meet (w64 (a1 + a2)) ⟨rfl, rfl, rfl, rfl, rfl, trivial⟩ ⟨HS, H⟩
              · replace H := ite_f c60 H
                refine V.condF (sb (decide_eq_false c60)) (V.skip ?_)
                exact At.meet x3 ⟨rfl, rfl, rfl, rfl, rfl, trivial⟩ ⟨HS, H⟩
            · rintro x33 w ⟨HS, H⟩
              unfold signalmanlaw15_ArqWindows.j3 at H
              refine V.seq (V.region (W.mv rfl (W.nc rfl ?_)))
              obtain ⟨b0_35, b1_35, a2_35, c2_35, d2_35, a3_35, c3_35, d3_35, a4_35, c4_35, a5_35, c5_35, a6_35, c6_35, a7_35, c7_35, hi36, HS⟩ := signalmanlaw15_pair.open HS
              refine W.fa fo59_0 rfl (W.r (X.indexAr Try.underlying54 inf26 rfl rfl (by decide) (by decide)) rfl (W.ld 0 HS Try.underlying26 rfl rfl rfl rfl ?_))
              obtain ⟨t37, A38, H⟩ := bind_s H
              replace HS := HS.pm [1, 0, 2, 3, 4, 5, 6, 7, 8, 9, 10, 11]
              refine W.e (Y.cl Try.func20 (arq_Arq_Output.calls A38 HS.j1)) rfl ?_
              rintro _ w ⟨at37_0, ct37_0, dt37_0, rfl, HS⟩
              replace HS := HS.o3
              refine W.r (X.lenSl Try.underlying30 rfl) rfl (W.as rfl (W.nx (V.seq (V.region (W.mv rfl (W.nc rfl (W.fa fo59_0 rfl (W.r (X.indexAr Try.underlying54 inf26 rfl rfl (by decide) (by decide)) rfl (W.ld 3 HS Try.underlying26 rfl rfl rfl rfl ?_)))))))))
              replace HS := HS.front 2 rfl
              obtain ⟨b8_51, b9_51, b10_51, a11_51, c11_51, d11_51, a12_51, c12_51, hi52, HS⟩ := arq_Arq.open HS
              obtain ⟨t53, A54, H⟩ := bind_s H
              refine W.e (Y.cl Try.func37 (arq_Arq_Counts.calls A54 HS.j7)) rfl ?_
              rintro _ w ⟨rfl, HS⟩
              replace HS := HS.o7
              refine W.mv rfl (W.r (X.extract rfl rfl) rfl (W.r (X.extract rfl rfl) rfl (W.r (X.extract rfl rfl) rfl (W.as rfl (W.as rfl (W.as rfl (W.nx (V.seq (V.seq (V.region (W.mv rfl (W.mv rfl (W.r (X.cmp (decide (x3 < a1)) rfl rfl rfl rfl) rfl (W.nx ?_))))))))))))))
              by_cases c55 : x3 < a1
              · replace H := ite_t c55 H
                refine V.condT (sb (decide_eq_true c55)) (V.region (W.mv rfl (W.as rfl (W.nx (V.seq (V.region (W.mv rfl (W.mv rfl (W.r (X.cmp (decide (x14 = x33)) rfl rfl rfl rfl) rfl (W.mv rfl ?_))))))))))
                by_cases c56 : x14 = x33
                · replace H := ite_t c56 H
                  refine W.want 109 rfl (sb (decide_eq_true c56)) (W.mv rfl (W.want 109 rfl (sb (decide_eq_true c56)) (W.mv rfl (W.want 109 rfl (sb (decide_eq_true c56)) (W.r (X.cmp (decide (t53.1 = x33)) rfl rfl rfl rfl) rfl (W.r (X.pickT (sb (decide_eq_true c56)) rfl) rfl (W.mv rfl ?_)))))))
                  by_cases c57 : t53.1 = x33
                  · replace H := ite_t c57 H
                    refine W.want 114 rfl (sb (decide_eq_true c57)) (W.mv rfl (W.want 114 rfl (sb (decide_eq_true c57)) (W.mv rfl (W.want 114 rfl (sb (decide_eq_true c57)) (W.r (X.cmp (decide ((t37.1.length : Int) = x3)) rfl rfl rfl rfl) rfl (W.r (X.pickT (sb (decide_eq_true c57)) rfl) rfl (W.as rfl (W.nx (V.ret ?_)))))))))
                    replace HS := HS.pk [19] [0, 1, 2, 3, 4, 5, 6, 7, 8, 9, 10, 11, 12, 13, 14, 15, 16, 17, 18]
                    cases H
                    exact At.ret1 rfl rfl ⟨_, rfl, rfl, HS⟩
                  · replace H := ite_f c57 H
                    refine W.pass 114 rfl (sb (decide_eq_false c57)) rfl rfl (W.pass 114 rfl (sb (decide_eq_false c57)) rfl rfl (W.pass 114 rfl (sb (decide_eq_false c57)) rfl rfl (W.r (X.pickF (sb (decide_eq_false c57)) rfl) rfl (W.as rfl (W.nx (V.ret ?_))))))
                    replace HS := HS.pk [19] [0, 1, 2, 3, 4, 5, 6, 7, 8, 9, 10, 11, 12, 13, 14, 15, 16, 17, 18]
                    cases H
                    exact At.ret1 rfl rfl ⟨_, rfl, rfl, HS⟩
                · replace H := ite_f c56 H
                  refine W.pass 109 rfl (sb (decide_eq_false c56)) rfl rfl (W.pass 109 rfl (sb (decide_eq_false c56)) rfl rfl (W.pass 109 rfl (sb (decide_eq_false c56)) rfl rfl (W.r (X.pickF (sb (decide_eq_false c56)) rfl) rfl (W.mv rfl (W.pass 114 rfl rfl rfl rfl (W.pass 114 rfl rfl rfl rfl (W.pass 114 rfl rfl rfl rfl (W.r (X.pickF rfl rfl) rfl (W.as rfl (W.nx (V.ret ?_)))))))))))
                  replace HS := HS.pk [19] [0, 1, 2, 3, 4, 5, 6, 7, 8, 9, 10, 11, 12, 13, 14, 15, 16, 17, 18]
                  cases H
                  exact At.ret1 rfl rfl ⟨_, rfl, rfl, HS⟩
              · replace H := ite_f c55 H
                refine V.condF (sb (decide_eq_false c55)) (V.skip (At.next (V.seq (V.region (W.mv rfl (W.mv rfl (W.r (X.cmp (decide (x14 = x33)) rfl rfl rfl rfl) rfl (W.mv rfl ?_))))))))
                by_cases c58 : x14 = x33
                · replace H := ite_t c58 H
                  refine W.want 109 rfl (sb (decide_eq_true c58)) (W.mv rfl (W.want 109 rfl (sb (decide_eq_true c58)) (W.mv rfl (W.want 109 rfl (sb (decide_eq_true c58)) (W.r (X.cmp (decide (t53.1 = x33)) rfl rfl rfl rfl) rfl (W.r (X.pickT (sb (decide_eq_true c58)) rfl) rfl (W.mv rfl ?_)))))))
                  by_cases c59 : t53.1 = x33
                  · replace H := ite_t c59 H
                    refine W.want 114 rfl (sb (decide_eq_true c59)) (W.mv rfl (W.want 114 rfl (sb (decide_eq_true c59)) (W.mv rfl (W.want 114 rfl (sb (decide_eq_true c59)) (W.r (X.cmp (decide ((t37.1.length : Int) = a1)) rfl rfl rfl rfl) rfl (W.r (X.pickT (sb (decide_eq_true c59)) rfl) rfl (W.as rfl (W.nx (V.ret ?_)))))))))
                    replace HS := HS.pk [19] [0, 1, 2, 3, 4, 5, 6, 7, 8, 9, 10, 11, 12, 13, 14, 15, 16, 17, 18]
                    cases H
                    exact At.ret1 rfl rfl ⟨_, rfl, rfl, HS⟩
                  · replace H := ite_f c59 H
                    refine W.pass 114 rfl (sb (decide_eq_false c59)) rfl rfl (W.pass 114 rfl (sb (decide_eq_false c59)) rfl rfl (W.pass 114 rfl (sb (decide_eq_false c59)) rfl rfl (W.r (X.pickF (sb (decide_eq_false c59)) rfl) rfl (W.as rfl (W.nx (V.ret ?_))))))
                    replace HS := HS.pk [19] [0, 1, 2, 3, 4, 5, 6, 7, 8, 9, 10, 11, 12, 13, 14, 15, 16, 17, 18]
                    cases H
                    exact At.ret1 rfl rfl ⟨_, rfl, rfl, HS⟩
                · replace H := ite_f c58 H
                  refine W.pass 109 rfl (sb (decide_eq_false c58)) rfl rfl (W.pass 109 rfl (sb (decide_eq_false c58)) rfl rfl (W.pass 109 rfl (sb (decide_eq_false c58)) rfl rfl (W.r (X.pickF (sb (decide_eq_false c58)) rfl) rfl (W.mv rfl (W.pass 114 rfl rfl rfl rfl (W.pass 114 rfl rfl rfl rfl (W.pass 114 rfl rfl rfl rfl (W.r (X.pickF rfl rfl) rfl (W.as rfl (W.nx (V.ret ?_)))))))))))
                  replace HS := HS.pk [19] [0, 1, 2, 3, 4, 5, 6, 7, 8, 9, 10, 11, 12, 13, 14, 15, 16, 17, 18]
                  cases H
                  exact At.ret1 rfl rfl ⟨_, rfl, rfl, HS⟩

def signalmanlaw15_ArqWindows.Pure : Prop := ∀ (a0 : Bool) (a1 : Int) (a2 : Int) (a3 : Int), (Lit.int .i64 a1).wf = true → (Lit.int .i64 a2).wf = true → (Lit.int .i64 a3).wf = true → ∃ k, signalmanlaw15_ArqWindows.f k a0 a1 a2 a3 = some true
end Go.Proofs.Ytnlcafmkmfnobaa

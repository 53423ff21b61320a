/- ArqAnswers: the functions that its law reaches, as plain functions, and that the machine's calls come to what these say. Conditions: those that stand at each. -/
import Derived.Test.YtnlcafmkmfnobaaRunArqAnswersP2
set_option linter.all false
set_option maxRecDepth 100000
set_option maxHeartbeats 4000000
namespace Go.Proofs.Ytnlcafmkmfnobaa
open Go.RowKit Go.Proofs.Ytnlcafmkmfnobaa.Sep Go.Proofs.Ytnlcafmkmfnobaa.Walk
/-! ### signalman/signalmanlaw15.ArqAnswers: function 4 -/
mutual
def signalmanlaw15_ArqAnswers.j2 (t20 : List (List Int) × arq_Arq) (x27 : List Int) (x28 : Bool) (x30 : List Int) : Option Bool := (if (t20.1.length : Int) ≤ 1 then (if sEq x30 x27 = true then ((arq_Arq_State.f t20.2).bind fun t36 => some (((decide (t36 = 2)) == x28))) else some false) else some false)
def signalmanlaw15_ArqAnswers.j1 (t20 : List (List Int) × arq_Arq) (x27 : List Int) (x28 : Bool) : Option Bool := (if (t20.1.length : Int) = 1 then (if 0 ≤ (0 : Int) ∧ (0 : Int) < (t20.1.length : Int) then (signalmanlaw15_ArqAnswers.j2 t20 x27 x28 (t20.1.getD (0 : Int).toNat [])) else none) else (signalmanlaw15_ArqAnswers.j2 t20 x27 x28 ([] : List Int)))
def signalmanlaw15_ArqAnswers.j4 (a1 : Int) (t20 : List (List Int) × arq_Arq) (x55 : Bool) : Option Bool := (if x55 = true then (signalmanlaw15_ArqAnswers.j1 t20 ([IntKind.u8.wrap (a1.fdiv (2 ^ (min (8 : Int).toNat IntKind.i64.bits))), IntKind.u8.wrap (iand .i64 a1 (255)), 99] : List Int) x55) else (signalmanlaw15_ArqAnswers.j1 t20 ([0, 0, 15] : List Int) x55))
def signalmanlaw15_ArqAnswers.j3 (a0 : Int) (a1 : Int) (t20 : List (List Int) × arq_Arq) (x48 : Bool) : Option Bool := (if x48 = true then (signalmanlaw15_ArqAnswers.j1 t20 ([IntKind.u8.wrap (a1.fdiv (2 ^ (min (8 : Int).toNat IntKind.i64.bits))), IntKind.u8.wrap (iand .i64 a1 (255)), 15] : List Int) false) else (if a0 = 3 then (if a1 ≥ 1 then (signalmanlaw15_ArqAnswers.j4 a1 t20 (decide (a1 ≤ 32767))) else (signalmanlaw15_ArqAnswers.j4 a1 t20 false)) else (signalmanlaw15_ArqAnswers.j1 t20 ([] : List Int) false)))
def signalmanlaw15_ArqAnswers.j0 (k : Nat) (a0 : Int) (a1 : Int) (t1 : Bool) (x3 : Bool) : Option Bool := (if x3 = true then some t1 else ((signalmanlaw15_shape.f 128 4 4).bind fun t6 => ((arq_New.f t6).bind fun t8 => ((signalmanref6_CtlBytes.f ({ Kind := a0, Ns := 0, Nr := 0, Poll := false } : api_Ctl) 128).bind fun t13 => (if ((([IntKind.u8.wrap (a1.fdiv (2 ^ (min (8 : Int).toNat IntKind.i64.bits))), IntKind.u8.wrap (iand .i64 a1 (255))] : List Int)).length : Int) + t13.length ≤ 1099511627776 then ((arq_Arq_Input.f k t8 (([IntKind.u8.wrap (a1.fdiv (2 ^ (min (8 : Int).toNat IntKind.i64.bits))), IntKind.u8.wrap (iand .i64 a1 (255))] : List Int) ++ t13)).bind fun t18 => ((arq_Arq_Output.f t18).bind fun t20 => (if a0 = 0 then (signalmanlaw15_ArqAnswers.j3 a0 a1 t20 (decide (a0 = 0))) else (if a0 = 1 then (signalmanlaw15_ArqAnswers.j3 a0 a1 t20 (decide (a0 = 1))) else (if a0 = 2 then (signalmanlaw15_ArqAnswers.j3 a0 a1 t20 (decide (a0 = 2))) else (signalmanlaw15_ArqAnswers.j3 a0 a1 t20 (decide (a0 = 5)))))))) else none)))))
end
def signalmanlaw15_ArqAnswers.f (k : Nat) (a0 : Int) (a1 : Int) : Option Bool := ((signalmanlaw15_alive.f k ).bind fun t1 => (if t1 = true then (if a0 < 0 then (signalmanlaw15_ArqAnswers.j0 k a0 a1 t1 true) else (if a0 > 7 then (signalmanlaw15_ArqAnswers.j0 k a0 a1 t1 true) else (if a1 < 0 then (signalmanlaw15_ArqAnswers.j0 k a0 a1 t1 true) else (signalmanlaw15_ArqAnswers.j0 k a0 a1 t1 (decide (a1 > 65535)))))) else (signalmanlaw15_ArqAnswers.j0 k a0 a1 t1 true)))
theorem signalmanlaw15_ArqAnswers.calls {k : Nat} {a0 : Int} {a1 : Int} {R : As} {w0 w : World}  {r : Bool} (H : signalmanlaw15_ArqAnswers.f k a0 a1 = some r) (HS : Sep.St [R] w0 w)  : Calls Try.prog 4 #[Value.int .i64 a0, Value.int .i64 a1] w (Ret fun u w => u = Value.bool r ∧ Sep.St [R] w0 w) := by
  unfold signalmanlaw15_ArqAnswers.f at H
  refine calls_enter Try.func4 rfl rfl ?_
  have H : _ = some r := H
  refine V.seq (V.region (W.as rfl (W.nx (V.seq (V.region ?_)))))
  obtain ⟨t1, A2, H⟩ := bind_s H
  refine W.e (Y.cl Try.func15 (signalmanlaw15_alive.calls A2 HS.j0)) rfl ?_
  rintro _ w ⟨rfl, HS⟩
  replace HS := HS.o0
  refine W.as rfl (W.nx (V.seq (V.meet (σ := Bool) (fun st w => match st with | x3 => Sep.St [R] w0 w ∧ ∃ kf4, kf4 ≤ k ∧ signalmanlaw15_ArqAnswers.j0 kf4 a0 a1 t1 x3 = some r) (fun st => match st with | x3 => [(0, Value.int .i64 a0), (1, Value.int .i64 a1), (5, Value.bool t1), (31, Value.bool x3)]) ?_ ?_)))
  · refine V.region (W.mv rfl (W.r (X.not rfl) rfl (W.mv rfl ?_)))
    by_cases c65 : t1 = true
    · replace H := ite_t c65 H
      refine W.want 16 rfl (sb (n_t c65)) (W.mv rfl (W.want 16 rfl (sb (n_t c65)) (W.r (X.cmp (decide (a0 < 0)) rfl rfl rfl rfl) rfl (W.r (X.pickF (sb (n_t c65)) rfl) rfl (W.mv rfl ?_)))))
      by_cases c66 : a0 < 0
      · replace H := ite_t c66 H
        refine W.pass 20 rfl (sb (decide_eq_true c66)) rfl rfl (W.pass 20 rfl (sb (decide_eq_true c66)) rfl rfl (W.r (X.pickT (sb (decide_eq_true c66)) rfl) rfl (W.mv rfl (W.pass 24 rfl rfl rfl rfl (W.pass 24 rfl rfl rfl rfl (W.r (X.pickT rfl rfl) rfl (W.mv rfl (W.pass 28 rfl rfl rfl rfl (W.pass 28 rfl rfl rfl rfl (W.r (X.pickT rfl rfl) rfl (W.nil ?_)))))))))))
        exact At.meet true ⟨rfl, rfl, rfl, rfl, trivial⟩ ⟨HS, k, by omega, H⟩
      · replace H := ite_f c66 H
        refine W.want 20 rfl (sb (decide_eq_false c66)) (W.mv rfl (W.want 20 rfl (sb (decide_eq_false c66)) (W.r (X.cmp (decide (a0 > 7)) rfl rfl rfl rfl) rfl (W.r (X.pickF (sb (decide_eq_false c66)) rfl) rfl (W.mv rfl ?_)))))
        by_cases c67 : a0 > 7
        · replace H := ite_t c67 H
          refine W.pass 24 rfl (sb (decide_eq_true c67)) rfl rfl (W.pass 24 rfl (sb (decide_eq_true c67)) rfl rfl (W.r (X.pickT (sb (decide_eq_true c67)) rfl) rfl (W.mv rfl (W.pass 28 rfl rfl rfl rfl (W.pass 28 rfl rfl rfl rfl (W.r (X.pickT rfl rfl) rfl (W.nil ?_)))))))
          exact At.meet true ⟨rfl, rfl, rfl, rfl, trivial⟩ ⟨HS, k, by omega, H⟩
        · replace H := ite_f c67 H
          refine W.want 24 rfl (sb (decide_eq_false c67)) (W.mv rfl (W.want 24 rfl (sb (decide_eq_false c67)) (W.r (X.cmp (decide (a1 < 0)) rfl rfl rfl rfl) rfl (W.r (X.pickF (sb (decide_eq_false c67)) rfl) rfl (W.mv rfl ?_)))))
          by_cases c68 : a1 < 0
          · replace H := ite_t c68 H
            refine W.pass 28 rfl (sb (decide_eq_true c68)) rfl rfl (W.pass 28 rfl (sb (decide_eq_true c68)) rfl rfl (W.r (X.pickT (sb (decide_eq_true c68)) rfl) rfl (W.nil ?_)))
            exact At.meet true ⟨rfl, rfl, rfl, rfl, trivial⟩ ⟨HS, k, by omega, H⟩
          · replace H := ite_f c68 H
            refine W.want 28 rfl (sb (decide_eq_false c68)) (W.mv rfl (W.want 28 rfl (sb (decide_eq_false c68)) (W.r (X.cmp (decide (a1 > 65535)) rfl rfl rfl rfl) rfl (W.r (X.pickF (sb (decide_eq_false c68)) rfl) rfl (W.nil ?_)))))
            exact At.meet (decide (a1 > 65535)) ⟨rfl, rfl, rfl, rfl, trivial⟩ ⟨HS, k, by omega, H⟩
    · replace H := ite_f c65 H
      refine W.pass 16 rfl (sb (n_f (b_f c65))) rfl rfl (W.pass 16 rfl (sb (n_f (b_f c65))) rfl rfl (W.r (X.pickT (sb (n_f (b_f c65))) rfl) rfl (W.mv rfl (W.pass 20 rfl rfl rfl rfl (W.pass 20 rfl rfl rfl rfl (W.r (X.pickT rfl rfl) rfl (W.mv rfl (W.pass 24 rfl rfl rfl rfl (W.pass 24 rfl rfl rfl rfl (W.r (X.pickT rfl rfl) rfl (W.mv rfl (W.pass 28 rfl rfl rfl rfl (W.pass 28 rfl rfl rfl rfl (W.r (X.pickT rfl rfl) rfl (W.nil ?_)))))))))))))))
      exact At.meet true ⟨rfl, rfl, rfl, rfl, trivial⟩ ⟨HS, k, by omega, H⟩
  · rintro x3 w ⟨HS, kf4, hkkf4, H⟩
    unfold signalmanlaw15_ArqAnswers.j0 at H
    by_cases c5 : x3 = true
    · replace H := ite_t c5 H
      refine V.condT (sb c5) (V.seq (V.region (W.mv rfl (W.as rfl (W.nx (V.ret (At.thenRet ?_)))))))
      cases H
      exact At.ret1 rfl rfl ⟨_, rfl, rfl, HS⟩
    · replace H := ite_f c5 H
      refine V.condF (sb (b_f c5)) (V.skip (At.next (V.seq (V.region ?_))))
      obtain ⟨t6, A7, H⟩ := bind_s H
      refine W.e (Y.cl Try.func16 (signalmanlaw15_shape.calls A7 HS.j0)) rfl ?_
      rintro _ w ⟨rfl, HS⟩
      replace HS := HS.o0
      obtain ⟨t8, A9, H⟩ := bind_s H
      refine W.e (Y.cl Try.func17 (arq_New.calls A9 HS.j0)) rfl ?_
      rintro _ w ⟨bt8_0, rfl, HS⟩
      replace HS := HS.o1
      refine W.as rfl (W.nx (V.seq (V.region (W.mv rfl (W.r (X.shr rfl rfl (by decide)) rfl (W.r (X.conv Try.underlying3 Try.underlying5 rfl) rfl (W.as rfl (W.nx (V.seq (V.region (W.mv rfl (W.r (X.and rfl rfl) rfl (W.r (X.conv Try.underlying3 Try.underlying5 rfl) rfl (W.as rfl (W.nx (V.seq (V.region (W.mv rfl (W.mv rfl (W.mv rfl (W.e (Y.ls (e := 5) (Value.int .u8) ([IntKind.u8.wrap (a1.fdiv (2 ^ (min (8 : Int).toNat IntKind.i64.bits))), IntKind.u8.wrap (iand .i64 a1 (255))] : List Int) HS rfl rfl (fun _ => by kernel_rfl)) rfl ?_)))))))))))))))))))))
      rintro _ w ⟨lb12, rfl, HS⟩
      refine W.mv rfl (W.r (X.bd (Value.agg #[Value.int .i64 a0, Value.int .i64 (0), Value.int .i64 (0), Value.bool false]) rfl (fun _ => by kernel_rfl)) rfl ?_)
      obtain ⟨t13, A14, H⟩ := bind_s H
      refine W.e (Y.cl Try.func25 (signalmanref6_CtlBytes.calls A14 HS.j0)) rfl ?_
      rintro _ w ⟨at13_0, ct13_0, rfl, HS⟩
      replace HS := HS.o1
      obtain ⟨c15, H⟩ := ite_n H
      refine W.e (Y.appF (Value.int .u8) (fun _ => rfl) 1 Try.underlying39 ap5 rfl HS rfl rfl rfl (rdC.at 0 row_rd HS rfl) (by omega) (by omega)) rfl ?_
      rintro _ w ⟨ra16, rc17, rfl, HS⟩
      obtain ⟨t18, A19, H⟩ := bind_s H
      replace HS := HS.pm [2, 0, 1, 3]
      refine W.e (Y.cl Try.func24 (arq_Arq_Input.calls A19 HS.j1 (rdC.part 1 row_rd rfl))) rfl ?_
      rintro _ w ⟨rfl, HS⟩
      replace HS := HS.o1
      refine W.nx (V.seq (V.region (W.mv rfl ?_)))
      obtain ⟨t20, A21, H⟩ := bind_s H
      refine W.e (Y.cl Try.func20 (arq_Arq_Output.calls A21 HS.j1)) rfl ?_
      rintro _ w ⟨at20_0, ct20_0, dt20_0, rfl, HS⟩
      replace HS := HS.o3
      refine W.as rfl (W.nx (V.seq (V.region (W.as rfl (W.nx (V.seq (V.region (W.as rfl (W.nx (V.meet (σ := List Int × Bool) (fun st w => match st with | (x27, x28) => Sep.St [row 39 1 (.slice at20_0 t20.1.length ct20_0) t20.1.length dt20_0, tie (El.sl (El.int .u8)) dt20_0 t20.1, arq_Arq.at bt8_0 t20.2, row 5 1 (.slice at13_0 t13.length ct13_0) t13.length (t13.map (Value.int .u8)), row 5 1 (.slice ra16 (([IntKind.u8.wrap (a1.fdiv (2 ^ (min (8 : Int).toNat IntKind.i64.bits))), IntKind.u8.wrap (iand .i64 a1 (255))] : List Int) ++ t13).length rc17) (([IntKind.u8.wrap (a1.fdiv (2 ^ (min (8 : Int).toNat IntKind.i64.bits))), IntKind.u8.wrap (iand .i64 a1 (255))] : List Int) ++ t13).length ((([IntKind.u8.wrap (a1.fdiv (2 ^ (min (8 : Int).toNat IntKind.i64.bits))), IntKind.u8.wrap (iand .i64 a1 (255))] : List Int) ++ t13).map (Value.int .u8)), R] w0 w ∧ signalmanlaw15_ArqAnswers.j1 t20 x27 x28 = some r) (fun st => match st with | (x27, x28) => [(6, Value.pointer (some ⟨bt8_0, 0, none⟩)), (9, Value.slice at20_0 t20.1.length ct20_0), (10, Value.string (strOf x27)), (11, Value.bool x28)]) ?_ ?_))))))))))
      · refine V.seq (V.region (W.mv rfl (W.nx (V.block (V.meet (σ := Bool) (fun st w => match st with | x48 => Sep.St [row 39 1 (.slice at20_0 t20.1.length ct20_0) t20.1.length dt20_0, tie (El.sl (El.int .u8)) dt20_0 t20.1, arq_Arq.at bt8_0 t20.2, row 5 1 (.slice at13_0 t13.length ct13_0) t13.length (t13.map (Value.int .u8)), row 5 1 (.slice ra16 (([IntKind.u8.wrap (a1.fdiv (2 ^ (min (8 : Int).toNat IntKind.i64.bits))), IntKind.u8.wrap (iand .i64 a1 (255))] : List Int) ++ t13).length rc17) (([IntKind.u8.wrap (a1.fdiv (2 ^ (min (8 : Int).toNat IntKind.i64.bits))), IntKind.u8.wrap (iand .i64 a1 (255))] : List Int) ++ t13).length ((([IntKind.u8.wrap (a1.fdiv (2 ^ (min (8 : Int).toNat IntKind.i64.bits))), IntKind.u8.wrap (iand .i64 a1 (255))] : List Int) ++ t13).map (Value.int .u8)), R] w0 w ∧ signalmanlaw15_ArqAnswers.j3 a0 a1 t20 x48 = some r) (fun st => match st with | x48 => [(1, Value.int .i64 a1), (6, Value.pointer (some ⟨bt8_0, 0, none⟩)), (7, Value.int .u8 (IntKind.u8.wrap (a1.fdiv (2 ^ (min (8 : Int).toNat IntKind.i64.bits))))), (8, Value.int .u8 (IntKind.u8.wrap (iand .i64 a1 (255)))), (9, Value.slice at20_0 t20.1.length ct20_0), (10, Value.string (strOf ([] : List Int))), (11, Value.bool false), (52, Value.int .i64 a0), (53, Value.bool x48)]) ?_ ?_)))))
        · refine V.seq (V.region (W.r (X.cmp (decide (a0 = 0)) rfl rfl rfl rfl) rfl (W.as rfl (W.nx ?_))))
          by_cases c62 : a0 = 0
          · replace H := ite_t c62 H
            refine V.condT (sb (decide_eq_true c62)) (V.skip ?_)
            exact At.meet (decide (a0 = 0)) ⟨rfl, rfl, rfl, rfl, rfl, rfl, rfl, rfl, rfl, trivial⟩ ⟨HS, H⟩
          · replace H := ite_f c62 H
            refine V.condF (sb (decide_eq_false c62)) (V.seq (V.region (W.r (X.cmp (decide (a0 = 1)) rfl rfl rfl rfl) rfl (W.as rfl (W.nx ?_)))))
            by_cases c63 : a0 = 1
            · replace H := ite_t c63 H
              refine V.condT (sb (decide_eq_true c63)) (V.skip ?_)
              exact At.meet (decide (a0 = 1)) ⟨rfl, rfl, rfl, rfl, rfl, rfl, rfl, rfl, rfl, trivial⟩ ⟨HS, H⟩
            · replace H := ite_f c63 H
              refine V.condF (sb (decide_eq_false c63)) (V.seq (V.region (W.r (X.cmp (decide (a0 = 2)) rfl rfl rfl rfl) rfl (W.as rfl (W.nx ?_)))))
              by_cases c64 : a0 = 2
              · replace H := ite_t c64 H
                refine V.condT (sb (decide_eq_true c64)) (V.skip ?_)
                exact At.meet (decide (a0 = 2)) ⟨rfl, rfl, rfl, rfl, rfl, rfl, rfl, rfl, rfl, trivial⟩ ⟨HS, H⟩
              · replace H := ite_f c64 H
                refine V.condF (sb (decide_eq_false c64)) (V.region (W.r (X.cmp (decide (a0 = 5)) rfl rfl rfl rfl) rfl (W.as rfl (W.nil ?_))))
                exact At.meet (decide (a0 = 5)) ⟨rfl, rfl, rfl, rfl, rfl, rfl, rfl, rfl, rfl, trivial⟩ ⟨HS, H⟩
        · rintro x48 w ⟨HS, H⟩
          unfold signalmanlaw15_ArqAnswers.j3 at H
          by_cases c50 : x48 = true
          · replace H := ite_t c50 H
            refine V.condT (sb c50) (V.region (W.mv rfl (W.mv rfl (W.e (Y.ls (e := 5) (Value.int .u8) ([IntKind.u8.wrap (a1.fdiv (2 ^ (min (8 : Int).toNat IntKind.i64.bits))), IntKind.u8.wrap (iand .i64 a1 (255)), 15] : List Int) HS rfl rfl (fun _ => by kernel_rfl)) rfl ?_))))
            rintro _ w ⟨lb53, rfl, HS⟩
            refine W.r (X.bytesStr Try.underlying39 Try.underlying5 Try.underlying9 rfl (rdC.at 0 row_rd HS rfl)) rfl (W.as rfl (W.nil (At.blockEnd ?_)))
            replace HS := HS.pk [1, 2, 3, 4, 5, 6] [0]
            exact At.meet (([IntKind.u8.wrap (a1.fdiv (2 ^ (min (8 : Int).toNat IntKind.i64.bits))), IntKind.u8.wrap (iand .i64 a1 (255)), 15] : List Int), false) ⟨rfl, rfl, rfl, rfl, trivial⟩ ⟨HS, H⟩
          · replace H := ite_f c50 H
            refine V.condF (sb (b_f c50)) (V.seq (V.region (W.r (X.cmp (decide (a0 = 3)) rfl rfl rfl rfl) rfl (W.as rfl (W.nx ?_)))))
            by_cases c54 : a0 = 3
            · replace H := ite_t c54 H
              refine V.condT (sb (decide_eq_true c54)) (V.meet (σ := Bool) (fun st w => match st with | x55 => Sep.St [row 39 1 (.slice at20_0 t20.1.length ct20_0) t20.1.length dt20_0, tie (El.sl (El.int .u8)) dt20_0 t20.1, arq_Arq.at bt8_0 t20.2, row 5 1 (.slice at13_0 t13.length ct13_0) t13.length (t13.map (Value.int .u8)), row 5 1 (.slice ra16 (([IntKind.u8.wrap (a1.fdiv (2 ^ (min (8 : Int).toNat IntKind.i64.bits))), IntKind.u8.wrap (iand .i64 a1 (255))] : List Int) ++ t13).length rc17) (([IntKind.u8.wrap (a1.fdiv (2 ^ (min (8 : Int).toNat IntKind.i64.bits))), IntKind.u8.wrap (iand .i64 a1 (255))] : List Int) ++ t13).length ((([IntKind.u8.wrap (a1.fdiv (2 ^ (min (8 : Int).toNat IntKind.i64.bits))), IntKind.u8.wrap (iand .i64 a1 (255))] : List Int) ++ t13).map (Value.int .u8)), R] w0 w ∧ signalmanlaw15_ArqAnswers.j4 a1 t20 x55 = some r) (fun st => match st with | x55 => [(6, Value.pointer (some ⟨bt8_0, 0, none⟩)), (7, Value.int .u8 (IntKind.u8.wrap (a1.fdiv (2 ^ (min (8 : Int).toNat IntKind.i64.bits))))), (8, Value.int .u8 (IntKind.u8.wrap (iand .i64 a1 (255)))), (9, Value.slice at20_0 t20.1.length ct20_0), (11, Value.bool x55)]) ?_ ?_)
              · refine V.region (W.mv rfl (W.r (X.cmp (decide (a1 ≥ 1)) rfl rfl rfl rfl) rfl (W.mv rfl ?_)))
                by_cases c61 : a1 ≥ 1
                · replace H := ite_t c61 H
                  refine W.want 66 rfl (sb (decide_eq_true c61)) (W.mv rfl (W.want 66 rfl (sb (decide_eq_true c61)) (W.r (X.cmp (decide (a1 ≤ 32767)) rfl rfl rfl rfl) rfl (W.r (X.pickT (sb (decide_eq_true c61)) rfl) rfl (W.as rfl (W.nil ?_))))))
                  exact At.meet (decide (a1 ≤ 32767)) ⟨rfl, rfl, rfl, rfl, rfl, trivial⟩ ⟨HS, H⟩
                · replace H := ite_f c61 H
                  refine W.pass 66 rfl (sb (decide_eq_false c61)) rfl rfl (W.pass 66 rfl (sb (decide_eq_false c61)) rfl rfl (W.r (X.pickF (sb (decide_eq_false c61)) rfl) rfl (W.as rfl (W.nil ?_))))
                  exact At.meet false ⟨rfl, rfl, rfl, rfl, rfl, trivial⟩ ⟨HS, H⟩
              · rintro x55 w ⟨HS, H⟩
                unfold signalmanlaw15_ArqAnswers.j4 at H
                refine V.seq (V.region (W.as rfl (W.nx (V.seq (V.region (W.mv rfl (W.nx ?_)))))))
                by_cases c57 : x55 = true
                · replace H := ite_t c57 H
                  refine V.condT (sb c57) (V.region (W.mv rfl (W.mv rfl (W.e (Y.ls (e := 5) (Value.int .u8) ([IntKind.u8.wrap (a1.fdiv (2 ^ (min (8 : Int).toNat IntKind.i64.bits))), IntKind.u8.wrap (iand .i64 a1 (255)), 99] : List Int) HS rfl rfl (fun _ => by kernel_rfl)) rfl ?_))))
                  rintro _ w ⟨lb60, rfl, HS⟩
                  refine W.r (X.bytesStr Try.underlying39 Try.underlying5 Try.underlying9 rfl (rdC.at 0 row_rd HS rfl)) rfl (W.as rfl (W.nil (At.blockEnd ?_)))
                  replace HS := HS.pk [1, 2, 3, 4, 5, 6] [0]
                  exact At.meet (([IntKind.u8.wrap (a1.fdiv (2 ^ (min (8 : Int).toNat IntKind.i64.bits))), IntKind.u8.wrap (iand .i64 a1 (255)), 99] : List Int), x55) ⟨rfl, rfl, rfl, rfl, trivial⟩ ⟨HS, H⟩
                · replace H := ite_f c57 H
                  refine V.condF (sb (b_f c57)) (V.skip (At.blockEnd ?_))
                  exact At.meet (([0, 0, 15] : List Int), x55) ⟨rfl, rfl, rfl, rfl, trivial⟩ ⟨HS, H⟩
            · replace H := ite_f c54 H
              refine V.condF (sb (decide_eq_false c54)) (V.skip (At.blockEnd ?_))
              exact At.meet (([] : List Int), false) ⟨rfl, rfl, rfl, rfl, trivial⟩ ⟨HS, H⟩
      · rintro ⟨x27, x28⟩ w ⟨HS, H⟩
        unfold signalmanlaw15_ArqAnswers.j1 at H
        refine V.seq (V.region (W.as rfl (W.nx (V.meet (σ := List Int) (fun st w => match st with | x30 => Sep.St [row 39 1 (.slice at20_0 t20.1.length ct20_0) t20.1.length dt20_0, tie (El.sl (El.int .u8)) dt20_0 t20.1, arq_Arq.at bt8_0 t20.2, row 5 1 (.slice at13_0 t13.length ct13_0) t13.length (t13.map (Value.int .u8)), row 5 1 (.slice ra16 (([IntKind.u8.wrap (a1.fdiv (2 ^ (min (8 : Int).toNat IntKind.i64.bits))), IntKind.u8.wrap (iand .i64 a1 (255))] : List Int) ++ t13).length rc17) (([IntKind.u8.wrap (a1.fdiv (2 ^ (min (8 : Int).toNat IntKind.i64.bits))), IntKind.u8.wrap (iand .i64 a1 (255))] : List Int) ++ t13).length ((([IntKind.u8.wrap (a1.fdiv (2 ^ (min (8 : Int).toNat IntKind.i64.bits))), IntKind.u8.wrap (iand .i64 a1 (255))] : List Int) ++ t13).map (Value.int .u8)), R] w0 w ∧ signalmanlaw15_ArqAnswers.j2 t20 x27 x28 x30 = some r) (fun st => match st with | x30 => [(6, Value.pointer (some ⟨bt8_0, 0, none⟩)), (9, Value.slice at20_0 t20.1.length ct20_0), (10, Value.string (strOf x27)), (11, Value.bool x28), (12, Value.string (strOf x30))]) ?_ ?_))))
        · refine V.seq (V.region (W.mv rfl (W.r (X.lenSl Try.underlying30 rfl) rfl (W.r (X.cmp (decide ((t20.1.length : Int) = 1)) rfl rfl rfl rfl) rfl (W.nx ?_)))))
          by_cases c38 : (t20.1.length : Int) = 1
          · replace H := ite_t c38 H
            refine V.condT (sb (decide_eq_true c38)) (V.region (W.mv rfl ?_))
            obtain ⟨c39, H⟩ := ite_n H
            obtain ⟨eb40, eo41, hh⟩ := (rdC.at 0 row_rd HS rfl).some (by decide) c39.1 c39.2; subst hh
            refine W.r (X.indexSl Try.underlying30 inf39 rfl rfl c39.1 c39.2) rfl ?_
            obtain ⟨ec42, hc43, HS⟩ := St.tie_at 1 HS rfl ([]) c39.1 c39.2
            obtain ⟨ea44, em45, he47, HN⟩ := St.sl_openF (Value.int .u8) (fun t => tie_int t) HS; clear HS; subst he47; have HS := HN
            refine W.r (X.load Try.underlying39 rfl rfl ((rdC.at 1 row_rd HS rfl).cellEl0 (hc43 0 _ rfl))) rfl (W.r (X.bytesStr Try.underlying39 Try.underlying5 Try.underlying9 rfl (rdC.at 0 fsl.rd HS rfl)) rfl (W.as rfl (W.nil ?_)))
            replace HS := HS.pk [1, 2, 3, 4, 5, 6] [0]
            exact At.meet (t20.1.getD (0 : Int).toNat []) ⟨rfl, rfl, rfl, rfl, rfl, trivial⟩ ⟨HS, H⟩
          · replace H := ite_f c38 H
            refine V.condF (sb (decide_eq_false c38)) (V.skip ?_)
            exact At.meet ([] : List Int) ⟨rfl, rfl, rfl, rfl, rfl, trivial⟩ ⟨HS, H⟩
        · rintro x30 w ⟨HS, H⟩
          unfold signalmanlaw15_ArqAnswers.j2 at H
          refine V.seq (V.region (W.mv rfl (W.r (X.lenSl Try.underlying30 rfl) rfl (W.r (X.cmp (decide ((t20.1.length : Int) ≤ 1)) rfl rfl rfl rfl) rfl (W.mv rfl ?_)))))
          by_cases c32 : (t20.1.length : Int) ≤ 1
          · replace H := ite_t c32 H
            refine W.want 85 rfl (sb (decide_eq_true c32)) (W.mv rfl (W.want 85 rfl (sb (decide_eq_true c32)) (W.mv rfl (W.want 85 rfl (sb (decide_eq_true c32)) (W.r (X.eqStr (a := x30) (b := x27) rfl rfl) rfl (W.r (X.pickT (sb (decide_eq_true c32)) rfl) rfl (W.mv rfl ?_)))))))
            by_cases c33 : sEq x30 x27 = true
            · replace H := ite_t c33 H
              refine W.want 90 rfl (sb c33) (W.mv rfl (W.want 90 rfl (sb c33) ?_))
              replace HS := HS.front 2 rfl
              obtain ⟨b8_34, b9_34, b10_34, a11_34, c11_34, d11_34, a12_34, c12_34, hi35, HS⟩ := arq_Arq.open HS
              obtain ⟨t36, A37, H⟩ := bind_s H
              refine W.e (Y.cl Try.func22 (arq_Arq_State.calls A37 HS.j7)) rfl ?_
              rintro _ w ⟨rfl, HS⟩
              replace HS := HS.o7
              refine W.want 90 rfl (sb c33) (W.r (X.cmp (decide (t36 = 2)) rfl rfl rfl rfl) rfl (W.want 90 rfl (sb c33) (W.mv rfl (W.want 90 rfl (sb c33) (W.r (X.eqB Try.underlying4 rfl rfl) rfl (W.r (X.pickT (sb c33) rfl) rfl (W.as rfl (W.nx (V.ret ?_)))))))))
              replace HS := HS.pk [11] [0, 1, 2, 3, 4, 5, 6, 7, 8, 9, 10]
              cases H
              exact At.ret1 rfl rfl ⟨_, rfl, rfl, HS⟩
            · replace H := ite_f c33 H
              refine W.pass 90 rfl (sb (b_f c33)) rfl rfl (W.pass 90 rfl (sb (b_f c33)) rfl rfl (W.pass 90 rfl (sb (b_f c33)) rfl rfl (W.pass 90 rfl (sb (b_f c33)) rfl rfl (W.pass 90 rfl (sb (b_f c33)) rfl rfl (W.r (X.pickF (sb (b_f c33)) rfl) rfl (W.as rfl (W.nx (V.ret ?_))))))))
              replace HS := HS.pk [5] [0, 1, 2, 3, 4]
              cases H
              exact At.ret1 rfl rfl ⟨_, rfl, rfl, HS⟩
          · replace H := ite_f c32 H
            refine W.pass 85 rfl (sb (decide_eq_false c32)) rfl rfl (W.pass 85 rfl (sb (decide_eq_false c32)) rfl rfl (W.pass 85 rfl (sb (decide_eq_false c32)) rfl rfl (W.r (X.pickF (sb (decide_eq_false c32)) rfl) rfl (W.mv rfl (W.pass 90 rfl rfl rfl rfl (W.pass 90 rfl rfl rfl rfl (W.pass 90 rfl rfl rfl rfl (W.pass 90 rfl rfl rfl rfl (W.pass 90 rfl rfl rfl rfl (W.r (X.pickF rfl rfl) rfl (W.as rfl (W.nx (V.ret ?_)))))))))))))
            replace HS := HS.pk [5] [0, 1, 2, 3, 4]
            cases H
            exact At.ret1 rfl rfl ⟨_, rfl, rfl, HS⟩

def signalmanlaw15_ArqAnswers.Pure : Prop := ∀ (a0 : Int) (a1 : Int), (Lit.int .i64 a0).wf = true → (Lit.int .i64 a1).wf = true → ∃ k, signalmanlaw15_ArqAnswers.f k a0 a1 = some true
end Go.Proofs.Ytnlcafmkmfnobaa

/- StationKeeps: the functions that its law reaches, as plain functions, and that the machine's calls come to what these say. Conditions: those that stand at each. -/
import Derived.Test.YtodbopebbmplaaaRunStationKeepsP3
set_option linter.all false
set_option maxRecDepth 100000
set_option maxHeartbeats 4000000
set_option synthInstance.maxSize 100000
set_option synthInstance.maxHeartbeats 1000000
namespace Go.Proofs.Ytodbopebbmplaaa
open Go.RowKit Go.Proofs.Ytodbopebbmplaaa.Sep Go.Proofs.Ytodbopebbmplaaa.Walk
mutual
def signalmanlaw20_alive.j0  : Option Bool := some false
def signalmanlaw20_alive.j1 (k : Nat) (t3 : Option station_Station × Int) (t3 : Option station_Station × Int) (t3 : Option station_Station × Int) (x15 : Bool) : Option Bool := (if x15 = true then some false else ((station_Station_Connect.f k (t3.1.getD default)).bind fun t18 => ((station_Station_Step.f k t18.2).bind fun t20 => ((signalmanlaw20_num.f t18.1).bind fun t23 => (if t23 = 0 then ((station_Station_Status.f t20.2).bind fun t28 => (if t28.State = 1 then (if (t20.1.1.length : Int) = 1 then (if (t20.1.2.length : Int) = 1 then ((station_Station_Take.f k t20.2 0 100).bind fun t33 => some (decide ((t33.1.length : Int) > 0))) else some false) else some false) else some false)) else some false)))))
end
def signalmanlaw20_alive.f (k : Nat)  : Option Bool := ((signalmanlaw20_Good.f 0 3 10 false false).bind fun t1 => ((station_New.f k t1).bind fun t3 => (if t3.1.isNone = true then ((signalmanlaw20_num.f t3.2).bind fun t9 => (if t9 = 0 then signalmanlaw20_alive.j0 else signalmanlaw20_alive.j0)) else ((signalmanlaw20_num.f t3.2).bind fun t35 => (if t35 = 0 then (signalmanlaw20_alive.j1 k t3 t3 t3 false) else (signalmanlaw20_alive.j1 k t3 t3 t3 true))))))
theorem signalmanlaw20_alive.calls {k : Nat}  {R : As} {w0 w : World}  {r : Bool} (H : signalmanlaw20_alive.f k  = some r) (HS : Sep.St [R] w0 w)  : Calls Try.prog 4 #[] w (Ret fun u w => u = Value.bool r ∧ Sep.St [R] w0 w) := by
 unfold signalmanlaw20_alive.f at H
 refine calls_enter Try.func4 rfl rfl ?_
 have H : _ = some r := H
 refine V.seq (V.region (W.as rfl (W.nx (V.seq (V.region ?_)))))
 obtain ⟨t1, A2, H⟩ := bind_s H
 refine W.e (Y.cl Try.func5 (signalmanlaw20_Good.calls A2 HS.j0)) rfl ?_
 rintro _ w ⟨rfl, HS⟩
 replace HS := HS.o0
 obtain ⟨t3, A4, H⟩ := bind_s H
 by_cases c5 : t3.1.isNone = true
 ·replace H := ite_t c5 H
  refine W.e (Y.cl Try.func6 (station_New.calls A4 HS.j0)) rfl ?_
  rintro _ w ⟨bt3_0, rfl, HS⟩
  replace HS := HS.o1
  replace HS := St.optN c5 HS
  rw [optv_n c5]
  refine W.mv rfl (W.r (X.extract rfl rfl) rfl (W.r (X.extract rfl rfl) rfl (W.as rfl (W.as rfl (W.nx (V.seq (V.meet (σ := Unit) (fun st w => match st with | _ => Sep.St [R] w0 w ∧ signalmanlaw20_alive.j0 = some r) (fun st => match st with | _ => [(1, Value.pointer none), (16, Value.bool true)]) ?_ ?_)))))))
  ·refine V.region (W.mv rfl ?_)
   obtain ⟨t9, A10, H⟩ := bind_s H
   refine W.e (Y.cl Try.func7 (signalmanlaw20_num.calls A10 HS.j0)) rfl ?_
   rintro _ w ⟨rfl, HS⟩
   replace HS := HS.o0
   refine W.r (X.cmp (!(decide (t9 = 0))) rfl rfl rfl rfl) rfl (W.mv rfl ?_)
   by_cases c11 : t9 = 0
   ·replace H := ite_t c11 H
    refine W.want 13 rfl (sb (n_t (decide_eq_true c11))) (W.mv rfl (W.want 13 rfl (sb (n_t (decide_eq_true c11))) (W.r (X.eqP Try.underlying26 rfl rfl) rfl (W.r (X.pickF (sb (n_t (decide_eq_true c11))) rfl) rfl (W.nil ?_)))))
    exact At.meet () ⟨rfl, rfl, trivial⟩ ⟨HS, H⟩
   ·replace H := ite_f c11 H
    refine W.pass 13 rfl (sb (n_f (decide_eq_false c11))) rfl rfl (W.pass 13 rfl (sb (n_f (decide_eq_false c11))) rfl rfl (W.r (X.pickT (sb (n_f (decide_eq_false c11))) rfl) rfl (W.nil ?_)))
    exact At.meet () ⟨rfl, rfl, trivial⟩ ⟨HS, H⟩
  ·rintro ⟨⟩ w ⟨HS, H⟩
   unfold signalmanlaw20_alive.j0 at H
   refine V.condT rfl (V.seq (V.region (W.as rfl (W.nx (V.ret (At.thenRet ?_))))))
   cases H
   exact At.ret1 rfl rfl ⟨_, rfl, rfl, HS⟩
 ·replace H := ite_f c5 H
  refine W.e (Y.cl Try.func6 (station_New.calls A4 HS.j0)) rfl ?_
  rintro _ w ⟨bt3_0, rfl, HS⟩
  replace HS := HS.o1
  replace HS := St.optS default c5 HS
  rw [optv_s c5]
  refine W.mv rfl (W.r (X.extract rfl rfl) rfl (W.r (X.extract rfl rfl) rfl (W.as rfl (W.as rfl (W.nx (V.seq (V.meet (σ := Bool) (fun st w => match st with | x15 => Sep.St [station_Station.at bt3_0 (t3.1.getD default), R] w0 w ∧ ∃ kf16, kf16 ≤ k ∧ signalmanlaw20_alive.j1 kf16 t3 t3 t3 x15 = some r) (fun st => match st with | x15 => [(1, Value.pointer (some ⟨bt3_0, 0, none⟩)), (16, Value.bool x15)]) ?_ ?_)))))))
  ·refine V.region (W.mv rfl ?_)
   obtain ⟨t35, A36, H⟩ := bind_s H
   refine W.e (Y.cl Try.func7 (signalmanlaw20_num.calls A36 HS.j0)) rfl ?_
   rintro _ w ⟨rfl, HS⟩
   replace HS := HS.o0
   refine W.r (X.cmp (!(decide (t35 = 0))) rfl rfl rfl rfl) rfl (W.mv rfl ?_)
   by_cases c37 : t35 = 0
   ·replace H := ite_t c37 H
    refine W.want 13 rfl (sb (n_t (decide_eq_true c37))) (W.mv rfl (W.want 13 rfl (sb (n_t (decide_eq_true c37))) (W.r (X.eqP Try.underlying26 rfl rfl) rfl (W.r (X.pickF (sb (n_t (decide_eq_true c37))) rfl) rfl (W.nil ?_)))))
    exact At.meet false ⟨rfl, rfl, trivial⟩ ⟨HS, k, by omega, H⟩
   ·replace H := ite_f c37 H
    refine W.pass 13 rfl (sb (n_f (decide_eq_false c37))) rfl rfl (W.pass 13 rfl (sb (n_f (decide_eq_false c37))) rfl rfl (W.r (X.pickT (sb (n_f (decide_eq_false c37))) rfl) rfl (W.nil ?_)))
    exact At.meet true ⟨rfl, rfl, trivial⟩ ⟨HS, k, by omega, H⟩
  ·rintro x15 w ⟨HS, kf16, hkkf16, H⟩
   unfold signalmanlaw20_alive.j1 at H
   by_cases c17 : x15 = true
   ·replace H := ite_t c17 H
    refine V.condT (sb c17) (V.seq (V.region (W.as rfl (W.nx (V.ret (At.thenRet ?_))))))
    replace HS := HS.pk [1] [0]
    cases H
    exact At.ret1 rfl rfl ⟨_, rfl, rfl, HS⟩
   ·replace H := ite_f c17 H
    refine V.condF (sb (b_f c17)) (V.skip (At.next (V.seq (V.region (W.mv rfl ?_)))))
    obtain ⟨t18, A19, H⟩ := bind_s H
    refine W.e (Y.cl Try.func9 (station_Station_Connect.calls A19 HS.j1)) rfl ?_
    rintro _ w ⟨rfl, HS⟩
    replace HS := HS.o1
    refine W.as rfl (W.nx (V.seq (V.region (W.mv rfl ?_))))
    obtain ⟨t20, A21, H⟩ := bind_s H
    refine W.e (Y.cl Try.func8 (station_Station_Step.calls A21 HS.j1)) rfl ?_
    rintro _ w ⟨at20_0_0, ct20_0_0, dt20_0_0, at20_0_1, ct20_0_1, dt20_0_1, rfl, HS⟩
    replace HS := HS.o5
    refine W.e (Y.alloc (z := Value.agg (#[Value.slice none 0 0, Value.slice none 0 0])) HS ze32) rfl ?_
    rintro _ w ⟨nb22, rfl, HS⟩
    refine W.en (Y.storeSt (c' := #[Value.slice at20_0_0 t20.1.1.length ct20_0_0, Value.slice at20_0_1 t20.1.2.length ct20_0_1]) 0 [Value.slice at20_0_0 t20.1.1.length ct20_0_0, Value.slice at20_0_1 t20.1.2.length ct20_0_1] HS rfl inf32 rfl rfl rfl rfl rfl rfl) rfl ?_
    rintro _ w HS
    refine W.nx (V.seq (V.region (W.mv rfl ?_)))
    obtain ⟨t23, A24, H⟩ := bind_s H
    refine W.e (Y.cl Try.func7 (signalmanlaw20_num.calls A24 HS.j0)) rfl ?_
    rintro _ w ⟨rfl, HS⟩
    replace HS := HS.o0
    refine W.r (X.cmp (decide (t23 = 0)) rfl rfl rfl rfl) rfl (W.mv rfl ?_)
    by_cases c25 : t23 = 0
    ·replace H := ite_t c25 H
     refine W.want 24 rfl (sb (decide_eq_true c25)) (W.mv rfl (W.want 24 rfl (sb (decide_eq_true c25)) ?_))
     replace HS := HS.fr 5
     obtain ⟨b16_26, b17_26, b18_26, b22_26, b23_26, b24_26, b32_26, b33_26, b34_26, hi27, HS⟩ := station_Station.open HS
     obtain ⟨t28, A29, H⟩ := bind_s H
     refine W.e (Y.cl Try.func10 (station_Station_Status.calls A29 HS.j10)) rfl ?_
     rintro _ w ⟨rfl, HS⟩
     replace HS := HS.o10
     refine W.want 24 rfl (sb (decide_eq_true c25)) (W.r (X.fdK (Value.int .i64 t28.State) rfl (fun _ => by kernel_rfl)) rfl (W.want 24 rfl (sb (decide_eq_true c25)) (W.r (X.cmp (decide (t28.State = 1)) rfl rfl rfl rfl) rfl (W.r (X.pickT (sb (decide_eq_true c25)) rfl) rfl (W.mv rfl ?_)))))
     by_cases c30 : t28.State = 1
     ·replace H := ite_t c30 H
      refine W.want 30 rfl (sb (decide_eq_true c30)) (W.r (X.indexArK 0 rfl Try.underlying32 inf31 rfl rfl (by decide) (by decide)) rfl (W.want 30 rfl (sb (decide_eq_true c30)) (W.ld 10 HS Try.underlying31 rfl rfl rfl rfl (W.want 30 rfl (sb (decide_eq_true c30)) (W.r (X.lenSl Try.underlying31 rfl) rfl (W.want 30 rfl (sb (decide_eq_true c30)) (W.r (X.cmp (decide ((t20.1.1.length : Int) = 1)) rfl rfl rfl rfl) rfl (W.r (X.pickT (sb (decide_eq_true c30)) rfl) rfl (W.mv rfl ?_)))))))))
      by_cases c31 : (t20.1.1.length : Int) = 1
      ·replace H := ite_t c31 H
       refine W.want 36 rfl (sb (decide_eq_true c31)) (W.r (X.indexArK 1 rfl Try.underlying32 inf31 rfl rfl (by decide) (by decide)) rfl (W.want 36 rfl (sb (decide_eq_true c31)) (W.ld 10 HS Try.underlying31 rfl rfl rfl rfl (W.want 36 rfl (sb (decide_eq_true c31)) (W.r (X.lenSl Try.underlying31 rfl) rfl (W.want 36 rfl (sb (decide_eq_true c31)) (W.r (X.cmp (decide ((t20.1.2.length : Int) = 1)) rfl rfl rfl rfl) rfl (W.r (X.pickT (sb (decide_eq_true c31)) rfl) rfl (W.mv rfl ?_)))))))))
       by_cases c32 : (t20.1.2.length : Int) = 1
       ·replace H := ite_t c32 H
        refine W.want 42 rfl (sb (decide_eq_true c32)) (W.mv rfl (W.want 42 rfl (sb (decide_eq_true c32)) ?_))
        replace HS := station_Station.close trivial HS
        obtain ⟨t33, A34, H⟩ := bind_s H
        refine W.e (Y.cl Try.func11 (station_Station_Take.calls A34 HS.j1)) rfl ?_
        rintro _ w ⟨at33_0, ct33_0, rfl, HS⟩
        replace HS := HS.o2
        refine W.want 42 rfl (sb (decide_eq_true c32)) (W.r (X.lenSl Try.underlying34 rfl) rfl (W.want 42 rfl (sb (decide_eq_true c32)) (W.r (X.cmp (decide ((t33.1.length : Int) > 0)) rfl rfl rfl rfl) rfl (W.r (X.pickT (sb (decide_eq_true c32)) rfl) rfl (W.as rfl (W.nx (V.ret ?_)))))))
        replace HS := HS.pk [7] [0, 1, 2, 3, 4, 5, 6]
        cases H
        exact At.ret1 rfl rfl ⟨_, rfl, rfl, HS⟩
       ·replace H := ite_f c32 H
        refine W.pass 42 rfl (sb (decide_eq_false c32)) rfl rfl (W.pass 42 rfl (sb (decide_eq_false c32)) rfl rfl (W.pass 42 rfl (sb (decide_eq_false c32)) rfl rfl (W.pass 42 rfl (sb (decide_eq_false c32)) rfl rfl (W.r (X.pickF (sb (decide_eq_false c32)) rfl) rfl (W.as rfl (W.nx (V.ret ?_)))))))
        replace HS := HS.pk [15] [0, 1, 2, 3, 4, 5, 6, 7, 8, 9, 10, 11, 12, 13, 14]
        cases H
        exact At.ret1 rfl rfl ⟨_, rfl, rfl, HS⟩
      ·replace H := ite_f c31 H
       refine W.pass 36 rfl (sb (decide_eq_false c31)) rfl rfl (W.pass 36 rfl (sb (decide_eq_false c31)) rfl rfl (W.pass 36 rfl (sb (decide_eq_false c31)) rfl rfl (W.pass 36 rfl (sb (decide_eq_false c31)) rfl rfl (W.r (X.pickF (sb (decide_eq_false c31)) rfl) rfl (W.mv rfl (W.pass 42 rfl rfl rfl rfl (W.pass 42 rfl rfl rfl rfl (W.pass 42 rfl rfl rfl rfl (W.pass 42 rfl rfl rfl rfl (W.r (X.pickF rfl rfl) rfl (W.as rfl (W.nx (V.ret ?_)))))))))))))
       replace HS := HS.pk [15] [0, 1, 2, 3, 4, 5, 6, 7, 8, 9, 10, 11, 12, 13, 14]
       cases H
       exact At.ret1 rfl rfl ⟨_, rfl, rfl, HS⟩
     ·replace H := ite_f c30 H
      refine W.pass 30 rfl (sb (decide_eq_false c30)) rfl rfl (W.pass 30 rfl (sb (decide_eq_false c30)) rfl rfl (W.pass 30 rfl (sb (decide_eq_false c30)) rfl rfl (W.pass 30 rfl (sb (decide_eq_false c30)) rfl rfl (W.r (X.pickF (sb (decide_eq_false c30)) rfl) rfl (W.mv rfl (W.pass 36 rfl rfl rfl rfl (W.pass 36 rfl rfl rfl rfl (W.pass 36 rfl rfl rfl rfl (W.pass 36 rfl rfl rfl rfl (W.r (X.pickF rfl rfl) rfl (W.mv rfl (W.pass 42 rfl rfl rfl rfl (W.pass 42 rfl rfl rfl rfl (W.pass 42 rfl rfl rfl rfl (W.pass 42 rfl rfl rfl rfl (W.r (X.pickF rfl rfl) rfl (W.as rfl (W.nx (V.ret ?_)))))))))))))))))))
      replace HS := HS.pk [15] [0, 1, 2, 3, 4, 5, 6, 7, 8, 9, 10, 11, 12, 13, 14]
      cases H
      exact At.ret1 rfl rfl ⟨_, rfl, rfl, HS⟩
    ·replace H := ite_f c25 H
     refine W.pass 24 rfl (sb (decide_eq_false c25)) rfl rfl (W.pass 24 rfl (sb (decide_eq_false c25)) rfl rfl (W.pass 24 rfl (sb (decide_eq_false c25)) rfl rfl (W.pass 24 rfl (sb (decide_eq_false c25)) rfl rfl (W.r (X.pickF (sb (decide_eq_false c25)) rfl) rfl (W.mv rfl (W.pass 30 rfl rfl rfl rfl (W.pass 30 rfl rfl rfl rfl (W.pass 30 rfl rfl rfl rfl (W.pass 30 rfl rfl rfl rfl (W.r (X.pickF rfl rfl) rfl (W.mv rfl (W.pass 36 rfl rfl rfl rfl (W.pass 36 rfl rfl rfl rfl (W.pass 36 rfl rfl rfl rfl (W.pass 36 rfl rfl rfl rfl (W.r (X.pickF rfl rfl) rfl (W.mv rfl (W.pass 42 rfl rfl rfl rfl (W.pass 42 rfl rfl rfl rfl (W.pass 42 rfl rfl rfl rfl (W.pass 42 rfl rfl rfl rfl (W.r (X.pickF rfl rfl) rfl (W.as rfl (W.nx (V.ret ?_)))))))))))))))))))))))))
     replace HS := HS.pk [6] [0, 1, 2, 3, 4, 5]
     cases H
     exact At.ret1 rfl rfl ⟨_, rfl, rfl, HS⟩
mutual
def signalmanlaw20_StationKeeps.j1  : Option Bool := some false
def signalmanlaw20_StationKeeps.l3 : Nat → Int → Int → Int → station_Station → Option Bool
 | 0, _, _, _, _ => none
 | k + 1, a1, a2, x26, x27 => (if x26 ≤ a2 then ((station_Station_Step.f k x27).bind fun t31 => (if ¬ (a1 = 0) then (if (x26.tmod a1) = 0 then (signalmanlaw20_StationKeeps.j4 x26 t31 (signalmanlaw20_StationKeeps.l3 k a1 a2) 1) else (signalmanlaw20_StationKeeps.j4 x26 t31 (signalmanlaw20_StationKeeps.l3 k a1 a2) 0)) else none)) else some true)
def signalmanlaw20_StationKeeps.j5 (x26 : Int) (t31 : (List (List Int) × List (List Int)) × station_Station) (Lq45 : Int → station_Station → Option Bool) (x43 : Bool) : Option Bool := (if x43 = true then some false else (Lq45 (w64 (x26 + 1)) t31.2))
def signalmanlaw20_StationKeeps.j4 (x26 : Int) (t31 : (List (List Int) × List (List Int)) × station_Station) (Lq41 : Int → station_Station → Option Bool) (x39 : Int) : Option Bool := (if (t31.1.1.length : Int) = x39 then (if (t31.1.2.length : Int) = x39 then (if x39 = 1 then (if 0 ≤ (0 : Int) ∧ (0 : Int) < (t31.1.1.length : Int) then (if ((t31.1.1.getD (0 : Int).toNat []).length : Int) = 3 then (if 0 ≤ (0 : Int) ∧ (0 : Int) < ((t31.1.1.getD (0 : Int).toNat []).length : Int) then (if ((t31.1.1.getD (0 : Int).toNat []).getD (0 : Int).toNat 0) = 1 then (if 0 ≤ (0 : Int) ∧ (0 : Int) < (t31.1.2.length : Int) then (signalmanlaw20_StationKeeps.j5 x26 t31 Lq41 (!(sEq (t31.1.1.getD (0 : Int).toNat []) (t31.1.2.getD (0 : Int).toNat [])))) else none) else (signalmanlaw20_StationKeeps.j5 x26 t31 Lq41 true)) else none) else (signalmanlaw20_StationKeeps.j5 x26 t31 Lq41 true)) else none) else (signalmanlaw20_StationKeeps.j5 x26 t31 Lq41 false)) else (signalmanlaw20_StationKeeps.j5 x26 t31 Lq41 true)) else (signalmanlaw20_StationKeeps.j5 x26 t31 Lq41 true))
def signalmanlaw20_StationKeeps.j2 (k : Nat) (a1 : Int) (a2 : Int) (t9 : Option station_Station × Int) (t9 : Option station_Station × Int) (t9 : Option station_Station × Int) (x23 : Bool) : Option Bool := (if x23 = true then some false else (signalmanlaw20_StationKeeps.l3 k a1 a2 1 (t9.1.getD default)))
def signalmanlaw20_StationKeeps.j0 (k : Nat) (a0 : Int) (a1 : Int) (a2 : Int) (t1 : Bool) (x3 : Bool) : Option Bool := (if x3 = true then some t1 else ((signalmanlaw20_Good.f a0 0 63 false false).bind fun t6 => ((station_New.f k ({ t6 with Keep := a1, Ring := 1048576 } : api_Config)).bind fun t9 => (if t9.1.isNone = true then ((signalmanlaw20_num.f t9.2).bind fun t16 => (if t16 = 0 then signalmanlaw20_StationKeeps.j1 else signalmanlaw20_StationKeeps.j1)) else ((signalmanlaw20_num.f t9.2).bind fun t78 => (if t78 = 0 then (signalmanlaw20_StationKeeps.j2 k a1 a2 t9 t9 t9 false) else (signalmanlaw20_StationKeeps.j2 k a1 a2 t9 t9 t9 true)))))))
end
def signalmanlaw20_StationKeeps.f (k : Nat) (a0 : Int) (a1 : Int) (a2 : Int) : Option Bool := ((signalmanlaw20_alive.f k ).bind fun t1 => (if t1 = true then (if a1 < 1 then (signalmanlaw20_StationKeeps.j0 k a0 a1 a2 t1 true) else (if a1 > 50 then (signalmanlaw20_StationKeeps.j0 k a0 a1 a2 t1 true) else (if a2 < 0 then (signalmanlaw20_StationKeeps.j0 k a0 a1 a2 t1 true) else (signalmanlaw20_StationKeeps.j0 k a0 a1 a2 t1 (decide (a2 > 200)))))) else (signalmanlaw20_StationKeeps.j0 k a0 a1 a2 t1 true)))
theorem signalmanlaw20_StationKeeps.calls {k : Nat} {a0 : Int} {a1 : Int} {a2 : Int} {R : As} {w0 w : World}  {r : Bool} (H : signalmanlaw20_StationKeeps.f k a0 a1 a2 = some r) (HS : Sep.St [R] w0 w)  : Calls Try.prog 3 #[Value.int .i64 a0, Value.int .i64 a1, Value.int .i64 a2] w (Ret fun u w => u = Value.bool r ∧ Sep.St [R] w0 w) := by
 unfold signalmanlaw20_StationKeeps.f at H
 refine calls_enter Try.func3 rfl rfl ?_
 have H : _ = some r := H
 refine V.seq (V.region (W.as rfl (W.nx (V.seq (V.region ?_)))))
 obtain ⟨t1, A2, H⟩ := bind_s H
 refine W.e (Y.cl Try.func4 (signalmanlaw20_alive.calls A2 HS.j0)) rfl ?_
 rintro _ w ⟨rfl, HS⟩
 replace HS := HS.o0
 refine W.as rfl (W.nx (V.seq (V.meet (σ := Bool) (fun st w => match st with | x3 => Sep.St [R] w0 w ∧ ∃ kf4, kf4 ≤ k ∧ signalmanlaw20_StationKeeps.j0 kf4 a0 a1 a2 t1 x3 = some r) (fun st => match st with | x3 => [(0, Value.int .i64 a0), (1, Value.int .i64 a1), (2, Value.int .i64 a2), (7, Value.bool t1), (32, Value.bool x3)]) ?_ ?_)))
 ·refine V.region (W.mv rfl (W.r (X.not rfl) rfl (W.mv rfl ?_)))
  by_cases c81 : t1 = true
  ·replace H := ite_t c81 H
   refine W.want 17 rfl (sb (n_t c81)) (W.mv rfl (W.want 17 rfl (sb (n_t c81)) (W.r (X.cmp (decide (a1 < 1)) rfl rfl rfl rfl) rfl (W.r (X.pickF (sb (n_t c81)) rfl) rfl (W.mv rfl ?_)))))
   by_cases c82 : a1 < 1
   ·replace H := ite_t c82 H
    refine W.pass 21 rfl (sb (decide_eq_true c82)) rfl rfl (W.pass 21 rfl (sb (decide_eq_true c82)) rfl rfl (W.r (X.pickT (sb (decide_eq_true c82)) rfl) rfl (W.mv rfl (W.pass 25 rfl rfl rfl rfl (W.pass 25 rfl rfl rfl rfl (W.r (X.pickT rfl rfl) rfl (W.mv rfl (W.pass 29 rfl rfl rfl rfl (W.pass 29 rfl rfl rfl rfl (W.r (X.pickT rfl rfl) rfl (W.nil ?_)))))))))))
    exact At.meet true ⟨rfl, rfl, rfl, rfl, rfl, trivial⟩ ⟨HS, k, by omega, H⟩
   ·replace H := ite_f c82 H
    refine W.want 21 rfl (sb (decide_eq_false c82)) (W.mv rfl (W.want 21 rfl (sb (decide_eq_false c82)) (W.r (X.cmp (decide (a1 > 50)) rfl rfl rfl rfl) rfl (W.r (X.pickF (sb (decide_eq_false c82)) rfl) rfl (W.mv rfl ?_)))))
    by_cases c83 : a1 > 50
    ·replace H := ite_t c83 H
     refine W.pass 25 rfl (sb (decide_eq_true c83)) rfl rfl (W.pass 25 rfl (sb (decide_eq_true c83)) rfl rfl (W.r (X.pickT (sb (decide_eq_true c83)) rfl) rfl (W.mv rfl (W.pass 29 rfl rfl rfl rfl (W.pass 29 rfl rfl rfl rfl (W.r (X.pickT rfl rfl) rfl (W.nil ?_)))))))
     exact At.meet true ⟨rfl, rfl, rfl, rfl, rfl, trivial⟩ ⟨HS, k, by omega, H⟩
    ·replace H := ite_f c83 H
     refine W.want 25 rfl (sb (decide_eq_false c83)) (W.mv rfl (W.want 25 rfl (sb (decide_eq_false c83)) (W.r (X.cmp (decide (a2 < 0)) rfl rfl rfl rfl) rfl (W.r (X.pickF (sb (decide_eq_false c83)) rfl) rfl (W.mv rfl ?_)))))
     by_cases c84 : a2 < 0
     ·replace H := ite_t c84 H
      refine W.pass 29 rfl (sb (decide_eq_true c84)) rfl rfl (W.pass 29 rfl (sb (decide_eq_true c84)) rfl rfl (W.r (X.pickT (sb (decide_eq_true c84)) rfl) rfl (W.nil ?_)))
      exact At.meet true ⟨rfl, rfl, rfl, rfl, rfl, trivial⟩ ⟨HS, k, by omega, H⟩
     ·replace H := ite_f c84 H
      refine W.want 29 rfl (sb (decide_eq_false c84)) (W.mv rfl (W.want 29 rfl (sb (decide_eq_false c84)) (W.r (X.cmp (decide (a2 > 200)) rfl rfl rfl rfl) rfl (W.r (X.pickF (sb (decide_eq_false c84)) rfl) rfl (W.nil ?_)))))
      exact At.meet (decide (a2 > 200)) ⟨rfl, rfl, rfl, rfl, rfl, trivial⟩ ⟨HS, k, by omega, H⟩
  ·replace H := ite_f c81 H
   refine W.pass 17 rfl (sb (n_f (b_f c81))) rfl rfl (W.pass 17 rfl (sb (n_f (b_f c81))) rfl rfl (W.r (X.pickT (sb (n_f (b_f c81))) rfl) rfl (W.mv rfl (W.pass 21 rfl rfl rfl rfl (W.pass 21 rfl rfl rfl rfl (W.r (X.pickT rfl rfl) rfl (W.mv rfl (W.pass 25 rfl rfl rfl rfl (W.pass 25 rfl rfl rfl rfl (W.r (X.pickT rfl rfl) rfl (W.mv rfl (W.pass 29 rfl rfl rfl rfl (W.pass 29 rfl rfl rfl rfl (W.r (X.pickT rfl rfl) rfl (W.nil ?_)))))))))))))))
   exact At.meet true ⟨rfl, rfl, rfl, rfl, rfl, trivial⟩ ⟨HS, k, by omega, H⟩
 ·rintro x3 w ⟨HS, kf4, hkkf4, H⟩
  unfold signalmanlaw20_StationKeeps.j0 at H
  by_cases c5 : x3 = true
  ·replace H := ite_t c5 H
   refine V.condT (sb c5) (V.seq (V.region (W.mv rfl (W.as rfl (W.nx (V.ret (At.thenRet ?_)))))))
   cases H
   exact At.ret1 rfl rfl ⟨_, rfl, rfl, HS⟩
  ·replace H := ite_f c5 H
   refine V.condF (sb (b_f c5)) (V.skip (At.next (V.seq (V.region (W.mv rfl ?_)))))
   obtain ⟨t6, A7, H⟩ := bind_s H
   refine W.e (Y.cl Try.func5 (signalmanlaw20_Good.calls A7 HS.j0)) rfl ?_
   rintro _ w ⟨rfl, HS⟩
   replace HS := HS.o0
   refine W.e (Y.alloc (z := Value.agg (#[Value.int .i64 (0), Value.int .i64 (0), Value.int .i64 (0), Value.int .i64 (0), Value.int .i64 (0), Value.int .i64 (0), Value.int .i64 (0), Value.int .i64 (0), Value.int .i64 (0), Value.int .i64 (0), Value.int .i64 (0), Value.int .i64 (0), Value.int .i64 (0), Value.int .i64 (0), Value.bool false, Value.bool false])) HS ze24) rfl ?_
   rintro _ w ⟨nb8, rfl, HS⟩
   refine W.en (Y.storeSt (c' := #[Value.int .i64 t6.Mode, Value.int .i64 t6.Modulus, Value.int .i64 t6.Window, Value.int .i64 t6.T1, Value.int .i64 t6.N2, Value.int .i64 t6.Hold, Value.int .i64 t6.Wait, Value.int .i64 t6.Keep, Value.int .i64 t6.Queue, Value.int .i64 t6.Size, Value.int .i64 t6.Ring, Value.int .i64 t6.Rate, Value.int .i64 t6.Bad, Value.int .i64 t6.Good, Value.bool t6.Revert, Value.bool t6.Wide]) 0 [Value.int .i64 t6.Mode, Value.int .i64 t6.Modulus, Value.int .i64 t6.Window, Value.int .i64 t6.T1, Value.int .i64 t6.N2, Value.int .i64 t6.Hold, Value.int .i64 t6.Wait, Value.int .i64 t6.Keep, Value.int .i64 t6.Queue, Value.int .i64 t6.Size, Value.int .i64 t6.Ring, Value.int .i64 t6.Rate, Value.int .i64 t6.Bad, Value.int .i64 t6.Good, Value.bool t6.Revert, Value.bool t6.Wide] HS rfl inf24 rfl rfl rfl rfl rfl rfl) rfl ?_
   rintro _ w HS
   refine W.nx (V.seq (V.region (W.mv rfl (W.fa fo24_7 rfl (W.st 0 7 HS inf3 rfl rfl rfl rfl rfl rfl fun w HS => ?_)))))
   refine W.nx (V.seq (V.region (W.fa fo24_10 rfl (W.st 0 10 HS inf3 rfl rfl rfl rfl rfl rfl fun w HS => ?_))))
   refine W.nx (V.seq (V.region (W.r (X.loadSt 0 [Value.int .i64 t6.Mode, Value.int .i64 t6.Modulus, Value.int .i64 t6.Window, Value.int .i64 t6.T1, Value.int .i64 t6.N2, Value.int .i64 t6.Hold, Value.int .i64 t6.Wait, Value.int .i64 a1, Value.int .i64 t6.Queue, Value.int .i64 t6.Size, Value.int .i64 (1048576), Value.int .i64 t6.Rate, Value.int .i64 t6.Bad, Value.int .i64 t6.Good, Value.bool t6.Revert, Value.bool t6.Wide] HS rfl Try.underlying24 rfl inf24 rfl rfl) rfl ?_)))
   obtain ⟨t9, A10, H⟩ := bind_s H
   by_cases c11 : t9.1.isNone = true
   ·replace H := ite_t c11 H
    refine W.e (Y.cl Try.func6 (station_New.calls A10 HS.j0)) rfl ?_
    rintro _ w ⟨bt9_0, rfl, HS⟩
    replace HS := HS.o1
    replace HS := St.optN c11 HS
    rw [optv_n c11]
    refine W.mv rfl (W.r (X.extract rfl rfl) rfl (W.r (X.extract rfl rfl) rfl (W.as rfl (W.as rfl (W.nx (V.seq (V.meet (σ := Unit) (fun st w => match st with | _ => Sep.St [api_Config.at nb8 ({ t6 with Keep := a1, Ring := 1048576 } : api_Config), R] w0 w ∧ signalmanlaw20_StationKeeps.j1 = some r) (fun st => match st with | _ => [(1, Value.int .i64 a1), (2, Value.int .i64 a2), (9, Value.pointer none), (50, Value.bool true)]) ?_ ?_)))))))
    ·refine V.region (W.mv rfl ?_)
     obtain ⟨t16, A17, H⟩ := bind_s H
     refine W.e (Y.cl Try.func7 (signalmanlaw20_num.calls A17 HS.j0)) rfl ?_
     rintro _ w ⟨rfl, HS⟩
     replace HS := HS.o0
     refine W.r (X.cmp (!(decide (t16 = 0))) rfl rfl rfl rfl) rfl (W.mv rfl ?_)
     by_cases c18 : t16 = 0
     ·replace H := ite_t c18 H
      refine W.want 47 rfl (sb (n_t (decide_eq_true c18))) (W.mv rfl (W.want 47 rfl (sb (n_t (decide_eq_true c18))) (W.r (X.eqP Try.underlying26 rfl rfl) rfl (W.r (X.pickF (sb (n_t (decide_eq_true c18))) rfl) rfl (W.nil ?_)))))
      replace HS := api_Config.close trivial HS
      exact At.meet () ⟨rfl, rfl, rfl, rfl, trivial⟩ ⟨HS, H⟩
     ·replace H := ite_f c18 H
      refine W.pass 47 rfl (sb (n_f (decide_eq_false c18))) rfl rfl (W.pass 47 rfl (sb (n_f (decide_eq_false c18))) rfl rfl (W.r (X.pickT (sb (n_f (decide_eq_false c18))) rfl) rfl (W.nil ?_)))
      replace HS := api_Config.close trivial HS
      exact At.meet () ⟨rfl, rfl, rfl, rfl, trivial⟩ ⟨HS, H⟩
    ·rintro ⟨⟩ w ⟨HS, H⟩
     unfold signalmanlaw20_StationKeeps.j1 at H
     refine V.condT rfl (V.seq (V.region (W.as rfl (W.nx (V.ret (At.thenRet ?_))))))
     replace HS := HS.pk [1] [0]
     cases H
     exact At.ret1 rfl rfl ⟨_, rfl, rfl, HS⟩
   ·replace H := ite_f c11 H
    refine W.e (Y.cl Try.func6 (station_New.calls A10 HS.j0)) rfl ?_
    rintro _ w ⟨bt9_0, rfl, HS⟩
    replace HS := HS.o1
    replace HS := St.optS default c11 HS
    rw [optv_s c11]
    refine W.mv rfl (W.r (X.extract rfl rfl) rfl (W.r (X.extract rfl rfl) rfl (W.as rfl (W.as rfl (W.nx (V.seq (V.meet (σ := Bool) (fun st w => match st with | x23 => Sep.St [api_Config.at nb8 ({ t6 with Keep := a1, Ring := 1048576 } : api_Config), station_Station.at bt9_0 (t9.1.getD default), R] w0 w ∧ ∃ kf24, kf24 ≤ kf4 ∧ signalmanlaw20_StationKeeps.j2 kf24 a1 a2 t9 t9 t9 x23 = some r) (fun st => match st with | x23 => [(1, Value.int .i64 a1), (2, Value.int .i64 a2), (9, Value.pointer (some ⟨bt9_0, 0, none⟩)), (50, Value.bool x23)]) ?_ ?_)))))))
    ·refine V.region (W.mv rfl ?_)
     obtain ⟨t78, A79, H⟩ := bind_s H
     refine W.e (Y.cl Try.func7 (signalmanlaw20_num.calls A79 HS.j0)) rfl ?_
     rintro _ w ⟨rfl, HS⟩
     replace HS := HS.o0
     refine W.r (X.cmp (!(decide (t78 = 0))) rfl rfl rfl rfl) rfl (W.mv rfl ?_)
     by_cases c80 : t78 = 0
     ·replace H := ite_t c80 H
      refine W.want 47 rfl (sb (n_t (decide_eq_true c80))) (W.mv rfl (W.want 47 rfl (sb (n_t (decide_eq_true c80))) (W.r (X.eqP Try.underlying26 rfl rfl) rfl (W.r (X.pickF (sb (n_t (decide_eq_true c80))) rfl) rfl (W.nil ?_)))))
      replace HS := HS.pm [1, 0, 2]
      replace HS := api_Config.close trivial HS
      exact At.meet false ⟨rfl, rfl, rfl, rfl, trivial⟩ ⟨HS, kf4, by omega, H⟩
     ·replace H := ite_f c80 H
      refine W.pass 47 rfl (sb (n_f (decide_eq_false c80))) rfl rfl (W.pass 47 rfl (sb (n_f (decide_eq_false c80))) rfl rfl (W.r (X.pickT (sb (n_f (decide_eq_false c80))) rfl) rfl (W.nil ?_)))
      replace HS := HS.pm [1, 0, 2]
      replace HS := api_Config.close trivial HS
      exact At.meet true ⟨rfl, rfl, rfl, rfl, trivial⟩ ⟨HS, kf4, by omega, H⟩
    ·rintro x23 w ⟨HS, kf24, hkkf24, H⟩
     unfold signalmanlaw20_StationKeeps.j2 at H
     by_cases c25 : x23 = true
     ·replace H := ite_t c25 H
      refine V.condT (sb c25) (V.seq (V.region (W.as rfl (W.nx (V.ret (At.thenRet ?_))))))
      replace HS := HS.pk [2] [0, 1]
      cases H
      exact At.ret1 rfl rfl ⟨_, rfl, rfl, HS⟩
     ·replace H := ite_f c25 H
      refine V.condF (sb (b_f c25)) (V.skip (At.next (V.seq (V.seq (V.region (W.as rfl (W.nx (V.block (V.loop (σ := Int × station_Station) (fun kq (st : Int × station_Station) w => match st with | (x26, x27) => Sep.St [api_Config.at nb8 ({ t6 with Keep := a1, Ring := 1048576 } : api_Config), station_Station.at bt9_0 x27, R] w0 w ∧ signalmanlaw20_StationKeeps.l3 kq a1 a2 x26 x27 = some r ∧ kq ≤ kf24) (fun st => match st with | (x26, x27) => [(1, Value.int .i64 a1), (2, Value.int .i64 a2), (9, Value.pointer (some ⟨bt9_0, 0, none⟩)), (11, Value.int .i64 x26)]) kf24 (1, t9.1.getD default) ⟨rfl, rfl, rfl, rfl, trivial⟩ ⟨HS, H, Nat.le_refl _⟩ ?_)))))))))
      rintro kq28 ⟨x26, x27⟩ w ⟨HS, H, hk29⟩
      cases kq28 with
      | zero => exact absurd H (by simp [signalmanlaw20_StationKeeps.l3])
      | succ kq28 =>
       simp only [signalmanlaw20_StationKeeps.l3] at H
       refine V.seq (V.seq (V.region (W.mv rfl (W.mv rfl (W.r (X.cmp (decide (x26 ≤ a2)) rfl rfl rfl rfl) rfl (W.nx ?_))))))
       by_cases c30 : x26 ≤ a2
       ·replace H := ite_t c30 H
        refine V.condT (sb (decide_eq_true c30)) (V.skip (At.next (V.seq (V.block (V.seq (V.region (W.mv rfl ?_)))))))
        obtain ⟨t31, A32, H⟩ := bind_s H
        replace HS := HS.pm [1, 0, 2]
        refine W.e (Y.cl Try.func8 (station_Station_Step.calls A32 HS.j1)) rfl ?_
        rintro _ w ⟨at31_0_0, ct31_0_0, dt31_0_0, at31_0_1, ct31_0_1, dt31_0_1, rfl, HS⟩
        replace HS := HS.o5
        refine W.e (Y.alloc (z := Value.agg (#[Value.slice none 0 0, Value.slice none 0 0])) HS ze32) rfl ?_
        rintro _ w ⟨nb33, rfl, HS⟩
        refine W.en (Y.storeSt (c' := #[Value.slice at31_0_0 t31.1.1.length ct31_0_0, Value.slice at31_0_1 t31.1.2.length ct31_0_1]) 0 [Value.slice at31_0_0 t31.1.1.length ct31_0_0, Value.slice at31_0_1 t31.1.2.length ct31_0_1] HS rfl inf32 rfl rfl rfl rfl rfl rfl) rfl ?_
        rintro _ w HS
        refine W.nx (V.seq (V.region (W.as rfl (W.nx (V.meet (σ := Int) (fun st w => match st with | x39 => Sep.St [V32.at nb33 t31.1, station_Station.at bt9_0 t31.2, api_Config.at nb8 ({ t6 with Keep := a1, Ring := 1048576 } : api_Config), R] w0 w ∧ ∃ kl42, kl42 ≤ kq28 ∧ signalmanlaw20_StationKeeps.j4 x26 t31 (signalmanlaw20_StationKeeps.l3 kl42 a1 a2) x39 = some r) (fun st => match st with | x39 => [(1, Value.int .i64 a1), (2, Value.int .i64 a2), (9, Value.pointer (some ⟨bt9_0, 0, none⟩)), (11, Value.int .i64 x26), (12, Value.pointer (some ⟨nb33, 0, none⟩)), (13, Value.int .i64 x39)]) ?_ ?_)))))
        ·refine V.seq (V.region (W.mv rfl (W.mv rfl ?_)))
         obtain ⟨c76, H⟩ := ite_n H
         refine W.r (X.rem rfl rfl c76) rfl (W.r (X.cmp (decide ((x26.tmod a1) = 0)) rfl rfl rfl rfl) rfl (W.nx ?_))
         by_cases c77 : (x26.tmod a1) = 0
         ·replace H := ite_t c77 H
          refine V.condT (sb (decide_eq_true c77)) (V.region (W.as rfl (W.nil ?_)))
          replace HS := V32.close trivial HS
          exact At.meet (1) ⟨rfl, rfl, rfl, rfl, rfl, rfl, trivial⟩ ⟨HS, kq28, by omega, H⟩
         ·replace H := ite_f c77 H
          refine V.condF (sb (decide_eq_false c77)) (V.skip ?_)
          replace HS := V32.close trivial HS
          exact At.meet (0) ⟨rfl, rfl, rfl, rfl, rfl, rfl, trivial⟩ ⟨HS, kq28, by omega, H⟩
        ·rintro x39 w ⟨HS, kl42, hkkl42, H⟩
         unfold signalmanlaw20_StationKeeps.j4 at H
         refine V.meet (σ := Bool) (fun st w => match st with | x43 => Sep.St [V32.at nb33 t31.1, station_Station.at bt9_0 t31.2, api_Config.at nb8 ({ t6 with Keep := a1, Ring := 1048576 } : api_Config), R] w0 w ∧ ∃ kl46, kl46 ≤ kl42 ∧ signalmanlaw20_StationKeeps.j5 x26 t31 (signalmanlaw20_StationKeeps.l3 kl46 a1 a2) x43 = some r) (fun st => match st with | x43 => [(1, Value.int .i64 a1), (2, Value.int .i64 a2), (9, Value.pointer (some ⟨bt9_0, 0, none⟩)), (11, Value.int .i64 x26), (107, Value.bool x43)]) ?_ ?_
         ·obtain ⟨a0_48, c0_48, d0_48, a1_48, c1_48, d1_48, hi49, HS⟩ := V32.open HS
          by_cases c50 : (t31.1.1.length : Int) = x39
          ·replace H := ite_t c50 H
           by_cases c51 : (t31.1.2.length : Int) = x39
           ·replace H := ite_t c51 H
            by_cases c52 : x39 = 1
            ·replace H := ite_t c52 H
             obtain ⟨c53, H⟩ := ite_n H
             obtain ⟨eb54, eo55, hh⟩ := (rdC.at 1 row_rd HS rfl).some (by decide) c53.1 c53.2; subst hh
             obtain ⟨ec56, hc57, HS⟩ := St.tie_at 2 HS rfl ([]) c53.1 c53.2
             obtain ⟨ea58, em59, he61, HN⟩ := St.sl_openF (Value.int .u8) (fun t => tie_int t) HS; clear HS; subst he61; have HS := HN
             by_cases c62 : ((t31.1.1.getD (0 : Int).toNat []).length : Int) = 3
             ·replace H := ite_t c62 H
              obtain ⟨c63, H⟩ := ite_n H
              obtain ⟨eb64, eo65, hh⟩ := (rdC.at 0 fsl.rd HS rfl).some (by decide) c63.1 c63.2; subst hh
              by_cases c66 : ((t31.1.1.getD (0 : Int).toNat []).getD (0 : Int).toNat 0) = 1
              ·replace H := ite_t c66 H
               obtain ⟨c67, H⟩ := ite_n H
               obtain ⟨eb68, eo69, hh⟩ := (rdC.at 4 row_rd HS rfl).some (by decide) c67.1 c67.2; subst hh
               obtain ⟨ec70, hc71, HS⟩ := St.tie_at 5 HS rfl ([]) c67.1 c67.2
               obtain ⟨ea72, em73, he75, HN⟩ := St.sl_openF (Value.int .u8) (fun t => tie_int t) HS; clear HS; subst he75; have HS := HN
               refine V.dr [] [] [(62, Value.pointer (some ⟨nb33, 0 + 0 * 1, none⟩)), (63, Value.slice (some ⟨eb54, eo55, none⟩) t31.1.1.length c0_48), (64, Value.int .i64 (t31.1.1.length : Int)), (65, Value.int .i64 x39), (66, Value.bool (!(decide ((t31.1.1.length : Int) = x39)))), (67, Value.bool (!(decide ((t31.1.1.length : Int) = x39)))), (68, Value.pointer (some ⟨nb33, 0 + 1 * 1, none⟩)), (69, Value.slice (some ⟨eb68, eo69, none⟩) t31.1.2.length c1_48), (70, Value.int .i64 (t31.1.2.length : Int)), (71, Value.int .i64 x39), (72, Value.bool (!(decide ((t31.1.2.length : Int) = x39)))), (73, Value.bool (!(decide ((t31.1.2.length : Int) = x39)))), (74, Value.bool (!(decide ((t31.1.2.length : Int) = x39)))), (75, Value.int .i64 x39), (76, Value.bool (decide (x39 = 1))), (77, Value.bool (decide (x39 = 1))), (78, Value.pointer (some ⟨nb33, 0 + 0 * 1, none⟩)), (79, Value.slice (some ⟨eb54, eo55, none⟩) t31.1.1.length c0_48), (80, Value.pointer (some ⟨eb54, eo55 + (0 : Int).toNat * 1, none⟩)), (81, Value.slice (some ⟨eb64, eo65, none⟩) (t31.1.1.getD (0 : Int).toNat []).length em59), (82, Value.int .i64 (((t31.1.1.getD (0 : Int).toNat []).length : Int))), (83, Value.bool (!(decide (((t31.1.1.getD (0 : Int).toNat []).length : Int) = 3)))), (84, Value.bool (!(decide (((t31.1.1.getD (0 : Int).toNat []).length : Int) = 3)))), (85, Value.pointer (some ⟨nb33, 0 + 0 * 1, none⟩)), (86, Value.slice (some ⟨eb54, eo55, none⟩) t31.1.1.length c0_48), (87, Value.pointer (some ⟨eb54, eo55 + (0 : Int).toNat * 1, none⟩)), (88, Value.slice (some ⟨eb64, eo65, none⟩) (t31.1.1.getD (0 : Int).toNat []).length em59), (89, Value.pointer (some ⟨eb64, eo65 + (0 : Int).toNat * 1, none⟩)), (90, Value.int .u8 ((t31.1.1.getD (0 : Int).toNat []).getD (0 : Int).toNat 0)), (91, Value.bool (!(decide (((t31.1.1.getD (0 : Int).toNat []).getD (0 : Int).toNat 0) = 1)))), (92, Value.bool (!(decide (((t31.1.1.getD (0 : Int).toNat []).getD (0 : Int).toNat 0) = 1)))), (93, Value.bool (!(decide (((t31.1.1.getD (0 : Int).toNat []).getD (0 : Int).toNat 0) = 1)))), (94, Value.pointer (some ⟨nb33, 0 + 0 * 1, none⟩)), (95, Value.slice (some ⟨eb54, eo55, none⟩) t31.1.1.length c0_48), (96, Value.pointer (some ⟨eb54, eo55 + (0 : Int).toNat * 1, none⟩)), (97, Value.slice (some ⟨eb64, eo65, none⟩) (t31.1.1.getD (0 : Int).toNat []).length em59), (98, Value.string (strOf (t31.1.1.getD (0 : Int).toNat []))), (99, Value.pointer (some ⟨nb33, 0 + 1 * 1, none⟩)), (100, Value.slice (some ⟨eb68, eo69, none⟩) t31.1.2.length c1_48), (101, Value.pointer (some ⟨eb68, eo69 + (0 : Int).toNat * 1, none⟩)), (102, Value.slice ea72 (t31.1.2.getD (0 : Int).toNat []).length em73), (103, Value.string (strOf (t31.1.2.getD (0 : Int).toNat []))), (104, Value.bool (!(sEq (t31.1.1.getD (0 : Int).toNat []) (t31.1.2.getD (0 : Int).toNat [])))), (105, Value.bool (!(sEq (t31.1.1.getD (0 : Int).toNat []) (t31.1.2.getD (0 : Int).toNat [])))), (106, Value.bool (!(sEq (t31.1.1.getD (0 : Int).toNat []) (t31.1.2.getD (0 : Int).toNat [])))), (107, Value.bool (!(sEq (t31.1.1.getD (0 : Int).toNat []) (t31.1.2.getD (0 : Int).toNat []))))] mo HS ?_
               refine T.fn [(1, _), (2, _), (9, _), (11, _), (107, _)] ⟨rfl, rfl, rfl, rfl, rfl, trivial⟩ ⟨.n1 12 rfl rfl (fun w HS => X.indexArK 0 rfl Try.underlying32 inf31 rfl rfl (by decide) (by decide)), .ld 62 2 Try.underlying31, .n1 63 rfl rfl (fun w HS => X.lenSl Try.underlying31 rfl), .mv 13, .n2 64 65 rfl rfl rfl (fun w HS => X.cmp (!(decide ((t31.1.1.length : Int) = x39))) rfl rfl rfl rfl), .mv 66, .gw [(12, _), (67, _)] 5 false 67 ⟨rfl, rfl, trivial⟩ rfl (sb (n_t (decide_eq_true c50))) (fun w HS => X.indexArK 1 rfl Try.underlying32 inf31 rfl rfl (by decide) (by decide)), .gw [(68, _), (67, _)] 5 false 67 ⟨rfl, rfl, trivial⟩ rfl (sb (n_t (decide_eq_true c50))) (fun w HS => X.loadAt 2 HS rfl Try.underlying31 rfl rfl rfl), .gw [(69, _), (67, _)] 5 false 67 ⟨rfl, rfl, trivial⟩ rfl (sb (n_t (decide_eq_true c50))) (fun w HS => X.lenSl Try.underlying31 rfl), .gw [(13, _), (67, _)] 5 false 67 ⟨rfl, rfl, trivial⟩ rfl (sb (n_t (decide_eq_true c50))) (fun w HS => X.move rfl), .gw [(70, _), (71, _), (67, _)] 5 false 67 ⟨rfl, rfl, rfl, trivial⟩ rfl (sb (n_t (decide_eq_true c50))) (fun w HS => X.cmp (!(decide ((t31.1.2.length : Int) = x39))) rfl rfl rfl rfl), .n2 67 72 rfl rfl rfl (fun w HS => X.pickF (sb (n_t (decide_eq_true c50))) rfl), .mv 73, .gw [(13, _), (74, _)] 12 false 74 ⟨rfl, rfl, trivial⟩ rfl (sb (n_t (decide_eq_true c51))) (fun w HS => X.move rfl), .gw [(75, _), (74, _)] 12 false 74 ⟨rfl, rfl, trivial⟩ rfl (sb (n_t (decide_eq_true c51))) (fun w HS => X.cmp (decide (x39 = 1)) rfl rfl rfl rfl), .gw [(76, _), (74, _)] 12 false 74 ⟨rfl, rfl, trivial⟩ rfl (sb (n_t (decide_eq_true c51))) (fun w HS => X.move rfl), .gw [(12, _), (77, _)] 15 true 77 ⟨rfl, rfl, trivial⟩ rfl (sb (decide_eq_true c52)) (fun w HS => X.indexArK 0 rfl Try.underlying32 inf31 rfl rfl (by decide) (by decide)), .gw [(78, _), (77, _)] 15 true 77 ⟨rfl, rfl, trivial⟩ rfl (sb (decide_eq_true c52)) (fun w HS => X.loadAt 2 HS rfl Try.underlying31 rfl rfl rfl), .gw [(79, _), (77, _)] 15 true 77 ⟨rfl, rfl, trivial⟩ rfl (sb (decide_eq_true c52)) (fun w HS => X.indexSl Try.underlying31 inf34 rfl rfl c53.1 c53.2), .gw [(80, _), (77, _)] 15 true 77 ⟨rfl, rfl, trivial⟩ rfl (sb (decide_eq_true c52)) (fun w HS => X.load Try.underlying34 rfl rfl ((rdC.at 3 row_rd HS rfl).cellEl0 (hc57 0 _ rfl))), .gw [(81, _), (77, _)] 15 true 77 ⟨rfl, rfl, trivial⟩ rfl (sb (decide_eq_true c52)) (fun w HS => X.lenSl Try.underlying34 rfl), .gw [(82, _), (77, _)] 15 true 77 ⟨rfl, rfl, trivial⟩ rfl (sb (decide_eq_true c52)) (fun w HS => X.cmp (!(decide (((t31.1.1.getD (0 : Int).toNat []).length : Int) = 3))) rfl rfl rfl rfl), .gw [(83, _), (77, _)] 15 true 77 ⟨rfl, rfl, trivial⟩ rfl (sb (decide_eq_true c52)) (fun w HS => X.move rfl), .gw [(12, _), (84, _)] 22 false 84 ⟨rfl, rfl, trivial⟩ rfl (sb (n_t (decide_eq_true c62))) (fun w HS => X.indexArK 0 rfl Try.underlying32 inf31 rfl rfl (by decide) (by decide)), .gw [(85, _), (84, _)] 22 false 84 ⟨rfl, rfl, trivial⟩ rfl (sb (n_t (decide_eq_true c62))) (fun w HS => X.loadAt 2 HS rfl Try.underlying31 rfl rfl rfl), .gw [(86, _), (84, _)] 22 false 84 ⟨rfl, rfl, trivial⟩ rfl (sb (n_t (decide_eq_true c62))) (fun w HS => X.indexSl Try.underlying31 inf34 rfl rfl c53.1 c53.2), .gw [(87, _), (84, _)] 22 false 84 ⟨rfl, rfl, trivial⟩ rfl (sb (n_t (decide_eq_true c62))) (fun w HS => X.load Try.underlying34 rfl rfl ((rdC.at 3 row_rd HS rfl).cellEl0 (hc57 0 _ rfl))), .gw [(88, _), (84, _)] 22 false 84 ⟨rfl, rfl, trivial⟩ rfl (sb (n_t (decide_eq_true c62))) (fun w HS => X.indexSl Try.underlying34 inf5 rfl rfl c63.1 c63.2), .gw [(89, _), (84, _)] 22 false 84 ⟨rfl, rfl, trivial⟩ rfl (sb (n_t (decide_eq_true c62))) (fun w HS => X.load Try.underlying5 rfl rfl ((rdC.at 1 fsl.rd HS rfl).cellI c63.1 c63.2)), .gw [(90, _), (84, _)] 22 false 84 ⟨rfl, rfl, trivial⟩ rfl (sb (n_t (decide_eq_true c62))) (fun w HS => X.cmp (!(decide (((t31.1.1.getD (0 : Int).toNat []).getD (0 : Int).toNat 0) = 1))) rfl rfl rfl rfl), .gw [(84, _), (91, _), (77, _)] 15 true 77 ⟨rfl, rfl, rfl, trivial⟩ rfl (sb (decide_eq_true c52)) (fun w HS => X.pickF (sb (n_t (decide_eq_true c62))) rfl), .gw [(92, _), (77, _)] 15 true 77 ⟨rfl, rfl, trivial⟩ rfl (sb (decide_eq_true c52)) (fun w HS => X.move rfl), .gw [(12, _), (93, _)] 31 false 93 ⟨rfl, rfl, trivial⟩ rfl (sb (n_t (decide_eq_true c66))) (fun w HS => X.indexArK 0 rfl Try.underlying32 inf31 rfl rfl (by decide) (by decide)), .gw [(94, _), (93, _)] 31 false 93 ⟨rfl, rfl, trivial⟩ rfl (sb (n_t (decide_eq_true c66))) (fun w HS => X.loadAt 2 HS rfl Try.underlying31 rfl rfl rfl), .gw [(95, _), (93, _)] 31 false 93 ⟨rfl, rfl, trivial⟩ rfl (sb (n_t (decide_eq_true c66))) (fun w HS => X.indexSl Try.underlying31 inf34 rfl rfl c53.1 c53.2), .gw [(96, _), (93, _)] 31 false 93 ⟨rfl, rfl, trivial⟩ rfl (sb (n_t (decide_eq_true c66))) (fun w HS => X.load Try.underlying34 rfl rfl ((rdC.at 3 row_rd HS rfl).cellEl0 (hc57 0 _ rfl))), .gw [(97, _), (93, _)] 31 false 93 ⟨rfl, rfl, trivial⟩ rfl (sb (n_t (decide_eq_true c66))) (fun w HS => X.bytesStr Try.underlying34 Try.underlying5 Try.underlying9 rfl (rdC.at 1 fsl.rd HS rfl)), .gw [(12, _), (93, _)] 31 false 93 ⟨rfl, rfl, trivial⟩ rfl (sb (n_t (decide_eq_true c66))) (fun w HS => X.indexArK 1 rfl Try.underlying32 inf31 rfl rfl (by decide) (by decide)), .gw [(99, _), (93, _)] 31 false 93 ⟨rfl, rfl, trivial⟩ rfl (sb (n_t (decide_eq_true c66))) (fun w HS => X.loadAt 2 HS rfl Try.underlying31 rfl rfl rfl), .gw [(100, _), (93, _)] 31 false 93 ⟨rfl, rfl, trivial⟩ rfl (sb (n_t (decide_eq_true c66))) (fun w HS => X.indexSl Try.underlying31 inf34 rfl rfl c67.1 c67.2), .gw [(101, _), (93, _)] 31 false 93 ⟨rfl, rfl, trivial⟩ rfl (sb (n_t (decide_eq_true c66))) (fun w HS => X.load Try.underlying34 rfl rfl ((rdC.at 5 row_rd HS rfl).cellEl0 (hc71 0 _ rfl))), .gw [(102, _), (93, _)] 31 false 93 ⟨rfl, rfl, trivial⟩ rfl (sb (n_t (decide_eq_true c66))) (fun w HS => X.bytesStr Try.underlying34 Try.underlying5 Try.underlying9 rfl (rdC.at 0 fsl.rd HS rfl)), .gw [(98, _), (103, _), (93, _)] 31 false 93 ⟨rfl, rfl, rfl, trivial⟩ rfl (sb (n_t (decide_eq_true c66))) (fun w HS => X.neStr (a := t31.1.1.getD (0 : Int).toNat []) (b := t31.1.2.getD (0 : Int).toNat []) rfl rfl), .gw [(93, _), (104, _), (77, _)] 15 true 77 ⟨rfl, rfl, rfl, trivial⟩ rfl (sb (decide_eq_true c52)) (fun w HS => X.pickF (sb (n_t (decide_eq_true c66))) rfl), .gw [(77, _), (105, _), (74, _)] 12 false 74 ⟨rfl, rfl, rfl, trivial⟩ rfl (sb (n_t (decide_eq_true c51))) (fun w HS => X.pickT (sb (decide_eq_true c52)) rfl), .n2 74 106 rfl rfl rfl (fun w HS => X.pickF (sb (n_t (decide_eq_true c51))) rfl), trivial⟩ (fun w HS => ?_)
               replace HS := HS.pm [2, 3, 4, 5, 6, 0, 1, 7, 8, 9]
               replace HS := V32.close trivial HS
               replace HS := HS.pk [0, 3, 4, 5] [1, 2]
               exact At.meet (!(sEq (t31.1.1.getD (0 : Int).toNat []) (t31.1.2.getD (0 : Int).toNat []))) ⟨rfl, rfl, rfl, rfl, rfl, trivial⟩ ⟨HS, kl42, by omega, H⟩
              ·replace H := ite_f c66 H
               refine V.dr [] [] [(62, Value.pointer (some ⟨nb33, 0 + 0 * 1, none⟩)), (63, Value.slice (some ⟨eb54, eo55, none⟩) t31.1.1.length c0_48), (64, Value.int .i64 (t31.1.1.length : Int)), (65, Value.int .i64 x39), (66, Value.bool (!(decide ((t31.1.1.length : Int) = x39)))), (67, Value.bool (!(decide ((t31.1.1.length : Int) = x39)))), (68, Value.pointer (some ⟨nb33, 0 + 1 * 1, none⟩)), (69, Value.slice a1_48 t31.1.2.length c1_48), (70, Value.int .i64 (t31.1.2.length : Int)), (71, Value.int .i64 x39), (72, Value.bool (!(decide ((t31.1.2.length : Int) = x39)))), (73, Value.bool (!(decide ((t31.1.2.length : Int) = x39)))), (74, Value.bool (!(decide ((t31.1.2.length : Int) = x39)))), (75, Value.int .i64 x39), (76, Value.bool (decide (x39 = 1))), (77, Value.bool (decide (x39 = 1))), (78, Value.pointer (some ⟨nb33, 0 + 0 * 1, none⟩)), (79, Value.slice (some ⟨eb54, eo55, none⟩) t31.1.1.length c0_48), (80, Value.pointer (some ⟨eb54, eo55 + (0 : Int).toNat * 1, none⟩)), (81, Value.slice (some ⟨eb64, eo65, none⟩) (t31.1.1.getD (0 : Int).toNat []).length em59), (82, Value.int .i64 (((t31.1.1.getD (0 : Int).toNat []).length : Int))), (83, Value.bool (!(decide (((t31.1.1.getD (0 : Int).toNat []).length : Int) = 3)))), (84, Value.bool (!(decide (((t31.1.1.getD (0 : Int).toNat []).length : Int) = 3)))), (85, Value.pointer (some ⟨nb33, 0 + 0 * 1, none⟩)), (86, Value.slice (some ⟨eb54, eo55, none⟩) t31.1.1.length c0_48), (87, Value.pointer (some ⟨eb54, eo55 + (0 : Int).toNat * 1, none⟩)), (88, Value.slice (some ⟨eb64, eo65, none⟩) (t31.1.1.getD (0 : Int).toNat []).length em59), (89, Value.pointer (some ⟨eb64, eo65 + (0 : Int).toNat * 1, none⟩)), (90, Value.int .u8 ((t31.1.1.getD (0 : Int).toNat []).getD (0 : Int).toNat 0)), (91, Value.bool (!(decide (((t31.1.1.getD (0 : Int).toNat []).getD (0 : Int).toNat 0) = 1)))), (92, Value.bool (!(decide (((t31.1.1.getD (0 : Int).toNat []).getD (0 : Int).toNat 0) = 1)))), (93, Value.bool (!(decide (((t31.1.1.getD (0 : Int).toNat []).getD (0 : Int).toNat 0) = 1)))), (94, undef), (95, undef), (96, undef), (97, undef), (98, undef), (99, undef), (100, undef), (101, undef), (102, undef), (103, undef), (104, undef), (105, Value.bool true), (106, Value.bool true), (107, Value.bool true)] mo HS ?_
               refine T.fn [(1, _), (2, _), (9, _), (11, _), (107, _)] ⟨rfl, rfl, rfl, rfl, rfl, trivial⟩ ⟨.n1 12 rfl rfl (fun w HS => X.indexArK 0 rfl Try.underlying32 inf31 rfl rfl (by decide) (by decide)), .ld 62 1 Try.underlying31, .n1 63 rfl rfl (fun w HS => X.lenSl Try.underlying31 rfl), .mv 13, .n2 64 65 rfl rfl rfl (fun w HS => X.cmp (!(decide ((t31.1.1.length : Int) = x39))) rfl rfl rfl rfl), .mv 66, .gw [(12, _), (67, _)] 5 false 67 ⟨rfl, rfl, trivial⟩ rfl (sb (n_t (decide_eq_true c50))) (fun w HS => X.indexArK 1 rfl Try.underlying32 inf31 rfl rfl (by decide) (by decide)), .gw [(68, _), (67, _)] 5 false 67 ⟨rfl, rfl, trivial⟩ rfl (sb (n_t (decide_eq_true c50))) (fun w HS => X.loadAt 1 HS rfl Try.underlying31 rfl rfl rfl), .gw [(69, _), (67, _)] 5 false 67 ⟨rfl, rfl, trivial⟩ rfl (sb (n_t (decide_eq_true c50))) (fun w HS => X.lenSl Try.underlying31 rfl), .gw [(13, _), (67, _)] 5 false 67 ⟨rfl, rfl, trivial⟩ rfl (sb (n_t (decide_eq_true c50))) (fun w HS => X.move rfl), .gw [(70, _), (71, _), (67, _)] 5 false 67 ⟨rfl, rfl, rfl, trivial⟩ rfl (sb (n_t (decide_eq_true c50))) (fun w HS => X.cmp (!(decide ((t31.1.2.length : Int) = x39))) rfl rfl rfl rfl), .n2 67 72 rfl rfl rfl (fun w HS => X.pickF (sb (n_t (decide_eq_true c50))) rfl), .mv 73, .gw [(13, _), (74, _)] 12 false 74 ⟨rfl, rfl, trivial⟩ rfl (sb (n_t (decide_eq_true c51))) (fun w HS => X.move rfl), .gw [(75, _), (74, _)] 12 false 74 ⟨rfl, rfl, trivial⟩ rfl (sb (n_t (decide_eq_true c51))) (fun w HS => X.cmp (decide (x39 = 1)) rfl rfl rfl rfl), .gw [(76, _), (74, _)] 12 false 74 ⟨rfl, rfl, trivial⟩ rfl (sb (n_t (decide_eq_true c51))) (fun w HS => X.move rfl), .gw [(12, _), (77, _)] 15 true 77 ⟨rfl, rfl, trivial⟩ rfl (sb (decide_eq_true c52)) (fun w HS => X.indexArK 0 rfl Try.underlying32 inf31 rfl rfl (by decide) (by decide)), .gw [(78, _), (77, _)] 15 true 77 ⟨rfl, rfl, trivial⟩ rfl (sb (decide_eq_true c52)) (fun w HS => X.loadAt 1 HS rfl Try.underlying31 rfl rfl rfl), .gw [(79, _), (77, _)] 15 true 77 ⟨rfl, rfl, trivial⟩ rfl (sb (decide_eq_true c52)) (fun w HS => X.indexSl Try.underlying31 inf34 rfl rfl c53.1 c53.2), .gw [(80, _), (77, _)] 15 true 77 ⟨rfl, rfl, trivial⟩ rfl (sb (decide_eq_true c52)) (fun w HS => X.load Try.underlying34 rfl rfl ((rdC.at 2 row_rd HS rfl).cellEl0 (hc57 0 _ rfl))), .gw [(81, _), (77, _)] 15 true 77 ⟨rfl, rfl, trivial⟩ rfl (sb (decide_eq_true c52)) (fun w HS => X.lenSl Try.underlying34 rfl), .gw [(82, _), (77, _)] 15 true 77 ⟨rfl, rfl, trivial⟩ rfl (sb (decide_eq_true c52)) (fun w HS => X.cmp (!(decide (((t31.1.1.getD (0 : Int).toNat []).length : Int) = 3))) rfl rfl rfl rfl), .gw [(83, _), (77, _)] 15 true 77 ⟨rfl, rfl, trivial⟩ rfl (sb (decide_eq_true c52)) (fun w HS => X.move rfl), .gw [(12, _), (84, _)] 22 false 84 ⟨rfl, rfl, trivial⟩ rfl (sb (n_t (decide_eq_true c62))) (fun w HS => X.indexArK 0 rfl Try.underlying32 inf31 rfl rfl (by decide) (by decide)), .gw [(85, _), (84, _)] 22 false 84 ⟨rfl, rfl, trivial⟩ rfl (sb (n_t (decide_eq_true c62))) (fun w HS => X.loadAt 1 HS rfl Try.underlying31 rfl rfl rfl), .gw [(86, _), (84, _)] 22 false 84 ⟨rfl, rfl, trivial⟩ rfl (sb (n_t (decide_eq_true c62))) (fun w HS => X.indexSl Try.underlying31 inf34 rfl rfl c53.1 c53.2), .gw [(87, _), (84, _)] 22 false 84 ⟨rfl, rfl, trivial⟩ rfl (sb (n_t (decide_eq_true c62))) (fun w HS => X.load Try.underlying34 rfl rfl ((rdC.at 2 row_rd HS rfl).cellEl0 (hc57 0 _ rfl))), .gw [(88, _), (84, _)] 22 false 84 ⟨rfl, rfl, trivial⟩ rfl (sb (n_t (decide_eq_true c62))) (fun w HS => X.indexSl Try.underlying34 inf5 rfl rfl c63.1 c63.2), .gw [(89, _), (84, _)] 22 false 84 ⟨rfl, rfl, trivial⟩ rfl (sb (n_t (decide_eq_true c62))) (fun w HS => X.load Try.underlying5 rfl rfl ((rdC.at 0 fsl.rd HS rfl).cellI c63.1 c63.2)), .gw [(90, _), (84, _)] 22 false 84 ⟨rfl, rfl, trivial⟩ rfl (sb (n_t (decide_eq_true c62))) (fun w HS => X.cmp (!(decide (((t31.1.1.getD (0 : Int).toNat []).getD (0 : Int).toNat 0) = 1))) rfl rfl rfl rfl), .gw [(84, _), (91, _), (77, _)] 15 true 77 ⟨rfl, rfl, rfl, trivial⟩ rfl (sb (decide_eq_true c52)) (fun w HS => X.pickF (sb (n_t (decide_eq_true c62))) rfl), .gw [(92, _), (77, _)] 15 true 77 ⟨rfl, rfl, trivial⟩ rfl (sb (decide_eq_true c52)) (fun w HS => X.move rfl), .gp 31 false true 93 rfl rfl (Option.some.inj (sb (n_f (decide_eq_false c66)))) rfl, .gp 31 false true 93 rfl rfl (Option.some.inj (sb (n_f (decide_eq_false c66)))) rfl, .gp 31 false true 93 rfl rfl (Option.some.inj (sb (n_f (decide_eq_false c66)))) rfl, .gp 31 false true 93 rfl rfl (Option.some.inj (sb (n_f (decide_eq_false c66)))) rfl, .gp 31 false true 93 rfl rfl (Option.some.inj (sb (n_f (decide_eq_false c66)))) rfl, .gp 31 false true 93 rfl rfl (Option.some.inj (sb (n_f (decide_eq_false c66)))) rfl, .gp 31 false true 93 rfl rfl (Option.some.inj (sb (n_f (decide_eq_false c66)))) rfl, .gp 31 false true 93 rfl rfl (Option.some.inj (sb (n_f (decide_eq_false c66)))) rfl, .gp 31 false true 93 rfl rfl (Option.some.inj (sb (n_f (decide_eq_false c66)))) rfl, .gp 31 false true 93 rfl rfl (Option.some.inj (sb (n_f (decide_eq_false c66)))) rfl, .gp 31 false true 93 rfl rfl (Option.some.inj (sb (n_f (decide_eq_false c66)))) rfl, .gw [(93, _), (104, _), (77, _)] 15 true 77 ⟨rfl, rfl, rfl, trivial⟩ rfl (sb (decide_eq_true c52)) (fun w HS => X.pickT (sb (n_f (decide_eq_false c66))) rfl), .gw [(77, _), (105, _), (74, _)] 12 false 74 ⟨rfl, rfl, rfl, trivial⟩ rfl (sb (n_t (decide_eq_true c51))) (fun w HS => X.pickT (sb (decide_eq_true c52)) rfl), .n2 74 106 rfl rfl rfl (fun w HS => X.pickF (sb (n_t (decide_eq_true c51))) rfl), trivial⟩ (fun w HS => ?_)
               replace HS := HS.pm [1, 2, 3, 4, 5, 0, 6, 7, 8]
               replace HS := V32.close trivial HS
               replace HS := HS.pk [0, 2, 3, 4] [1]
               exact At.meet true ⟨rfl, rfl, rfl, rfl, rfl, trivial⟩ ⟨HS, kl42, by omega, H⟩
             ·replace H := ite_f c62 H
              refine V.dr [] [] [(62, Value.pointer (some ⟨nb33, 0 + 0 * 1, none⟩)), (63, Value.slice (some ⟨eb54, eo55, none⟩) t31.1.1.length c0_48), (64, Value.int .i64 (t31.1.1.length : Int)), (65, Value.int .i64 x39), (66, Value.bool (!(decide ((t31.1.1.length : Int) = x39)))), (67, Value.bool (!(decide ((t31.1.1.length : Int) = x39)))), (68, Value.pointer (some ⟨nb33, 0 + 1 * 1, none⟩)), (69, Value.slice a1_48 t31.1.2.length c1_48), (70, Value.int .i64 (t31.1.2.length : Int)), (71, Value.int .i64 x39), (72, Value.bool (!(decide ((t31.1.2.length : Int) = x39)))), (73, Value.bool (!(decide ((t31.1.2.length : Int) = x39)))), (74, Value.bool (!(decide ((t31.1.2.length : Int) = x39)))), (75, Value.int .i64 x39), (76, Value.bool (decide (x39 = 1))), (77, Value.bool (decide (x39 = 1))), (78, Value.pointer (some ⟨nb33, 0 + 0 * 1, none⟩)), (79, Value.slice (some ⟨eb54, eo55, none⟩) t31.1.1.length c0_48), (80, Value.pointer (some ⟨eb54, eo55 + (0 : Int).toNat * 1, none⟩)), (81, Value.slice ea58 (t31.1.1.getD (0 : Int).toNat []).length em59), (82, Value.int .i64 (((t31.1.1.getD (0 : Int).toNat []).length : Int))), (83, Value.bool (!(decide (((t31.1.1.getD (0 : Int).toNat []).length : Int) = 3)))), (84, Value.bool (!(decide (((t31.1.1.getD (0 : Int).toNat []).length : Int) = 3)))), (85, undef), (86, undef), (87, undef), (88, undef), (89, undef), (90, undef), (91, undef), (92, Value.bool true), (93, Value.bool true), (94, undef), (95, undef), (96, undef), (97, undef), (98, undef), (99, undef), (100, undef), (101, undef), (102, undef), (103, undef), (104, undef), (105, Value.bool true), (106, Value.bool true), (107, Value.bool true)] mo HS ?_
              refine T.fn [(1, _), (2, _), (9, _), (11, _), (107, _)] ⟨rfl, rfl, rfl, rfl, rfl, trivial⟩ ⟨.n1 12 rfl rfl (fun w HS => X.indexArK 0 rfl Try.underlying32 inf31 rfl rfl (by decide) (by decide)), .ld 62 1 Try.underlying31, .n1 63 rfl rfl (fun w HS => X.lenSl Try.underlying31 rfl), .mv 13, .n2 64 65 rfl rfl rfl (fun w HS => X.cmp (!(decide ((t31.1.1.length : Int) = x39))) rfl rfl rfl rfl), .mv 66, .gw [(12, _), (67, _)] 5 false 67 ⟨rfl, rfl, trivial⟩ rfl (sb (n_t (decide_eq_true c50))) (fun w HS => X.indexArK 1 rfl Try.underlying32 inf31 rfl rfl (by decide) (by decide)), .gw [(68, _), (67, _)] 5 false 67 ⟨rfl, rfl, trivial⟩ rfl (sb (n_t (decide_eq_true c50))) (fun w HS => X.loadAt 1 HS rfl Try.underlying31 rfl rfl rfl), .gw [(69, _), (67, _)] 5 false 67 ⟨rfl, rfl, trivial⟩ rfl (sb (n_t (decide_eq_true c50))) (fun w HS => X.lenSl Try.underlying31 rfl), .gw [(13, _), (67, _)] 5 false 67 ⟨rfl, rfl, trivial⟩ rfl (sb (n_t (decide_eq_true c50))) (fun w HS => X.move rfl), .gw [(70, _), (71, _), (67, _)] 5 false 67 ⟨rfl, rfl, rfl, trivial⟩ rfl (sb (n_t (decide_eq_true c50))) (fun w HS => X.cmp (!(decide ((t31.1.2.length : Int) = x39))) rfl rfl rfl rfl), .n2 67 72 rfl rfl rfl (fun w HS => X.pickF (sb (n_t (decide_eq_true c50))) rfl), .mv 73, .gw [(13, _), (74, _)] 12 false 74 ⟨rfl, rfl, trivial⟩ rfl (sb (n_t (decide_eq_true c51))) (fun w HS => X.move rfl), .gw [(75, _), (74, _)] 12 false 74 ⟨rfl, rfl, trivial⟩ rfl (sb (n_t (decide_eq_true c51))) (fun w HS => X.cmp (decide (x39 = 1)) rfl rfl rfl rfl), .gw [(76, _), (74, _)] 12 false 74 ⟨rfl, rfl, trivial⟩ rfl (sb (n_t (decide_eq_true c51))) (fun w HS => X.move rfl), .gw [(12, _), (77, _)] 15 true 77 ⟨rfl, rfl, trivial⟩ rfl (sb (decide_eq_true c52)) (fun w HS => X.indexArK 0 rfl Try.underlying32 inf31 rfl rfl (by decide) (by decide)), .gw [(78, _), (77, _)] 15 true 77 ⟨rfl, rfl, trivial⟩ rfl (sb (decide_eq_true c52)) (fun w HS => X.loadAt 1 HS rfl Try.underlying31 rfl rfl rfl), .gw [(79, _), (77, _)] 15 true 77 ⟨rfl, rfl, trivial⟩ rfl (sb (decide_eq_true c52)) (fun w HS => X.indexSl Try.underlying31 inf34 rfl rfl c53.1 c53.2), .gw [(80, _), (77, _)] 15 true 77 ⟨rfl, rfl, trivial⟩ rfl (sb (decide_eq_true c52)) (fun w HS => X.load Try.underlying34 rfl rfl ((rdC.at 2 row_rd HS rfl).cellEl0 (hc57 0 _ rfl))), .gw [(81, _), (77, _)] 15 true 77 ⟨rfl, rfl, trivial⟩ rfl (sb (decide_eq_true c52)) (fun w HS => X.lenSl Try.underlying34 rfl), .gw [(82, _), (77, _)] 15 true 77 ⟨rfl, rfl, trivial⟩ rfl (sb (decide_eq_true c52)) (fun w HS => X.cmp (!(decide (((t31.1.1.getD (0 : Int).toNat []).length : Int) = 3))) rfl rfl rfl rfl), .gw [(83, _), (77, _)] 15 true 77 ⟨rfl, rfl, trivial⟩ rfl (sb (decide_eq_true c52)) (fun w HS => X.move rfl), .gp 22 false true 84 rfl rfl (Option.some.inj (sb (n_f (decide_eq_false c62)))) rfl, .gp 22 false true 84 rfl rfl (Option.some.inj (sb (n_f (decide_eq_false c62)))) rfl, .gp 22 false true 84 rfl rfl (Option.some.inj (sb (n_f (decide_eq_false c62)))) rfl, .gp 22 false true 84 rfl rfl (Option.some.inj (sb (n_f (decide_eq_false c62)))) rfl, .gp 22 false true 84 rfl rfl (Option.some.inj (sb (n_f (decide_eq_false c62)))) rfl, .gp 22 false true 84 rfl rfl (Option.some.inj (sb (n_f (decide_eq_false c62)))) rfl, .gp 22 false true 84 rfl rfl (Option.some.inj (sb (n_f (decide_eq_false c62)))) rfl, .gw [(84, _), (91, _), (77, _)] 15 true 77 ⟨rfl, rfl, rfl, trivial⟩ rfl (sb (decide_eq_true c52)) (fun w HS => X.pickT (sb (n_f (decide_eq_false c62))) rfl), .gw [(92, _), (77, _)] 15 true 77 ⟨rfl, rfl, trivial⟩ rfl (sb (decide_eq_true c52)) (fun w HS => X.move rfl), .gp 31 false true 93 rfl rfl rfl rfl, .gp 31 false true 93 rfl rfl rfl rfl, .gp 31 false true 93 rfl rfl rfl rfl, .gp 31 false true 93 rfl rfl rfl rfl, .gp 31 false true 93 rfl rfl rfl rfl, .gp 31 false true 93 rfl rfl rfl rfl, .gp 31 false true 93 rfl rfl rfl rfl, .gp 31 false true 93 rfl rfl rfl rfl, .gp 31 false true 93 rfl rfl rfl rfl, .gp 31 false true 93 rfl rfl rfl rfl, .gp 31 false true 93 rfl rfl rfl rfl, .gw [(93, _), (104, _), (77, _)] 15 true 77 ⟨rfl, rfl, rfl, trivial⟩ rfl (sb (decide_eq_true c52)) (fun w HS => X.pickT rfl rfl), .gw [(77, _), (105, _), (74, _)] 12 false 74 ⟨rfl, rfl, rfl, trivial⟩ rfl (sb (n_t (decide_eq_true c51))) (fun w HS => X.pickT (sb (decide_eq_true c52)) rfl), .n2 74 106 rfl rfl rfl (fun w HS => X.pickF (sb (n_t (decide_eq_true c51))) rfl), trivial⟩ (fun w HS => ?_)
              replace HS := HS.pm [1, 2, 3, 4, 5, 0, 6, 7, 8]
              replace HS := V32.close trivial HS
              replace HS := HS.pk [0, 2, 3, 4] [1]
              exact At.meet true ⟨rfl, rfl, rfl, rfl, rfl, trivial⟩ ⟨HS, kl42, by omega, H⟩
            ·replace H := ite_f c52 H
             refine V.dr [] [] [(62, Value.pointer (some ⟨nb33, 0 + 0 * 1, none⟩)), (63, Value.slice a0_48 t31.1.1.length c0_48), (64, Value.int .i64 (t31.1.1.length : Int)), (65, Value.int .i64 x39), (66, Value.bool (!(decide ((t31.1.1.length : Int) = x39)))), (67, Value.bool (!(decide ((t31.1.1.length : Int) = x39)))), (68, Value.pointer (some ⟨nb33, 0 + 1 * 1, none⟩)), (69, Value.slice a1_48 t31.1.2.length c1_48), (70, Value.int .i64 (t31.1.2.length : Int)), (71, Value.int .i64 x39), (72, Value.bool (!(decide ((t31.1.2.length : Int) = x39)))), (73, Value.bool (!(decide ((t31.1.2.length : Int) = x39)))), (74, Value.bool (!(decide ((t31.1.2.length : Int) = x39)))), (75, Value.int .i64 x39), (76, Value.bool (decide (x39 = 1))), (77, Value.bool (decide (x39 = 1))), (78, undef), (79, undef), (80, undef), (81, undef), (82, undef), (83, undef), (84, undef), (85, undef), (86, undef), (87, undef), (88, undef), (89, undef), (90, undef), (91, undef), (92, undef), (93, undef), (94, undef), (95, undef), (96, undef), (97, undef), (98, undef), (99, undef), (100, undef), (101, undef), (102, undef), (103, undef), (104, undef), (105, undef), (106, Value.bool false), (107, Value.bool false)] mo HS ?_
             refine T.fn [(1, _), (2, _), (9, _), (11, _), (107, _)] ⟨rfl, rfl, rfl, rfl, rfl, trivial⟩ ⟨.n1 12 rfl rfl (fun w HS => X.indexArK 0 rfl Try.underlying32 inf31 rfl rfl (by decide) (by decide)), .ld 62 0 Try.underlying31, .n1 63 rfl rfl (fun w HS => X.lenSl Try.underlying31 rfl), .mv 13, .n2 64 65 rfl rfl rfl (fun w HS => X.cmp (!(decide ((t31.1.1.length : Int) = x39))) rfl rfl rfl rfl), .mv 66, .gw [(12, _), (67, _)] 5 false 67 ⟨rfl, rfl, trivial⟩ rfl (sb (n_t (decide_eq_true c50))) (fun w HS => X.indexArK 1 rfl Try.underlying32 inf31 rfl rfl (by decide) (by decide)), .gw [(68, _), (67, _)] 5 false 67 ⟨rfl, rfl, trivial⟩ rfl (sb (n_t (decide_eq_true c50))) (fun w HS => X.loadAt 0 HS rfl Try.underlying31 rfl rfl rfl), .gw [(69, _), (67, _)] 5 false 67 ⟨rfl, rfl, trivial⟩ rfl (sb (n_t (decide_eq_true c50))) (fun w HS => X.lenSl Try.underlying31 rfl), .gw [(13, _), (67, _)] 5 false 67 ⟨rfl, rfl, trivial⟩ rfl (sb (n_t (decide_eq_true c50))) (fun w HS => X.move rfl), .gw [(70, _), (71, _), (67, _)] 5 false 67 ⟨rfl, rfl, rfl, trivial⟩ rfl (sb (n_t (decide_eq_true c50))) (fun w HS => X.cmp (!(decide ((t31.1.2.length : Int) = x39))) rfl rfl rfl rfl), .n2 67 72 rfl rfl rfl (fun w HS => X.pickF (sb (n_t (decide_eq_true c50))) rfl), .mv 73, .gw [(13, _), (74, _)] 12 false 74 ⟨rfl, rfl, trivial⟩ rfl (sb (n_t (decide_eq_true c51))) (fun w HS => X.move rfl), .gw [(75, _), (74, _)] 12 false 74 ⟨rfl, rfl, trivial⟩ rfl (sb (n_t (decide_eq_true c51))) (fun w HS => X.cmp (decide (x39 = 1)) rfl rfl rfl rfl), .gw [(76, _), (74, _)] 12 false 74 ⟨rfl, rfl, trivial⟩ rfl (sb (n_t (decide_eq_true c51))) (fun w HS => X.move rfl), .gp 15 true false 77 rfl rfl (Option.some.inj (sb (decide_eq_false c52))) rfl, .gp 15 true false 77 rfl rfl (Option.some.inj (sb (decide_eq_false c52))) rfl, .gp 15 true false 77 rfl rfl (Option.some.inj (sb (decide_eq_false c52))) rfl, .gp 15 true false 77 rfl rfl (Option.some.inj (sb (decide_eq_false c52))) rfl, .gp 15 true false 77 rfl rfl (Option.some.inj (sb (decide_eq_false c52))) rfl, .gp 15 true false 77 rfl rfl (Option.some.inj (sb (decide_eq_false c52))) rfl, .gp 15 true false 77 rfl rfl (Option.some.inj (sb (decide_eq_false c52))) rfl, .gu 22 false 84 rfl rfl, .gu 22 false 84 rfl rfl, .gu 22 false 84 rfl rfl, .gu 22 false 84 rfl rfl, .gu 22 false 84 rfl rfl, .gu 22 false 84 rfl rfl, .gu 22 false 84 rfl rfl, .gp 15 true false 77 rfl rfl (Option.some.inj (sb (decide_eq_false c52))) rfl, .gp 15 true false 77 rfl rfl (Option.some.inj (sb (decide_eq_false c52))) rfl, .gu 31 false 93 rfl rfl, .gu 31 false 93 rfl rfl, .gu 31 false 93 rfl rfl, .gu 31 false 93 rfl rfl, .gu 31 false 93 rfl rfl, .gu 31 false 93 rfl rfl, .gu 31 false 93 rfl rfl, .gu 31 false 93 rfl rfl, .gu 31 false 93 rfl rfl, .gu 31 false 93 rfl rfl, .gu 31 false 93 rfl rfl, .gp 15 true false 77 rfl rfl (Option.some.inj (sb (decide_eq_false c52))) rfl, .gw [(77, _), (105, _), (74, _)] 12 false 74 ⟨rfl, rfl, rfl, trivial⟩ rfl (sb (n_t (decide_eq_true c51))) (fun w HS => X.pickF (sb (decide_eq_false c52)) rfl), .n2 74 106 rfl rfl rfl (fun w HS => X.pickF (sb (n_t (decide_eq_true c51))) rfl), trivial⟩ (fun w HS => ?_)
             replace HS := V32.close trivial HS
             exact At.meet false ⟨rfl, rfl, rfl, rfl, rfl, trivial⟩ ⟨HS, kl42, by omega, H⟩
           ·replace H := ite_f c51 H
            refine V.dr [] [] [(62, Value.pointer (some ⟨nb33, 0 + 0 * 1, none⟩)), (63, Value.slice a0_48 t31.1.1.length c0_48), (64, Value.int .i64 (t31.1.1.length : Int)), (65, Value.int .i64 x39), (66, Value.bool (!(decide ((t31.1.1.length : Int) = x39)))), (67, Value.bool (!(decide ((t31.1.1.length : Int) = x39)))), (68, Value.pointer (some ⟨nb33, 0 + 1 * 1, none⟩)), (69, Value.slice a1_48 t31.1.2.length c1_48), (70, Value.int .i64 (t31.1.2.length : Int)), (71, Value.int .i64 x39), (72, Value.bool (!(decide ((t31.1.2.length : Int) = x39)))), (73, Value.bool (!(decide ((t31.1.2.length : Int) = x39)))), (74, Value.bool (!(decide ((t31.1.2.length : Int) = x39)))), (75, undef), (76, undef), (77, undef), (78, undef), (79, undef), (80, undef), (81, undef), (82, undef), (83, undef), (84, undef), (85, undef), (86, undef), (87, undef), (88, undef), (89, undef), (90, undef), (91, undef), (92, undef), (93, undef), (94, undef), (95, undef), (96, undef), (97, undef), (98, undef), (99, undef), (100, undef), (101, undef), (102, undef), (103, undef), (104, undef), (105, undef), (106, undef), (107, Value.bool true)] mo HS ?_
            refine T.fn [(1, _), (2, _), (9, _), (11, _), (107, _)] ⟨rfl, rfl, rfl, rfl, rfl, trivial⟩ ⟨.n1 12 rfl rfl (fun w HS => X.indexArK 0 rfl Try.underlying32 inf31 rfl rfl (by decide) (by decide)), .ld 62 0 Try.underlying31, .n1 63 rfl rfl (fun w HS => X.lenSl Try.underlying31 rfl), .mv 13, .n2 64 65 rfl rfl rfl (fun w HS => X.cmp (!(decide ((t31.1.1.length : Int) = x39))) rfl rfl rfl rfl), .mv 66, .gw [(12, _), (67, _)] 5 false 67 ⟨rfl, rfl, trivial⟩ rfl (sb (n_t (decide_eq_true c50))) (fun w HS => X.indexArK 1 rfl Try.underlying32 inf31 rfl rfl (by decide) (by decide)), .gw [(68, _), (67, _)] 5 false 67 ⟨rfl, rfl, trivial⟩ rfl (sb (n_t (decide_eq_true c50))) (fun w HS => X.loadAt 0 HS rfl Try.underlying31 rfl rfl rfl), .gw [(69, _), (67, _)] 5 false 67 ⟨rfl, rfl, trivial⟩ rfl (sb (n_t (decide_eq_true c50))) (fun w HS => X.lenSl Try.underlying31 rfl), .gw [(13, _), (67, _)] 5 false 67 ⟨rfl, rfl, trivial⟩ rfl (sb (n_t (decide_eq_true c50))) (fun w HS => X.move rfl), .gw [(70, _), (71, _), (67, _)] 5 false 67 ⟨rfl, rfl, rfl, trivial⟩ rfl (sb (n_t (decide_eq_true c50))) (fun w HS => X.cmp (!(decide ((t31.1.2.length : Int) = x39))) rfl rfl rfl rfl), .n2 67 72 rfl rfl rfl (fun w HS => X.pickF (sb (n_t (decide_eq_true c50))) rfl), .mv 73, .gp 12 false true 74 rfl rfl (Option.some.inj (sb (n_f (decide_eq_false c51)))) rfl, .gp 12 false true 74 rfl rfl (Option.some.inj (sb (n_f (decide_eq_false c51)))) rfl, .gp 12 false true 74 rfl rfl (Option.some.inj (sb (n_f (decide_eq_false c51)))) rfl, .gu 15 true 77 rfl rfl, .gu 15 true 77 rfl rfl, .gu 15 true 77 rfl rfl, .gu 15 true 77 rfl rfl, .gu 15 true 77 rfl rfl, .gu 15 true 77 rfl rfl, .gu 15 true 77 rfl rfl, .gu 22 false 84 rfl rfl, .gu 22 false 84 rfl rfl, .gu 22 false 84 rfl rfl, .gu 22 false 84 rfl rfl, .gu 22 false 84 rfl rfl, .gu 22 false 84 rfl rfl, .gu 22 false 84 rfl rfl, .gu 15 true 77 rfl rfl, .gu 15 true 77 rfl rfl, .gu 31 false 93 rfl rfl, .gu 31 false 93 rfl rfl, .gu 31 false 93 rfl rfl, .gu 31 false 93 rfl rfl, .gu 31 false 93 rfl rfl, .gu 31 false 93 rfl rfl, .gu 31 false 93 rfl rfl, .gu 31 false 93 rfl rfl, .gu 31 false 93 rfl rfl, .gu 31 false 93 rfl rfl, .gu 31 false 93 rfl rfl, .gu 15 true 77 rfl rfl, .gp 12 false true 74 rfl rfl (Option.some.inj (sb (n_f (decide_eq_false c51)))) rfl, .n2 74 106 rfl rfl rfl (fun w HS => X.pickT (sb (n_f (decide_eq_false c51))) rfl), trivial⟩ (fun w HS => ?_)
            replace HS := V32.close trivial HS
            exact At.meet true ⟨rfl, rfl, rfl, rfl, rfl, trivial⟩ ⟨HS, kl42, by omega, H⟩
          ·replace H := ite_f c50 H
           refine V.dr [] [] [(62, Value.pointer (some ⟨nb33, 0 + 0 * 1, none⟩)), (63, Value.slice a0_48 t31.1.1.length c0_48), (64, Value.int .i64 (t31.1.1.length : Int)), (65, Value.int .i64 x39), (66, Value.bool (!(decide ((t31.1.1.length : Int) = x39)))), (67, Value.bool (!(decide ((t31.1.1.length : Int) = x39)))), (68, undef), (69, undef), (70, undef), (71, undef), (72, undef), (73, Value.bool true), (74, Value.bool true), (75, undef), (76, undef), (77, undef), (78, undef), (79, undef), (80, undef), (81, undef), (82, undef), (83, undef), (84, undef), (85, undef), (86, undef), (87, undef), (88, undef), (89, undef), (90, undef), (91, undef), (92, undef), (93, undef), (94, undef), (95, undef), (96, undef), (97, undef), (98, undef), (99, undef), (100, undef), (101, undef), (102, undef), (103, undef), (104, undef), (105, undef), (106, undef), (107, Value.bool true)] mo HS ?_
           refine T.fn [(1, _), (2, _), (9, _), (11, _), (107, _)] ⟨rfl, rfl, rfl, rfl, rfl, trivial⟩ ⟨.n1 12 rfl rfl (fun w HS => X.indexArK 0 rfl Try.underlying32 inf31 rfl rfl (by decide) (by decide)), .ld 62 0 Try.underlying31, .n1 63 rfl rfl (fun w HS => X.lenSl Try.underlying31 rfl), .mv 13, .n2 64 65 rfl rfl rfl (fun w HS => X.cmp (!(decide ((t31.1.1.length : Int) = x39))) rfl rfl rfl rfl), .mv 66, .gp 5 false true 67 rfl rfl (Option.some.inj (sb (n_f (decide_eq_false c50)))) rfl, .gp 5 false true 67 rfl rfl (Option.some.inj (sb (n_f (decide_eq_false c50)))) rfl, .gp 5 false true 67 rfl rfl (Option.some.inj (sb (n_f (decide_eq_false c50)))) rfl, .gp 5 false true 67 rfl rfl (Option.some.inj (sb (n_f (decide_eq_false c50)))) rfl, .gp 5 false true 67 rfl rfl (Option.some.inj (sb (n_f (decide_eq_false c50)))) rfl, .n2 67 72 rfl rfl rfl (fun w HS => X.pickT (sb (n_f (decide_eq_false c50))) rfl), .mv 73, .gp 12 false true 74 rfl rfl rfl rfl, .gp 12 false true 74 rfl rfl rfl rfl, .gp 12 false true 74 rfl rfl rfl rfl, .gu 15 true 77 rfl rfl, .gu 15 true 77 rfl rfl, .gu 15 true 77 rfl rfl, .gu 15 true 77 rfl rfl, .gu 15 true 77 rfl rfl, .gu 15 true 77 rfl rfl, .gu 15 true 77 rfl rfl, .gu 22 false 84 rfl rfl, .gu 22 false 84 rfl rfl, .gu 22 false 84 rfl rfl, .gu 22 false 84 rfl rfl, .gu 22 false 84 rfl rfl, .gu 22 false 84 rfl rfl, .gu 22 false 84 rfl rfl, .gu 15 true 77 rfl rfl, .gu 15 true 77 rfl rfl, .gu 31 false 93 rfl rfl, .gu 31 false 93 rfl rfl, .gu 31 false 93 rfl rfl, .gu 31 false 93 rfl rfl, .gu 31 false 93 rfl rfl, .gu 31 false 93 rfl rfl, .gu 31 false 93 rfl rfl, .gu 31 false 93 rfl rfl, .gu 31 false 93 rfl rfl, .gu 31 false 93 rfl rfl, .gu 31 false 93 rfl rfl, .gu 15 true 77 rfl rfl, .gp 12 false true 74 rfl rfl rfl rfl, .n2 74 106 rfl rfl rfl (fun w HS => X.pickT rfl rfl), trivial⟩ (fun w HS => ?_)
           replace HS := V32.close trivial HS
           exact At.meet true ⟨rfl, rfl, rfl, rfl, rfl, trivial⟩ ⟨HS, kl42, by omega, H⟩
         ·rintro x43 w ⟨HS, kl46, hkkl46, H⟩
          unfold signalmanlaw20_StationKeeps.j5 at H
          by_cases c47 : x43 = true
          ·replace H := ite_t c47 H
           refine V.condT (sb c47) (V.seq (V.region (W.as rfl (W.nx (V.ret (At.blockRet (At.thenRet (At.thenRet (At.blockRet (At.thenRet ?_))))))))))
           replace HS := HS.pk [3] [0, 1, 2]
           cases H
           exact At.ret1 rfl rfl ⟨_, rfl, rfl, HS⟩
          ·replace H := ite_f c47 H
           refine V.condF (sb (b_f c47)) (V.skip (At.blockEnd (At.next (V.region (W.mv rfl (W.r (X.add rfl rfl) rfl (W.as rfl (W.nil ?_))))))))
           replace HS := HS.pk [2, 1, 3] [0]
           exact At.round kl46 (by omega) (w64 (x26 + 1), t31.2) ⟨rfl, rfl, rfl, rfl, trivial⟩ ⟨HS, H, by omega⟩
       ·replace H := ite_f c30 H
        refine V.condF (sb (decide_eq_false c30)) (V.exit (At.thenExit (At.thenExit (At.blockExit (At.next (V.seq (V.region (W.as rfl (W.nx (V.ret ?_))))))))))
        replace HS := HS.pk [2] [0, 1]
        cases H
        exact At.ret1 rfl rfl ⟨_, rfl, rfl, HS⟩
def signalmanlaw20_StationKeeps.Pure : Prop := ∀ (a0 : Int) (a1 : Int) (a2 : Int), (Lit.int .i64 a0).wf = true → (Lit.int .i64 a1).wf = true → (Lit.int .i64 a2).wf = true → ∃ k, signalmanlaw20_StationKeeps.f k a0 a1 a2 = some true
end Go.Proofs.Ytodbopebbmplaaa

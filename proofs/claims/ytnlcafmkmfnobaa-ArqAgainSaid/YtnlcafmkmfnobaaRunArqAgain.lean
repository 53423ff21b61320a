/- ArqAgain: the functions that its law reaches, as plain functions, and that the machine's calls come to what these say. Conditions: those that stand at each. -/
import Derived.Test.YtnlcafmkmfnobaaRunArqAgainP4
set_option linter.all false
namespace Go.Proofs.Ytnlcafmkmfnobaa
open Go.RowKit Go.Proofs.Ytnlcafmkmfnobaa.Sep Go.Proofs.Ytnlcafmkmfnobaa.Walk
/-! ### signalman/signalmanref6.SameLists: function 39 -/
mutual
def signalmanref6_SameLists.l0 : Nat → (List (List Int)) → (List (List Int)) → Int → Option Bool
  | 0, _, _, _ => none
  | k + 1, a0, a1, x4 => (if x4 < (a0.length : Int) then (if 0 ≤ x4 ∧ x4 < (a0.length : Int) then (if 0 ≤ x4 ∧ x4 < (a1.length : Int) then (if sEq (a0.getD x4.toNat []) (a1.getD x4.toNat []) = true then (signalmanref6_SameLists.l0 k a0 a1 (w64 (x4 + 1))) else some false) else none) else none) else some true)
end
def signalmanref6_SameLists.f (k : Nat) (a0 : List (List Int)) (a1 : List (List Int)) : Option Bool := (if (a0.length : Int) = (a1.length : Int) then (signalmanref6_SameLists.l0 k a0 a1 0) else some false)
set_option maxRecDepth 100000 in
set_option maxHeartbeats 4000000 in
theorem signalmanref6_SameLists.calls (k : Nat) (a0 : List (List Int)) (a1 : List (List Int)) (R : As) (w0 w : World) (sa0 : Option Addr) (sc0 : Nat) (sd0 : List Value) (sa1 : Option Addr) (sc1 : Nat) (sd1 : List Value) (r : Bool) (hr0 : rdC R 1 (.slice sa0 a0.length sc0) a0.length sd0) (ht0 : ∀ h, R h → tie (El.sl (El.int .u8)) sd0 a0 h) (hr1 : rdC R 1 (.slice sa1 a1.length sc1) a1.length sd1) (ht1 : ∀ h, R h → tie (El.sl (El.int .u8)) sd1 a1 h) (H : signalmanref6_SameLists.f k a0 a1 = some r) (HS : Sep.St [R] w0 w) : Calls Try.prog 39 #[Value.slice sa0 a0.length sc0, Value.slice sa1 a1.length sc1] w (Ret fun u w => u = Value.bool r ∧ Sep.St [R] w0 w) := by
  unfold signalmanref6_SameLists.f at H
  refine calls_enter Try.func39 rfl rfl ?_
  have H : _ = some r := H
  replace HS := St.more 0 HS rfl ht0 tie.pers
  replace HS := St.more 1 HS rfl ht1 tie.pers
  refine V.seq ?_
  refine V.region ?_
  refine W.rd (X.assign rfl) rfl rfl rfl ?_
  refine W.nil ?_
  refine At.next ?_
  refine V.seq ?_
  refine V.seq ?_
  refine V.region ?_
  refine W.rd (X.move rfl) rfl rfl rfl ?_
  refine W.rd (X.lenSl Try.underlying30 rfl) rfl rfl rfl ?_
  refine W.rd (X.move rfl) rfl rfl rfl ?_
  refine W.rd (X.lenSl Try.underlying30 rfl) rfl rfl rfl ?_
  refine W.rd (X.cmp (!(decide ((a0.length : Int) = (a1.length : Int)))) rfl rfl rfl rfl) rfl rfl rfl ?_
  refine W.nil ?_
  refine At.next ?_
  by_cases c3 : (a0.length : Int) = (a1.length : Int)
  · replace H := ite_t c3 H
    refine V.condF (sb (n_t (decide_eq_true c3))) ?_
    refine V.skip ?_
    refine At.next ?_
    refine V.seq ?_
    refine V.seq ?_
    refine V.region ?_
    refine W.rd (X.assign rfl) rfl rfl rfl ?_
    refine W.nil ?_
    refine At.next ?_
    refine V.block ?_
    refine V.loop (σ := Int) (fun kq (st : Int) w => match st with | x4 => Sep.St [tie (El.sl (El.int .u8)) sd1 a1, tie (El.sl (El.int .u8)) sd0 a0, R] w0 w ∧ signalmanref6_SameLists.l0 kq a0 a1 x4 = some r ∧ kq ≤ k) (fun st => match st with | x4 => [(0, Value.slice sa0 a0.length sc0), (1, Value.slice sa1 a1.length sc1), (5, Value.int .i64 x4)]) k (0) ⟨rfl, rfl, rfl, trivial⟩ ⟨HS, H, Nat.le_refl _⟩ ?_
    rintro kq5 x4 w ⟨HS, H, hk6⟩
    cases kq5 with
    | zero => exact absurd H (by simp [signalmanref6_SameLists.l0])
    | succ kq5 =>
      simp only [signalmanref6_SameLists.l0] at H
      refine V.seq ?_
      refine V.seq ?_
      refine V.region ?_
      refine W.rd (X.move rfl) rfl rfl rfl ?_
      refine W.rd (X.move rfl) rfl rfl rfl ?_
      refine W.rd (X.lenSl Try.underlying30 rfl) rfl rfl rfl ?_
      refine W.rd (X.cmp (decide (x4 < (a0.length : Int))) rfl rfl rfl rfl) rfl rfl rfl ?_
      refine W.nil ?_
      refine At.next ?_
      by_cases c7 : x4 < (a0.length : Int)
      · replace H := ite_t c7 H
        refine V.condT (sb (decide_eq_true c7)) ?_
        refine V.skip ?_
        refine At.next ?_
        refine V.seq ?_
        refine V.block ?_
        refine V.seq ?_
        obtain ⟨c8, H⟩ := ite_n H
        obtain ⟨eb9, eo10, hh⟩ := (rdC.at 2 hr0 HS rfl).some (by decide) c8.1 c8.2; subst hh
        obtain ⟨ec11, hc12, HS⟩ := St.tie_at 1 HS rfl ([]) c8.1 c8.2
        obtain ⟨ea13, em14, he16, HN⟩ := St.sl_openF (Value.int .u8) (fun t => tie_int t) HS; clear HS; subst he16; have HS := HN
        obtain ⟨c17, H⟩ := ite_n H
        obtain ⟨eb18, eo19, hh⟩ := (rdC.at 3 hr1 HS rfl).some (by decide) c17.1 c17.2; subst hh
        obtain ⟨ec20, hc21, HS⟩ := St.tie_at 1 HS rfl ([]) c17.1 c17.2
        obtain ⟨ea22, em23, he25, HN⟩ := St.sl_openF (Value.int .u8) (fun t => tie_int t) HS; clear HS; subst he25; have HS := HN
        refine V.draw (es := []) (bl := []) (f := [(17, Value.slice (some ⟨eb9, eo10, none⟩) a0.length sc0), (18, Value.int .i64 x4), (19, Value.pointer (some ⟨eb9, eo10 + x4.toNat * 1, none⟩)), (20, Value.slice ea13 (a0.getD x4.toNat []).length em14), (21, Value.string (strOf (a0.getD x4.toNat []))), (22, Value.slice (some ⟨eb18, eo19, none⟩) a1.length sc1), (23, Value.int .i64 x4), (24, Value.pointer (some ⟨eb18, eo19 + x4.toNat * 1, none⟩)), (25, Value.slice ea22 (a1.getD x4.toNat []).length em23), (26, Value.string (strOf (a1.getD x4.toNat []))), (27, Value.bool (!(sEq (a0.getD x4.toNat []) (a1.getD x4.toNat []))))]) (fun w => Sep.St [fsl 1 (.slice ea22 (a1.getD x4.toNat []).length em23) (a1.getD x4.toNat []).length ((a1.getD x4.toNat []).map (Value.int .u8)), fsl 1 (.slice ea13 (a0.getD x4.toNat []).length em14) (a0.getD x4.toNat []).length ((a0.getD x4.toNat []).map (Value.int .u8)), tie (El.sl (El.int .u8)) sd1 a1, tie (El.sl (El.int .u8)) sd0 a0, R] w0 w) mo HS.drew rfl ?_
        refine T.fin [(0, Value.slice (some ⟨eb9, eo10, none⟩) a0.length sc0), (1, Value.slice (some ⟨eb18, eo19, none⟩) a1.length sc1), (5, Value.int .i64 x4), (27, Value.bool (!(sEq (a0.getD x4.toNat []) (a1.getD x4.toNat []))))] rfl ⟨.m1 0 rfl (.l rfl rfl) (fun w HS => X.move rfl) rfl rfl rfl rfl rfl, .m1 5 rfl (.l rfl rfl) (fun w HS => X.move rfl) rfl rfl rfl rfl rfl, .m2 17 18 rfl (.r rfl rfl) (.r rfl rfl) (fun w HS => X.indexSl Try.underlying30 inf39 rfl rfl c8.1 c8.2) rfl rfl rfl rfl rfl, .m1 19 rfl (.r rfl rfl) (fun w HS => X.load Try.underlying39 rfl rfl ((rdC.at 4 hr0 HS rfl).cellEl0 (hc12 0 _ rfl))) rfl rfl rfl rfl rfl, .m1 20 rfl (.r rfl rfl) (fun w HS => X.bytesStr Try.underlying39 Try.underlying5 Try.underlying9 rfl (rdC.at 1 fsl.rd HS rfl)) rfl rfl rfl rfl rfl, .m1 1 rfl (.l rfl rfl) (fun w HS => X.move rfl) rfl rfl rfl rfl rfl, .m1 5 rfl (.l rfl rfl) (fun w HS => X.move rfl) rfl rfl rfl rfl rfl, .m2 22 23 rfl (.r rfl rfl) (.r rfl rfl) (fun w HS => X.indexSl Try.underlying30 inf39 rfl rfl c17.1 c17.2) rfl rfl rfl rfl rfl, .m1 24 rfl (.r rfl rfl) (fun w HS => X.load Try.underlying39 rfl rfl ((rdC.at 4 hr1 HS rfl).cellEl0 (hc21 0 _ rfl))) rfl rfl rfl rfl rfl, .m1 25 rfl (.r rfl rfl) (fun w HS => X.bytesStr Try.underlying39 Try.underlying5 Try.underlying9 rfl (rdC.at 0 fsl.rd HS rfl)) rfl rfl rfl rfl rfl, .m2 21 26 rfl (.r rfl rfl) (.r rfl rfl) (fun w HS => X.neStr (a := a0.getD x4.toNat []) (b := a1.getD x4.toNat []) rfl rfl) rfl rfl rfl rfl rfl, trivial⟩ ⟨.inl ⟨rfl, rfl⟩, ⟨.inl ⟨rfl, rfl⟩, ⟨.inl ⟨rfl, rfl⟩, ⟨.inr ⟨rfl, rfl⟩, trivial⟩⟩⟩⟩ (fun w HS => ?_)
        refine At.next ?_
        by_cases c26 : sEq (a0.getD x4.toNat []) (a1.getD x4.toNat []) = true
        · replace H := ite_t c26 H
          refine V.condF (sb (n_t c26)) ?_
          refine V.skip ?_
          refine At.blockEnd ?_
          refine At.next ?_
          refine V.region ?_
          refine W.rd (X.move rfl) rfl rfl rfl ?_
          refine W.rd (X.add rfl rfl) rfl rfl rfl ?_
          refine W.rd (X.assign rfl) rfl rfl rfl ?_
          refine W.nil ?_
          replace HS := HS.sel [2, 3, 4] [0, 1] (by kernel_rfl)
          exact At.round kq5 (by omega) (w64 (x4 + 1)) ⟨rfl, rfl, rfl, trivial⟩ ⟨HS, H, by omega⟩
        · replace H := ite_f c26 H
          refine V.condT (sb (n_f (b_f c26))) ?_
          refine V.seq ?_
          refine V.region ?_
          refine W.rd (X.assign rfl) rfl rfl rfl ?_
          refine W.nil ?_
          refine At.next ?_
          refine V.ret ?_
          refine At.blockRet ?_
          refine At.thenRet ?_
          refine At.thenRet ?_
          refine At.blockRet ?_
          refine At.thenRet ?_
          replace HS := HS.sel [4] [0, 1, 2, 3] (by kernel_rfl)
          cases H
          exact At.ret1 rfl rfl ⟨_, rfl, rfl, HS⟩
      · replace H := ite_f c7 H
        refine V.condF (sb (decide_eq_false c7)) ?_
        refine V.exit ?_
        refine At.thenExit ?_
        refine At.thenExit ?_
        refine At.blockExit ?_
        refine At.next ?_
        refine V.seq ?_
        refine V.region ?_
        refine W.rd (X.assign rfl) rfl rfl rfl ?_
        refine W.nil ?_
        refine At.next ?_
        refine V.ret ?_
        replace HS := HS.sel [2] [0, 1] (by kernel_rfl)
        cases H
        exact At.ret1 rfl rfl ⟨_, rfl, rfl, HS⟩
  · replace H := ite_f c3 H
    refine V.condT (sb (n_f (decide_eq_false c3))) ?_
    refine V.seq ?_
    refine V.region ?_
    refine W.rd (X.assign rfl) rfl rfl rfl ?_
    refine W.nil ?_
    refine At.next ?_
    refine V.ret ?_
    refine At.thenRet ?_
    replace HS := HS.sel [2] [0, 1] (by kernel_rfl)
    cases H
    exact At.ret1 rfl rfl ⟨_, rfl, rfl, HS⟩

/-! ### signalman/signalmanlaw15.ArqAgain: function 11 -/
mutual
def signalmanlaw15_ArqAgain.l1 : Nat → Int → Int → Int → signalmanlaw15_pair → Option Bool
  | 0, _, _, _, _ => none
  | k + 1, a0, a1, x11, x12 => (if x11 < a0 then ((arq_Arq_Send.f k x12.a.1 ([IntKind.u8.wrap x11, 7] : List Int)).bind fun t21 => (signalmanlaw15_ArqAgain.l1 k a0 a1 (w64 (x11 + 1)) ({ a := (t21.2, x12.a.2), way := (x12.way.1, x12.way.2), heard := (x12.heard.1, x12.heard.2), said := (x12.said.1, x12.said.2), downs := x12.downs } : signalmanlaw15_pair))) else ((arq_Arq_Output.f x12.a.1).bind fun t25 => ((arq_Arq_Input.f k t25.2 ([0, 1, 1, IntKind.u8.wrap (w64 (2 * a1))] : List Int)).bind fun t42 => ((arq_Arq_Output.f t42).bind fun t45 => ((arq_Arq_Again.f k t45.2).bind fun t49 => ((arq_Arq_Output.f t49).bind fun t51 => (if (t45.1.length : Int) = 0 then (if (t25.1.length : Int) = a0 then (signalmanlaw15_ArqAgain.j2 k a1 t25 t51 (!(decide ((t51.1.length : Int) = (w64 (a0 - a1)))))) else (signalmanlaw15_ArqAgain.j2 k a1 t25 t51 true)) else (signalmanlaw15_ArqAgain.j2 k a1 t25 t51 true))))))))
def signalmanlaw15_ArqAgain.j2 (k : Nat) (a1 : Int) (t25 : List (List Int) × arq_Arq) (t51 : List (List Int) × arq_Arq) (x55 : Bool) : Option Bool := (if x55 = true then some false else (if 0 ≤ a1 ∧ a1 ≤ (t25.1.length : Int) ∧ (t25.1.length : Int) ≤ (t25.1.length : Int) then ((signalmanref6_SameLists.f k t51.1 (cut t25.1 a1 (t25.1.length : Int))).bind fun t59 => some t59) else none))
def signalmanlaw15_ArqAgain.j0 (k : Nat) (a0 : Int) (a1 : Int) (t1 : Bool) (x3 : Bool) : Option Bool := (if x3 = true then some t1 else ((signalmanlaw15_shape.f 128 16 20).bind fun t6 => ((signalmanlaw15_up.f k t6).bind fun t8 => (signalmanlaw15_ArqAgain.l1 k a0 a1 0 t8))))
end
def signalmanlaw15_ArqAgain.f (k : Nat) (a0 : Int) (a1 : Int) : Option Bool := ((signalmanlaw15_alive.f k ).bind fun t1 => (if t1 = true then (if a0 < 0 then (signalmanlaw15_ArqAgain.j0 k a0 a1 t1 true) else (if a0 > 16 then (signalmanlaw15_ArqAgain.j0 k a0 a1 t1 true) else (if a1 < 0 then (signalmanlaw15_ArqAgain.j0 k a0 a1 t1 true) else (signalmanlaw15_ArqAgain.j0 k a0 a1 t1 (decide (a1 > a0)))))) else (signalmanlaw15_ArqAgain.j0 k a0 a1 t1 true)))
set_option maxRecDepth 100000 in
set_option maxHeartbeats 4000000 in
theorem signalmanlaw15_ArqAgain.calls (k : Nat) (a0 : Int) (a1 : Int) (R : As) (w0 w : World)  (r : Bool)  (H : signalmanlaw15_ArqAgain.f k a0 a1 = some r) (HS : Sep.St [R] w0 w) : Calls Try.prog 11 #[Value.int .i64 a0, Value.int .i64 a1] w (Ret fun u w => u = Value.bool r ∧ Sep.St [R] w0 w) := by
  unfold signalmanlaw15_ArqAgain.f at H
  refine calls_enter Try.func11 rfl rfl ?_
  have H : _ = some r := H
  refine V.seq ?_
  refine V.region ?_
  refine W.rd (X.assign rfl) rfl rfl rfl ?_
  refine W.nil ?_
  refine At.next ?_
  refine V.seq ?_
  refine V.region ?_
  obtain ⟨t1, A2, H⟩ := bind_s H
  refine W.ev (Y.call Try.func15 (by kernel_rfl) rfl (vs := []) rfl (signalmanlaw15_alive.calls k  _ w0 _  t1  A2 (Sep.St.tailJoin (m := []) (r := [R]) HS))) rfl rfl rfl ?_
  rintro _ w ⟨rfl, HS⟩
  replace HS := Sep.St.tailOpen (m := []) (r := [R]) HS
  refine W.rd (X.assign rfl) rfl rfl rfl ?_
  refine W.nil ?_
  refine At.next ?_
  refine V.seq ?_
  refine V.meet (σ := Bool) (fun st w => match st with | x3 => Sep.St [R] w0 w ∧ ∃ kf4, kf4 ≤ k ∧ signalmanlaw15_ArqAgain.j0 kf4 a0 a1 t1 x3 = some r) (fun st => match st with | x3 => [(0, Value.int .i64 a0), (1, Value.int .i64 a1), (5, Value.bool t1), (30, Value.bool x3)]) ?_ ?_
  · refine V.region ?_
    refine W.rd (X.move rfl) rfl rfl rfl ?_
    refine W.rd (X.not rfl) rfl rfl rfl ?_
    refine W.rd (X.move rfl) rfl rfl rfl ?_
    by_cases c63 : t1 = true
    · replace H := ite_t c63 H
      refine W.want 14 rfl (sb (n_t c63)) ?_
      refine W.rd (X.move rfl) rfl rfl rfl ?_
      refine W.want 14 rfl (sb (n_t c63)) ?_
      refine W.rd (X.cmp (decide (a0 < 0)) rfl rfl rfl rfl) rfl rfl rfl ?_
      refine W.rd (X.pickF (sb (n_t c63)) rfl) rfl rfl rfl ?_
      refine W.rd (X.move rfl) rfl rfl rfl ?_
      by_cases c64 : a0 < 0
      · replace H := ite_t c64 H
        refine W.pass 18 rfl (sb (decide_eq_true c64)) rfl rfl ?_
        refine W.pass 18 rfl (sb (decide_eq_true c64)) rfl rfl ?_
        refine W.rd (X.pickT (sb (decide_eq_true c64)) rfl) rfl rfl rfl ?_
        refine W.rd (X.move rfl) rfl rfl rfl ?_
        refine W.pass 22 rfl rfl rfl rfl ?_
        refine W.pass 22 rfl rfl rfl rfl ?_
        refine W.rd (X.pickT rfl rfl) rfl rfl rfl ?_
        refine W.rd (X.move rfl) rfl rfl rfl ?_
        refine W.pass 26 rfl rfl rfl rfl ?_
        refine W.pass 26 rfl rfl rfl rfl ?_
        refine W.pass 26 rfl rfl rfl rfl ?_
        refine W.rd (X.pickT rfl rfl) rfl rfl rfl ?_
        refine W.nil ?_
        exact At.meet true ⟨rfl, rfl, rfl, rfl, trivial⟩ ⟨HS, k, by omega, H⟩
      · replace H := ite_f c64 H
        refine W.want 18 rfl (sb (decide_eq_false c64)) ?_
        refine W.rd (X.move rfl) rfl rfl rfl ?_
        refine W.want 18 rfl (sb (decide_eq_false c64)) ?_
        refine W.rd (X.cmp (decide (a0 > 16)) rfl rfl rfl rfl) rfl rfl rfl ?_
        refine W.rd (X.pickF (sb (decide_eq_false c64)) rfl) rfl rfl rfl ?_
        refine W.rd (X.move rfl) rfl rfl rfl ?_
        by_cases c65 : a0 > 16
        · replace H := ite_t c65 H
          refine W.pass 22 rfl (sb (decide_eq_true c65)) rfl rfl ?_
          refine W.pass 22 rfl (sb (decide_eq_true c65)) rfl rfl ?_
          refine W.rd (X.pickT (sb (decide_eq_true c65)) rfl) rfl rfl rfl ?_
          refine W.rd (X.move rfl) rfl rfl rfl ?_
          refine W.pass 26 rfl rfl rfl rfl ?_
          refine W.pass 26 rfl rfl rfl rfl ?_
          refine W.pass 26 rfl rfl rfl rfl ?_
          refine W.rd (X.pickT rfl rfl) rfl rfl rfl ?_
          refine W.nil ?_
          exact At.meet true ⟨rfl, rfl, rfl, rfl, trivial⟩ ⟨HS, k, by omega, H⟩
        · replace H := ite_f c65 H
          refine W.want 22 rfl (sb (decide_eq_false c65)) ?_
          refine W.rd (X.move rfl) rfl rfl rfl ?_
          refine W.want 22 rfl (sb (decide_eq_false c65)) ?_
          refine W.rd (X.cmp (decide (a1 < 0)) rfl rfl rfl rfl) rfl rfl rfl ?_
          refine W.rd (X.pickF (sb (decide_eq_false c65)) rfl) rfl rfl rfl ?_
          refine W.rd (X.move rfl) rfl rfl rfl ?_
          by_cases c66 : a1 < 0
          · replace H := ite_t c66 H
            refine W.pass 26 rfl (sb (decide_eq_true c66)) rfl rfl ?_
            refine W.pass 26 rfl (sb (decide_eq_true c66)) rfl rfl ?_
            refine W.pass 26 rfl (sb (decide_eq_true c66)) rfl rfl ?_
            refine W.rd (X.pickT (sb (decide_eq_true c66)) rfl) rfl rfl rfl ?_
            refine W.nil ?_
            exact At.meet true ⟨rfl, rfl, rfl, rfl, trivial⟩ ⟨HS, k, by omega, H⟩
          · replace H := ite_f c66 H
            refine W.want 26 rfl (sb (decide_eq_false c66)) ?_
            refine W.rd (X.move rfl) rfl rfl rfl ?_
            refine W.want 26 rfl (sb (decide_eq_false c66)) ?_
            refine W.rd (X.move rfl) rfl rfl rfl ?_
            refine W.want 26 rfl (sb (decide_eq_false c66)) ?_
            refine W.rd (X.cmp (decide (a1 > a0)) rfl rfl rfl rfl) rfl rfl rfl ?_
            refine W.rd (X.pickF (sb (decide_eq_false c66)) rfl) rfl rfl rfl ?_
            refine W.nil ?_
            exact At.meet (decide (a1 > a0)) ⟨rfl, rfl, rfl, rfl, trivial⟩ ⟨HS, k, by omega, H⟩
    · replace H := ite_f c63 H
      refine W.pass 14 rfl (sb (n_f (b_f c63))) rfl rfl ?_
      refine W.pass 14 rfl (sb (n_f (b_f c63))) rfl rfl ?_
      refine W.rd (X.pickT (sb (n_f (b_f c63))) rfl) rfl rfl rfl ?_
      refine W.rd (X.move rfl) rfl rfl rfl ?_
      refine W.pass 18 rfl rfl rfl rfl ?_
      refine W.pass 18 rfl rfl rfl rfl ?_
      refine W.rd (X.pickT rfl rfl) rfl rfl rfl ?_
      refine W.rd (X.move rfl) rfl rfl rfl ?_
      refine W.pass 22 rfl rfl rfl rfl ?_
      refine W.pass 22 rfl rfl rfl rfl ?_
      refine W.rd (X.pickT rfl rfl) rfl rfl rfl ?_
      refine W.rd (X.move rfl) rfl rfl rfl ?_
      refine W.pass 26 rfl rfl rfl rfl ?_
      refine W.pass 26 rfl rfl rfl rfl ?_
      refine W.pass 26 rfl rfl rfl rfl ?_
      refine W.rd (X.pickT rfl rfl) rfl rfl rfl ?_
      refine W.nil ?_
      exact At.meet true ⟨rfl, rfl, rfl, rfl, trivial⟩ ⟨HS, k, by omega, H⟩
  · rintro x3 w ⟨HS, kf4, hkkf4, H⟩
    unfold signalmanlaw15_ArqAgain.j0 at H
    by_cases c5 : x3 = true
    · replace H := ite_t c5 H
      refine V.condT (sb c5) ?_
      refine V.seq ?_
      refine V.region ?_
      refine W.rd (X.move rfl) rfl rfl rfl ?_
      refine W.rd (X.assign rfl) rfl rfl rfl ?_
      refine W.nil ?_
      refine At.next ?_
      refine V.ret ?_
      refine At.thenRet ?_
      cases H
      exact At.ret1 rfl rfl ⟨_, rfl, rfl, HS⟩
    · replace H := ite_f c5 H
      refine V.condF (sb (b_f c5)) ?_
      refine V.skip ?_
      refine At.next ?_
      refine V.seq ?_
      refine V.region ?_
      obtain ⟨t6, A7, H⟩ := bind_s H
      refine W.ev (Y.call Try.func16 (by kernel_rfl) rfl (vs := [Value.int .i64 (128), Value.int .i64 (16), Value.int .i64 (20)]) rfl (signalmanlaw15_shape.calls 128 16 20 _ w0 _  t6  A7 (Sep.St.tailJoin (m := []) (r := [R]) HS))) rfl rfl rfl ?_
      rintro _ w ⟨rfl, HS⟩
      replace HS := Sep.St.tailOpen (m := []) (r := [R]) HS
      obtain ⟨t8, A9, H⟩ := bind_s H
      refine W.ev (Y.call Try.func36 (by kernel_rfl) rfl (vs := [Value.agg #[Value.int .i64 t6.Mode, Value.int .i64 t6.Modulus, Value.int .i64 t6.Window, Value.int .i64 t6.T1, Value.int .i64 t6.N2, Value.int .i64 t6.Hold, Value.int .i64 t6.Wait, Value.int .i64 t6.Keep, Value.int .i64 t6.Queue, Value.int .i64 t6.Size, Value.int .i64 t6.Ring, Value.int .i64 t6.Rate, Value.int .i64 t6.Bad, Value.int .i64 t6.Good, Value.bool t6.Revert, Value.bool t6.Wide]]) rfl (signalmanlaw15_up.calls kf4 t6 _ w0 _  t8  A9 (Sep.St.tailJoin (m := []) (r := [R]) HS))) rfl rfl rfl ?_
      rintro _ w ⟨bt8_0, rfl, HS⟩
      replace HS := Sep.St.tailOpen (m := [signalmanlaw15_pair.at bt8_0 t8]) (r := [R]) HS
      refine W.rd (X.assign rfl) rfl rfl rfl ?_
      refine W.nil ?_
      refine At.next ?_
      refine V.seq ?_
      refine V.seq ?_
      refine V.region ?_
      refine W.rd (X.assign rfl) rfl rfl rfl ?_
      refine W.nil ?_
      refine At.next ?_
      refine V.block ?_
      refine V.loop (σ := Int × signalmanlaw15_pair) (fun kq (st : Int × signalmanlaw15_pair) w => match st with | (x11, x12) => Sep.St [signalmanlaw15_pair.at bt8_0 x12, R] w0 w ∧ signalmanlaw15_ArqAgain.l1 kq a0 a1 x11 x12 = some r ∧ kq ≤ kf4) (fun st => match st with | (x11, x12) => [(0, Value.int .i64 a0), (1, Value.int .i64 a1), (6, Value.pointer (some ⟨bt8_0, 0, none⟩)), (7, Value.int .i64 x11)]) kf4 (0, t8) ⟨rfl, rfl, rfl, rfl, trivial⟩ ⟨HS, H, Nat.le_refl _⟩ ?_
      rintro kq13 ⟨x11, x12⟩ w ⟨HS, H, hk14⟩
      cases kq13 with
      | zero => exact absurd H (by simp [signalmanlaw15_ArqAgain.l1])
      | succ kq13 =>
        simp only [signalmanlaw15_ArqAgain.l1] at H
        refine V.seq ?_
        refine V.seq ?_
        refine V.region ?_
        refine W.rd (X.move rfl) rfl rfl rfl ?_
        refine W.rd (X.move rfl) rfl rfl rfl ?_
        refine W.rd (X.cmp (decide (x11 < a0)) rfl rfl rfl rfl) rfl rfl rfl ?_
        refine W.nil ?_
        refine At.next ?_
        by_cases c15 : x11 < a0
        · replace H := ite_t c15 H
          refine V.condT (sb (decide_eq_true c15)) ?_
          refine V.skip ?_
          refine At.next ?_
          refine V.seq ?_
          refine V.block ?_
          refine V.region ?_
          refine W.rd (X.move rfl) rfl rfl rfl ?_
          refine W.rd (X.nilCheck rfl) rfl rfl rfl ?_
          obtain ⟨b0_16, b1_16, a2_16, c2_16, d2_16, a3_16, c3_16, d3_16, a4_16, c4_16, a5_16, c5_16, a6_16, c6_16, a7_16, c7_16, hi17, HS⟩ := signalmanlaw15_pair.open HS
          refine W.rd (X.fieldAddr 0 fo59_0 rfl) rfl rfl rfl ?_
          refine W.rd (X.indexAr Try.underlying54 inf26 rfl rfl (by decide) (by decide)) rfl rfl rfl ?_
          refine W.rd (X.loadAt 0 HS rfl Try.underlying26 rfl rfl rfl) rfl rfl rfl ?_
          refine W.rd (X.move rfl) rfl rfl rfl ?_
          refine W.rd (X.conv Try.underlying3 Try.underlying5 rfl) rfl rfl rfl ?_
          refine W.ev (Y.litB (e := 5) (sz := 1) (vs := #[(0, Value.int .u8 (IntKind.u8.wrap x11)), (1, Value.int .u8 (7))]) [Value.int .u8 (IntKind.u8.wrap x11), Value.int .u8 (7)] HS (fun a ha => by simp only [List.map_toArray, List.map_cons, List.map_nil]; rw [ha.ev (x := .tmp 45) (v := Value.int .u8 (IntKind.u8.wrap x11)) rfl]; try rfl) rfl (by decide) (fun _ => by kernel_rfl)) rfl rfl rfl ?_
          rintro _ w ⟨lb20, rfl, HS⟩
          have HS : Sep.St [row 5 1 (.slice (some ⟨lb20, 0, none⟩) ([IntKind.u8.wrap x11, 7] : List Int).length 2) ([IntKind.u8.wrap x11, 7] : List Int).length (([IntKind.u8.wrap x11, 7] : List Int).map (Value.int .u8)), blk bt8_0 (#[Value.pointer (some ⟨b0_16, 0, none⟩), Value.pointer (some ⟨b1_16, 0, none⟩), Value.slice a2_16 x12.way.1.length c2_16, Value.slice a3_16 x12.way.2.length c3_16, Value.slice a4_16 x12.heard.1.length c4_16, Value.slice a5_16 x12.heard.2.length c5_16, Value.slice a6_16 x12.said.1.length c6_16, Value.slice a7_16 x12.said.2.length c7_16, Value.int .i64 x12.downs]) 59, arq_Arq.at b0_16 x12.a.1, arq_Arq.at b1_16 x12.a.2, row 39 1 (.slice a2_16 x12.way.1.length c2_16) x12.way.1.length d2_16, tie (El.sl (El.int .u8)) d2_16 x12.way.1, row 39 1 (.slice a3_16 x12.way.2.length c3_16) x12.way.2.length d3_16, tie (El.sl (El.int .u8)) d3_16 x12.way.2, row 9 1 (.slice a4_16 x12.heard.1.length c4_16) x12.heard.1.length (x12.heard.1.map (fun x => Value.string (strOf x))), row 9 1 (.slice a5_16 x12.heard.2.length c5_16) x12.heard.2.length (x12.heard.2.map (fun x => Value.string (strOf x))), row 9 1 (.slice a6_16 x12.said.1.length c6_16) x12.said.1.length (x12.said.1.map (fun x => Value.string (strOf x))), row 9 1 (.slice a7_16 x12.said.2.length c7_16) x12.said.2.length (x12.said.2.map (fun x => Value.string (strOf x))), R] w0 w := HS
          obtain ⟨t21, A22, H⟩ := bind_s H
          replace HS := HS.re [2, 0, 1, 3, 4, 5, 6, 7, 8, 9, 10, 11, 12] (by kernel_rfl)
          refine W.ev (Y.call Try.func34 (by kernel_rfl) rfl (vs := [Value.pointer (some ⟨b0_16, 0, none⟩), Value.slice (some ⟨lb20, 0, none⟩) ([IntKind.u8.wrap x11, 7] : List Int).length 2]) rfl (arq_Arq_Send.calls kq13 x12.a.1 ([IntKind.u8.wrap x11, 7] : List Int) _ w0 _ b0_16 (some ⟨lb20, 0, none⟩) 2 t21 (rdC.part 0 row_rd rfl) A22 (Sep.St.tailJoin (m := [arq_Arq.at b0_16 x12.a.1]) (r := [row 5 1 (.slice (some ⟨lb20, 0, none⟩) ([IntKind.u8.wrap x11, 7] : List Int).length 2) ([IntKind.u8.wrap x11, 7] : List Int).length (([IntKind.u8.wrap x11, 7] : List Int).map (Value.int .u8)), blk bt8_0 (#[Value.pointer (some ⟨b0_16, 0, none⟩), Value.pointer (some ⟨b1_16, 0, none⟩), Value.slice a2_16 x12.way.1.length c2_16, Value.slice a3_16 x12.way.2.length c3_16, Value.slice a4_16 x12.heard.1.length c4_16, Value.slice a5_16 x12.heard.2.length c5_16, Value.slice a6_16 x12.said.1.length c6_16, Value.slice a7_16 x12.said.2.length c7_16, Value.int .i64 x12.downs]) 59, arq_Arq.at b1_16 x12.a.2, row 39 1 (.slice a2_16 x12.way.1.length c2_16) x12.way.1.length d2_16, tie (El.sl (El.int .u8)) d2_16 x12.way.1, row 39 1 (.slice a3_16 x12.way.2.length c3_16) x12.way.2.length d3_16, tie (El.sl (El.int .u8)) d3_16 x12.way.2, row 9 1 (.slice a4_16 x12.heard.1.length c4_16) x12.heard.1.length (x12.heard.1.map (fun x => Value.string (strOf x))), row 9 1 (.slice a5_16 x12.heard.2.length c5_16) x12.heard.2.length (x12.heard.2.map (fun x => Value.string (strOf x))), row 9 1 (.slice a6_16 x12.said.1.length c6_16) x12.said.1.length (x12.said.1.map (fun x => Value.string (strOf x))), row 9 1 (.slice a7_16 x12.said.2.length c7_16) x12.said.2.length (x12.said.2.map (fun x => Value.string (strOf x))), R]) HS))) rfl rfl rfl ?_
          rintro _ w ⟨rfl, HS⟩
          replace HS := Sep.St.tailOpen (m := [arq_Arq.at b0_16 t21.2]) (r := [row 5 1 (.slice (some ⟨lb20, 0, none⟩) ([IntKind.u8.wrap x11, 7] : List Int).length 2) ([IntKind.u8.wrap x11, 7] : List Int).length (([IntKind.u8.wrap x11, 7] : List Int).map (Value.int .u8)), blk bt8_0 (#[Value.pointer (some ⟨b0_16, 0, none⟩), Value.pointer (some ⟨b1_16, 0, none⟩), Value.slice a2_16 x12.way.1.length c2_16, Value.slice a3_16 x12.way.2.length c3_16, Value.slice a4_16 x12.heard.1.length c4_16, Value.slice a5_16 x12.heard.2.length c5_16, Value.slice a6_16 x12.said.1.length c6_16, Value.slice a7_16 x12.said.2.length c7_16, Value.int .i64 x12.downs]) 59, arq_Arq.at b1_16 x12.a.2, row 39 1 (.slice a2_16 x12.way.1.length c2_16) x12.way.1.length d2_16, tie (El.sl (El.int .u8)) d2_16 x12.way.1, row 39 1 (.slice a3_16 x12.way.2.length c3_16) x12.way.2.length d3_16, tie (El.sl (El.int .u8)) d3_16 x12.way.2, row 9 1 (.slice a4_16 x12.heard.1.length c4_16) x12.heard.1.length (x12.heard.1.map (fun x => Value.string (strOf x))), row 9 1 (.slice a5_16 x12.heard.2.length c5_16) x12.heard.2.length (x12.heard.2.map (fun x => Value.string (strOf x))), row 9 1 (.slice a6_16 x12.said.1.length c6_16) x12.said.1.length (x12.said.1.map (fun x => Value.string (strOf x))), row 9 1 (.slice a7_16 x12.said.2.length c7_16) x12.said.2.length (x12.said.2.map (fun x => Value.string (strOf x))), R]) HS
          refine W.nil ?_
          refine At.blockEnd ?_
          refine At.next ?_
          refine V.region ?_
          refine W.rd (X.move rfl) rfl rfl rfl ?_
          refine W.rd (X.add rfl rfl) rfl rfl rfl ?_
          refine W.rd (X.assign rfl) rfl rfl rfl ?_
          refine W.nil ?_
          replace HS := HS.re [2, 0, 3, 4, 5, 6, 7, 8, 9, 10, 11, 1, 12] (by kernel_rfl)
          replace HS := signalmanlaw15_pair.close (({ a := (t21.2, x12.a.2), way := (x12.way.1, x12.way.2), heard := (x12.heard.1, x12.heard.2), said := (x12.said.1, x12.said.2), downs := x12.downs } : signalmanlaw15_pair)) trivial HS
          replace HS := HS.sel [0, 2] [1] (by kernel_rfl)
          exact At.round kq13 (by omega) (w64 (x11 + 1), ({ a := (t21.2, x12.a.2), way := (x12.way.1, x12.way.2), heard := (x12.heard.1, x12.heard.2), said := (x12.said.1, x12.said.2), downs := x12.downs } : signalmanlaw15_pair)) ⟨rfl, rfl, rfl, rfl, trivial⟩ ⟨HS, H, by omega⟩
        · replace H := ite_f c15 H
          refine V.condF (sb (decide_eq_false c15)) ?_
          refine V.exit ?_
          refine At.thenExit ?_
          refine At.thenExit ?_
          refine At.blockExit ?_
          refine At.next ?_
          refine V.seq ?_
          refine V.region ?_
          refine W.rd (X.move rfl) rfl rfl rfl ?_
          refine W.rd (X.nilCheck rfl) rfl rfl rfl ?_
          obtain ⟨b0_23, b1_23, a2_23, c2_23, d2_23, a3_23, c3_23, d3_23, a4_23, c4_23, a5_23, c5_23, a6_23, c6_23, a7_23, c7_23, hi24, HS⟩ := signalmanlaw15_pair.open HS
          refine W.rd (X.fieldAddr 0 fo59_0 rfl) rfl rfl rfl ?_
          refine W.rd (X.indexAr Try.underlying54 inf26 rfl rfl (by decide) (by decide)) rfl rfl rfl ?_
          refine W.rd (X.loadAt 0 HS rfl Try.underlying26 rfl rfl rfl) rfl rfl rfl ?_
          obtain ⟨t25, A26, H⟩ := bind_s H
          replace HS := HS.re [1, 0, 2, 3, 4, 5, 6, 7, 8, 9, 10, 11] (by kernel_rfl)
          refine W.ev (Y.call Try.func20 (by kernel_rfl) rfl (vs := [Value.pointer (some ⟨b0_23, 0, none⟩)]) rfl (arq_Arq_Output.calls x12.a.1 _ w0 _ b0_23 t25  A26 (Sep.St.tailJoin (m := [arq_Arq.at b0_23 x12.a.1]) (r := [blk bt8_0 (#[Value.pointer (some ⟨b0_23, 0, none⟩), Value.pointer (some ⟨b1_23, 0, none⟩), Value.slice a2_23 x12.way.1.length c2_23, Value.slice a3_23 x12.way.2.length c3_23, Value.slice a4_23 x12.heard.1.length c4_23, Value.slice a5_23 x12.heard.2.length c5_23, Value.slice a6_23 x12.said.1.length c6_23, Value.slice a7_23 x12.said.2.length c7_23, Value.int .i64 x12.downs]) 59, arq_Arq.at b1_23 x12.a.2, row 39 1 (.slice a2_23 x12.way.1.length c2_23) x12.way.1.length d2_23, tie (El.sl (El.int .u8)) d2_23 x12.way.1, row 39 1 (.slice a3_23 x12.way.2.length c3_23) x12.way.2.length d3_23, tie (El.sl (El.int .u8)) d3_23 x12.way.2, row 9 1 (.slice a4_23 x12.heard.1.length c4_23) x12.heard.1.length (x12.heard.1.map (fun x => Value.string (strOf x))), row 9 1 (.slice a5_23 x12.heard.2.length c5_23) x12.heard.2.length (x12.heard.2.map (fun x => Value.string (strOf x))), row 9 1 (.slice a6_23 x12.said.1.length c6_23) x12.said.1.length (x12.said.1.map (fun x => Value.string (strOf x))), row 9 1 (.slice a7_23 x12.said.2.length c7_23) x12.said.2.length (x12.said.2.map (fun x => Value.string (strOf x))), R]) HS))) rfl rfl rfl ?_
          rintro _ w ⟨at25_0, ct25_0, dt25_0, rfl, HS⟩
          replace HS := Sep.St.tailOpen (m := [row 39 1 (.slice at25_0 t25.1.length ct25_0) t25.1.length dt25_0, tie (El.sl (El.int .u8)) dt25_0 t25.1, arq_Arq.at b0_23 t25.2]) (r := [blk bt8_0 (#[Value.pointer (some ⟨b0_23, 0, none⟩), Value.pointer (some ⟨b1_23, 0, none⟩), Value.slice a2_23 x12.way.1.length c2_23, Value.slice a3_23 x12.way.2.length c3_23, Value.slice a4_23 x12.heard.1.length c4_23, Value.slice a5_23 x12.heard.2.length c5_23, Value.slice a6_23 x12.said.1.length c6_23, Value.slice a7_23 x12.said.2.length c7_23, Value.int .i64 x12.downs]) 59, arq_Arq.at b1_23 x12.a.2, row 39 1 (.slice a2_23 x12.way.1.length c2_23) x12.way.1.length d2_23, tie (El.sl (El.int .u8)) d2_23 x12.way.1, row 39 1 (.slice a3_23 x12.way.2.length c3_23) x12.way.2.length d3_23, tie (El.sl (El.int .u8)) d3_23 x12.way.2, row 9 1 (.slice a4_23 x12.heard.1.length c4_23) x12.heard.1.length (x12.heard.1.map (fun x => Value.string (strOf x))), row 9 1 (.slice a5_23 x12.heard.2.length c5_23) x12.heard.2.length (x12.heard.2.map (fun x => Value.string (strOf x))), row 9 1 (.slice a6_23 x12.said.1.length c6_23) x12.said.1.length (x12.said.1.map (fun x => Value.string (strOf x))), row 9 1 (.slice a7_23 x12.said.2.length c7_23) x12.said.2.length (x12.said.2.map (fun x => Value.string (strOf x))), R]) HS
          refine W.rd (X.assign rfl) rfl rfl rfl ?_
          refine W.nil ?_
          refine At.next ?_
          refine V.seq ?_
          refine V.region ?_
          refine W.rd (X.move rfl) rfl rfl rfl ?_
          refine W.rd (X.nilCheck rfl) rfl rfl rfl ?_
          refine W.rd (X.fieldAddr 0 fo59_0 rfl) rfl rfl rfl ?_
          refine W.rd (X.indexAr Try.underlying54 inf26 rfl rfl (by decide) (by decide)) rfl rfl rfl ?_
          refine W.rd (X.loadAt 3 HS rfl Try.underlying26 rfl rfl rfl) rfl rfl rfl ?_
          refine W.rd (X.move rfl) rfl rfl rfl ?_
          refine W.rd (X.mul rfl rfl) rfl rfl rfl ?_
          refine W.rd (X.conv Try.underlying3 Try.underlying5 rfl) rfl rfl rfl ?_
          refine W.ev (Y.litB (e := 5) (sz := 1) (vs := #[(0, Value.int .u8 (0)), (1, Value.int .u8 (1)), (2, Value.int .u8 (1)), (3, Value.int .u8 (IntKind.u8.wrap (w64 (2 * a1))))]) [Value.int .u8 (0), Value.int .u8 (1), Value.int .u8 (1), Value.int .u8 (IntKind.u8.wrap (w64 (2 * a1)))] HS (fun a ha => by simp only [List.map_toArray, List.map_cons, List.map_nil]; rw [ha.ev (x := .tmp 61) (v := Value.int .u8 (IntKind.u8.wrap (w64 (2 * a1)))) rfl]; try rfl) rfl (by decide) (fun _ => by kernel_rfl)) rfl rfl rfl ?_
          rintro _ w ⟨lb41, rfl, HS⟩
          have HS : Sep.St [row 5 1 (.slice (some ⟨lb41, 0, none⟩) (([0, 1, 1, IntKind.u8.wrap (w64 (2 * a1))] : List Int)).length 4) (([0, 1, 1, IntKind.u8.wrap (w64 (2 * a1))] : List Int)).length ((([0, 1, 1, IntKind.u8.wrap (w64 (2 * a1))] : List Int)).map (Value.int .u8)), row 39 1 (.slice at25_0 t25.1.length ct25_0) t25.1.length dt25_0, tie (El.sl (El.int .u8)) dt25_0 t25.1, arq_Arq.at b0_23 t25.2, blk bt8_0 (#[Value.pointer (some ⟨b0_23, 0, none⟩), Value.pointer (some ⟨b1_23, 0, none⟩), Value.slice a2_23 x12.way.1.length c2_23, Value.slice a3_23 x12.way.2.length c3_23, Value.slice a4_23 x12.heard.1.length c4_23, Value.slice a5_23 x12.heard.2.length c5_23, Value.slice a6_23 x12.said.1.length c6_23, Value.slice a7_23 x12.said.2.length c7_23, Value.int .i64 x12.downs]) 59, arq_Arq.at b1_23 x12.a.2, row 39 1 (.slice a2_23 x12.way.1.length c2_23) x12.way.1.length d2_23, tie (El.sl (El.int .u8)) d2_23 x12.way.1, row 39 1 (.slice a3_23 x12.way.2.length c3_23) x12.way.2.length d3_23, tie (El.sl (El.int .u8)) d3_23 x12.way.2, row 9 1 (.slice a4_23 x12.heard.1.length c4_23) x12.heard.1.length (x12.heard.1.map (fun x => Value.string (strOf x))), row 9 1 (.slice a5_23 x12.heard.2.length c5_23) x12.heard.2.length (x12.heard.2.map (fun x => Value.string (strOf x))), row 9 1 (.slice a6_23 x12.said.1.length c6_23) x12.said.1.length (x12.said.1.map (fun x => Value.string (strOf x))), row 9 1 (.slice a7_23 x12.said.2.length c7_23) x12.said.2.length (x12.said.2.map (fun x => Value.string (strOf x))), R] w0 w := HS
          obtain ⟨t42, A43, H⟩ := bind_s H
          replace HS := HS.re [3, 0, 1, 2, 4, 5, 6, 7, 8, 9, 10, 11, 12, 13, 14] (by kernel_rfl)
          refine W.ev (Y.call Try.func24 (by kernel_rfl) rfl (vs := [Value.pointer (some ⟨b0_23, 0, none⟩), Value.slice (some ⟨lb41, 0, none⟩) (([0, 1, 1, IntKind.u8.wrap (w64 (2 * a1))] : List Int)).length 4]) rfl (arq_Arq_Input.calls kq13 t25.2 ([0, 1, 1, IntKind.u8.wrap (w64 (2 * a1))] : List Int) _ w0 _ b0_23 (some ⟨lb41, 0, none⟩) 4 t42 (rdC.part 0 row_rd rfl) A43 (Sep.St.tailJoin (m := [arq_Arq.at b0_23 t25.2]) (r := [row 5 1 (.slice (some ⟨lb41, 0, none⟩) (([0, 1, 1, IntKind.u8.wrap (w64 (2 * a1))] : List Int)).length 4) (([0, 1, 1, IntKind.u8.wrap (w64 (2 * a1))] : List Int)).length ((([0, 1, 1, IntKind.u8.wrap (w64 (2 * a1))] : List Int)).map (Value.int .u8)), row 39 1 (.slice at25_0 t25.1.length ct25_0) t25.1.length dt25_0, tie (El.sl (El.int .u8)) dt25_0 t25.1, blk bt8_0 (#[Value.pointer (some ⟨b0_23, 0, none⟩), Value.pointer (some ⟨b1_23, 0, none⟩), Value.slice a2_23 x12.way.1.length c2_23, Value.slice a3_23 x12.way.2.length c3_23, Value.slice a4_23 x12.heard.1.length c4_23, Value.slice a5_23 x12.heard.2.length c5_23, Value.slice a6_23 x12.said.1.length c6_23, Value.slice a7_23 x12.said.2.length c7_23, Value.int .i64 x12.downs]) 59, arq_Arq.at b1_23 x12.a.2, row 39 1 (.slice a2_23 x12.way.1.length c2_23) x12.way.1.length d2_23, tie (El.sl (El.int .u8)) d2_23 x12.way.1, row 39 1 (.slice a3_23 x12.way.2.length c3_23) x12.way.2.length d3_23, tie (El.sl (El.int .u8)) d3_23 x12.way.2, row 9 1 (.slice a4_23 x12.heard.1.length c4_23) x12.heard.1.length (x12.heard.1.map (fun x => Value.string (strOf x))), row 9 1 (.slice a5_23 x12.heard.2.length c5_23) x12.heard.2.length (x12.heard.2.map (fun x => Value.string (strOf x))), row 9 1 (.slice a6_23 x12.said.1.length c6_23) x12.said.1.length (x12.said.1.map (fun x => Value.string (strOf x))), row 9 1 (.slice a7_23 x12.said.2.length c7_23) x12.said.2.length (x12.said.2.map (fun x => Value.string (strOf x))), R]) HS))) rfl rfl rfl ?_
          rintro _ w ⟨rfl, HS⟩
          replace HS := Sep.St.tailOpen (m := [arq_Arq.at b0_23 t42]) (r := [row 5 1 (.slice (some ⟨lb41, 0, none⟩) (([0, 1, 1, IntKind.u8.wrap (w64 (2 * a1))] : List Int)).length 4) (([0, 1, 1, IntKind.u8.wrap (w64 (2 * a1))] : List Int)).length ((([0, 1, 1, IntKind.u8.wrap (w64 (2 * a1))] : List Int)).map (Value.int .u8)), row 39 1 (.slice at25_0 t25.1.length ct25_0) t25.1.length dt25_0, tie (El.sl (El.int .u8)) dt25_0 t25.1, blk bt8_0 (#[Value.pointer (some ⟨b0_23, 0, none⟩), Value.pointer (some ⟨b1_23, 0, none⟩), Value.slice a2_23 x12.way.1.length c2_23, Value.slice a3_23 x12.way.2.length c3_23, Value.slice a4_23 x12.heard.1.length c4_23, Value.slice a5_23 x12.heard.2.length c5_23, Value.slice a6_23 x12.said.1.length c6_23, Value.slice a7_23 x12.said.2.length c7_23, Value.int .i64 x12.downs]) 59, arq_Arq.at b1_23 x12.a.2, row 39 1 (.slice a2_23 x12.way.1.length c2_23) x12.way.1.length d2_23, tie (El.sl (El.int .u8)) d2_23 x12.way.1, row 39 1 (.slice a3_23 x12.way.2.length c3_23) x12.way.2.length d3_23, tie (El.sl (El.int .u8)) d3_23 x12.way.2, row 9 1 (.slice a4_23 x12.heard.1.length c4_23) x12.heard.1.length (x12.heard.1.map (fun x => Value.string (strOf x))), row 9 1 (.slice a5_23 x12.heard.2.length c5_23) x12.heard.2.length (x12.heard.2.map (fun x => Value.string (strOf x))), row 9 1 (.slice a6_23 x12.said.1.length c6_23) x12.said.1.length (x12.said.1.map (fun x => Value.string (strOf x))), row 9 1 (.slice a7_23 x12.said.2.length c7_23) x12.said.2.length (x12.said.2.map (fun x => Value.string (strOf x))), R]) HS
          refine W.nil ?_
          refine At.next ?_
          refine V.seq ?_
          refine V.region ?_
          refine W.rd (X.move rfl) rfl rfl rfl ?_
          refine W.rd (X.nilCheck rfl) rfl rfl rfl ?_
          refine W.rd (X.fieldAddr 0 fo59_0 rfl) rfl rfl rfl ?_
          refine W.rd (X.indexAr Try.underlying54 inf26 rfl rfl (by decide) (by decide)) rfl rfl rfl ?_
          refine W.rd (X.loadAt 4 HS rfl Try.underlying26 rfl rfl rfl) rfl rfl rfl ?_
          obtain ⟨t45, A46, H⟩ := bind_s H
          refine W.ev (Y.call Try.func20 (by kernel_rfl) rfl (vs := [Value.pointer (some ⟨b0_23, 0, none⟩)]) rfl (arq_Arq_Output.calls t42 _ w0 _ b0_23 t45  A46 (Sep.St.tailJoin (m := [arq_Arq.at b0_23 t42]) (r := [row 5 1 (.slice (some ⟨lb41, 0, none⟩) (([0, 1, 1, IntKind.u8.wrap (w64 (2 * a1))] : List Int)).length 4) (([0, 1, 1, IntKind.u8.wrap (w64 (2 * a1))] : List Int)).length ((([0, 1, 1, IntKind.u8.wrap (w64 (2 * a1))] : List Int)).map (Value.int .u8)), row 39 1 (.slice at25_0 t25.1.length ct25_0) t25.1.length dt25_0, tie (El.sl (El.int .u8)) dt25_0 t25.1, blk bt8_0 (#[Value.pointer (some ⟨b0_23, 0, none⟩), Value.pointer (some ⟨b1_23, 0, none⟩), Value.slice a2_23 x12.way.1.length c2_23, Value.slice a3_23 x12.way.2.length c3_23, Value.slice a4_23 x12.heard.1.length c4_23, Value.slice a5_23 x12.heard.2.length c5_23, Value.slice a6_23 x12.said.1.length c6_23, Value.slice a7_23 x12.said.2.length c7_23, Value.int .i64 x12.downs]) 59, arq_Arq.at b1_23 x12.a.2, row 39 1 (.slice a2_23 x12.way.1.length c2_23) x12.way.1.length d2_23, tie (El.sl (El.int .u8)) d2_23 x12.way.1, row 39 1 (.slice a3_23 x12.way.2.length c3_23) x12.way.2.length d3_23, tie (El.sl (El.int .u8)) d3_23 x12.way.2, row 9 1 (.slice a4_23 x12.heard.1.length c4_23) x12.heard.1.length (x12.heard.1.map (fun x => Value.string (strOf x))), row 9 1 (.slice a5_23 x12.heard.2.length c5_23) x12.heard.2.length (x12.heard.2.map (fun x => Value.string (strOf x))), row 9 1 (.slice a6_23 x12.said.1.length c6_23) x12.said.1.length (x12.said.1.map (fun x => Value.string (strOf x))), row 9 1 (.slice a7_23 x12.said.2.length c7_23) x12.said.2.length (x12.said.2.map (fun x => Value.string (strOf x))), R]) HS))) rfl rfl rfl ?_
          rintro _ w ⟨at45_0, ct45_0, dt45_0, rfl, HS⟩
          replace HS := Sep.St.tailOpen (m := [row 39 1 (.slice at45_0 t45.1.length ct45_0) t45.1.length dt45_0, tie (El.sl (El.int .u8)) dt45_0 t45.1, arq_Arq.at b0_23 t45.2]) (r := [row 5 1 (.slice (some ⟨lb41, 0, none⟩) (([0, 1, 1, IntKind.u8.wrap (w64 (2 * a1))] : List Int)).length 4) (([0, 1, 1, IntKind.u8.wrap (w64 (2 * a1))] : List Int)).length ((([0, 1, 1, IntKind.u8.wrap (w64 (2 * a1))] : List Int)).map (Value.int .u8)), row 39 1 (.slice at25_0 t25.1.length ct25_0) t25.1.length dt25_0, tie (El.sl (El.int .u8)) dt25_0 t25.1, blk bt8_0 (#[Value.pointer (some ⟨b0_23, 0, none⟩), Value.pointer (some ⟨b1_23, 0, none⟩), Value.slice a2_23 x12.way.1.length c2_23, Value.slice a3_23 x12.way.2.length c3_23, Value.slice a4_23 x12.heard.1.length c4_23, Value.slice a5_23 x12.heard.2.length c5_23, Value.slice a6_23 x12.said.1.length c6_23, Value.slice a7_23 x12.said.2.length c7_23, Value.int .i64 x12.downs]) 59, arq_Arq.at b1_23 x12.a.2, row 39 1 (.slice a2_23 x12.way.1.length c2_23) x12.way.1.length d2_23, tie (El.sl (El.int .u8)) d2_23 x12.way.1, row 39 1 (.slice a3_23 x12.way.2.length c3_23) x12.way.2.length d3_23, tie (El.sl (El.int .u8)) d3_23 x12.way.2, row 9 1 (.slice a4_23 x12.heard.1.length c4_23) x12.heard.1.length (x12.heard.1.map (fun x => Value.string (strOf x))), row 9 1 (.slice a5_23 x12.heard.2.length c5_23) x12.heard.2.length (x12.heard.2.map (fun x => Value.string (strOf x))), row 9 1 (.slice a6_23 x12.said.1.length c6_23) x12.said.1.length (x12.said.1.map (fun x => Value.string (strOf x))), row 9 1 (.slice a7_23 x12.said.2.length c7_23) x12.said.2.length (x12.said.2.map (fun x => Value.string (strOf x))), R]) HS
          refine W.rd (X.lenSl Try.underlying30 rfl) rfl rfl rfl ?_
          refine W.rd (X.assign rfl) rfl rfl rfl ?_
          refine W.nil ?_
          refine At.next ?_
          refine V.seq ?_
          refine V.region ?_
          refine W.rd (X.move rfl) rfl rfl rfl ?_
          refine W.rd (X.nilCheck rfl) rfl rfl rfl ?_
          refine W.rd (X.fieldAddr 0 fo59_0 rfl) rfl rfl rfl ?_
          refine W.rd (X.indexAr Try.underlying54 inf26 rfl rfl (by decide) (by decide)) rfl rfl rfl ?_
          refine W.rd (X.loadAt 6 HS rfl Try.underlying26 rfl rfl rfl) rfl rfl rfl ?_
          obtain ⟨t49, A50, H⟩ := bind_s H
          replace HS := HS.re [2, 0, 1, 3, 4, 5, 6, 7, 8, 9, 10, 11, 12, 13, 14, 15, 16] (by kernel_rfl)
          refine W.ev (Y.call Try.func38 (by kernel_rfl) rfl (vs := [Value.pointer (some ⟨b0_23, 0, none⟩)]) rfl (arq_Arq_Again.calls kq13 t45.2 _ w0 _ b0_23 t49  A50 (Sep.St.tailJoin (m := [arq_Arq.at b0_23 t45.2]) (r := [row 39 1 (.slice at45_0 t45.1.length ct45_0) t45.1.length dt45_0, tie (El.sl (El.int .u8)) dt45_0 t45.1, row 5 1 (.slice (some ⟨lb41, 0, none⟩) (([0, 1, 1, IntKind.u8.wrap (w64 (2 * a1))] : List Int)).length 4) (([0, 1, 1, IntKind.u8.wrap (w64 (2 * a1))] : List Int)).length ((([0, 1, 1, IntKind.u8.wrap (w64 (2 * a1))] : List Int)).map (Value.int .u8)), row 39 1 (.slice at25_0 t25.1.length ct25_0) t25.1.length dt25_0, tie (El.sl (El.int .u8)) dt25_0 t25.1, blk bt8_0 (#[Value.pointer (some ⟨b0_23, 0, none⟩), Value.pointer (some ⟨b1_23, 0, none⟩), Value.slice a2_23 x12.way.1.length c2_23, Value.slice a3_23 x12.way.2.length c3_23, Value.slice a4_23 x12.heard.1.length c4_23, Value.slice a5_23 x12.heard.2.length c5_23, Value.slice a6_23 x12.said.1.length c6_23, Value.slice a7_23 x12.said.2.length c7_23, Value.int .i64 x12.downs]) 59, arq_Arq.at b1_23 x12.a.2, row 39 1 (.slice a2_23 x12.way.1.length c2_23) x12.way.1.length d2_23, tie (El.sl (El.int .u8)) d2_23 x12.way.1, row 39 1 (.slice a3_23 x12.way.2.length c3_23) x12.way.2.length d3_23, tie (El.sl (El.int .u8)) d3_23 x12.way.2, row 9 1 (.slice a4_23 x12.heard.1.length c4_23) x12.heard.1.length (x12.heard.1.map (fun x => Value.string (strOf x))), row 9 1 (.slice a5_23 x12.heard.2.length c5_23) x12.heard.2.length (x12.heard.2.map (fun x => Value.string (strOf x))), row 9 1 (.slice a6_23 x12.said.1.length c6_23) x12.said.1.length (x12.said.1.map (fun x => Value.string (strOf x))), row 9 1 (.slice a7_23 x12.said.2.length c7_23) x12.said.2.length (x12.said.2.map (fun x => Value.string (strOf x))), R]) HS))) rfl rfl rfl ?_
          rintro _ w ⟨rfl, HS⟩
          replace HS := Sep.St.tailOpen (m := [arq_Arq.at b0_23 t49]) (r := [row 39 1 (.slice at45_0 t45.1.length ct45_0) t45.1.length dt45_0, tie (El.sl (El.int .u8)) dt45_0 t45.1, row 5 1 (.slice (some ⟨lb41, 0, none⟩) (([0, 1, 1, IntKind.u8.wrap (w64 (2 * a1))] : List Int)).length 4) (([0, 1, 1, IntKind.u8.wrap (w64 (2 * a1))] : List Int)).length ((([0, 1, 1, IntKind.u8.wrap (w64 (2 * a1))] : List Int)).map (Value.int .u8)), row 39 1 (.slice at25_0 t25.1.length ct25_0) t25.1.length dt25_0, tie (El.sl (El.int .u8)) dt25_0 t25.1, blk bt8_0 (#[Value.pointer (some ⟨b0_23, 0, none⟩), Value.pointer (some ⟨b1_23, 0, none⟩), Value.slice a2_23 x12.way.1.length c2_23, Value.slice a3_23 x12.way.2.length c3_23, Value.slice a4_23 x12.heard.1.length c4_23, Value.slice a5_23 x12.heard.2.length c5_23, Value.slice a6_23 x12.said.1.length c6_23, Value.slice a7_23 x12.said.2.length c7_23, Value.int .i64 x12.downs]) 59, arq_Arq.at b1_23 x12.a.2, row 39 1 (.slice a2_23 x12.way.1.length c2_23) x12.way.1.length d2_23, tie (El.sl (El.int .u8)) d2_23 x12.way.1, row 39 1 (.slice a3_23 x12.way.2.length c3_23) x12.way.2.length d3_23, tie (El.sl (El.int .u8)) d3_23 x12.way.2, row 9 1 (.slice a4_23 x12.heard.1.length c4_23) x12.heard.1.length (x12.heard.1.map (fun x => Value.string (strOf x))), row 9 1 (.slice a5_23 x12.heard.2.length c5_23) x12.heard.2.length (x12.heard.2.map (fun x => Value.string (strOf x))), row 9 1 (.slice a6_23 x12.said.1.length c6_23) x12.said.1.length (x12.said.1.map (fun x => Value.string (strOf x))), row 9 1 (.slice a7_23 x12.said.2.length c7_23) x12.said.2.length (x12.said.2.map (fun x => Value.string (strOf x))), R]) HS
          refine W.nil ?_
          refine At.next ?_
          refine V.seq ?_
          refine V.region ?_
          refine W.rd (X.move rfl) rfl rfl rfl ?_
          refine W.rd (X.nilCheck rfl) rfl rfl rfl ?_
          refine W.rd (X.fieldAddr 0 fo59_0 rfl) rfl rfl rfl ?_
          refine W.rd (X.indexAr Try.underlying54 inf26 rfl rfl (by decide) (by decide)) rfl rfl rfl ?_
          refine W.rd (X.loadAt 6 HS rfl Try.underlying26 rfl rfl rfl) rfl rfl rfl ?_
          obtain ⟨t51, A52, H⟩ := bind_s H
          refine W.ev (Y.call Try.func20 (by kernel_rfl) rfl (vs := [Value.pointer (some ⟨b0_23, 0, none⟩)]) rfl (arq_Arq_Output.calls t49 _ w0 _ b0_23 t51  A52 (Sep.St.tailJoin (m := [arq_Arq.at b0_23 t49]) (r := [row 39 1 (.slice at45_0 t45.1.length ct45_0) t45.1.length dt45_0, tie (El.sl (El.int .u8)) dt45_0 t45.1, row 5 1 (.slice (some ⟨lb41, 0, none⟩) (([0, 1, 1, IntKind.u8.wrap (w64 (2 * a1))] : List Int)).length 4) (([0, 1, 1, IntKind.u8.wrap (w64 (2 * a1))] : List Int)).length ((([0, 1, 1, IntKind.u8.wrap (w64 (2 * a1))] : List Int)).map (Value.int .u8)), row 39 1 (.slice at25_0 t25.1.length ct25_0) t25.1.length dt25_0, tie (El.sl (El.int .u8)) dt25_0 t25.1, blk bt8_0 (#[Value.pointer (some ⟨b0_23, 0, none⟩), Value.pointer (some ⟨b1_23, 0, none⟩), Value.slice a2_23 x12.way.1.length c2_23, Value.slice a3_23 x12.way.2.length c3_23, Value.slice a4_23 x12.heard.1.length c4_23, Value.slice a5_23 x12.heard.2.length c5_23, Value.slice a6_23 x12.said.1.length c6_23, Value.slice a7_23 x12.said.2.length c7_23, Value.int .i64 x12.downs]) 59, arq_Arq.at b1_23 x12.a.2, row 39 1 (.slice a2_23 x12.way.1.length c2_23) x12.way.1.length d2_23, tie (El.sl (El.int .u8)) d2_23 x12.way.1, row 39 1 (.slice a3_23 x12.way.2.length c3_23) x12.way.2.length d3_23, tie (El.sl (El.int .u8)) d3_23 x12.way.2, row 9 1 (.slice a4_23 x12.heard.1.length c4_23) x12.heard.1.length (x12.heard.1.map (fun x => Value.string (strOf x))), row 9 1 (.slice a5_23 x12.heard.2.length c5_23) x12.heard.2.length (x12.heard.2.map (fun x => Value.string (strOf x))), row 9 1 (.slice a6_23 x12.said.1.length c6_23) x12.said.1.length (x12.said.1.map (fun x => Value.string (strOf x))), row 9 1 (.slice a7_23 x12.said.2.length c7_23) x12.said.2.length (x12.said.2.map (fun x => Value.string (strOf x))), R]) HS))) rfl rfl rfl ?_
          rintro _ w ⟨at51_0, ct51_0, dt51_0, rfl, HS⟩
          replace HS := Sep.St.tailOpen (m := [row 39 1 (.slice at51_0 t51.1.length ct51_0) t51.1.length dt51_0, tie (El.sl (El.int .u8)) dt51_0 t51.1, arq_Arq.at b0_23 t51.2]) (r := [row 39 1 (.slice at45_0 t45.1.length ct45_0) t45.1.length dt45_0, tie (El.sl (El.int .u8)) dt45_0 t45.1, row 5 1 (.slice (some ⟨lb41, 0, none⟩) (([0, 1, 1, IntKind.u8.wrap (w64 (2 * a1))] : List Int)).length 4) (([0, 1, 1, IntKind.u8.wrap (w64 (2 * a1))] : List Int)).length ((([0, 1, 1, IntKind.u8.wrap (w64 (2 * a1))] : List Int)).map (Value.int .u8)), row 39 1 (.slice at25_0 t25.1.length ct25_0) t25.1.length dt25_0, tie (El.sl (El.int .u8)) dt25_0 t25.1, blk bt8_0 (#[Value.pointer (some ⟨b0_23, 0, none⟩), Value.pointer (some ⟨b1_23, 0, none⟩), Value.slice a2_23 x12.way.1.length c2_23, Value.slice a3_23 x12.way.2.length c3_23, Value.slice a4_23 x12.heard.1.length c4_23, Value.slice a5_23 x12.heard.2.length c5_23, Value.slice a6_23 x12.said.1.length c6_23, Value.slice a7_23 x12.said.2.length c7_23, Value.int .i64 x12.downs]) 59, arq_Arq.at b1_23 x12.a.2, row 39 1 (.slice a2_23 x12.way.1.length c2_23) x12.way.1.length d2_23, tie (El.sl (El.int .u8)) d2_23 x12.way.1, row 39 1 (.slice a3_23 x12.way.2.length c3_23) x12.way.2.length d3_23, tie (El.sl (El.int .u8)) d3_23 x12.way.2, row 9 1 (.slice a4_23 x12.heard.1.length c4_23) x12.heard.1.length (x12.heard.1.map (fun x => Value.string (strOf x))), row 9 1 (.slice a5_23 x12.heard.2.length c5_23) x12.heard.2.length (x12.heard.2.map (fun x => Value.string (strOf x))), row 9 1 (.slice a6_23 x12.said.1.length c6_23) x12.said.1.length (x12.said.1.map (fun x => Value.string (strOf x))), row 9 1 (.slice a7_23 x12.said.2.length c7_23) x12.said.2.length (x12.said.2.map (fun x => Value.string (strOf x))), R]) HS
          refine W.rd (X.assign rfl) rfl rfl rfl ?_
          refine W.nil ?_
          refine At.next ?_
          refine V.seq ?_
          refine V.meet (σ := Bool) (fun st w => match st with | x55 => Sep.St [signalmanlaw15_pair.at bt8_0 (({ a := (t51.2, x12.a.2), way := (x12.way.1, x12.way.2), heard := (x12.heard.1, x12.heard.2), said := (x12.said.1, x12.said.2), downs := x12.downs } : signalmanlaw15_pair)), row 39 1 (.slice at51_0 t51.1.length ct51_0) t51.1.length dt51_0, tie (El.sl (El.int .u8)) dt51_0 t51.1, row 39 1 (.slice at45_0 t45.1.length ct45_0) t45.1.length dt45_0, tie (El.sl (El.int .u8)) dt45_0 t45.1, row 5 1 (.slice (some ⟨lb41, 0, none⟩) (([0, 1, 1, IntKind.u8.wrap (w64 (2 * a1))] : List Int)).length 4) (([0, 1, 1, IntKind.u8.wrap (w64 (2 * a1))] : List Int)).length ((([0, 1, 1, IntKind.u8.wrap (w64 (2 * a1))] : List Int)).map (Value.int .u8)), row 39 1 (.slice at25_0 t25.1.length ct25_0) t25.1.length dt25_0, tie (El.sl (El.int .u8)) dt25_0 t25.1, R] w0 w ∧ ∃ kf56, kf56 ≤ kq13 ∧ signalmanlaw15_ArqAgain.j2 kf56 a1 t25 t51 x55 = some r) (fun st => match st with | x55 => [(1, Value.int .i64 a1), (8, Value.slice at25_0 t25.1.length ct25_0), (10, Value.slice at51_0 t51.1.length ct51_0), (98, Value.bool x55)]) ?_ ?_
          · refine V.region ?_
            refine W.rd (X.move rfl) rfl rfl rfl ?_
            refine W.rd (X.cmp (!(decide ((t45.1.length : Int) = 0))) rfl rfl rfl rfl) rfl rfl rfl ?_
            refine W.rd (X.move rfl) rfl rfl rfl ?_
            by_cases c61 : (t45.1.length : Int) = 0
            · replace H := ite_t c61 H
              refine W.want 85 rfl (sb (n_t (decide_eq_true c61))) ?_
              refine W.rd (X.move rfl) rfl rfl rfl ?_
              refine W.want 85 rfl (sb (n_t (decide_eq_true c61))) ?_
              refine W.rd (X.lenSl Try.underlying30 rfl) rfl rfl rfl ?_
              refine W.want 85 rfl (sb (n_t (decide_eq_true c61))) ?_
              refine W.rd (X.move rfl) rfl rfl rfl ?_
              refine W.want 85 rfl (sb (n_t (decide_eq_true c61))) ?_
              refine W.rd (X.cmp (!(decide ((t25.1.length : Int) = a0))) rfl rfl rfl rfl) rfl rfl rfl ?_
              refine W.rd (X.pickF (sb (n_t (decide_eq_true c61))) rfl) rfl rfl rfl ?_
              refine W.rd (X.move rfl) rfl rfl rfl ?_
              by_cases c62 : (t25.1.length : Int) = a0
              · replace H := ite_t c62 H
                refine W.want 91 rfl (sb (n_t (decide_eq_true c62))) ?_
                refine W.rd (X.move rfl) rfl rfl rfl ?_
                refine W.want 91 rfl (sb (n_t (decide_eq_true c62))) ?_
                refine W.rd (X.lenSl Try.underlying30 rfl) rfl rfl rfl ?_
                refine W.want 91 rfl (sb (n_t (decide_eq_true c62))) ?_
                refine W.rd (X.move rfl) rfl rfl rfl ?_
                refine W.want 91 rfl (sb (n_t (decide_eq_true c62))) ?_
                refine W.rd (X.move rfl) rfl rfl rfl ?_
                refine W.want 91 rfl (sb (n_t (decide_eq_true c62))) ?_
                refine W.rd (X.sub rfl rfl) rfl rfl rfl ?_
                refine W.want 91 rfl (sb (n_t (decide_eq_true c62))) ?_
                refine W.rd (X.cmp (!(decide ((t51.1.length : Int) = (w64 (a0 - a1))))) rfl rfl rfl rfl) rfl rfl rfl ?_
                refine W.rd (X.pickF (sb (n_t (decide_eq_true c62))) rfl) rfl rfl rfl ?_
                refine W.nil ?_
                replace HS := HS.re [8, 2, 9, 10, 11, 12, 13, 14, 15, 16, 17, 0, 1, 3, 4, 5, 6, 7, 18] (by kernel_rfl)
                replace HS := signalmanlaw15_pair.close (({ a := (t51.2, x12.a.2), way := (x12.way.1, x12.way.2), heard := (x12.heard.1, x12.heard.2), said := (x12.said.1, x12.said.2), downs := x12.downs } : signalmanlaw15_pair)) trivial HS
                exact At.meet (!(decide ((t51.1.length : Int) = (w64 (a0 - a1))))) ⟨rfl, rfl, rfl, rfl, trivial⟩ ⟨HS, kq13, by omega, H⟩
              · replace H := ite_f c62 H
                refine W.pass 91 rfl (sb (n_f (decide_eq_false c62))) rfl rfl ?_
                refine W.pass 91 rfl (sb (n_f (decide_eq_false c62))) rfl rfl ?_
                refine W.pass 91 rfl (sb (n_f (decide_eq_false c62))) rfl rfl ?_
                refine W.pass 91 rfl (sb (n_f (decide_eq_false c62))) rfl rfl ?_
                refine W.pass 91 rfl (sb (n_f (decide_eq_false c62))) rfl rfl ?_
                refine W.pass 91 rfl (sb (n_f (decide_eq_false c62))) rfl rfl ?_
                refine W.rd (X.pickT (sb (n_f (decide_eq_false c62))) rfl) rfl rfl rfl ?_
                refine W.nil ?_
                replace HS := HS.re [8, 2, 9, 10, 11, 12, 13, 14, 15, 16, 17, 0, 1, 3, 4, 5, 6, 7, 18] (by kernel_rfl)
                replace HS := signalmanlaw15_pair.close (({ a := (t51.2, x12.a.2), way := (x12.way.1, x12.way.2), heard := (x12.heard.1, x12.heard.2), said := (x12.said.1, x12.said.2), downs := x12.downs } : signalmanlaw15_pair)) trivial HS
                exact At.meet true ⟨rfl, rfl, rfl, rfl, trivial⟩ ⟨HS, kq13, by omega, H⟩
            · replace H := ite_f c61 H
              refine W.pass 85 rfl (sb (n_f (decide_eq_false c61))) rfl rfl ?_
              refine W.pass 85 rfl (sb (n_f (decide_eq_false c61))) rfl rfl ?_
              refine W.pass 85 rfl (sb (n_f (decide_eq_false c61))) rfl rfl ?_
              refine W.pass 85 rfl (sb (n_f (decide_eq_false c61))) rfl rfl ?_
              refine W.rd (X.pickT (sb (n_f (decide_eq_false c61))) rfl) rfl rfl rfl ?_
              refine W.rd (X.move rfl) rfl rfl rfl ?_
              refine W.pass 91 rfl rfl rfl rfl ?_
              refine W.pass 91 rfl rfl rfl rfl ?_
              refine W.pass 91 rfl rfl rfl rfl ?_
              refine W.pass 91 rfl rfl rfl rfl ?_
              refine W.pass 91 rfl rfl rfl rfl ?_
              refine W.pass 91 rfl rfl rfl rfl ?_
              refine W.rd (X.pickT rfl rfl) rfl rfl rfl ?_
              refine W.nil ?_
              replace HS := HS.re [8, 2, 9, 10, 11, 12, 13, 14, 15, 16, 17, 0, 1, 3, 4, 5, 6, 7, 18] (by kernel_rfl)
              replace HS := signalmanlaw15_pair.close (({ a := (t51.2, x12.a.2), way := (x12.way.1, x12.way.2), heard := (x12.heard.1, x12.heard.2), said := (x12.said.1, x12.said.2), downs := x12.downs } : signalmanlaw15_pair)) trivial HS
              exact At.meet true ⟨rfl, rfl, rfl, rfl, trivial⟩ ⟨HS, kq13, by omega, H⟩
          · rintro x55 w ⟨HS, kf56, hkkf56, H⟩
            unfold signalmanlaw15_ArqAgain.j2 at H
            by_cases c57 : x55 = true
            · replace H := ite_t c57 H
              refine V.condT (sb c57) ?_
              refine V.seq ?_
              refine V.region ?_
              refine W.rd (X.assign rfl) rfl rfl rfl ?_
              refine W.nil ?_
              refine At.next ?_
              refine V.ret ?_
              refine At.thenRet ?_
              replace HS := HS.sel [8] [0, 1, 2, 3, 4, 5, 6, 7] (by kernel_rfl)
              cases H
              exact At.ret1 rfl rfl ⟨_, rfl, rfl, HS⟩
            · replace H := ite_f c57 H
              refine V.condF (sb (b_f c57)) ?_
              refine V.skip ?_
              refine At.next ?_
              refine V.seq ?_
              refine V.region ?_
              refine W.rd (X.move rfl) rfl rfl rfl ?_
              refine W.rd (X.move rfl) rfl rfl rfl ?_
              refine W.rd (X.move rfl) rfl rfl rfl ?_
              obtain ⟨c58, H⟩ := ite_n H
              refine W.rd (X.slL Try.underlying30 inf39 rfl rfl c58) rfl rfl rfl ?_
              replace HS := St.tie_cut2 7 a1 (t25.1.length : Int) HS rfl
              obtain ⟨t59, A60, H⟩ := bind_s H
              refine W.ev (Y.call Try.func39 (by kernel_rfl) rfl (vs := [Value.slice at51_0 t51.1.length ct51_0, Value.slice (vaddr at25_0 ct25_0 a1.toNat 1) (cut t25.1 a1 (t25.1.length : Int)).length (ct25_0 - a1.toNat)]) rfl (signalmanref6_SameLists.calls kf56 t51.1 (cut t25.1 a1 (t25.1.length : Int)) _ w0 _ at51_0 ct51_0 dt51_0 (vaddr at25_0 ct25_0 a1.toNat 1) (ct25_0 - a1.toNat) (cutC 1 dt25_0 a1 (t25.1.length : Int)) t59 (rdC.part 2 row_rd rfl) (fun h hh => let ⟨_, l, t⟩ := Sp.has 3 hh rfl; tie.mono t l) (rdC.part 7 (rdC.sub row_rd c58) rfl) (fun h hh => let ⟨_, l, t⟩ := Sp.has 0 hh rfl; tie.mono t l) A60 (Sep.St.tailJoin (m := []) (r := [tie (El.sl (El.int .u8)) (cutC 1 dt25_0 a1 (t25.1.length : Int)) (cut t25.1 a1 (t25.1.length : Int)), signalmanlaw15_pair.at bt8_0 (({ a := (t51.2, x12.a.2), way := (x12.way.1, x12.way.2), heard := (x12.heard.1, x12.heard.2), said := (x12.said.1, x12.said.2), downs := x12.downs } : signalmanlaw15_pair)), row 39 1 (.slice at51_0 t51.1.length ct51_0) t51.1.length dt51_0, tie (El.sl (El.int .u8)) dt51_0 t51.1, row 39 1 (.slice at45_0 t45.1.length ct45_0) t45.1.length dt45_0, tie (El.sl (El.int .u8)) dt45_0 t45.1, row 5 1 (.slice (some ⟨lb41, 0, none⟩) (([0, 1, 1, IntKind.u8.wrap (w64 (2 * a1))] : List Int)).length 4) (([0, 1, 1, IntKind.u8.wrap (w64 (2 * a1))] : List Int)).length ((([0, 1, 1, IntKind.u8.wrap (w64 (2 * a1))] : List Int)).map (Value.int .u8)), row 39 1 (.slice at25_0 t25.1.length ct25_0) t25.1.length dt25_0, tie (El.sl (El.int .u8)) dt25_0 t25.1, R]) HS))) rfl rfl rfl ?_
              rintro _ w ⟨rfl, HS⟩
              replace HS := Sep.St.tailOpen (m := []) (r := [tie (El.sl (El.int .u8)) (cutC 1 dt25_0 a1 (t25.1.length : Int)) (cut t25.1 a1 (t25.1.length : Int)), signalmanlaw15_pair.at bt8_0 (({ a := (t51.2, x12.a.2), way := (x12.way.1, x12.way.2), heard := (x12.heard.1, x12.heard.2), said := (x12.said.1, x12.said.2), downs := x12.downs } : signalmanlaw15_pair)), row 39 1 (.slice at51_0 t51.1.length ct51_0) t51.1.length dt51_0, tie (El.sl (El.int .u8)) dt51_0 t51.1, row 39 1 (.slice at45_0 t45.1.length ct45_0) t45.1.length dt45_0, tie (El.sl (El.int .u8)) dt45_0 t45.1, row 5 1 (.slice (some ⟨lb41, 0, none⟩) (([0, 1, 1, IntKind.u8.wrap (w64 (2 * a1))] : List Int)).length 4) (([0, 1, 1, IntKind.u8.wrap (w64 (2 * a1))] : List Int)).length ((([0, 1, 1, IntKind.u8.wrap (w64 (2 * a1))] : List Int)).map (Value.int .u8)), row 39 1 (.slice at25_0 t25.1.length ct25_0) t25.1.length dt25_0, tie (El.sl (El.int .u8)) dt25_0 t25.1, R]) HS
              refine W.rd (X.assign rfl) rfl rfl rfl ?_
              refine W.nil ?_
              refine At.next ?_
              refine V.ret ?_
              replace HS := HS.sel [9] [0, 1, 2, 3, 4, 5, 6, 7, 8] (by kernel_rfl)
              cases H
              exact At.ret1 rfl rfl ⟨_, rfl, rfl, HS⟩

def signalmanlaw15_ArqAgain.Pure : Prop := ∀ (a0 : Int) (a1 : Int), (Lit.int .i64 a0).wf = true → (Lit.int .i64 a1).wf = true → ∃ k, signalmanlaw15_ArqAgain.f k a0 a1 = some true
end Go.Proofs.Ytnlcafmkmfnobaa

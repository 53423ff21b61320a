/- ArqPlays: the functions that its law reaches, as plain functions, and that the machine's calls come to what these say. Conditions: those that stand at each. -/
import Derived.Test.YtnlcafmkmfnobaaGreatRunArqPlaysP4
set_option linter.all false
set_option maxRecDepth 100000
set_option maxHeartbeats 4000000
set_option synthInstance.maxSize 100000
set_option synthInstance.maxHeartbeats 1000000
namespace Go.Proofs.YtnlcafmkmfnobaaGreat
open Go.RowKit Go.Proofs.YtnlcafmkmfnobaaGreat.Sep Go.Proofs.YtnlcafmkmfnobaaGreat.Walk
mutual
def signalmanlaw15_ArqPlays.l1 : Nat → api_Config → (List signalmanlaw15_Act) → Int → signalmanref15_Arq → arq_Arq → arq_Arq → Option Bool
 | 0, _, _, _, _, _, _ => none
 | k + 1, a0, a1, x22, x23, x24, x25 => (if x22 < (a1.length : Int) then (if 0 ≤ x22 ∧ x22 < (a1.length : Int) then (if (((a1.getD x22.toNat default).B).length : Int) > 1100 then (signalmanlaw15_ArqPlays.j2 k a0 a1 x22 x23 x24 x25 (signalmanlaw15_ArqPlays.l1 k a0 a1) true) else (if ((a1.getD x22.toNat default).Way) = 4 then (signalmanlaw15_ArqPlays.j2 k a0 a1 x22 x23 x24 x25 (signalmanlaw15_ArqPlays.l1 k a0 a1) (decide (((a1.getD x22.toNat default).N) > 5000))) else (signalmanlaw15_ArqPlays.j2 k a0 a1 x22 x23 x24 x25 (signalmanlaw15_ArqPlays.l1 k a0 a1) false))) else none) else ((arq_Arq_Output.f x25).bind fun t169 => ((signalmanref15_Arq_Output.f x23).bind fun t171 => ((signalmanref6_SameLists.f k t169.1 t171.1).bind fun t173 => (if t173 = true then ((arq_Arq_Inds.f t169.2).bind fun t176 => ((signalmanref15_Arq_Inds.f t171.2).bind fun t178 => ((signalmanref6_SameInts.f k t176.1 t178.1).bind fun t180 => some t180))) else some false)))))
def signalmanlaw15_ArqPlays.j4 (x22 : Int) (t47 : arq_Arq) (x57 : signalmanref15_Arq) (x58 : arq_Arq) (Lq83 : Int → signalmanref15_Arq → arq_Arq → arq_Arq → Option Bool) (x81 : Bool) : Option Bool := (if x81 = true then some false else (Lq83 (w64 (x22 + 1)) x57 t47 x58))
def signalmanlaw15_ArqPlays.j3 (x22 : Int) (t47 : arq_Arq) (Lq60 : Int → signalmanref15_Arq → arq_Arq → arq_Arq → Option Bool) (x57 : signalmanref15_Arq) (x58 : arq_Arq) : Option Bool := ((arq_Arq_Counts.f x58).bind fun t64 => ((signalmanref15_Arq_Counts.f x57).bind fun t68 => ((arq_Arq_State.f x58).bind fun t86 => ((signalmanref15_Arq_State.f x57).bind fun t88 => (if t86 = t88 then (if t64.1 = t68.1 then (if t64.2.1 = t68.2.1 then (signalmanlaw15_ArqPlays.j4 x22 t47 x57 x58 Lq60 (!(decide (t64.2.2 = t68.2.2)))) else (signalmanlaw15_ArqPlays.j4 x22 t47 x57 x58 Lq60 true)) else (signalmanlaw15_ArqPlays.j4 x22 t47 x57 x58 Lq60 true)) else (signalmanlaw15_ArqPlays.j4 x22 t47 x57 x58 Lq60 true))))))
def signalmanlaw15_ArqPlays.j5 (x22 : Int) (t47 : arq_Arq) (t147 : List Int × Bool × arq_Arq) (t149 : List Int × Bool × signalmanref15_Arq) (Lq155 : Int → signalmanref15_Arq → arq_Arq → arq_Arq → Option Bool) (x153 : Bool) : Option Bool := (if x153 = true then some false else (signalmanlaw15_ArqPlays.j3 x22 t47 Lq155 t149.2.2 t147.2.2))
def signalmanlaw15_ArqPlays.j2 (k : Nat) (a0 : api_Config) (a1 : List signalmanlaw15_Act) (x22 : Int) (x23 : signalmanref15_Arq) (x24 : arq_Arq) (x25 : arq_Arq) (Lq42 : Int → signalmanref15_Arq → arq_Arq → arq_Arq → Option Bool) (x40 : Bool) : Option Bool := (if x40 = true then some true else ((arq_Arq_Connect.f k x24).bind fun t45 => ((arq_Arq_Pass.f k t45.2 3).bind fun t47 => ((signalmanlaw15_input.f (a1.getD x22.toNat default) a0.Modulus).bind fun t53 => (if ((a1.getD x22.toNat default).Way) = 0 then ((arq_Arq_Connect.f k x25).bind fun t94 => ((signalmanlaw15_num.f t94.1).bind fun t96 => ((signalmanref15_Arq_Connect.f x23).bind fun t98 => (if t96 = t98.1 then (signalmanlaw15_ArqPlays.j3 x22 t47 Lq42 t98.2 t94.2) else some false)))) else (if ((a1.getD x22.toNat default).Way) = 1 then ((arq_Arq_Close.f k x25).bind fun t102 => ((signalmanlaw15_num.f t102.1).bind fun t104 => ((signalmanref15_Arq_Close.f x23).bind fun t106 => (if t104 = t106.1 then (signalmanlaw15_ArqPlays.j3 x22 t47 Lq42 t106.2 t102.2) else some false)))) else (if ((a1.getD x22.toNat default).Way) = 2 then (if (([] : List Int).length : Int) + ((a1.getD x22.toNat default).B).length ≤ 1099511627776 then ((arq_Arq_Send.f k x25 (([] : List Int) ++ ((a1.getD x22.toNat default).B))).bind fun t113 => ((signalmanlaw15_num.f t113.1).bind fun t115 => ((signalmanref15_Arq_Send.f k x23 ((a1.getD x22.toNat default).B)).bind fun t117 => (if t115 = t117.1 then (signalmanlaw15_ArqPlays.j3 x22 t47 Lq42 t117.2 t113.2) else some false)))) else none) else (if ((a1.getD x22.toNat default).Way) = 3 then (if (([] : List Int).length : Int) + t53.length ≤ 1099511627776 then ((arq_Arq_Input.f k x25 (([] : List Int) ++ t53)).bind fun t124 => ((signalmanref15_Arq_Input.f k x23 t53).bind fun t126 => (signalmanlaw15_ArqPlays.j3 x22 t47 Lq42 t126 t124))) else none) else (if ((a1.getD x22.toNat default).Way) = 4 then ((arq_Arq_Pass.f k x25 ((a1.getD x22.toNat default).N)).bind fun t129 => ((signalmanref15_Arq_Pass.f k x23 ((a1.getD x22.toNat default).N)).bind fun t131 => (signalmanlaw15_ArqPlays.j3 x22 t47 Lq42 t131 t129))) else (if ((a1.getD x22.toNat default).Way) = 5 then ((arq_Arq_Again.f k x25).bind fun t134 => ((signalmanref15_Arq_Again.f k x23).bind fun t136 => (signalmanlaw15_ArqPlays.j3 x22 t47 Lq42 t136 t134))) else (if ((a1.getD x22.toNat default).Way) = 6 then ((arq_Arq_Output.f x25).bind fun t139 => ((signalmanref15_Arq_Output.f x23).bind fun t141 => ((signalmanref6_SameLists.f k t139.1 t141.1).bind fun t143 => (if t143 = true then (signalmanlaw15_ArqPlays.j3 x22 t47 Lq42 t141.2 t139.2) else some false)))) else (if ((a1.getD x22.toNat default).Way) = 7 then ((arq_Arq_Recv.f x25).bind fun t147 => ((signalmanref15_Arq_Recv.f x23).bind fun t149 => (if sEq t147.1 t149.1 = true then (signalmanlaw15_ArqPlays.j5 x22 t47 t147 t149 Lq42 (t147.2.1 != t149.2.1)) else (signalmanlaw15_ArqPlays.j5 x22 t47 t147 t149 Lq42 true)))) else (if ((a1.getD x22.toNat default).Way) = 8 then ((arq_Arq_Inds.f x25).bind fun t160 => ((signalmanref15_Arq_Inds.f x23).bind fun t162 => ((signalmanref6_SameInts.f k t160.1 t162.1).bind fun t164 => (if t164 = true then (signalmanlaw15_ArqPlays.j3 x22 t47 Lq42 t162.2 t160.2) else some false)))) else (signalmanlaw15_ArqPlays.j3 x22 t47 Lq42 x23 x25))))))))))))))
def signalmanlaw15_ArqPlays.j0 (k : Nat) (a0 : api_Config) (a1 : List signalmanlaw15_Act) (t2 : Bool) (x6 : Bool) : Option Bool := (if x6 = true then some t2 else ((arq_New.f a0).bind fun t11 => ((signalmanlaw15_shape.f 128 2 2).bind fun t13 => ((arq_New.f t13).bind fun t15 => ((signalmanref15_NewArq.f a0).bind fun t17 => (signalmanlaw15_ArqPlays.l1 k a0 a1 0 t17 t15 t11))))))
end
def signalmanlaw15_ArqPlays.f (k : Nat) (a0 : api_Config) (a1 : List signalmanlaw15_Act) : Option Bool := ((signalmanlaw15_alive.f k ).bind fun t2 => (if t2 = true then (signalmanlaw15_ArqPlays.j0 k a0 a1 t2 (decide ((a1.length : Int) > 80))) else (signalmanlaw15_ArqPlays.j0 k a0 a1 t2 true)))
theorem signalmanlaw15_ArqPlays.calls {k : Nat} {a0 : api_Config} {a1 : List signalmanlaw15_Act} {R : As} {w0 w : World} {sa1 : Option Addr} {sc1 : Nat} {sd1 : List Value} {r : Bool} (H : signalmanlaw15_ArqPlays.f k a0 a1 = some r) (HS : Sep.St [R] w0 w) (hr1 : rdC R 9 (.slice sa1 a1.length sc1) a1.length sd1) (ht1 : ∀ h, R h → tie signalmanlaw15_Act.El sd1 a1 h) : Calls Tryz.prog 3 #[Value.agg #[Value.int .i64 a0.Mode, Value.int .i64 a0.Modulus, Value.int .i64 a0.Window, Value.int .i64 a0.T1, Value.int .i64 a0.N2, Value.int .i64 a0.Hold, Value.int .i64 a0.Wait, Value.int .i64 a0.Keep, Value.int .i64 a0.Queue, Value.int .i64 a0.Size, Value.int .i64 a0.Ring, Value.int .i64 a0.Rate, Value.int .i64 a0.Bad, Value.int .i64 a0.Good, Value.bool a0.Revert, Value.bool a0.Wide], Value.slice sa1 a1.length sc1] w (Ret fun u w => u = Value.bool r ∧ Sep.St [R] w0 w) := by
 unfold signalmanlaw15_ArqPlays.f at H
 refine calls_enter Tryz.func3 rfl rfl ?_
 have H : _ = some r := H
 replace HS := St.more 0 HS rfl ht1 tie.pers
 refine V.seq (V.region (W.e (Y.box HS rfl) rfl ?_))
 rintro _ w ⟨nb1, rfl, HS⟩
 refine W.as rfl (W.nx (V.seq (V.region ?_)))
 obtain ⟨t2, A3, H⟩ := bind_s H
 refine W.e (Y.cl Tryz.func4 (signalmanlaw15_alive.calls A3 HS.j0)) rfl ?_
 rintro _ w ⟨rfl, HS⟩
 replace HS := HS.o0
 refine W.as rfl (W.nx (V.seq (V.meet (σ := Bool) (fun st w => match st with | x6 => Sep.St [api_Config.at nb1 a0, tie signalmanlaw15_Act.El sd1 a1, R] w0 w ∧ ∃ kf7, kf7 ≤ k ∧ signalmanlaw15_ArqPlays.j0 kf7 a0 a1 t2 x6 = some r) (fun st => match st with | x6 => [(1, Value.slice sa1 a1.length sc1), (2, Value.pointer (some ⟨nb1, 0, none⟩)), (5, Value.bool t2), (29, Value.bool x6)]) ?_ ?_)))
 ·refine V.region (W.mv rfl (W.r (X.not rfl) rfl (W.mv rfl ?_)))
  by_cases c182 : t2 = true
  ·replace H := ite_t c182 H
   refine W.want 25 rfl (sb (n_t c182)) (W.mv rfl (W.want 25 rfl (sb (n_t c182)) (W.r (X.lenSl Tryz.underlying24 rfl) rfl (W.want 25 rfl (sb (n_t c182)) (W.r (X.cmp (decide ((a1.length : Int) > 80)) rfl rfl rfl rfl) rfl (W.r (X.pickF (sb (n_t c182)) rfl) rfl (W.nil ?_)))))))
   replace HS := api_Config.close trivial HS
   exact At.meet (decide ((a1.length : Int) > 80)) ⟨rfl, rfl, rfl, rfl, trivial⟩ ⟨HS, k, by omega, H⟩
  ·replace H := ite_f c182 H
   refine W.pass 25 rfl (sb (n_f (b_f c182))) rfl rfl (W.pass 25 rfl (sb (n_f (b_f c182))) rfl rfl (W.pass 25 rfl (sb (n_f (b_f c182))) rfl rfl (W.r (X.pickT (sb (n_f (b_f c182))) rfl) rfl (W.nil ?_))))
   replace HS := api_Config.close trivial HS
   exact At.meet true ⟨rfl, rfl, rfl, rfl, trivial⟩ ⟨HS, k, by omega, H⟩
 ·rintro x6 w ⟨HS, kf7, hkkf7, H⟩
  unfold signalmanlaw15_ArqPlays.j0 at H
  by_cases c8 : x6 = true
  ·replace H := ite_t c8 H
   refine V.condT (sb c8) (V.seq (V.region (W.mv rfl (W.as rfl (W.nx (V.ret (At.thenRet ?_)))))))
   replace HS := HS.pk [2] [0, 1]
   cases H
   exact At.ret1 rfl rfl ⟨_, rfl, rfl, HS⟩
  ·replace H := ite_f c8 H
   refine V.condF (sb (b_f c8)) (V.skip (At.next (V.seq (V.region ?_))))
   obtain ⟨hi10, HS⟩ := api_Config.open HS
   refine W.r (X.loadSt 0 [Value.int .i64 a0.Mode, Value.int .i64 a0.Modulus, Value.int .i64 a0.Window, Value.int .i64 a0.T1, Value.int .i64 a0.N2, Value.int .i64 a0.Hold, Value.int .i64 a0.Wait, Value.int .i64 a0.Keep, Value.int .i64 a0.Queue, Value.int .i64 a0.Size, Value.int .i64 a0.Ring, Value.int .i64 a0.Rate, Value.int .i64 a0.Bad, Value.int .i64 a0.Good, Value.bool a0.Revert, Value.bool a0.Wide] HS rfl Tryz.underlying23 rfl inf23 rfl rfl) rfl ?_
   obtain ⟨t11, A12, H⟩ := bind_s H
   refine W.e (Y.cl Tryz.func5 (arq_New.calls A12 HS.j0)) rfl ?_
   rintro _ w ⟨bt11_0, rfl, HS⟩
   replace HS := HS.o1
   refine W.as rfl (W.nx (V.seq (V.region ?_)))
   obtain ⟨t13, A14, H⟩ := bind_s H
   refine W.e (Y.cl Tryz.func6 (signalmanlaw15_shape.calls A14 HS.j0)) rfl ?_
   rintro _ w ⟨rfl, HS⟩
   replace HS := HS.o0
   obtain ⟨t15, A16, H⟩ := bind_s H
   refine W.e (Y.cl Tryz.func5 (arq_New.calls A16 HS.j0)) rfl ?_
   rintro _ w ⟨bt15_0, rfl, HS⟩
   replace HS := HS.o1
   refine W.as rfl (W.nx (V.seq (V.region (W.r (X.loadSt 2 [Value.int .i64 a0.Mode, Value.int .i64 a0.Modulus, Value.int .i64 a0.Window, Value.int .i64 a0.T1, Value.int .i64 a0.N2, Value.int .i64 a0.Hold, Value.int .i64 a0.Wait, Value.int .i64 a0.Keep, Value.int .i64 a0.Queue, Value.int .i64 a0.Size, Value.int .i64 a0.Ring, Value.int .i64 a0.Rate, Value.int .i64 a0.Bad, Value.int .i64 a0.Good, Value.bool a0.Revert, Value.bool a0.Wide] HS rfl Tryz.underlying23 rfl inf23 rfl rfl) rfl ?_))))
   obtain ⟨t17, A18, H⟩ := bind_s H
   refine W.e (Y.cl Tryz.func7 (signalmanref15_NewArq.calls A18 HS.j0)) rfl ?_
   rintro _ w ⟨bt17_0, rfl, HS⟩
   replace HS := HS.o1
   refine W.as rfl (W.nx (V.seq (V.seq (V.region (W.as rfl (W.nx (V.block ?_)))))))
   replace HS := HS.pm [3, 0, 1, 2, 4, 5]
   replace HS := api_Config.close trivial HS
   refine V.loop (σ := Int × signalmanref15_Arq × arq_Arq × arq_Arq) (fun kq (st : Int × signalmanref15_Arq × arq_Arq × arq_Arq) w => match st with | (x22, x23, x24, x25) => Sep.St [api_Config.at nb1 a0, signalmanref15_Arq.at bt17_0 x23, arq_Arq.at bt15_0 x24, arq_Arq.at bt11_0 x25, tie signalmanlaw15_Act.El sd1 a1, R] w0 w ∧ signalmanlaw15_ArqPlays.l1 kq a0 a1 x22 x23 x24 x25 = some r ∧ kq ≤ kf7) (fun st => match st with | (x22, x23, x24, x25) => [(1, Value.slice sa1 a1.length sc1), (2, Value.pointer (some ⟨nb1, 0, none⟩)), (6, Value.pointer (some ⟨bt11_0, 0, none⟩)), (7, Value.pointer (some ⟨bt15_0, 0, none⟩)), (8, Value.pointer (some ⟨bt17_0, 0, none⟩)), (9, Value.int .i64 x22)]) kf7 (0, t17, t15, t11) ⟨rfl, rfl, rfl, rfl, rfl, rfl, trivial⟩ ⟨HS, H, Nat.le_refl _⟩ ?_
   rintro kq26 ⟨x22, x23, x24, x25⟩ w ⟨HS, H, hk27⟩
   cases kq26 with
   | zero => exact absurd H (by simp [signalmanlaw15_ArqPlays.l1])
   | succ kq26 =>
    simp only [signalmanlaw15_ArqPlays.l1] at H
    refine V.seq (V.seq (V.region (W.mv rfl (W.mv rfl (W.r (X.lenSl Tryz.underlying24 rfl) rfl (W.r (X.cmp (decide (x22 < (a1.length : Int))) rfl rfl rfl rfl) rfl (W.nx ?_)))))))
    by_cases c28 : x22 < (a1.length : Int)
    ·replace H := ite_t c28 H
     refine V.condT (sb (decide_eq_true c28)) (V.skip (At.next (V.seq (V.block (V.seq (V.region (W.mv rfl (W.mv rfl ?_))))))))
     obtain ⟨c29, H⟩ := ite_n H
     obtain ⟨eb30, eo31, hh⟩ := (rdC.at 5 hr1 HS rfl).some (by decide) c29.1 c29.2; subst hh
     refine W.r (X.indexSl Tryz.underlying24 inf35 rfl rfl c29.1 c29.2) rfl ?_
     obtain ⟨ec32, hc33, HS⟩ := St.tie_at 4 HS rfl default c29.1 c29.2
     obtain ⟨ea34, em35, he36, HN⟩ := signalmanlaw15_Act.unpack HS; clear HS; subst he36; have HS := HN
     refine W.r (X.loadEl Tryz.underlying35 rfl inf35 rfl (vs := [Value.int .i64 ((a1.getD x22.toNat default).Way), Value.int .i64 ((a1.getD x22.toNat default).N), Value.int .i64 ((a1.getD x22.toNat default).T), Value.bool ((a1.getD x22.toNat default).Own), Value.int .i64 ((a1.getD x22.toNat default).C.Kind), Value.int .i64 ((a1.getD x22.toNat default).C.Ns), Value.int .i64 ((a1.getD x22.toNat default).C.Nr), Value.bool ((a1.getD x22.toNat default).C.Poll), Value.slice ea34 ((a1.getD x22.toNat default).B).length em35]) ((rdC.at 6 hr1 HS rfl).cellsAt0 (fun j u h => hc33 j u h))) rfl (W.e (Y.alloc (z := Value.agg (#[Value.int .i64 (0), Value.int .i64 (0), Value.int .i64 (0), Value.bool false, Value.int .i64 (0), Value.int .i64 (0), Value.int .i64 (0), Value.bool false, Value.slice none 0 0])) HS ze35) rfl ?_)
     rintro _ w ⟨nb37, rfl, HS⟩
     refine W.en (Y.storeSt (c' := #[Value.int .i64 ((a1.getD x22.toNat default).Way), Value.int .i64 ((a1.getD x22.toNat default).N), Value.int .i64 ((a1.getD x22.toNat default).T), Value.bool ((a1.getD x22.toNat default).Own), Value.int .i64 ((a1.getD x22.toNat default).C.Kind), Value.int .i64 ((a1.getD x22.toNat default).C.Ns), Value.int .i64 ((a1.getD x22.toNat default).C.Nr), Value.bool ((a1.getD x22.toNat default).C.Poll), Value.slice ea34 ((a1.getD x22.toNat default).B).length em35]) 0 [Value.int .i64 ((a1.getD x22.toNat default).Way), Value.int .i64 ((a1.getD x22.toNat default).N), Value.int .i64 ((a1.getD x22.toNat default).T), Value.bool ((a1.getD x22.toNat default).Own), Value.int .i64 ((a1.getD x22.toNat default).C.Kind), Value.int .i64 ((a1.getD x22.toNat default).C.Ns), Value.int .i64 ((a1.getD x22.toNat default).C.Nr), Value.bool ((a1.getD x22.toNat default).C.Poll), Value.slice ea34 ((a1.getD x22.toNat default).B).length em35] HS rfl inf35 rfl rfl rfl rfl rfl rfl) rfl ?_
     rintro _ w HS
     refine W.nx (V.seq (V.meet (σ := Bool) (fun st w => match st with | x40 => Sep.St [signalmanlaw15_Act.at nb37 (a1.getD x22.toNat default), fsl 1 (.slice ea34 ((a1.getD x22.toNat default).B).length em35) ((a1.getD x22.toNat default).B).length (((a1.getD x22.toNat default).B).map (Value.int .u8)), api_Config.at nb1 a0, signalmanref15_Arq.at bt17_0 x23, arq_Arq.at bt15_0 x24, arq_Arq.at bt11_0 x25, tie signalmanlaw15_Act.El sd1 a1, R] w0 w ∧ ∃ kf41 kl43, kf41 ≤ kq26 ∧ kl43 ≤ kq26 ∧ signalmanlaw15_ArqPlays.j2 kf41 a0 a1 x22 x23 x24 x25 (signalmanlaw15_ArqPlays.l1 kl43 a0 a1) x40 = some r) (fun st => match st with | x40 => [(1, Value.slice (some ⟨eb30, eo31, none⟩) a1.length sc1), (2, Value.pointer (some ⟨nb1, 0, none⟩)), (6, Value.pointer (some ⟨bt11_0, 0, none⟩)), (7, Value.pointer (some ⟨bt15_0, 0, none⟩)), (8, Value.pointer (some ⟨bt17_0, 0, none⟩)), (9, Value.int .i64 x22), (10, Value.pointer (some ⟨nb37, 0, none⟩)), (60, Value.bool x40)]) ?_ ?_))
     ·refine V.region (W.fa fo35_5 rfl (W.ld 0 HS Tryz.underlying33 rfl rfl rfl rfl (W.r (X.lenSl Tryz.underlying33 rfl) rfl (W.r (X.cmp (decide ((((a1.getD x22.toNat default).B).length : Int) > 1100)) rfl rfl rfl rfl) rfl (W.mv rfl ?_)))))
      by_cases c167 : (((a1.getD x22.toNat default).B).length : Int) > 1100
      ·replace H := ite_t c167 H
       refine W.pass 51 rfl (sb (decide_eq_true c167)) rfl rfl (W.pass 51 rfl (sb (decide_eq_true c167)) rfl rfl (W.pass 51 rfl (sb (decide_eq_true c167)) rfl rfl (W.pass 51 rfl (sb (decide_eq_true c167)) rfl rfl (W.passU 55 rfl rfl rfl (W.passU 55 rfl rfl rfl (W.passU 55 rfl rfl rfl (W.pass 51 rfl (sb (decide_eq_true c167)) rfl rfl (W.r (X.pickT (sb (decide_eq_true c167)) rfl) rfl (W.nil ?_)))))))))
       replace HS := HS.more 1 rfl (fun _ t => t) fsl.pers
       replace HS := HS.pm [1, 0, 2, 3, 4, 5, 6, 7, 8]
       replace HS := signalmanlaw15_Act.close trivial HS
       exact At.meet true ⟨rfl, rfl, rfl, rfl, rfl, rfl, rfl, rfl, trivial⟩ ⟨HS, kq26, kq26, by omega, by omega, H⟩
      ·replace H := ite_f c167 H
       refine W.want 51 rfl (sb (decide_eq_false c167)) (W.fa fo35_0 rfl (W.want 51 rfl (sb (decide_eq_false c167)) (W.ld 0 HS Tryz.underlying3 rfl rfl rfl rfl (W.want 51 rfl (sb (decide_eq_false c167)) (W.r (X.cmp (decide (((a1.getD x22.toNat default).Way) = 4)) rfl rfl rfl rfl) rfl (W.want 51 rfl (sb (decide_eq_false c167)) (W.mv rfl ?_)))))))
       by_cases c168 : ((a1.getD x22.toNat default).Way) = 4
       ·replace H := ite_t c168 H
        refine W.want 55 rfl (sb (decide_eq_true c168)) (W.fa fo35_1 rfl (W.want 55 rfl (sb (decide_eq_true c168)) (W.ld 0 HS Tryz.underlying3 rfl rfl rfl rfl (W.want 55 rfl (sb (decide_eq_true c168)) (W.r (X.cmp (decide (((a1.getD x22.toNat default).N) > 5000)) rfl rfl rfl rfl) rfl (W.want 51 rfl (sb (decide_eq_false c167)) (W.r (X.pickT (sb (decide_eq_true c168)) rfl) rfl (W.r (X.pickF (sb (decide_eq_false c167)) rfl) rfl (W.nil ?_)))))))))
        replace HS := HS.more 1 rfl (fun _ t => t) fsl.pers
        replace HS := HS.pm [1, 0, 2, 3, 4, 5, 6, 7, 8]
        replace HS := signalmanlaw15_Act.close trivial HS
        exact At.meet (decide (((a1.getD x22.toNat default).N) > 5000)) ⟨rfl, rfl, rfl, rfl, rfl, rfl, rfl, rfl, trivial⟩ ⟨HS, kq26, kq26, by omega, by omega, H⟩
       ·replace H := ite_f c168 H
        refine W.pass 55 rfl (sb (decide_eq_false c168)) rfl rfl (W.pass 55 rfl (sb (decide_eq_false c168)) rfl rfl (W.pass 55 rfl (sb (decide_eq_false c168)) rfl rfl (W.want 51 rfl (sb (decide_eq_false c167)) (W.r (X.pickF (sb (decide_eq_false c168)) rfl) rfl (W.r (X.pickF (sb (decide_eq_false c167)) rfl) rfl (W.nil ?_))))))
        replace HS := HS.more 1 rfl (fun _ t => t) fsl.pers
        replace HS := HS.pm [1, 0, 2, 3, 4, 5, 6, 7, 8]
        replace HS := signalmanlaw15_Act.close trivial HS
        exact At.meet false ⟨rfl, rfl, rfl, rfl, rfl, rfl, rfl, rfl, trivial⟩ ⟨HS, kq26, kq26, by omega, by omega, H⟩
     ·rintro x40 w ⟨HS, kf41, kl43, hkkf41, hkkl43, H⟩
      unfold signalmanlaw15_ArqPlays.j2 at H
      by_cases c44 : x40 = true
      ·replace H := ite_t c44 H
       refine V.condT (sb c44) (V.seq (V.region (W.as rfl (W.nx (V.ret (At.thenRet (At.blockRet (At.thenRet (At.thenRet (At.blockRet (At.thenRet ?_)))))))))))
       replace HS := HS.pk [7] [0, 1, 2, 3, 4, 5, 6]
       cases H
       exact At.ret1 rfl rfl ⟨_, rfl, rfl, HS⟩
      ·replace H := ite_f c44 H
       refine V.condF (sb (b_f c44)) (V.skip (At.next (V.seq (V.region (W.mv rfl ?_)))))
       obtain ⟨t45, A46, H⟩ := bind_s H
       replace HS := HS.pm [4, 0, 1, 2, 3, 5, 6, 7]
       refine W.e (Y.cl Tryz.func8 (arq_Arq_Connect.calls A46 HS.j1)) rfl ?_
       rintro _ w ⟨rfl, HS⟩
       replace HS := HS.o1
       refine W.nx (V.seq (V.region (W.mv rfl ?_)))
       obtain ⟨t47, A48, H⟩ := bind_s H
       refine W.e (Y.cl Tryz.func9 (arq_Arq_Pass.calls A48 HS.j1)) rfl ?_
       rintro _ w ⟨rfl, HS⟩
       replace HS := HS.o1
       refine W.nx (V.seq (V.region ?_))
       replace HS := HS.fr 1
       obtain ⟨a8_49, c8_49, hi50, HS⟩ := signalmanlaw15_Act.open HS
       refine W.r (X.loadSt 0 [Value.int .i64 ((a1.getD x22.toNat default).Way), Value.int .i64 ((a1.getD x22.toNat default).N), Value.int .i64 ((a1.getD x22.toNat default).T), Value.bool ((a1.getD x22.toNat default).Own), Value.int .i64 ((a1.getD x22.toNat default).C.Kind), Value.int .i64 ((a1.getD x22.toNat default).C.Ns), Value.int .i64 ((a1.getD x22.toNat default).C.Nr), Value.bool ((a1.getD x22.toNat default).C.Poll), Value.slice a8_49 ((a1.getD x22.toNat default).B).length c8_49] HS rfl Tryz.underlying35 rfl inf35 rfl rfl) rfl ?_
       replace HS := HS.fr 4
       obtain ⟨hi52, HS⟩ := api_Config.open HS
       refine W.fa fo23_1 rfl (W.ld 0 HS Tryz.underlying3 rfl rfl rfl rfl ?_)
       obtain ⟨t53, A54, H⟩ := bind_s H
       refine W.e (Y.cl Tryz.func10 (signalmanlaw15_input.calls A54 HS.j0 (rdC.part 2 fsl.rd rfl))) rfl ?_
       rintro _ w ⟨at53_0, ct53_0, rfl, HS⟩
       replace HS := HS.o1
       refine W.as rfl (W.nx (V.meet (σ := signalmanref15_Arq × arq_Arq) (fun st w => match st with | (x57, x58) => Sep.St [signalmanlaw15_Act.at nb37 (a1.getD x22.toNat default), api_Config.at nb1 a0, row 5 1 (.slice at53_0 t53.length ct53_0) t53.length (t53.map (Value.int .u8)), fsl 1 (.slice a8_49 ((a1.getD x22.toNat default).B).length c8_49) ((a1.getD x22.toNat default).B).length (((a1.getD x22.toNat default).B).map (Value.int .u8)), arq_Arq.at bt15_0 t47, fsl 1 (.slice ea34 ((a1.getD x22.toNat default).B).length em35) ((a1.getD x22.toNat default).B).length (((a1.getD x22.toNat default).B).map (Value.int .u8)), signalmanref15_Arq.at bt17_0 x57, arq_Arq.at bt11_0 x58, tie signalmanlaw15_Act.El sd1 a1, R] w0 w ∧ ∃ kl61, kl61 ≤ kl43 ∧ signalmanlaw15_ArqPlays.j3 x22 t47 (signalmanlaw15_ArqPlays.l1 kl61 a0 a1) x57 x58 = some r) (fun st => match st with | (x57, x58) => [(1, Value.slice (some ⟨eb30, eo31, none⟩) a1.length sc1), (2, Value.pointer (some ⟨nb1, 0, none⟩)), (6, Value.pointer (some ⟨bt11_0, 0, none⟩)), (7, Value.pointer (some ⟨bt15_0, 0, none⟩)), (8, Value.pointer (some ⟨bt17_0, 0, none⟩)), (9, Value.int .i64 x22)]) ?_ ?_))
       ·refine V.seq (V.region (W.fa fo35_0 rfl (W.ld 2 HS Tryz.underlying3 rfl rfl rfl rfl (W.nx (V.block (V.seq (V.region (W.r (X.cmp (decide (((a1.getD x22.toNat default).Way) = 0)) rfl rfl rfl rfl) rfl (W.as rfl (W.nx ?_))))))))))
        by_cases c93 : ((a1.getD x22.toNat default).Way) = 0
        ·replace H := ite_t c93 H
         refine V.condT (sb (decide_eq_true c93)) (V.seq (V.region (W.mv rfl ?_)))
         obtain ⟨t94, A95, H⟩ := bind_s H
         replace HS := HS.pm [7, 0, 1, 2, 3, 4, 5, 6, 8, 9]
         refine W.e (Y.cl Tryz.func8 (arq_Arq_Connect.calls A95 HS.j1)) rfl ?_
         rintro _ w ⟨rfl, HS⟩
         replace HS := HS.o1
         obtain ⟨t96, A97, H⟩ := bind_s H
         refine W.e (Y.cl Tryz.func11 (signalmanlaw15_num.calls A97 HS.j0)) rfl ?_
         rintro _ w ⟨rfl, HS⟩
         replace HS := HS.o0
         refine W.mv rfl ?_
         obtain ⟨t98, A99, H⟩ := bind_s H
         replace HS := HS.pm [7, 0, 1, 2, 3, 4, 5, 6, 8, 9]
         refine W.e (Y.cl Tryz.func12 (signalmanref15_Arq_Connect.calls A99 HS.j1)) rfl ?_
         rintro _ w ⟨rfl, HS⟩
         replace HS := HS.o1
         refine W.r (X.cmp (!(decide (t96 = t98.1))) rfl rfl rfl rfl) rfl (W.nx ?_)
         by_cases c100 : t96 = t98.1
         ·replace H := ite_t c100 H
          refine V.condF (sb (n_t (decide_eq_true c100))) (V.skip (At.blockEnd ?_))
          replace HS := HS.more 5 rfl (fun _ t => t) fsl.pers
          replace HS := HS.pm [5, 0, 1, 2, 3, 4, 6, 7, 8, 9, 10]
          replace HS := signalmanlaw15_Act.close trivial HS
          replace HS := HS.pm [4, 0, 1, 2, 3, 5, 6, 7, 8, 9]
          replace HS := api_Config.close trivial HS
          replace HS := HS.pk [1, 0, 4, 5, 6, 7, 2, 3, 8, 9] []
          exact At.meet (t98.2, t94.2) ⟨rfl, rfl, rfl, rfl, rfl, rfl, trivial⟩ ⟨HS, kl43, by omega, H⟩
         ·replace H := ite_f c100 H
          refine V.condT (sb (n_f (decide_eq_false c100))) (V.seq (V.region (W.as rfl (W.nx (V.ret (At.blockRet (At.thenRet (At.blockRet (At.thenRet (At.thenRet (At.blockRet (At.thenRet ?_))))))))))))
          replace HS := HS.pk [9] [0, 1, 2, 3, 4, 5, 6, 7, 8]
          cases H
          exact At.ret1 rfl rfl ⟨_, rfl, rfl, HS⟩
        ·replace H := ite_f c93 H
         refine V.condF (sb (decide_eq_false c93)) (V.seq (V.region (W.r (X.cmp (decide (((a1.getD x22.toNat default).Way) = 1)) rfl rfl rfl rfl) rfl (W.as rfl (W.nx ?_)))))
         by_cases c101 : ((a1.getD x22.toNat default).Way) = 1
         ·replace H := ite_t c101 H
          refine V.condT (sb (decide_eq_true c101)) (V.seq (V.region (W.mv rfl ?_)))
          obtain ⟨t102, A103, H⟩ := bind_s H
          replace HS := HS.pm [7, 0, 1, 2, 3, 4, 5, 6, 8, 9]
          refine W.e (Y.cl Tryz.func13 (arq_Arq_Close.calls A103 HS.j1)) rfl ?_
          rintro _ w ⟨rfl, HS⟩
          replace HS := HS.o1
          obtain ⟨t104, A105, H⟩ := bind_s H
          refine W.e (Y.cl Tryz.func11 (signalmanlaw15_num.calls A105 HS.j0)) rfl ?_
          rintro _ w ⟨rfl, HS⟩
          replace HS := HS.o0
          refine W.mv rfl ?_
          obtain ⟨t106, A107, H⟩ := bind_s H
          replace HS := HS.pm [7, 0, 1, 2, 3, 4, 5, 6, 8, 9]
          refine W.e (Y.cl Tryz.func14 (signalmanref15_Arq_Close.calls A107 HS.j1)) rfl ?_
          rintro _ w ⟨rfl, HS⟩
          replace HS := HS.o1
          refine W.r (X.cmp (!(decide (t104 = t106.1))) rfl rfl rfl rfl) rfl (W.nx ?_)
          by_cases c108 : t104 = t106.1
          ·replace H := ite_t c108 H
           refine V.condF (sb (n_t (decide_eq_true c108))) (V.skip (At.blockEnd ?_))
           replace HS := HS.more 5 rfl (fun _ t => t) fsl.pers
           replace HS := HS.pm [5, 0, 1, 2, 3, 4, 6, 7, 8, 9, 10]
           replace HS := signalmanlaw15_Act.close trivial HS
           replace HS := HS.pm [4, 0, 1, 2, 3, 5, 6, 7, 8, 9]
           replace HS := api_Config.close trivial HS
           replace HS := HS.pk [1, 0, 4, 5, 6, 7, 2, 3, 8, 9] []
           exact At.meet (t106.2, t102.2) ⟨rfl, rfl, rfl, rfl, rfl, rfl, trivial⟩ ⟨HS, kl43, by omega, H⟩
          ·replace H := ite_f c108 H
           refine V.condT (sb (n_f (decide_eq_false c108))) (V.seq (V.region (W.as rfl (W.nx (V.ret (At.blockRet (At.thenRet (At.blockRet (At.thenRet (At.thenRet (At.blockRet (At.thenRet ?_))))))))))))
           replace HS := HS.pk [9] [0, 1, 2, 3, 4, 5, 6, 7, 8]
           cases H
           exact At.ret1 rfl rfl ⟨_, rfl, rfl, HS⟩
         ·replace H := ite_f c101 H
          refine V.condF (sb (decide_eq_false c101)) (V.seq (V.region (W.r (X.cmp (decide (((a1.getD x22.toNat default).Way) = 2)) rfl rfl rfl rfl) rfl (W.as rfl (W.nx ?_)))))
          by_cases c109 : ((a1.getD x22.toNat default).Way) = 2
          ·replace H := ite_t c109 H
           refine V.condT (sb (decide_eq_true c109)) (V.seq (V.dr [3, 4, 5, 9] [10] [(89, Value.pointer (some ⟨bt11_0, 0, none⟩)), (90, Value.pointer (some ⟨nb37, 0 + 8, none⟩)), (91, Value.slice a8_49 ((a1.getD x22.toNat default).B).length c8_49), (95, Value.pointer (some ⟨bt17_0, 0, none⟩)), (96, Value.pointer (some ⟨nb37, 0 + 8, none⟩)), (97, Value.slice a8_49 ((a1.getD x22.toNat default).B).length c8_49)] mo HS ?_))
           refine T.ev [(91, _)] [10] [1, 2] ⟨rfl, trivial⟩ ⟨.mv 6, .fa 10 fo35_5, .ld 90 2 Tryz.underlying33, .mv 8, .fa 10 fo35_5, .ld 96 2 Tryz.underlying33, trivial⟩ rfl (fun w HS => ?_)
           obtain ⟨c110, H⟩ := ite_n H
           replace HS := row_nilF (Value.int .u8) 5 1 HS
           have HS : Sep.St [row 5 1 (.slice none ([] : List Int).length 0) ([] : List Int).length (([] : List Int).map (Value.int .u8)), row 5 1 (.slice at53_0 t53.length ct53_0) t53.length (t53.map (Value.int .u8)), blk nb1 (#[Value.int .i64 a0.Mode, Value.int .i64 a0.Modulus, Value.int .i64 a0.Window, Value.int .i64 a0.T1, Value.int .i64 a0.N2, Value.int .i64 a0.Hold, Value.int .i64 a0.Wait, Value.int .i64 a0.Keep, Value.int .i64 a0.Queue, Value.int .i64 a0.Size, Value.int .i64 a0.Ring, Value.int .i64 a0.Rate, Value.int .i64 a0.Bad, Value.int .i64 a0.Good, Value.bool a0.Revert, Value.bool a0.Wide]) 23, blk nb37 (#[Value.int .i64 ((a1.getD x22.toNat default).Way), Value.int .i64 ((a1.getD x22.toNat default).N), Value.int .i64 ((a1.getD x22.toNat default).T), Value.bool ((a1.getD x22.toNat default).Own), Value.int .i64 ((a1.getD x22.toNat default).C.Kind), Value.int .i64 ((a1.getD x22.toNat default).C.Ns), Value.int .i64 ((a1.getD x22.toNat default).C.Nr), Value.bool ((a1.getD x22.toNat default).C.Poll), Value.slice a8_49 ((a1.getD x22.toNat default).B).length c8_49]) 35, fsl 1 (.slice a8_49 ((a1.getD x22.toNat default).B).length c8_49) ((a1.getD x22.toNat default).B).length (((a1.getD x22.toNat default).B).map (Value.int .u8)), arq_Arq.at bt15_0 t47, fsl 1 (.slice ea34 ((a1.getD x22.toNat default).B).length em35) ((a1.getD x22.toNat default).B).length (((a1.getD x22.toNat default).B).map (Value.int .u8)), signalmanref15_Arq.at bt17_0 x23, arq_Arq.at bt11_0 x25, tie signalmanlaw15_Act.El sd1 a1, R] w0 w := HS
           refine ⟨_, Y.appF (Value.int .u8) (fun _ => rfl) 0 Tryz.underlying33 ap5 rfl HS rfl rfl rfl (rdC.at 4 fsl.rd HS rfl) (by omega) (by omega), ?_⟩
           rintro _ w ⟨ra111, rc112, rfl, HS⟩
           refine T.nw HS ?_
           refine T.ev [(89, _), (92, _)] [10] [0] ⟨rfl, rfl, trivial⟩ ⟨.mv 6, .mv 8, .fa 10 fo35_5, .ld 96 3 Tryz.underlying33, trivial⟩ rfl (fun w HS => ?_)
           obtain ⟨t113, A114, H⟩ := bind_s H
           replace HS := HS.pm [8, 0, 1, 2, 3, 4, 5, 6, 7, 9, 10]
           refine ⟨_, Y.cl Tryz.func15 (arq_Arq_Send.calls A114 HS.j1 (rdC.part 0 row_rd rfl)), ?_⟩
           rintro _ w ⟨rfl, HS⟩
           replace HS := HS.o1
           refine T.nw HS ?_
           refine T.ev [(93, _)] [10] [] ⟨rfl, trivial⟩ ⟨.mv 8, .fa 10 fo35_5, .ld 96 4 Tryz.underlying33, trivial⟩ rfl (fun w HS => ?_)
           obtain ⟨t115, A116, H⟩ := bind_s H
           refine ⟨_, Y.cl Tryz.func11 (signalmanlaw15_num.calls A116 HS.j0), ?_⟩
           rintro _ w ⟨rfl, HS⟩
           replace HS := HS.o0
           refine T.nw HS ?_
           refine T.ev [(95, _), (97, _)] [] [6, 7, 8] ⟨rfl, rfl, trivial⟩ ⟨.mv 8, .fa 10 fo35_5, .ld 96 4 Tryz.underlying33, trivial⟩ rfl (fun w HS => ?_)
           obtain ⟨t117, A118, H⟩ := bind_s H
           replace HS := HS.pm [8, 0, 1, 2, 3, 4, 5, 6, 7, 9, 10]
           refine ⟨_, Y.cl Tryz.func16 (signalmanref15_Arq_Send.calls A118 HS.j1 (rdC.part 5 fsl.rd rfl)), ?_⟩
           rintro _ w ⟨rfl, HS⟩
           replace HS := HS.o1
           refine T.nm [(98, Value.int .i64 t117.1), (99, Value.bool (!(decide (t115 = t117.1))))] HS ⟨.inl ⟨rfl, rfl⟩, ⟨.inr ⟨by decide, rfl⟩, trivial⟩⟩ ?_
           refine T.fn [(1, _), (2, _), (6, _), (7, _), (8, _), (9, _), (99, _)] ⟨rfl, rfl, rfl, rfl, rfl, rfl, rfl, trivial⟩ ⟨.n2 94 98 rfl rfl rfl (fun w HS => X.cmp (!(decide (t115 = t117.1))) rfl rfl rfl rfl), trivial⟩ (fun w HS => ?_)
           refine At.next ?_
           by_cases c119 : t115 = t117.1
           ·replace H := ite_t c119 H
            refine V.condF (sb (n_t (decide_eq_true c119))) (V.skip (At.blockEnd ?_))
            replace HS := HS.more 6 rfl (fun _ t => t) fsl.pers
            replace HS := HS.pm [6, 0, 1, 2, 3, 4, 5, 7, 8, 9, 10, 11]
            replace HS := signalmanlaw15_Act.close trivial HS
            replace HS := HS.pm [5, 0, 1, 2, 3, 4, 6, 7, 8, 9, 10]
            replace HS := api_Config.close trivial HS
            replace HS := HS.pk [1, 0, 5, 6, 7, 8, 2, 3, 9, 10] [4]
            exact At.meet (t117.2, t113.2) ⟨rfl, rfl, rfl, rfl, rfl, rfl, trivial⟩ ⟨HS, kl43, by omega, H⟩
           ·replace H := ite_f c119 H
            refine V.condT (sb (n_f (decide_eq_false c119))) (V.seq (V.region (W.as rfl (W.nx (V.ret (At.blockRet (At.thenRet (At.blockRet (At.thenRet (At.thenRet (At.blockRet (At.thenRet ?_))))))))))))
            replace HS := HS.pk [10] [0, 1, 2, 3, 4, 5, 6, 7, 8, 9]
            cases H
            exact At.ret1 rfl rfl ⟨_, rfl, rfl, HS⟩
          ·replace H := ite_f c109 H
           refine V.condF (sb (decide_eq_false c109)) (V.seq (V.region (W.r (X.cmp (decide (((a1.getD x22.toNat default).Way) = 3)) rfl rfl rfl rfl) rfl (W.as rfl (W.nx ?_)))))
           by_cases c120 : ((a1.getD x22.toNat default).Way) = 3
           ·replace H := ite_t c120 H
            refine V.condT (sb (decide_eq_true c120)) (V.seq (V.region (W.mv rfl (W.mv rfl ?_))))
            obtain ⟨c121, H⟩ := ite_n H
            replace HS := row_nilF (Value.int .u8) 5 1 HS
            have HS : Sep.St [row 5 1 (.slice none ([] : List Int).length 0) ([] : List Int).length (([] : List Int).map (Value.int .u8)), row 5 1 (.slice at53_0 t53.length ct53_0) t53.length (t53.map (Value.int .u8)), blk nb1 (#[Value.int .i64 a0.Mode, Value.int .i64 a0.Modulus, Value.int .i64 a0.Window, Value.int .i64 a0.T1, Value.int .i64 a0.N2, Value.int .i64 a0.Hold, Value.int .i64 a0.Wait, Value.int .i64 a0.Keep, Value.int .i64 a0.Queue, Value.int .i64 a0.Size, Value.int .i64 a0.Ring, Value.int .i64 a0.Rate, Value.int .i64 a0.Bad, Value.int .i64 a0.Good, Value.bool a0.Revert, Value.bool a0.Wide]) 23, blk nb37 (#[Value.int .i64 ((a1.getD x22.toNat default).Way), Value.int .i64 ((a1.getD x22.toNat default).N), Value.int .i64 ((a1.getD x22.toNat default).T), Value.bool ((a1.getD x22.toNat default).Own), Value.int .i64 ((a1.getD x22.toNat default).C.Kind), Value.int .i64 ((a1.getD x22.toNat default).C.Ns), Value.int .i64 ((a1.getD x22.toNat default).C.Nr), Value.bool ((a1.getD x22.toNat default).C.Poll), Value.slice a8_49 ((a1.getD x22.toNat default).B).length c8_49]) 35, fsl 1 (.slice a8_49 ((a1.getD x22.toNat default).B).length c8_49) ((a1.getD x22.toNat default).B).length (((a1.getD x22.toNat default).B).map (Value.int .u8)), arq_Arq.at bt15_0 t47, fsl 1 (.slice ea34 ((a1.getD x22.toNat default).B).length em35) ((a1.getD x22.toNat default).B).length (((a1.getD x22.toNat default).B).map (Value.int .u8)), signalmanref15_Arq.at bt17_0 x23, arq_Arq.at bt11_0 x25, tie signalmanlaw15_Act.El sd1 a1, R] w0 w := HS
            refine W.e (Y.appF (Value.int .u8) (fun _ => rfl) 0 Tryz.underlying33 ap5 rfl HS rfl rfl rfl (rdC.at 1 row_rd HS rfl) (by omega) (by omega)) rfl ?_
            rintro _ w ⟨ra122, rc123, rfl, HS⟩
            obtain ⟨t124, A125, H⟩ := bind_s H
            replace HS := HS.pm [8, 0, 1, 2, 3, 4, 5, 6, 7, 9, 10]
            refine W.e (Y.cl Tryz.func17 (arq_Arq_Input.calls A125 HS.j1 (rdC.part 0 row_rd rfl))) rfl ?_
            rintro _ w ⟨rfl, HS⟩
            replace HS := HS.o1
            refine W.nx (V.region (W.mv rfl (W.mv rfl ?_)))
            obtain ⟨t126, A127, H⟩ := bind_s H
            replace HS := HS.pm [8, 0, 1, 2, 3, 4, 5, 6, 7, 9, 10]
            refine W.e (Y.cl Tryz.func18 (signalmanref15_Arq_Input.calls A127 HS.j1 (rdC.part 2 row_rd rfl))) rfl ?_
            rintro _ w ⟨rfl, HS⟩
            replace HS := HS.o1
            refine W.nil (At.blockEnd ?_)
            replace HS := HS.more 6 rfl (fun _ t => t) fsl.pers
            replace HS := HS.pm [6, 0, 1, 2, 3, 4, 5, 7, 8, 9, 10, 11]
            replace HS := signalmanlaw15_Act.close trivial HS
            replace HS := HS.pm [5, 0, 1, 2, 3, 4, 6, 7, 8, 9, 10]
            replace HS := api_Config.close trivial HS
            replace HS := HS.pk [1, 0, 5, 6, 7, 8, 2, 3, 9, 10] [4]
            exact At.meet (t126, t124) ⟨rfl, rfl, rfl, rfl, rfl, rfl, trivial⟩ ⟨HS, kl43, by omega, H⟩
           ·replace H := ite_f c120 H
            refine V.condF (sb (decide_eq_false c120)) (V.seq (V.region (W.r (X.cmp (decide (((a1.getD x22.toNat default).Way) = 4)) rfl rfl rfl rfl) rfl (W.as rfl (W.nx ?_)))))
            by_cases c128 : ((a1.getD x22.toNat default).Way) = 4
            ·replace H := ite_t c128 H
             refine V.condT (sb (decide_eq_true c128)) (V.seq (V.region (W.mv rfl (W.fa fo35_1 rfl (W.ld 2 HS Tryz.underlying3 rfl rfl rfl rfl ?_)))))
             obtain ⟨t129, A130, H⟩ := bind_s H
             replace HS := HS.pm [7, 0, 1, 2, 3, 4, 5, 6, 8, 9]
             refine W.e (Y.cl Tryz.func9 (arq_Arq_Pass.calls A130 HS.j1)) rfl ?_
             rintro _ w ⟨rfl, HS⟩
             replace HS := HS.o1
             refine W.nx (V.region (W.mv rfl (W.fa fo35_1 rfl (W.ld 3 HS Tryz.underlying3 rfl rfl rfl rfl ?_))))
             obtain ⟨t131, A132, H⟩ := bind_s H
             replace HS := HS.pm [7, 0, 1, 2, 3, 4, 5, 6, 8, 9]
             refine W.e (Y.cl Tryz.func19 (signalmanref15_Arq_Pass.calls A132 HS.j1)) rfl ?_
             rintro _ w ⟨rfl, HS⟩
             replace HS := HS.o1
             refine W.nil (At.blockEnd ?_)
             replace HS := HS.more 5 rfl (fun _ t => t) fsl.pers
             replace HS := HS.pm [5, 0, 1, 2, 3, 4, 6, 7, 8, 9, 10]
             replace HS := signalmanlaw15_Act.close trivial HS
             replace HS := HS.pm [4, 0, 1, 2, 3, 5, 6, 7, 8, 9]
             replace HS := api_Config.close trivial HS
             replace HS := HS.pk [1, 0, 4, 5, 6, 7, 2, 3, 8, 9] []
             exact At.meet (t131, t129) ⟨rfl, rfl, rfl, rfl, rfl, rfl, trivial⟩ ⟨HS, kl43, by omega, H⟩
            ·replace H := ite_f c128 H
             refine V.condF (sb (decide_eq_false c128)) (V.seq (V.region (W.r (X.cmp (decide (((a1.getD x22.toNat default).Way) = 5)) rfl rfl rfl rfl) rfl (W.as rfl (W.nx ?_)))))
             by_cases c133 : ((a1.getD x22.toNat default).Way) = 5
             ·replace H := ite_t c133 H
              refine V.condT (sb (decide_eq_true c133)) (V.seq (V.region (W.mv rfl ?_)))
              obtain ⟨t134, A135, H⟩ := bind_s H
              replace HS := HS.pm [7, 0, 1, 2, 3, 4, 5, 6, 8, 9]
              refine W.e (Y.cl Tryz.func20 (arq_Arq_Again.calls A135 HS.j1)) rfl ?_
              rintro _ w ⟨rfl, HS⟩
              replace HS := HS.o1
              refine W.nx (V.region (W.mv rfl ?_))
              obtain ⟨t136, A137, H⟩ := bind_s H
              replace HS := HS.pm [7, 0, 1, 2, 3, 4, 5, 6, 8, 9]
              refine W.e (Y.cl Tryz.func21 (signalmanref15_Arq_Again.calls A137 HS.j1)) rfl ?_
              rintro _ w ⟨rfl, HS⟩
              replace HS := HS.o1
              refine W.nil (At.blockEnd ?_)
              replace HS := HS.more 5 rfl (fun _ t => t) fsl.pers
              replace HS := HS.pm [5, 0, 1, 2, 3, 4, 6, 7, 8, 9, 10]
              replace HS := signalmanlaw15_Act.close trivial HS
              replace HS := HS.pm [4, 0, 1, 2, 3, 5, 6, 7, 8, 9]
              replace HS := api_Config.close trivial HS
              replace HS := HS.pk [1, 0, 4, 5, 6, 7, 2, 3, 8, 9] []
              exact At.meet (t136, t134) ⟨rfl, rfl, rfl, rfl, rfl, rfl, trivial⟩ ⟨HS, kl43, by omega, H⟩
             ·replace H := ite_f c133 H
              refine V.condF (sb (decide_eq_false c133)) (V.seq (V.region (W.r (X.cmp (decide (((a1.getD x22.toNat default).Way) = 6)) rfl rfl rfl rfl) rfl (W.as rfl (W.nx ?_)))))
              by_cases c138 : ((a1.getD x22.toNat default).Way) = 6
              ·replace H := ite_t c138 H
               refine V.condT (sb (decide_eq_true c138)) (V.seq (V.region (W.mv rfl ?_)))
               obtain ⟨t139, A140, H⟩ := bind_s H
               replace HS := HS.pm [7, 0, 1, 2, 3, 4, 5, 6, 8, 9]
               refine W.e (Y.cl Tryz.func23 (arq_Arq_Output.calls A140 HS.j1)) rfl ?_
               rintro _ w ⟨at139_0, ct139_0, dt139_0, rfl, HS⟩
               replace HS := HS.o3
               refine W.mv rfl ?_
               obtain ⟨t141, A142, H⟩ := bind_s H
               replace HS := HS.pm [9, 0, 1, 2, 3, 4, 5, 6, 7, 8, 10, 11]
               refine W.e (Y.cl Tryz.func24 (signalmanref15_Arq_Output.calls A142 HS.j1)) rfl ?_
               rintro _ w ⟨at141_0, ct141_0, dt141_0, rfl, HS⟩
               replace HS := HS.o3
               obtain ⟨t143, A144, H⟩ := bind_s H
               refine W.e (Y.cl Tryz.func22 (signalmanref6_SameLists.calls A144 HS.j0 (rdC.part 3 row_rd rfl) (fun h hh => let ⟨_, l, t⟩ := Sp.has 4 hh rfl; tie.mono t l) (rdC.part 0 row_rd rfl) (fun h hh => let ⟨_, l, t⟩ := Sp.has 1 hh rfl; tie.mono t l))) rfl ?_
               rintro _ w ⟨rfl, HS⟩
               replace HS := HS.o0
               refine W.r (X.not rfl) rfl (W.nx ?_)
               by_cases c145 : t143 = true
               ·replace H := ite_t c145 H
                refine V.condF (sb (n_t c145)) (V.skip (At.blockEnd ?_))
                replace HS := HS.more 9 rfl (fun _ t => t) fsl.pers
                replace HS := HS.pm [9, 0, 1, 2, 3, 4, 5, 6, 7, 8, 10, 11, 12, 13, 14]
                replace HS := signalmanlaw15_Act.close trivial HS
                replace HS := HS.pm [8, 0, 1, 2, 3, 4, 5, 6, 7, 9, 10, 11, 12, 13]
                replace HS := api_Config.close trivial HS
                replace HS := HS.pk [1, 0, 8, 9, 10, 11, 4, 7, 12, 13] [2, 3, 5, 6]
                exact At.meet (t141.2, t139.2) ⟨rfl, rfl, rfl, rfl, rfl, rfl, trivial⟩ ⟨HS, kl43, by omega, H⟩
               ·replace H := ite_f c145 H
                refine V.condT (sb (n_f (b_f c145))) (V.seq (V.region (W.as rfl (W.nx (V.ret (At.blockRet (At.thenRet (At.blockRet (At.thenRet (At.thenRet (At.blockRet (At.thenRet ?_))))))))))))
                replace HS := HS.pk [13] [0, 1, 2, 3, 4, 5, 6, 7, 8, 9, 10, 11, 12]
                cases H
                exact At.ret1 rfl rfl ⟨_, rfl, rfl, HS⟩
              ·replace H := ite_f c138 H
               refine V.condF (sb (decide_eq_false c138)) (V.seq (V.region (W.r (X.cmp (decide (((a1.getD x22.toNat default).Way) = 7)) rfl rfl rfl rfl) rfl (W.as rfl (W.nx ?_)))))
               by_cases c146 : ((a1.getD x22.toNat default).Way) = 7
               ·replace H := ite_t c146 H
                refine V.condT (sb (decide_eq_true c146)) (V.seq (V.region (W.mv rfl ?_)))
                obtain ⟨t147, A148, H⟩ := bind_s H
                replace HS := HS.pm [7, 0, 1, 2, 3, 4, 5, 6, 8, 9]
                refine W.e (Y.cl Tryz.func25 (arq_Arq_Recv.calls A148 HS.j1)) rfl ?_
                rintro _ w ⟨at147_0, ct147_0, rfl, HS⟩
                replace HS := HS.o2
                refine W.mv rfl (W.r (X.extract rfl rfl) rfl (W.r (X.extract rfl rfl) rfl (W.as rfl (W.as rfl (W.nx (V.seq (V.region (W.mv rfl ?_))))))))
                obtain ⟨t149, A150, H⟩ := bind_s H
                replace HS := HS.pm [8, 0, 1, 2, 3, 4, 5, 6, 7, 9, 10]
                refine W.e (Y.cl Tryz.func26 (signalmanref15_Arq_Recv.calls A150 HS.j1)) rfl ?_
                rintro _ w ⟨at149_0, ct149_0, rfl, HS⟩
                replace HS := HS.o2
                refine W.mv rfl (W.r (X.extract rfl rfl) rfl (W.r (X.extract rfl rfl) rfl (W.as rfl (W.as rfl (W.nx (V.meet (σ := Bool) (fun st w => match st with | x153 => Sep.St [signalmanlaw15_Act.at nb37 (a1.getD x22.toNat default), api_Config.at nb1 a0, fsl 1 (.slice at149_0 t149.1.length ct149_0) t149.1.length (t149.1.map (Value.int .u8)), signalmanref15_Arq.at bt17_0 t149.2.2, fsl 1 (.slice at147_0 t147.1.length ct147_0) t147.1.length (t147.1.map (Value.int .u8)), arq_Arq.at bt11_0 t147.2.2, row 5 1 (.slice at53_0 t53.length ct53_0) t53.length (t53.map (Value.int .u8)), fsl 1 (.slice a8_49 ((a1.getD x22.toNat default).B).length c8_49) ((a1.getD x22.toNat default).B).length (((a1.getD x22.toNat default).B).map (Value.int .u8)), arq_Arq.at bt15_0 t47, fsl 1 (.slice ea34 ((a1.getD x22.toNat default).B).length em35) ((a1.getD x22.toNat default).B).length (((a1.getD x22.toNat default).B).map (Value.int .u8)), tie signalmanlaw15_Act.El sd1 a1, R] w0 w ∧ ∃ kl156, kl156 ≤ kl43 ∧ signalmanlaw15_ArqPlays.j5 x22 t47 t147 t149 (signalmanlaw15_ArqPlays.l1 kl156 a0 a1) x153 = some r) (fun st => match st with | x153 => [(1, Value.slice (some ⟨eb30, eo31, none⟩) a1.length sc1), (2, Value.pointer (some ⟨nb1, 0, none⟩)), (6, Value.pointer (some ⟨bt11_0, 0, none⟩)), (7, Value.pointer (some ⟨bt15_0, 0, none⟩)), (8, Value.pointer (some ⟨bt17_0, 0, none⟩)), (9, Value.int .i64 x22), (154, Value.bool x153)]) ?_ ?_))))))
                ·refine V.region (W.mv rfl (W.r (X.bytesStr Tryz.underlying33 Tryz.underlying5 Tryz.underlying9 rfl (rdC.at 2 fsl.rd HS rfl)) rfl (W.mv rfl (W.r (X.bytesStr Tryz.underlying33 Tryz.underlying5 Tryz.underlying9 rfl (rdC.at 0 fsl.rd HS rfl)) rfl (W.r (X.neStr (a := t147.1) (b := t149.1) rfl rfl) rfl (W.mv rfl ?_))))))
                 by_cases c158 : sEq t147.1 t149.1 = true
                 ·replace H := ite_t c158 H
                  refine W.want 150 rfl (sb (n_t c158)) (W.mv rfl (W.want 150 rfl (sb (n_t c158)) (W.mv rfl (W.want 150 rfl (sb (n_t c158)) (W.r (X.neB Tryz.underlying4 rfl rfl) rfl (W.r (X.pickF (sb (n_t c158)) rfl) rfl (W.nil ?_)))))))
                  replace HS := HS.more 7 rfl (fun _ t => t) fsl.pers
                  replace HS := HS.pm [7, 0, 1, 2, 3, 4, 5, 6, 8, 9, 10, 11, 12]
                  replace HS := signalmanlaw15_Act.close trivial HS
                  replace HS := HS.pm [6, 0, 1, 2, 3, 4, 5, 7, 8, 9, 10, 11]
                  replace HS := api_Config.close trivial HS
                  replace HS := HS.pk [1, 0, 2, 3, 4, 5, 6, 7, 8, 9, 10, 11] []
                  exact At.meet (t147.2.1 != t149.2.1) ⟨rfl, rfl, rfl, rfl, rfl, rfl, rfl, trivial⟩ ⟨HS, kl43, by omega, H⟩
                 ·replace H := ite_f c158 H
                  refine W.pass 150 rfl (sb (n_f (b_f c158))) rfl rfl (W.pass 150 rfl (sb (n_f (b_f c158))) rfl rfl (W.pass 150 rfl (sb (n_f (b_f c158))) rfl rfl (W.r (X.pickT (sb (n_f (b_f c158))) rfl) rfl (W.nil ?_))))
                  replace HS := HS.more 7 rfl (fun _ t => t) fsl.pers
                  replace HS := HS.pm [7, 0, 1, 2, 3, 4, 5, 6, 8, 9, 10, 11, 12]
                  replace HS := signalmanlaw15_Act.close trivial HS
                  replace HS := HS.pm [6, 0, 1, 2, 3, 4, 5, 7, 8, 9, 10, 11]
                  replace HS := api_Config.close trivial HS
                  replace HS := HS.pk [1, 0, 2, 3, 4, 5, 6, 7, 8, 9, 10, 11] []
                  exact At.meet true ⟨rfl, rfl, rfl, rfl, rfl, rfl, rfl, trivial⟩ ⟨HS, kl43, by omega, H⟩
                ·rintro x153 w ⟨HS, kl156, hkkl156, H⟩
                 unfold signalmanlaw15_ArqPlays.j5 at H
                 by_cases c157 : x153 = true
                 ·replace H := ite_t c157 H
                  refine V.condT (sb c157) (V.seq (V.region (W.as rfl (W.nx (V.ret (At.blockRet (At.thenRet (At.blockRet (At.thenRet (At.thenRet (At.blockRet (At.thenRet ?_))))))))))))
                  replace HS := HS.pk [11] [0, 1, 2, 3, 4, 5, 6, 7, 8, 9, 10]
                  cases H
                  exact At.ret1 rfl rfl ⟨_, rfl, rfl, HS⟩
                 ·replace H := ite_f c157 H
                  refine V.condF (sb (b_f c157)) (V.skip (At.blockEnd ?_))
                  replace HS := HS.pk [0, 1, 6, 7, 8, 9, 3, 5, 10, 11] [2, 4]
                  exact At.meet (t149.2.2, t147.2.2) ⟨rfl, rfl, rfl, rfl, rfl, rfl, trivial⟩ ⟨HS, kl156, by omega, H⟩
               ·replace H := ite_f c146 H
                refine V.condF (sb (decide_eq_false c146)) (V.seq (V.region (W.r (X.cmp (decide (((a1.getD x22.toNat default).Way) = 8)) rfl rfl rfl rfl) rfl (W.as rfl (W.nx ?_)))))
                by_cases c159 : ((a1.getD x22.toNat default).Way) = 8
                ·replace H := ite_t c159 H
                 refine V.condT (sb (decide_eq_true c159)) (V.seq (V.region (W.mv rfl ?_)))
                 obtain ⟨t160, A161, H⟩ := bind_s H
                 replace HS := HS.pm [7, 0, 1, 2, 3, 4, 5, 6, 8, 9]
                 refine W.e (Y.cl Tryz.func28 (arq_Arq_Inds.calls A161 HS.j1)) rfl ?_
                 rintro _ w ⟨at160_0, ct160_0, rfl, HS⟩
                 replace HS := HS.o2
                 refine W.mv rfl ?_
                 obtain ⟨t162, A163, H⟩ := bind_s H
                 replace HS := HS.pm [8, 0, 1, 2, 3, 4, 5, 6, 7, 9, 10]
                 refine W.e (Y.cl Tryz.func29 (signalmanref15_Arq_Inds.calls A163 HS.j1)) rfl ?_
                 rintro _ w ⟨at162_0, ct162_0, rfl, HS⟩
                 replace HS := HS.o2
                 obtain ⟨t164, A165, H⟩ := bind_s H
                 refine W.e (Y.cl Tryz.func27 (signalmanref6_SameInts.calls A165 HS.j0 (rdC.part 2 row_rd rfl) (rdC.part 0 row_rd rfl))) rfl ?_
                 rintro _ w ⟨rfl, HS⟩
                 replace HS := HS.o0
                 refine W.r (X.not rfl) rfl (W.nx ?_)
                 by_cases c166 : t164 = true
                 ·replace H := ite_t c166 H
                  refine V.condF (sb (n_t c166)) (V.skip (At.blockEnd ?_))
                  replace HS := HS.more 7 rfl (fun _ t => t) fsl.pers
                  replace HS := HS.pm [7, 0, 1, 2, 3, 4, 5, 6, 8, 9, 10, 11, 12]
                  replace HS := signalmanlaw15_Act.close trivial HS
                  replace HS := HS.pm [6, 0, 1, 2, 3, 4, 5, 7, 8, 9, 10, 11]
                  replace HS := api_Config.close trivial HS
                  replace HS := HS.pk [1, 0, 6, 7, 8, 9, 3, 5, 10, 11] [2, 4]
                  exact At.meet (t162.2, t160.2) ⟨rfl, rfl, rfl, rfl, rfl, rfl, trivial⟩ ⟨HS, kl43, by omega, H⟩
                 ·replace H := ite_f c166 H
                  refine V.condT (sb (n_f (b_f c166))) (V.seq (V.region (W.as rfl (W.nx (V.ret (At.blockRet (At.thenRet (At.blockRet (At.thenRet (At.thenRet (At.blockRet (At.thenRet ?_))))))))))))
                  replace HS := HS.pk [11] [0, 1, 2, 3, 4, 5, 6, 7, 8, 9, 10]
                  cases H
                  exact At.ret1 rfl rfl ⟨_, rfl, rfl, HS⟩
                ·replace H := ite_f c159 H
                 refine V.condF (sb (decide_eq_false c159)) (V.skip (At.blockEnd ?_))
                 replace HS := HS.more 3 rfl (fun _ t => t) fsl.pers
                 replace HS := HS.pm [3, 0, 1, 2, 4, 5, 6, 7, 8, 9, 10]
                 replace HS := signalmanlaw15_Act.close trivial HS
                 replace HS := HS.pm [2, 0, 1, 3, 4, 5, 6, 7, 8, 9]
                 replace HS := api_Config.close trivial HS
                 replace HS := HS.pk [1, 0, 2, 3, 4, 5, 6, 7, 8, 9] []
                 exact At.meet (x23, x25) ⟨rfl, rfl, rfl, rfl, rfl, rfl, trivial⟩ ⟨HS, kl43, by omega, H⟩
       ·rintro ⟨x57, x58⟩ w ⟨HS, kl61, hkkl61, H⟩
        unfold signalmanlaw15_ArqPlays.j3 at H
        refine V.seq (V.region (W.mv rfl ?_))
        replace HS := HS.fr 7
        obtain ⟨b8_62, b9_62, b10_62, a11_62, c11_62, d11_62, a12_62, c12_62, hi63, HS⟩ := arq_Arq.open HS
        obtain ⟨t64, A65, H⟩ := bind_s H
        refine W.e (Y.cl Tryz.func30 (arq_Arq_Counts.calls A65 HS.j7)) rfl ?_
        rintro _ w ⟨rfl, HS⟩
        replace HS := HS.o7
        refine W.mv rfl (W.r (X.extract rfl rfl) rfl (W.r (X.extract rfl rfl) rfl (W.r (X.extract rfl rfl) rfl (W.as rfl (W.as rfl (W.as rfl (W.nx (V.seq (V.region (W.mv rfl ?_))))))))))
        replace HS := HS.fr 13
        obtain ⟨b6_66, b7_66, a11_66, c11_66, d11_66, a12_66, c12_66, hi67, HS⟩ := signalmanref15_Arq.open HS
        obtain ⟨t68, A69, H⟩ := bind_s H
        refine W.e (Y.cl Tryz.func31 (signalmanref15_Arq_Counts.calls A69 HS.j6)) rfl ?_
        rintro _ w ⟨rfl, HS⟩
        replace HS := HS.o6
        refine W.mv rfl (W.r (X.extract rfl rfl) rfl (W.r (X.extract rfl rfl) rfl (W.r (X.extract rfl rfl) rfl (W.as rfl (W.as rfl (W.as rfl (W.nx (V.meet (σ := Bool) (fun st w => match st with | x81 => Sep.St [arq_Arq.at bt11_0 x58, signalmanref15_Arq.at bt17_0 x57, signalmanlaw15_Act.at nb37 (a1.getD x22.toNat default), api_Config.at nb1 a0, row 5 1 (.slice at53_0 t53.length ct53_0) t53.length (t53.map (Value.int .u8)), fsl 1 (.slice a8_49 ((a1.getD x22.toNat default).B).length c8_49) ((a1.getD x22.toNat default).B).length (((a1.getD x22.toNat default).B).map (Value.int .u8)), arq_Arq.at bt15_0 t47, fsl 1 (.slice ea34 ((a1.getD x22.toNat default).B).length em35) ((a1.getD x22.toNat default).B).length (((a1.getD x22.toNat default).B).map (Value.int .u8)), tie signalmanlaw15_Act.El sd1 a1, R] w0 w ∧ ∃ kl84, kl84 ≤ kl61 ∧ signalmanlaw15_ArqPlays.j4 x22 t47 x57 x58 (signalmanlaw15_ArqPlays.l1 kl84 a0 a1) x81 = some r) (fun st => match st with | x81 => [(1, Value.slice (some ⟨eb30, eo31, none⟩) a1.length sc1), (2, Value.pointer (some ⟨nb1, 0, none⟩)), (6, Value.pointer (some ⟨bt11_0, 0, none⟩)), (7, Value.pointer (some ⟨bt15_0, 0, none⟩)), (8, Value.pointer (some ⟨bt17_0, 0, none⟩)), (9, Value.int .i64 x22), (194, Value.bool x81)]) ?_ ?_))))))))
        ·refine V.region (W.mv rfl ?_)
         obtain ⟨t86, A87, H⟩ := bind_s H
         replace HS := HS.pm [6, 7, 8, 9, 10, 11, 12, 0, 1, 2, 3, 4, 5, 13, 14, 15, 16, 17, 18, 19, 20]
         refine W.e (Y.cl Tryz.func32 (arq_Arq_State.calls A87 HS.j7)) rfl ?_
         rintro _ w ⟨rfl, HS⟩
         replace HS := HS.o7
         refine W.mv rfl ?_
         obtain ⟨t88, A89, H⟩ := bind_s H
         replace HS := HS.pm [7, 8, 9, 10, 11, 12, 0, 1, 2, 3, 4, 5, 6, 13, 14, 15, 16, 17, 18, 19, 20]
         refine W.e (Y.cl Tryz.func33 (signalmanref15_Arq_State.calls A89 HS.j6)) rfl ?_
         rintro _ w ⟨rfl, HS⟩
         replace HS := HS.o6
         refine W.r (X.cmp (!(decide (t86 = t88))) rfl rfl rfl rfl) rfl (W.mv rfl ?_)
         by_cases c90 : t86 = t88
         ·replace H := ite_t c90 H
          refine W.want 180 rfl (sb (n_t (decide_eq_true c90))) (W.mv rfl (W.want 180 rfl (sb (n_t (decide_eq_true c90))) (W.mv rfl (W.want 180 rfl (sb (n_t (decide_eq_true c90))) (W.r (X.cmp (!(decide (t64.1 = t68.1))) rfl rfl rfl rfl) rfl (W.r (X.pickF (sb (n_t (decide_eq_true c90))) rfl) rfl (W.mv rfl ?_)))))))
          by_cases c91 : t64.1 = t68.1
          ·replace H := ite_t c91 H
           refine W.want 185 rfl (sb (n_t (decide_eq_true c91))) (W.mv rfl (W.want 185 rfl (sb (n_t (decide_eq_true c91))) (W.mv rfl (W.want 185 rfl (sb (n_t (decide_eq_true c91))) (W.r (X.cmp (!(decide (t64.2.1 = t68.2.1))) rfl rfl rfl rfl) rfl (W.r (X.pickF (sb (n_t (decide_eq_true c91))) rfl) rfl (W.mv rfl ?_)))))))
           by_cases c92 : t64.2.1 = t68.2.1
           ·replace H := ite_t c92 H
            refine W.want 190 rfl (sb (n_t (decide_eq_true c92))) (W.mv rfl (W.want 190 rfl (sb (n_t (decide_eq_true c92))) (W.mv rfl (W.want 190 rfl (sb (n_t (decide_eq_true c92))) (W.r (X.cmp (!(decide (t64.2.2 = t68.2.2))) rfl rfl rfl rfl) rfl (W.r (X.pickF (sb (n_t (decide_eq_true c92))) rfl) rfl (W.nil ?_)))))))
            replace HS := HS.pm [6, 7, 8, 9, 10, 11, 12, 0, 1, 2, 3, 4, 5, 13, 14, 15, 16, 17, 18, 19, 20]
            replace HS := arq_Arq.close trivial HS
            replace HS := HS.pm [1, 2, 3, 4, 5, 6, 0, 7, 8, 9, 10, 11, 12, 13, 14]
            replace HS := signalmanref15_Arq.close trivial HS
            replace HS := HS.pk [1, 0, 2, 3, 4, 5, 6, 7, 8, 9] []
            exact At.meet (!(decide (t64.2.2 = t68.2.2))) ⟨rfl, rfl, rfl, rfl, rfl, rfl, rfl, trivial⟩ ⟨HS, kl61, by omega, H⟩
           ·replace H := ite_f c92 H
            refine W.pass 190 rfl (sb (n_f (decide_eq_false c92))) rfl rfl (W.pass 190 rfl (sb (n_f (decide_eq_false c92))) rfl rfl (W.pass 190 rfl (sb (n_f (decide_eq_false c92))) rfl rfl (W.r (X.pickT (sb (n_f (decide_eq_false c92))) rfl) rfl (W.nil ?_))))
            replace HS := HS.pm [6, 7, 8, 9, 10, 11, 12, 0, 1, 2, 3, 4, 5, 13, 14, 15, 16, 17, 18, 19, 20]
            replace HS := arq_Arq.close trivial HS
            replace HS := HS.pm [1, 2, 3, 4, 5, 6, 0, 7, 8, 9, 10, 11, 12, 13, 14]
            replace HS := signalmanref15_Arq.close trivial HS
            replace HS := HS.pk [1, 0, 2, 3, 4, 5, 6, 7, 8, 9] []
            exact At.meet true ⟨rfl, rfl, rfl, rfl, rfl, rfl, rfl, trivial⟩ ⟨HS, kl61, by omega, H⟩
          ·replace H := ite_f c91 H
           refine W.pass 185 rfl (sb (n_f (decide_eq_false c91))) rfl rfl (W.pass 185 rfl (sb (n_f (decide_eq_false c91))) rfl rfl (W.pass 185 rfl (sb (n_f (decide_eq_false c91))) rfl rfl (W.r (X.pickT (sb (n_f (decide_eq_false c91))) rfl) rfl (W.mv rfl (W.pass 190 rfl rfl rfl rfl (W.pass 190 rfl rfl rfl rfl (W.pass 190 rfl rfl rfl rfl (W.r (X.pickT rfl rfl) rfl (W.nil ?_)))))))))
           replace HS := HS.pm [6, 7, 8, 9, 10, 11, 12, 0, 1, 2, 3, 4, 5, 13, 14, 15, 16, 17, 18, 19, 20]
           replace HS := arq_Arq.close trivial HS
           replace HS := HS.pm [1, 2, 3, 4, 5, 6, 0, 7, 8, 9, 10, 11, 12, 13, 14]
           replace HS := signalmanref15_Arq.close trivial HS
           replace HS := HS.pk [1, 0, 2, 3, 4, 5, 6, 7, 8, 9] []
           exact At.meet true ⟨rfl, rfl, rfl, rfl, rfl, rfl, rfl, trivial⟩ ⟨HS, kl61, by omega, H⟩
         ·replace H := ite_f c90 H
          refine W.pass 180 rfl (sb (n_f (decide_eq_false c90))) rfl rfl (W.pass 180 rfl (sb (n_f (decide_eq_false c90))) rfl rfl (W.pass 180 rfl (sb (n_f (decide_eq_false c90))) rfl rfl (W.r (X.pickT (sb (n_f (decide_eq_false c90))) rfl) rfl (W.mv rfl (W.pass 185 rfl rfl rfl rfl (W.pass 185 rfl rfl rfl rfl (W.pass 185 rfl rfl rfl rfl (W.r (X.pickT rfl rfl) rfl (W.mv rfl (W.pass 190 rfl rfl rfl rfl (W.pass 190 rfl rfl rfl rfl (W.pass 190 rfl rfl rfl rfl (W.r (X.pickT rfl rfl) rfl (W.nil ?_))))))))))))))
          replace HS := HS.pm [6, 7, 8, 9, 10, 11, 12, 0, 1, 2, 3, 4, 5, 13, 14, 15, 16, 17, 18, 19, 20]
          replace HS := arq_Arq.close trivial HS
          replace HS := HS.pm [1, 2, 3, 4, 5, 6, 0, 7, 8, 9, 10, 11, 12, 13, 14]
          replace HS := signalmanref15_Arq.close trivial HS
          replace HS := HS.pk [1, 0, 2, 3, 4, 5, 6, 7, 8, 9] []
          exact At.meet true ⟨rfl, rfl, rfl, rfl, rfl, rfl, rfl, trivial⟩ ⟨HS, kl61, by omega, H⟩
        ·rintro x81 w ⟨HS, kl84, hkkl84, H⟩
         unfold signalmanlaw15_ArqPlays.j4 at H
         by_cases c85 : x81 = true
         ·replace H := ite_t c85 H
          refine V.condT (sb c85) (V.seq (V.region (W.as rfl (W.nx (V.ret (At.blockRet (At.thenRet (At.thenRet (At.blockRet (At.thenRet ?_))))))))))
          replace HS := HS.pk [9] [0, 1, 2, 3, 4, 5, 6, 7, 8]
          cases H
          exact At.ret1 rfl rfl ⟨_, rfl, rfl, HS⟩
         ·replace H := ite_f c85 H
          refine V.condF (sb (b_f c85)) (V.skip (At.blockEnd (At.next (V.region (W.mv rfl (W.r (X.add rfl rfl) rfl (W.as rfl (W.nil ?_))))))))
          replace HS := HS.pk [3, 1, 6, 0, 8, 9] [2, 4, 5, 7]
          exact At.round kl84 (by omega) (w64 (x22 + 1), x57, t47, x58) ⟨rfl, rfl, rfl, rfl, rfl, rfl, trivial⟩ ⟨HS, H, by omega⟩
    ·replace H := ite_f c28 H
     refine V.condF (sb (decide_eq_false c28)) (V.exit (At.thenExit (At.thenExit (At.blockExit (At.next (V.seq (V.region (W.mv rfl ?_))))))))
     obtain ⟨t169, A170, H⟩ := bind_s H
     replace HS := HS.pm [3, 0, 1, 2, 4, 5]
     refine W.e (Y.cl Tryz.func23 (arq_Arq_Output.calls A170 HS.j1)) rfl ?_
     rintro _ w ⟨at169_0, ct169_0, dt169_0, rfl, HS⟩
     replace HS := HS.o3
     refine W.mv rfl ?_
     obtain ⟨t171, A172, H⟩ := bind_s H
     replace HS := HS.pm [4, 0, 1, 2, 3, 5, 6, 7]
     refine W.e (Y.cl Tryz.func24 (signalmanref15_Arq_Output.calls A172 HS.j1)) rfl ?_
     rintro _ w ⟨at171_0, ct171_0, dt171_0, rfl, HS⟩
     replace HS := HS.o3
     obtain ⟨t173, A174, H⟩ := bind_s H
     refine W.e (Y.cl Tryz.func22 (signalmanref6_SameLists.calls A174 HS.j0 (rdC.part 3 row_rd rfl) (fun h hh => let ⟨_, l, t⟩ := Sp.has 4 hh rfl; tie.mono t l) (rdC.part 0 row_rd rfl) (fun h hh => let ⟨_, l, t⟩ := Sp.has 1 hh rfl; tie.mono t l))) rfl ?_
     rintro _ w ⟨rfl, HS⟩
     replace HS := HS.o0
     refine W.mv rfl ?_
     by_cases c175 : t173 = true
     ·replace H := ite_t c175 H
      refine W.want 200 rfl (sb c175) (W.mv rfl (W.want 200 rfl (sb c175) ?_))
      obtain ⟨t176, A177, H⟩ := bind_s H
      replace HS := HS.pm [5, 0, 1, 2, 3, 4, 6, 7, 8, 9]
      refine W.e (Y.cl Tryz.func28 (arq_Arq_Inds.calls A177 HS.j1)) rfl ?_
      rintro _ w ⟨at176_0, ct176_0, rfl, HS⟩
      replace HS := HS.o2
      refine W.want 200 rfl (sb c175) (W.mv rfl (W.want 200 rfl (sb c175) ?_))
      obtain ⟨t178, A179, H⟩ := bind_s H
      replace HS := HS.pm [4, 0, 1, 2, 3, 5, 6, 7, 8, 9, 10]
      refine W.e (Y.cl Tryz.func29 (signalmanref15_Arq_Inds.calls A179 HS.j1)) rfl ?_
      rintro _ w ⟨at178_0, ct178_0, rfl, HS⟩
      replace HS := HS.o2
      refine W.want 200 rfl (sb c175) ?_
      obtain ⟨t180, A181, H⟩ := bind_s H
      refine W.e (Y.cl Tryz.func27 (signalmanref6_SameInts.calls A181 HS.j0 (rdC.part 2 row_rd rfl) (rdC.part 0 row_rd rfl))) rfl ?_
      rintro _ w ⟨rfl, HS⟩
      replace HS := HS.o0
      refine W.r (X.pickT (sb c175) rfl) rfl (W.as rfl (W.nx (V.ret ?_)))
      replace HS := HS.pk [11] [0, 1, 2, 3, 4, 5, 6, 7, 8, 9, 10]
      cases H
      exact At.ret1 rfl rfl ⟨_, rfl, rfl, HS⟩
     ·replace H := ite_f c175 H
      refine W.pass 200 rfl (sb (b_f c175)) rfl rfl (W.pass 200 rfl (sb (b_f c175)) rfl rfl (W.pass 200 rfl (sb (b_f c175)) rfl rfl (W.pass 200 rfl (sb (b_f c175)) rfl rfl (W.pass 200 rfl (sb (b_f c175)) rfl rfl (W.r (X.pickF (sb (b_f c175)) rfl) rfl (W.as rfl (W.nx (V.ret ?_))))))))
      replace HS := HS.pk [9] [0, 1, 2, 3, 4, 5, 6, 7, 8]
      cases H
      exact At.ret1 rfl rfl ⟨_, rfl, rfl, HS⟩
def api_Config.El : El api_Config := El.iso (El.prod (El.int .i64) (El.prod (El.int .i64) (El.prod (El.int .i64) (El.prod (El.int .i64) (El.prod (El.int .i64) (El.prod (El.int .i64) (El.prod (El.int .i64) (El.prod (El.int .i64) (El.prod (El.int .i64) (El.prod (El.int .i64) (El.prod (El.int .i64) (El.prod (El.int .i64) (El.prod (El.int .i64) (El.prod (El.int .i64) (El.prod El.bool (El.prod El.bool El.unit)))))))))))))))) (fun x => (x.Mode, (x.Modulus, (x.Window, (x.T1, (x.N2, (x.Hold, (x.Wait, (x.Keep, (x.Queue, (x.Size, (x.Ring, (x.Rate, (x.Bad, (x.Good, (x.Revert, (x.Wide, ())))))))))))))))))
theorem api_Config.unpack {c : List Value} {x : api_Config} {L : List As} {w0 w : World} (hs : Sep.St (api_Config.El.p c x :: L) w0 w) : c = [Value.int .i64 x.Mode, Value.int .i64 x.Modulus, Value.int .i64 x.Window, Value.int .i64 x.T1, Value.int .i64 x.N2, Value.int .i64 x.Hold, Value.int .i64 x.Wait, Value.int .i64 x.Keep, Value.int .i64 x.Queue, Value.int .i64 x.Size, Value.int .i64 x.Ring, Value.int .i64 x.Rate, Value.int .i64 x.Bad, Value.int .i64 x.Good, Value.bool x.Revert, Value.bool x.Wide] ∧ Sep.St L w0 w := by
 have hs : Sep.St ((El.prod (El.int .i64) (El.prod (El.int .i64) (El.prod (El.int .i64) (El.prod (El.int .i64) (El.prod (El.int .i64) (El.prod (El.int .i64) (El.prod (El.int .i64) (El.prod (El.int .i64) (El.prod (El.int .i64) (El.prod (El.int .i64) (El.prod (El.int .i64) (El.prod (El.int .i64) (El.prod (El.int .i64) (El.prod (El.int .i64) (El.prod El.bool (El.prod El.bool El.unit)))))))))))))))).p c (x.Mode, (x.Modulus, (x.Window, (x.T1, (x.N2, (x.Hold, (x.Wait, (x.Keep, (x.Queue, (x.Size, (x.Ring, (x.Rate, (x.Bad, (x.Good, (x.Revert, (x.Wide, ())))))))))))))))) :: L) w0 w := hs
 obtain ⟨c0, r0, e0, hs⟩ := St.prod_open hs
 have hs : Sep.St ((El.int .i64).p c0 x.Mode :: (El.prod (El.int .i64) (El.prod (El.int .i64) (El.prod (El.int .i64) (El.prod (El.int .i64) (El.prod (El.int .i64) (El.prod (El.int .i64) (El.prod (El.int .i64) (El.prod (El.int .i64) (El.prod (El.int .i64) (El.prod (El.int .i64) (El.prod (El.int .i64) (El.prod (El.int .i64) (El.prod (El.int .i64) (El.prod El.bool (El.prod El.bool El.unit))))))))))))))).p r0 (x.Modulus, (x.Window, (x.T1, (x.N2, (x.Hold, (x.Wait, (x.Keep, (x.Queue, (x.Size, (x.Ring, (x.Rate, (x.Bad, (x.Good, (x.Revert, (x.Wide, ()))))))))))))))) :: L) w0 w := hs
 obtain ⟨q0, hs⟩ := St.int_open hs
 have hs : Sep.St ((El.prod (El.int .i64) (El.prod (El.int .i64) (El.prod (El.int .i64) (El.prod (El.int .i64) (El.prod (El.int .i64) (El.prod (El.int .i64) (El.prod (El.int .i64) (El.prod (El.int .i64) (El.prod (El.int .i64) (El.prod (El.int .i64) (El.prod (El.int .i64) (El.prod (El.int .i64) (El.prod (El.int .i64) (El.prod El.bool (El.prod El.bool El.unit))))))))))))))).p r0 (x.Modulus, (x.Window, (x.T1, (x.N2, (x.Hold, (x.Wait, (x.Keep, (x.Queue, (x.Size, (x.Ring, (x.Rate, (x.Bad, (x.Good, (x.Revert, (x.Wide, ()))))))))))))))) :: L) w0 w := hs
 obtain ⟨c1, r1, e1, hs⟩ := St.prod_open hs
 have hs : Sep.St ((El.int .i64).p c1 x.Modulus :: (El.prod (El.int .i64) (El.prod (El.int .i64) (El.prod (El.int .i64) (El.prod (El.int .i64) (El.prod (El.int .i64) (El.prod (El.int .i64) (El.prod (El.int .i64) (El.prod (El.int .i64) (El.prod (El.int .i64) (El.prod (El.int .i64) (El.prod (El.int .i64) (El.prod (El.int .i64) (El.prod El.bool (El.prod El.bool El.unit)))))))))))))).p r1 (x.Window, (x.T1, (x.N2, (x.Hold, (x.Wait, (x.Keep, (x.Queue, (x.Size, (x.Ring, (x.Rate, (x.Bad, (x.Good, (x.Revert, (x.Wide, ())))))))))))))) :: L) w0 w := hs
 obtain ⟨q1, hs⟩ := St.int_open hs
 have hs : Sep.St ((El.prod (El.int .i64) (El.prod (El.int .i64) (El.prod (El.int .i64) (El.prod (El.int .i64) (El.prod (El.int .i64) (El.prod (El.int .i64) (El.prod (El.int .i64) (El.prod (El.int .i64) (El.prod (El.int .i64) (El.prod (El.int .i64) (El.prod (El.int .i64) (El.prod (El.int .i64) (El.prod El.bool (El.prod El.bool El.unit)))))))))))))).p r1 (x.Window, (x.T1, (x.N2, (x.Hold, (x.Wait, (x.Keep, (x.Queue, (x.Size, (x.Ring, (x.Rate, (x.Bad, (x.Good, (x.Revert, (x.Wide, ())))))))))))))) :: L) w0 w := hs
 obtain ⟨c2, r2, e2, hs⟩ := St.prod_open hs
 have hs : Sep.St ((El.int .i64).p c2 x.Window :: (El.prod (El.int .i64) (El.prod (El.int .i64) (El.prod (El.int .i64) (El.prod (El.int .i64) (El.prod (El.int .i64) (El.prod (El.int .i64) (El.prod (El.int .i64) (El.prod (El.int .i64) (El.prod (El.int .i64) (El.prod (El.int .i64) (El.prod (El.int .i64) (El.prod El.bool (El.prod El.bool El.unit))))))))))))).p r2 (x.T1, (x.N2, (x.Hold, (x.Wait, (x.Keep, (x.Queue, (x.Size, (x.Ring, (x.Rate, (x.Bad, (x.Good, (x.Revert, (x.Wide, ()))))))))))))) :: L) w0 w := hs
 obtain ⟨q2, hs⟩ := St.int_open hs
 have hs : Sep.St ((El.prod (El.int .i64) (El.prod (El.int .i64) (El.prod (El.int .i64) (El.prod (El.int .i64) (El.prod (El.int .i64) (El.prod (El.int .i64) (El.prod (El.int .i64) (El.prod (El.int .i64) (El.prod (El.int .i64) (El.prod (El.int .i64) (El.prod (El.int .i64) (El.prod El.bool (El.prod El.bool El.unit))))))))))))).p r2 (x.T1, (x.N2, (x.Hold, (x.Wait, (x.Keep, (x.Queue, (x.Size, (x.Ring, (x.Rate, (x.Bad, (x.Good, (x.Revert, (x.Wide, ()))))))))))))) :: L) w0 w := hs
 obtain ⟨c3, r3, e3, hs⟩ := St.prod_open hs
 have hs : Sep.St ((El.int .i64).p c3 x.T1 :: (El.prod (El.int .i64) (El.prod (El.int .i64) (El.prod (El.int .i64) (El.prod (El.int .i64) (El.prod (El.int .i64) (El.prod (El.int .i64) (El.prod (El.int .i64) (El.prod (El.int .i64) (El.prod (El.int .i64) (El.prod (El.int .i64) (El.prod El.bool (El.prod El.bool El.unit)))))))))))).p r3 (x.N2, (x.Hold, (x.Wait, (x.Keep, (x.Queue, (x.Size, (x.Ring, (x.Rate, (x.Bad, (x.Good, (x.Revert, (x.Wide, ())))))))))))) :: L) w0 w := hs
 obtain ⟨q3, hs⟩ := St.int_open hs
 have hs : Sep.St ((El.prod (El.int .i64) (El.prod (El.int .i64) (El.prod (El.int .i64) (El.prod (El.int .i64) (El.prod (El.int .i64) (El.prod (El.int .i64) (El.prod (El.int .i64) (El.prod (El.int .i64) (El.prod (El.int .i64) (El.prod (El.int .i64) (El.prod El.bool (El.prod El.bool El.unit)))))))))))).p r3 (x.N2, (x.Hold, (x.Wait, (x.Keep, (x.Queue, (x.Size, (x.Ring, (x.Rate, (x.Bad, (x.Good, (x.Revert, (x.Wide, ())))))))))))) :: L) w0 w := hs
 obtain ⟨c4, r4, e4, hs⟩ := St.prod_open hs
 have hs : Sep.St ((El.int .i64).p c4 x.N2 :: (El.prod (El.int .i64) (El.prod (El.int .i64) (El.prod (El.int .i64) (El.prod (El.int .i64) (El.prod (El.int .i64) (El.prod (El.int .i64) (El.prod (El.int .i64) (El.prod (El.int .i64) (El.prod (El.int .i64) (El.prod El.bool (El.prod El.bool El.unit))))))))))).p r4 (x.Hold, (x.Wait, (x.Keep, (x.Queue, (x.Size, (x.Ring, (x.Rate, (x.Bad, (x.Good, (x.Revert, (x.Wide, ()))))))))))) :: L) w0 w := hs
 obtain ⟨q4, hs⟩ := St.int_open hs
 have hs : Sep.St ((El.prod (El.int .i64) (El.prod (El.int .i64) (El.prod (El.int .i64) (El.prod (El.int .i64) (El.prod (El.int .i64) (El.prod (El.int .i64) (El.prod (El.int .i64) (El.prod (El.int .i64) (El.prod (El.int .i64) (El.prod El.bool (El.prod El.bool El.unit))))))))))).p r4 (x.Hold, (x.Wait, (x.Keep, (x.Queue, (x.Size, (x.Ring, (x.Rate, (x.Bad, (x.Good, (x.Revert, (x.Wide, ()))))))))))) :: L) w0 w := hs
 obtain ⟨c5, r5, e5, hs⟩ := St.prod_open hs
 have hs : Sep.St ((El.int .i64).p c5 x.Hold :: (El.prod (El.int .i64) (El.prod (El.int .i64) (El.prod (El.int .i64) (El.prod (El.int .i64) (El.prod (El.int .i64) (El.prod (El.int .i64) (El.prod (El.int .i64) (El.prod (El.int .i64) (El.prod El.bool (El.prod El.bool El.unit)))))))))).p r5 (x.Wait, (x.Keep, (x.Queue, (x.Size, (x.Ring, (x.Rate, (x.Bad, (x.Good, (x.Revert, (x.Wide, ())))))))))) :: L) w0 w := hs
 obtain ⟨q5, hs⟩ := St.int_open hs
 have hs : Sep.St ((El.prod (El.int .i64) (El.prod (El.int .i64) (El.prod (El.int .i64) (El.prod (El.int .i64) (El.prod (El.int .i64) (El.prod (El.int .i64) (El.prod (El.int .i64) (El.prod (El.int .i64) (El.prod El.bool (El.prod El.bool El.unit)))))))))).p r5 (x.Wait, (x.Keep, (x.Queue, (x.Size, (x.Ring, (x.Rate, (x.Bad, (x.Good, (x.Revert, (x.Wide, ())))))))))) :: L) w0 w := hs
 obtain ⟨c6, r6, e6, hs⟩ := St.prod_open hs
 have hs : Sep.St ((El.int .i64).p c6 x.Wait :: (El.prod (El.int .i64) (El.prod (El.int .i64) (El.prod (El.int .i64) (El.prod (El.int .i64) (El.prod (El.int .i64) (El.prod (El.int .i64) (El.prod (El.int .i64) (El.prod El.bool (El.prod El.bool El.unit))))))))).p r6 (x.Keep, (x.Queue, (x.Size, (x.Ring, (x.Rate, (x.Bad, (x.Good, (x.Revert, (x.Wide, ()))))))))) :: L) w0 w := hs
 obtain ⟨q6, hs⟩ := St.int_open hs
 have hs : Sep.St ((El.prod (El.int .i64) (El.prod (El.int .i64) (El.prod (El.int .i64) (El.prod (El.int .i64) (El.prod (El.int .i64) (El.prod (El.int .i64) (El.prod (El.int .i64) (El.prod El.bool (El.prod El.bool El.unit))))))))).p r6 (x.Keep, (x.Queue, (x.Size, (x.Ring, (x.Rate, (x.Bad, (x.Good, (x.Revert, (x.Wide, ()))))))))) :: L) w0 w := hs
 obtain ⟨c7, r7, e7, hs⟩ := St.prod_open hs
 have hs : Sep.St ((El.int .i64).p c7 x.Keep :: (El.prod (El.int .i64) (El.prod (El.int .i64) (El.prod (El.int .i64) (El.prod (El.int .i64) (El.prod (El.int .i64) (El.prod (El.int .i64) (El.prod El.bool (El.prod El.bool El.unit)))))))).p r7 (x.Queue, (x.Size, (x.Ring, (x.Rate, (x.Bad, (x.Good, (x.Revert, (x.Wide, ())))))))) :: L) w0 w := hs
 obtain ⟨q7, hs⟩ := St.int_open hs
 have hs : Sep.St ((El.prod (El.int .i64) (El.prod (El.int .i64) (El.prod (El.int .i64) (El.prod (El.int .i64) (El.prod (El.int .i64) (El.prod (El.int .i64) (El.prod El.bool (El.prod El.bool El.unit)))))))).p r7 (x.Queue, (x.Size, (x.Ring, (x.Rate, (x.Bad, (x.Good, (x.Revert, (x.Wide, ())))))))) :: L) w0 w := hs
 obtain ⟨c8, r8, e8, hs⟩ := St.prod_open hs
 have hs : Sep.St ((El.int .i64).p c8 x.Queue :: (El.prod (El.int .i64) (El.prod (El.int .i64) (El.prod (El.int .i64) (El.prod (El.int .i64) (El.prod (El.int .i64) (El.prod El.bool (El.prod El.bool El.unit))))))).p r8 (x.Size, (x.Ring, (x.Rate, (x.Bad, (x.Good, (x.Revert, (x.Wide, ()))))))) :: L) w0 w := hs
 obtain ⟨q8, hs⟩ := St.int_open hs
 have hs : Sep.St ((El.prod (El.int .i64) (El.prod (El.int .i64) (El.prod (El.int .i64) (El.prod (El.int .i64) (El.prod (El.int .i64) (El.prod El.bool (El.prod El.bool El.unit))))))).p r8 (x.Size, (x.Ring, (x.Rate, (x.Bad, (x.Good, (x.Revert, (x.Wide, ()))))))) :: L) w0 w := hs
 obtain ⟨c9, r9, e9, hs⟩ := St.prod_open hs
 have hs : Sep.St ((El.int .i64).p c9 x.Size :: (El.prod (El.int .i64) (El.prod (El.int .i64) (El.prod (El.int .i64) (El.prod (El.int .i64) (El.prod El.bool (El.prod El.bool El.unit)))))).p r9 (x.Ring, (x.Rate, (x.Bad, (x.Good, (x.Revert, (x.Wide, ())))))) :: L) w0 w := hs
 obtain ⟨q9, hs⟩ := St.int_open hs
 have hs : Sep.St ((El.prod (El.int .i64) (El.prod (El.int .i64) (El.prod (El.int .i64) (El.prod (El.int .i64) (El.prod El.bool (El.prod El.bool El.unit)))))).p r9 (x.Ring, (x.Rate, (x.Bad, (x.Good, (x.Revert, (x.Wide, ())))))) :: L) w0 w := hs
 obtain ⟨c10, r10, e10, hs⟩ := St.prod_open hs
 have hs : Sep.St ((El.int .i64).p c10 x.Ring :: (El.prod (El.int .i64) (El.prod (El.int .i64) (El.prod (El.int .i64) (El.prod El.bool (El.prod El.bool El.unit))))).p r10 (x.Rate, (x.Bad, (x.Good, (x.Revert, (x.Wide, ()))))) :: L) w0 w := hs
 obtain ⟨q10, hs⟩ := St.int_open hs
 have hs : Sep.St ((El.prod (El.int .i64) (El.prod (El.int .i64) (El.prod (El.int .i64) (El.prod El.bool (El.prod El.bool El.unit))))).p r10 (x.Rate, (x.Bad, (x.Good, (x.Revert, (x.Wide, ()))))) :: L) w0 w := hs
 obtain ⟨c11, r11, e11, hs⟩ := St.prod_open hs
 have hs : Sep.St ((El.int .i64).p c11 x.Rate :: (El.prod (El.int .i64) (El.prod (El.int .i64) (El.prod El.bool (El.prod El.bool El.unit)))).p r11 (x.Bad, (x.Good, (x.Revert, (x.Wide, ())))) :: L) w0 w := hs
 obtain ⟨q11, hs⟩ := St.int_open hs
 have hs : Sep.St ((El.prod (El.int .i64) (El.prod (El.int .i64) (El.prod El.bool (El.prod El.bool El.unit)))).p r11 (x.Bad, (x.Good, (x.Revert, (x.Wide, ())))) :: L) w0 w := hs
 obtain ⟨c12, r12, e12, hs⟩ := St.prod_open hs
 have hs : Sep.St ((El.int .i64).p c12 x.Bad :: (El.prod (El.int .i64) (El.prod El.bool (El.prod El.bool El.unit))).p r12 (x.Good, (x.Revert, (x.Wide, ()))) :: L) w0 w := hs
 obtain ⟨q12, hs⟩ := St.int_open hs
 have hs : Sep.St ((El.prod (El.int .i64) (El.prod El.bool (El.prod El.bool El.unit))).p r12 (x.Good, (x.Revert, (x.Wide, ()))) :: L) w0 w := hs
 obtain ⟨c13, r13, e13, hs⟩ := St.prod_open hs
 have hs : Sep.St ((El.int .i64).p c13 x.Good :: (El.prod El.bool (El.prod El.bool El.unit)).p r13 (x.Revert, (x.Wide, ())) :: L) w0 w := hs
 obtain ⟨q13, hs⟩ := St.int_open hs
 have hs : Sep.St ((El.prod El.bool (El.prod El.bool El.unit)).p r13 (x.Revert, (x.Wide, ())) :: L) w0 w := hs
 obtain ⟨c14, r14, e14, hs⟩ := St.prod_open hs
 have hs : Sep.St (El.bool.p c14 x.Revert :: (El.prod El.bool El.unit).p r14 (x.Wide, ()) :: L) w0 w := hs
 obtain ⟨q14, hs⟩ := St.bool_open hs
 have hs : Sep.St ((El.prod El.bool El.unit).p r14 (x.Wide, ()) :: L) w0 w := hs
 obtain ⟨c15, r15, e15, hs⟩ := St.prod_open hs
 have hs : Sep.St (El.bool.p c15 x.Wide :: El.unit.p r15 () :: L) w0 w := hs
 obtain ⟨q15, hs⟩ := St.bool_open hs
 have hs : Sep.St (El.unit.p r15 () :: L) w0 w := hs
 obtain ⟨qu, hs⟩ := St.unit_open hs
 exact ⟨by rw [e0, q0, e1, q1, e2, q2, e3, q3, e4, q4, e5, q5, e6, q6, e7, q7, e8, q8, e9, q9, e10, q10, e11, q11, e12, q12, e13, q13, e14, q14, e15, q15, qu]; rfl, hs⟩
theorem api_Config.pack  {x : api_Config} {L : List As} {w0 w : World} (hs : Sep.St L w0 w) : Sep.St (api_Config.El.p [Value.int .i64 x.Mode, Value.int .i64 x.Modulus, Value.int .i64 x.Window, Value.int .i64 x.T1, Value.int .i64 x.N2, Value.int .i64 x.Hold, Value.int .i64 x.Wait, Value.int .i64 x.Keep, Value.int .i64 x.Queue, Value.int .i64 x.Size, Value.int .i64 x.Ring, Value.int .i64 x.Rate, Value.int .i64 x.Bad, Value.int .i64 x.Good, Value.bool x.Revert, Value.bool x.Wide] x :: L) w0 w := by
 have h1 := St.join (m := []) hs
 exact h1.mono fun h hh => ⟨[Value.int .i64 x.Mode], [Value.int .i64 x.Modulus, Value.int .i64 x.Window, Value.int .i64 x.T1, Value.int .i64 x.N2, Value.int .i64 x.Hold, Value.int .i64 x.Wait, Value.int .i64 x.Keep, Value.int .i64 x.Queue, Value.int .i64 x.Size, Value.int .i64 x.Ring, Value.int .i64 x.Rate, Value.int .i64 x.Bad, Value.int .i64 x.Good, Value.bool x.Revert, Value.bool x.Wide], rfl, rfl, ⟨[Value.int .i64 x.Modulus], [Value.int .i64 x.Window, Value.int .i64 x.T1, Value.int .i64 x.N2, Value.int .i64 x.Hold, Value.int .i64 x.Wait, Value.int .i64 x.Keep, Value.int .i64 x.Queue, Value.int .i64 x.Size, Value.int .i64 x.Ring, Value.int .i64 x.Rate, Value.int .i64 x.Bad, Value.int .i64 x.Good, Value.bool x.Revert, Value.bool x.Wide], rfl, rfl, ⟨[Value.int .i64 x.Window], [Value.int .i64 x.T1, Value.int .i64 x.N2, Value.int .i64 x.Hold, Value.int .i64 x.Wait, Value.int .i64 x.Keep, Value.int .i64 x.Queue, Value.int .i64 x.Size, Value.int .i64 x.Ring, Value.int .i64 x.Rate, Value.int .i64 x.Bad, Value.int .i64 x.Good, Value.bool x.Revert, Value.bool x.Wide], rfl, rfl, ⟨[Value.int .i64 x.T1], [Value.int .i64 x.N2, Value.int .i64 x.Hold, Value.int .i64 x.Wait, Value.int .i64 x.Keep, Value.int .i64 x.Queue, Value.int .i64 x.Size, Value.int .i64 x.Ring, Value.int .i64 x.Rate, Value.int .i64 x.Bad, Value.int .i64 x.Good, Value.bool x.Revert, Value.bool x.Wide], rfl, rfl, ⟨[Value.int .i64 x.N2], [Value.int .i64 x.Hold, Value.int .i64 x.Wait, Value.int .i64 x.Keep, Value.int .i64 x.Queue, Value.int .i64 x.Size, Value.int .i64 x.Ring, Value.int .i64 x.Rate, Value.int .i64 x.Bad, Value.int .i64 x.Good, Value.bool x.Revert, Value.bool x.Wide], rfl, rfl, ⟨[Value.int .i64 x.Hold], [Value.int .i64 x.Wait, Value.int .i64 x.Keep, Value.int .i64 x.Queue, Value.int .i64 x.Size, Value.int .i64 x.Ring, Value.int .i64 x.Rate, Value.int .i64 x.Bad, Value.int .i64 x.Good, Value.bool x.Revert, Value.bool x.Wide], rfl, rfl, ⟨[Value.int .i64 x.Wait], [Value.int .i64 x.Keep, Value.int .i64 x.Queue, Value.int .i64 x.Size, Value.int .i64 x.Ring, Value.int .i64 x.Rate, Value.int .i64 x.Bad, Value.int .i64 x.Good, Value.bool x.Revert, Value.bool x.Wide], rfl, rfl, ⟨[Value.int .i64 x.Keep], [Value.int .i64 x.Queue, Value.int .i64 x.Size, Value.int .i64 x.Ring, Value.int .i64 x.Rate, Value.int .i64 x.Bad, Value.int .i64 x.Good, Value.bool x.Revert, Value.bool x.Wide], rfl, rfl, ⟨[Value.int .i64 x.Queue], [Value.int .i64 x.Size, Value.int .i64 x.Ring, Value.int .i64 x.Rate, Value.int .i64 x.Bad, Value.int .i64 x.Good, Value.bool x.Revert, Value.bool x.Wide], rfl, rfl, ⟨[Value.int .i64 x.Size], [Value.int .i64 x.Ring, Value.int .i64 x.Rate, Value.int .i64 x.Bad, Value.int .i64 x.Good, Value.bool x.Revert, Value.bool x.Wide], rfl, rfl, ⟨[Value.int .i64 x.Ring], [Value.int .i64 x.Rate, Value.int .i64 x.Bad, Value.int .i64 x.Good, Value.bool x.Revert, Value.bool x.Wide], rfl, rfl, ⟨[Value.int .i64 x.Rate], [Value.int .i64 x.Bad, Value.int .i64 x.Good, Value.bool x.Revert, Value.bool x.Wide], rfl, rfl, ⟨[Value.int .i64 x.Bad], [Value.int .i64 x.Good, Value.bool x.Revert, Value.bool x.Wide], rfl, rfl, ⟨[Value.int .i64 x.Good], [Value.bool x.Revert, Value.bool x.Wide], rfl, rfl, ⟨[Value.bool x.Revert], [Value.bool x.Wide], rfl, rfl, ⟨[Value.bool x.Wide], [], rfl, rfl, rfl⟩⟩⟩⟩⟩⟩⟩⟩⟩⟩⟩⟩⟩⟩⟩⟩
def signalmanlaw15_ArqPlays.Pure : Prop := ∀ (a0 : api_Config) (a1 : List signalmanlaw15_Act), ((Lit.int .i64 a0.Mode).wf = true ∧ ((Lit.int .i64 a0.Modulus).wf = true ∧ ((Lit.int .i64 a0.Window).wf = true ∧ ((Lit.int .i64 a0.T1).wf = true ∧ ((Lit.int .i64 a0.N2).wf = true ∧ ((Lit.int .i64 a0.Hold).wf = true ∧ ((Lit.int .i64 a0.Wait).wf = true ∧ ((Lit.int .i64 a0.Keep).wf = true ∧ ((Lit.int .i64 a0.Queue).wf = true ∧ ((Lit.int .i64 a0.Size).wf = true ∧ ((Lit.int .i64 a0.Ring).wf = true ∧ ((Lit.int .i64 a0.Rate).wf = true ∧ ((Lit.int .i64 a0.Bad).wf = true ∧ ((Lit.int .i64 a0.Good).wf = true ∧ (True ∧ (True ∧ True)))))))))))))))) → (∀ z ∈ a1, ((Lit.int .i64 z.Way).wf = true ∧ ((Lit.int .i64 z.N).wf = true ∧ ((Lit.int .i64 z.T).wf = true ∧ (True ∧ (((Lit.int .i64 z.C.Kind).wf = true ∧ ((Lit.int .i64 z.C.Ns).wf = true ∧ ((Lit.int .i64 z.C.Nr).wf = true ∧ (True ∧ True)))) ∧ (((∀ z3 ∈ z.B, (Lit.int .u8 z3).wf = true) ∧ (z.B.length : Int) ≤ 9223372036854775807) ∧ True))))))) → (a1.length : Int) ≤ 9223372036854775807 → ∃ k, signalmanlaw15_ArqPlays.f k a0 a1 = some true
end Go.Proofs.YtnlcafmkmfnobaaGreat

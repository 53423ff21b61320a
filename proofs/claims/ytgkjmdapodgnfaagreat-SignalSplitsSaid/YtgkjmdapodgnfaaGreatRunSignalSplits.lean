/- SignalSplits: the functions that its law reaches, as plain functions, and that the machine's calls come to what these say. Conditions: those that stand at each. -/
import Derived.Test.YtgkjmdapodgnfaaGreatRunSignalSplitsP7
set_option linter.all false
set_option maxRecDepth 100000
set_option maxHeartbeats 4000000
set_option synthInstance.maxSize 100000
set_option synthInstance.maxHeartbeats 1000000
namespace Go.Proofs.YtgkjmdapodgnfaaGreat
open Go.RowKit Go.Proofs.YtgkjmdapodgnfaaGreat.Sep Go.Proofs.YtgkjmdapodgnfaaGreat.Walk Go.Proofs.Tryz
attribute [local irreducible] V W At T Code.rounds RdO RdOk
mutual
def signalmanlaw25_SignalSplits.l4 : Nat → api_Config → (List api_Op) → Int → Int → (List api_Op) → Option Bool
 | 0, _, _, _, _, _ => none
 | k + 1, a0, a1, a3, x29, x32 => (if x29 < a3 then (if (x32.length : Int) + (([({ Kind := 1, At := 0, Line := 0, N := 1, Fault := 0, B := ([] : List Int) } : api_Op)] : List api_Op)).length ≤ 1099511627776 then (signalmanlaw25_SignalSplits.l4 k a0 a1 a3 (w64 (x29 + 1)) (x32 ++ ([({ Kind := 1, At := 0, Line := 0, N := 1, Fault := 0, B := ([] : List Int) } : api_Op)] : List api_Op))) else none) else (if (([] : List api_Op).length : Int) + a1.length ≤ 1099511627776 then (if ((([] : List api_Op) ++ a1).length : Int) + (([({ Kind := 1, At := 0, Line := 0, N := a3, Fault := 0, B := ([] : List Int) } : api_Op)] : List api_Op)).length ≤ 1099511627776 then ((signalman_Play.f k a0 ((([] : List api_Op) ++ a1) ++ ([({ Kind := 1, At := 0, Line := 0, N := a3, Fault := 0, B := ([] : List Int) } : api_Op)] : List api_Op))).bind fun t71 => (signalmanlaw25_SignalSplits.j5 k a0 a1 x32 t71.1)) else none) else none))
def signalmanlaw25_SignalSplits.j5 (k : Nat) (a0 : api_Config) (a1 : List api_Op) (x32 : List api_Op) (x45 : List api_Event) : Option Bool := (if (([] : List api_Op).length : Int) + a1.length ≤ 1099511627776 then (if ((([] : List api_Op) ++ a1).length : Int) + x32.length ≤ 1099511627776 then ((signalman_Play.f k a0 ((([] : List api_Op) ++ a1) ++ x32)).bind fun t56 => ((signalmanref20_SameEvents.f k x45 t56.1).bind fun t58 => some t58)) else none) else none)
def signalmanlaw25_SignalSplits.j3 (k : Nat) (a0 : api_Config) (a1 : List api_Op) (a3 : Int) (x24 : Bool) : Option Bool := (if x24 = true then some false else (signalmanlaw25_SignalSplits.l4 k a0 a1 a3 0 ([] : List api_Op)))
def signalmanlaw25_SignalSplits.j2 (k : Nat) (a0 : api_Config) (a1 : List api_Op) (a3 : Int) (x12 : List api_Event) (x19 : List api_Event) : Option Bool := (if (x12.length : Int) > (x19.length : Int) then (signalmanlaw25_SignalSplits.j3 k a0 a1 a3 true) else (if 0 ≤ (0 : Int) ∧ (0 : Int) ≤ (x12.length : Int) ∧ (x12.length : Int) ≤ (x19.length : Int) then ((signalmanref20_SameEvents.f k x12 (cut x19 (0 : Int) (x12.length : Int))).bind fun t86 => (signalmanlaw25_SignalSplits.j3 k a0 a1 a3 (!t86))) else none))
def signalmanlaw25_SignalSplits.j1 (k : Nat) (a0 : api_Config) (a1 : List api_Op) (a2 : List api_Op) (a3 : Int) (x12 : List api_Event) : Option Bool := (if (([] : List api_Op).length : Int) + a1.length ≤ 1099511627776 then (if ((([] : List api_Op) ++ a1).length : Int) + (([({ Kind := 1, At := 0, Line := 0, N := 1, Fault := 0, B := ([] : List Int) } : api_Op)] : List api_Op)).length ≤ 1099511627776 then (if (((([] : List api_Op) ++ a1) ++ ([({ Kind := 1, At := 0, Line := 0, N := 1, Fault := 0, B := ([] : List Int) } : api_Op)] : List api_Op)).length : Int) + a2.length ≤ 1099511627776 then ((signalman_Play.f k a0 (((([] : List api_Op) ++ a1) ++ ([({ Kind := 1, At := 0, Line := 0, N := 1, Fault := 0, B := ([] : List Int) } : api_Op)] : List api_Op)) ++ a2)).bind fun t102 => (signalmanlaw25_SignalSplits.j2 k a0 a1 a3 x12 t102.1)) else none) else none) else none)
def signalmanlaw25_SignalSplits.j0 (k : Nat) (a0 : api_Config) (a1 : List api_Op) (a2 : List api_Op) (a3 : Int) (t2 : Bool) (x7 : Bool) : Option Bool := (if x7 = true then some t2 else (if (([] : List api_Op).length : Int) + a1.length ≤ 1099511627776 then (if ((([] : List api_Op) ++ a1).length : Int) + (([({ Kind := 1, At := 0, Line := 0, N := 1, Fault := 0, B := ([] : List Int) } : api_Op)] : List api_Op)).length ≤ 1099511627776 then ((signalman_Play.f k a0 ((([] : List api_Op) ++ a1) ++ ([({ Kind := 1, At := 0, Line := 0, N := 1, Fault := 0, B := ([] : List Int) } : api_Op)] : List api_Op))).bind fun t129 => (signalmanlaw25_SignalSplits.j1 k a0 a1 a2 a3 t129.1)) else none) else none))
end
def signalmanlaw25_SignalSplits.f (k : Nat) (a0 : api_Config) (a1 : List api_Op) (a2 : List api_Op) (a3 : Int) : Option Bool := ((signalmanlaw25_alive.f k ).bind fun t2 => (if t2 = true then ((signalmanlaw25_Few.f k a1).bind fun t143 => (if t143 = true then ((signalmanlaw25_Few.f k a2).bind fun t146 => (if t146 = true then (if a3 < 0 then (signalmanlaw25_SignalSplits.j0 k a0 a1 a2 a3 t2 true) else (signalmanlaw25_SignalSplits.j0 k a0 a1 a2 a3 t2 (decide (a3 > 300)))) else (signalmanlaw25_SignalSplits.j0 k a0 a1 a2 a3 t2 true))) else (signalmanlaw25_SignalSplits.j0 k a0 a1 a2 a3 t2 true))) else (signalmanlaw25_SignalSplits.j0 k a0 a1 a2 a3 t2 true)))
theorem signalmanlaw25_SignalSplits.calls {k : Nat} {a0 : api_Config} {a1 : List api_Op} {a2 : List api_Op} {a3 : Int} {R : As} {w0 w : World} {sa1 : Option Addr} {sc1 : Nat} {sd1 : List Value} {sa2 : Option Addr} {sc2 : Nat} {sd2 : List Value} {r : Bool} (H : signalmanlaw25_SignalSplits.f k a0 a1 a2 a3 = some r) (HS : Sep.St [R] w0 w) (hr1 : rdC R 6 (.slice sa1 a1.length sc1) a1.length sd1) (ht1 : ∀ h, R h → tie api_Op.El sd1 a1 h) (hr2 : rdC R 6 (.slice sa2 a2.length sc2) a2.length sd2) (ht2 : ∀ h, R h → tie api_Op.El sd2 a2 h) : Calls Tryz.prog 5 #[Value.agg #[vi a0.Mode, vi a0.Modulus, vi a0.Window, vi a0.T1, vi a0.N2, vi a0.Hold, vi a0.Wait, vi a0.Keep, vi a0.Queue, vi a0.Size, vi a0.Ring, vi a0.Rate, vi a0.Bad, vi a0.Good, vb a0.Revert, vb a0.Wide], vs sa1 a1.length sc1, vs sa2 a2.length sc2, vi a3] w (Ret fun u w => u = vb r ∧ Sep.St [R] w0 w) := by
 unfold signalmanlaw25_SignalSplits.f at H
 refine calls_enter func5 rfl rfl ?_
 have H : _ = some r := H
 have HS := St.more 1 (St.more 0 HS rfl ht1 tie.pers) rfl ht2 tie.pers
 refine go ?_
 refine W.e (Y.box HS rfl) rfl ?_
 rintro _ w ⟨nb1, rfl, HS⟩
 refine go ?_
 refine W.kl H func12 (fun _ h => signalmanlaw25_alive.calls h HS.j0) ?_
 rintro t2 _ w H ⟨rfl, HS⟩
 have HS := HS.o0
 refine gs ?_
 refine V.seq ?_
 refine V.meet (σ := Bool) (fun x7 w => Sep.St [api_Config.at nb1 a0, tie api_Op.El sd2 a2, tie api_Op.El sd1 a1, R] w0 w ∧ ∃ kf8, kf8 ≤ k ∧ signalmanlaw25_SignalSplits.j0 kf8 a0 a1 a2 a3 t2 x7 = some r) (fun x7 => [(1, vs sa1 a1.length sc1), (2, vs sa2 a2.length sc2), (3, vi a3), (4, pt nb1), (9, vb t2), (40, vb x7)]) ?_ ?_
 ·refine go ?_
  refine W.cx 23 H rfl (fun _ H => ?_) (fun _ H => ?_)
  ·refine go ?_
   refine W.kl H func16 (fun _ h => signalmanlaw25_Few.calls h HS.j0 (rdC.part 3 hr1 rfl) (fun h hh => let ⟨_, l, t⟩ := Sp.has 2 hh rfl; tie.mono t l)) ?_
   rintro _ _ w H ⟨rfl, HS⟩
   have HS := HS.o0
   refine go ?_
   refine W.cx 28 H rfl (fun _ H => ?_) (fun _ H => ?_)
   ·refine go ?_
    refine W.kl H func16 (fun _ h => signalmanlaw25_Few.calls h HS.j0 (rdC.part 3 hr2 rfl) (fun h hh => let ⟨_, l, t⟩ := Sp.has 1 hh rfl; tie.mono t l)) ?_
    rintro _ _ w H ⟨rfl, HS⟩
    have HS := HS.o0
    refine go ?_
    refine W.cx 33 H rfl (fun _ H => ?_) (fun _ H => ?_)
    ·refine go ?_
     refine W.cd 37 H rfl (fun _ H => ?_) (fun _ H => ?_)
     ·refine go ?_
      have HS := api_Config.close tv HS
      exact At.mt _ ⟨HS, k, by omega, H⟩
     ·refine go ?_
      have HS := api_Config.close tv HS
      exact At.mt _ ⟨HS, k, by omega, H⟩
    ·refine go ?_
     have HS := api_Config.close tv HS
     exact At.mt _ ⟨HS, k, by omega, H⟩
   ·refine go ?_
    have HS := api_Config.close tv HS
    exact At.mt _ ⟨HS, k, by omega, H⟩
  ·refine go ?_
   have HS := api_Config.close tv HS
   exact At.mt _ ⟨HS, k, by omega, H⟩
 ·rintro x7 w ⟨HS, kf8, _, H⟩
  unfold signalmanlaw25_SignalSplits.j0 at H
  refine V.cv H rfl (fun _ H => ?_) (fun _ H => ?_)
  ·refine go ?_
   have HS := HS.ke [3]
   exact rt
  ·refine gs ?_
   refine V.meet (σ := Option Addr × Nat × List Value × List api_Event) (fun (ra10, rc11, rd13, x12) w => Sep.St [row 56 4 (.slice ra10 x12.length rc11) x12.length rd13, tie api_Event.El rd13 x12, api_Config.at nb1 a0, tie api_Op.El sd2 a2, tie api_Op.El sd1 a1, R] w0 w ∧ ∃ kf14, kf14 ≤ kf8 ∧ signalmanlaw25_SignalSplits.j1 kf14 a0 a1 a2 a3 x12 = some r) (fun (ra10, rc11, rd13, x12) => [(1, vs sa1 a1.length sc1), (2, vs sa2 a2.length sc2), (3, vi a3), (4, pt nb1), (10, vs ra10 x12.length rc11)]) ?_ ?_
   ·obtain ⟨_, HS⟩ := api_Config.open HS
    apply V.da [2, 4, 5, 6] [7, 8, 9, 10, 11] [(43, _), (44, _), (46, _)] mo HS
    rfl
    refine T.two rfl rfl ⟨.n1 4 rfl rfl (fun w HS => X.loadSt 0 [vi a0.Mode, vi a0.Modulus, vi a0.Window, vi a0.T1, vi a0.N2, vi a0.Hold, vi a0.Wait, vi a0.Keep, vi a0.Queue, vi a0.Size, vi a0.Ring, vi a0.Rate, vi a0.Bad, vi a0.Good, vb a0.Revert, vb a0.Wide] HS rfl underlying24 rfl inf24 rfl rfl), .mv 1, .n0 (fun w HS => X.bd (Value.agg #[vi (1), vi (0), vi (0), vi (1), vi (0), vs none 0 0]) rfl (fun _ => by kernel_rfl)), tv⟩ (T.step (es := [4, 5, 6]) _ [(44, vs sa1 a1.length sc1)] rfl ⟨.inr ⟨rfl, rfl⟩, tv⟩ (Or.inl rfl) (by intro d hd; cases hd; exact ⟨by decide, rfl, rfl⟩) [7, 8, 9, 10, 11] [1] rfl rfl rfl rfl rfl (fun w HS => ?_)) (T.step (es := [2, 5, 6]) _ [(46, Value.agg #[vi (1), vi (0), vi (0), vi (1), vi (0), vs none 0 0])] rfl ⟨.inr ⟨rfl, rfl⟩, tv⟩ (Or.inl rfl) (by intro d hd; cases hd; exact ⟨by decide, rfl, rfl⟩) [7, 8, 9, 10, 11] [3] rfl rfl rfl rfl rfl (fun w HS => ?_))
    ·have HS : Sep.St [blk nb1 (#[vi a0.Mode, vi a0.Modulus, vi a0.Window, vi a0.T1, vi a0.N2, vi a0.Hold, vi a0.Wait, vi a0.Keep, vi a0.Queue, vi a0.Size, vi a0.Ring, vi a0.Rate, vi a0.Bad, vi a0.Good, vb a0.Revert, vb a0.Wide]) 24, tie api_Op.El sd2 a2, tie api_Op.El sd1 a1, R] w0 w := HS
     obtain ⟨_, H⟩ := ite_n H
     have HS := row_nilE api_Op.El 29 6 HS
     have HS : Sep.St [row 29 6 (.slice none ([] : List api_Op).length 0) ([] : List api_Op).length ([]), tie api_Op.El ([]) ([] : List api_Op), blk nb1 (#[vi a0.Mode, vi a0.Modulus, vi a0.Window, vi a0.T1, vi a0.N2, vi a0.Hold, vi a0.Wait, vi a0.Keep, vi a0.Queue, vi a0.Size, vi a0.Ring, vi a0.Rate, vi a0.Bad, vi a0.Good, vb a0.Revert, vb a0.Wide]) 24, tie api_Op.El sd2 a2, tie api_Op.El sd1 a1, R] w0 w := HS
     refine ⟨_, Y.app (xs := ([] : List api_Op)) (ys := a1) 0 underlying30 ap29 rfl (by decide) HS rfl rfl rfl (rdC.at 5 hr1 HS rfl) (St.tie_one 4 HS rfl) (by omega) (by omega), ?_⟩
     rintro _ w ⟨_, _, rfl, HS⟩
     have HS := St.tie_app 4 (HS.fr 1) rfl
     refine T.nw HS ?_
     refine T.e [46] [7, 8, 9, 10, 11] [3] (fun w HS => ?_) ⟨rd, .n0 (fun w HS => X.bd (Value.agg #[vi (1), vi (0), vi (0), vi (1), vi (0), vs none 0 0]) rfl (fun _ => by kernel_rfl)), rds⟩
     have HS := St.row_freeze (row_nilF (Value.int .u8) 5 1 HS)
     refine ⟨_, Y.lc (e := 29) (sz := 6) [vi (1), vi (0), vi (0), vi (1), vi (0), vs none ([] : List Int).length 0] HS rfl rfl (fun _ => by kernel_rfl), ?_⟩
     rintro _ w ⟨_, rfl, HS⟩
     have HS := St.tie_cons (((api_Op.pack (x := ({ Kind := 1, At := 0, Line := 0, N := 1, Fault := 0, B := ([] : List Int) } : api_Op)) ((St.put (A := tie api_Op.El ([]) ([] : List api_Op)) (fun _ => tie.nil) HS).more 2 rfl (fun _ t => t) fsl.pers)).fr 1).fr 1)
     refine T.nw HS ?_
     refine T.e [45, 47] [7, 8, 9, 10, 11] [] fun w HS => ?_
     obtain ⟨_, H⟩ := ite_n H
     refine ⟨_, Y.app (xs := ([] : List api_Op) ++ a1) (ys := ([({ Kind := 1, At := 0, Line := 0, N := 1, Fault := 0, B := ([] : List Int) } : api_Op)] : List api_Op)) 4 underlying30 ap29 rfl (by decide) HS rfl rfl rfl (rdC.at 1 row_rd HS rfl) (St.tie_one 0 HS rfl) (by omega) (by omega), ?_⟩
     rintro _ w ⟨_, _, rfl, HS⟩
     have HS := St.tie_app 1 (HS.fr 3) rfl
     refine T.nw HS ?_
     refine T.e [43, 48] [] [0] fun w HS => ?_
     refine Y.kl H func17 (fun _ h => signalman_Play.calls h HS.j0 (rdC.part 4 row_rd rfl) (fun h hh => let ⟨_, l, t⟩ := Sp.has 0 hh rfl; tie.mono t l)) ?_
     rintro _ _ w H ⟨_, _, _, _, _, rfl, HS⟩
     have HS := HS.o3
     apply T.na [(49, _), (42, _), (50, _), (51, _), (10, _), (11, _)] HS
     exact nmk
     refine T.ff [1, 2, 3, 4, 10] fun w HS => ?_
     have HS := (api_Config.close tv (HS.b [8])).ke [1, 1, 0, 6, 6, 6]
     exact At.mt (_, _, _, _) ⟨HS, kf8, by omega, H⟩
    ·have HS : Sep.St [blk nb1 (#[vi a0.Mode, vi a0.Modulus, vi a0.Window, vi a0.T1, vi a0.N2, vi a0.Hold, vi a0.Wait, vi a0.Keep, vi a0.Queue, vi a0.Size, vi a0.Ring, vi a0.Rate, vi a0.Bad, vi a0.Good, vb a0.Revert, vb a0.Wide]) 24, tie api_Op.El sd2 a2, tie api_Op.El sd1 a1, R] w0 w := HS
     have HS := St.row_freeze (row_nilF (Value.int .u8) 5 1 HS)
     refine ⟨_, Y.lc (e := 29) (sz := 6) [vi (1), vi (0), vi (0), vi (1), vi (0), vs none ([] : List Int).length 0] HS rfl rfl (fun _ => by kernel_rfl), ?_⟩
     rintro _ w ⟨lb131, rfl, HS⟩
     have HS := St.tie_cons (((api_Op.pack (x := ({ Kind := 1, At := 0, Line := 0, N := 1, Fault := 0, B := ([] : List Int) } : api_Op)) ((St.put (A := tie api_Op.El ([]) ([] : List api_Op)) (fun _ => tie.nil) HS).more 2 rfl (fun _ t => t) fsl.pers)).fr 1).fr 1)
     refine T.nw HS ?_
     refine T.e [44] [7, 8, 9, 10, 11] [1] fun w HS => ?_
     obtain ⟨_, H⟩ := ite_n H
     have HS := row_nilE api_Op.El 29 6 HS
     have HS : Sep.St [row 29 6 (.slice none ([] : List api_Op).length 0) ([] : List api_Op).length ([]), tie api_Op.El ([]) ([] : List api_Op), tie api_Op.El ([vi (1), vi (0), vi (0), vi (1), vi (0), vs none ([] : List Int).length 0]) (([({ Kind := 1, At := 0, Line := 0, N := 1, Fault := 0, B := ([] : List Int) } : api_Op)] : List api_Op)), row 29 6 (.slice (some ⟨lb131, 0, none⟩) (([({ Kind := 1, At := 0, Line := 0, N := 1, Fault := 0, B := ([] : List Int) } : api_Op)] : List api_Op)).length 1) (([({ Kind := 1, At := 0, Line := 0, N := 1, Fault := 0, B := ([] : List Int) } : api_Op)] : List api_Op)).length ([vi (1), vi (0), vi (0), vi (1), vi (0), vs none ([] : List Int).length 0]), fsl 1 (.slice none ([] : List Int).length 0) ([] : List Int).length (([] : List Int).map (Value.int .u8)), blk nb1 (#[vi a0.Mode, vi a0.Modulus, vi a0.Window, vi a0.T1, vi a0.N2, vi a0.Hold, vi a0.Wait, vi a0.Keep, vi a0.Queue, vi a0.Size, vi a0.Ring, vi a0.Rate, vi a0.Bad, vi a0.Good, vb a0.Revert, vb a0.Wide]) 24, tie api_Op.El sd2 a2, tie api_Op.El sd1 a1, R] w0 w := HS
     refine ⟨_, Y.app (xs := ([] : List api_Op)) (ys := a1) 0 underlying30 ap29 rfl (by decide) HS rfl rfl rfl (rdC.at 8 hr1 HS rfl) (St.tie_one 7 HS rfl) (by omega) (by omega), ?_⟩
     rintro _ w ⟨_, _, rfl, HS⟩
     have HS := St.tie_app 7 (HS.fr 1) rfl
     refine T.nw HS ?_
     refine T.e [45, 47] [7, 8, 9, 10, 11] [] fun w HS => ?_
     obtain ⟨_, H⟩ := ite_n H
     refine ⟨_, Y.app (xs := ([] : List api_Op) ++ a1) (ys := ([({ Kind := 1, At := 0, Line := 0, N := 1, Fault := 0, B := ([] : List Int) } : api_Op)] : List api_Op)) 1 underlying30 ap29 rfl (by decide) HS rfl rfl rfl (rdC.at 3 row_rd HS rfl) (St.tie_one 2 HS rfl) (by omega) (by omega), ?_⟩
     rintro _ w ⟨_, _, rfl, HS⟩
     have HS := St.tie_app 2 HS rfl
     refine T.nw HS ?_
     refine T.e [43, 48] [] [0] fun w HS => ?_
     refine Y.kl H func17 (fun _ h => signalman_Play.calls h HS.j0 (rdC.part 1 row_rd rfl) (fun h hh => let ⟨_, l, t⟩ := Sp.has 0 hh rfl; tie.mono t l)) ?_
     rintro _ _ w H ⟨_, _, _, _, _, rfl, HS⟩
     have HS := HS.o3
     apply T.na [(49, _), (42, _), (50, _), (51, _), (10, _), (11, _)] HS
     exact nmk
     refine T.ff [1, 2, 3, 4, 10] fun w HS => ?_
     have HS := (api_Config.close tv (HS.b [8])).ke [1, 1, 0, 6, 6, 6]
     exact At.mt (_, _, _, _) ⟨HS, kf8, by omega, H⟩
   ·rintro ⟨ra10, rc11, rd13, x12⟩ w ⟨HS, kf14, _, H⟩
    unfold signalmanlaw25_SignalSplits.j1 at H
    refine V.meet (σ := Option Addr × Nat × List Value × List api_Event) (fun (ra17, rc18, rd20, x19) w => Sep.St [row 56 4 (.slice ra17 x19.length rc18) x19.length rd20, tie api_Event.El rd20 x19, row 56 4 (.slice ra10 x12.length rc11) x12.length rd13, tie api_Event.El rd13 x12, api_Config.at nb1 a0, tie api_Op.El sd2 a2, tie api_Op.El sd1 a1, R] w0 w ∧ ∃ kf21, kf21 ≤ kf14 ∧ signalmanlaw25_SignalSplits.j2 kf21 a0 a1 a3 x12 x19 = some r) (fun (ra17, rc18, rd20, x19) => [(1, vs sa1 a1.length sc1), (3, vi a3), (4, pt nb1), (10, vs ra10 x12.length rc11), (12, vs ra17 x19.length rc18)]) ?_ ?_
    ·have HS := HS.fr 2
     obtain ⟨_, HS⟩ := api_Config.open HS
     apply V.da [2, 4, 5, 7, 8] [9, 10, 11, 12, 13] [(53, _), (54, _), (56, _), (59, _)] mo HS
     rfl
     refine T.two rfl rfl ⟨.n1 4 rfl rfl (fun w HS => X.loadSt 0 [vi a0.Mode, vi a0.Modulus, vi a0.Window, vi a0.T1, vi a0.N2, vi a0.Hold, vi a0.Wait, vi a0.Keep, vi a0.Queue, vi a0.Size, vi a0.Ring, vi a0.Rate, vi a0.Bad, vi a0.Good, vb a0.Revert, vb a0.Wide] HS rfl underlying24 rfl inf24 rfl rfl), .mv 1, .n0 (fun w HS => X.bd (Value.agg #[vi (1), vi (0), vi (0), vi (1), vi (0), vs none 0 0]) rfl (fun _ => by kernel_rfl)), .mv 2, tv⟩ (T.step (es := [4, 5, 7, 8]) _ [(54, vs sa1 a1.length sc1)] rfl ⟨.inr ⟨rfl, rfl⟩, tv⟩ (Or.inl rfl) (by intro d hd; cases hd; exact ⟨by decide, rfl, rfl⟩) [9, 10, 11, 12, 13] [1] rfl rfl rfl rfl rfl (fun w HS => ?_)) (T.step (es := [2, 5, 7, 8]) _ [(56, Value.agg #[vi (1), vi (0), vi (0), vi (1), vi (0), vs none 0 0])] rfl ⟨.inr ⟨rfl, rfl⟩, tv⟩ (Or.inl rfl) (by intro d hd; cases hd; exact ⟨by decide, rfl, rfl⟩) [9, 10, 11, 12, 13] [3] rfl rfl rfl rfl rfl (fun w HS => ?_))
     ·have HS : Sep.St [blk nb1 (#[vi a0.Mode, vi a0.Modulus, vi a0.Window, vi a0.T1, vi a0.N2, vi a0.Hold, vi a0.Wait, vi a0.Keep, vi a0.Queue, vi a0.Size, vi a0.Ring, vi a0.Rate, vi a0.Bad, vi a0.Good, vb a0.Revert, vb a0.Wide]) 24, row 56 4 (.slice ra10 x12.length rc11) x12.length rd13, tie api_Event.El rd13 x12, tie api_Op.El sd2 a2, tie api_Op.El sd1 a1, R] w0 w := HS
      obtain ⟨_, H⟩ := ite_n H
      have HS := row_nilE api_Op.El 29 6 HS
      have HS : Sep.St [row 29 6 (.slice none ([] : List api_Op).length 0) ([] : List api_Op).length ([]), tie api_Op.El ([]) ([] : List api_Op), blk nb1 (#[vi a0.Mode, vi a0.Modulus, vi a0.Window, vi a0.T1, vi a0.N2, vi a0.Hold, vi a0.Wait, vi a0.Keep, vi a0.Queue, vi a0.Size, vi a0.Ring, vi a0.Rate, vi a0.Bad, vi a0.Good, vb a0.Revert, vb a0.Wide]) 24, row 56 4 (.slice ra10 x12.length rc11) x12.length rd13, tie api_Event.El rd13 x12, tie api_Op.El sd2 a2, tie api_Op.El sd1 a1, R] w0 w := HS
      refine ⟨_, Y.app (xs := ([] : List api_Op)) (ys := a1) 0 underlying30 ap29 rfl (by decide) HS rfl rfl rfl (rdC.at 7 hr1 HS rfl) (St.tie_one 6 HS rfl) (by omega) (by omega), ?_⟩
      rintro _ w ⟨_, _, rfl, HS⟩
      have HS := St.tie_app 6 (HS.fr 1) rfl
      refine T.nw HS ?_
      refine T.e [56] [9, 10, 11, 12, 13] [3] (fun w HS => ?_) ⟨rd, .n0 (fun w HS => X.bd (Value.agg #[vi (1), vi (0), vi (0), vi (1), vi (0), vs none 0 0]) rfl (fun _ => by kernel_rfl)), rds⟩
      have HS := St.row_freeze (row_nilF (Value.int .u8) 5 1 HS)
      refine ⟨_, Y.lc (e := 29) (sz := 6) [vi (1), vi (0), vi (0), vi (1), vi (0), vs none ([] : List Int).length 0] HS rfl rfl (fun _ => by kernel_rfl), ?_⟩
      rintro _ w ⟨_, rfl, HS⟩
      have HS := St.tie_cons (((api_Op.pack (x := ({ Kind := 1, At := 0, Line := 0, N := 1, Fault := 0, B := ([] : List Int) } : api_Op)) ((St.put (A := tie api_Op.El ([]) ([] : List api_Op)) (fun _ => tie.nil) HS).more 2 rfl (fun _ t => t) fsl.pers)).fr 1).fr 1)
      refine T.nw HS ?_
      refine T.e [55, 57] [9, 10, 11, 12, 13] [] fun w HS => ?_
      obtain ⟨_, H⟩ := ite_n H
      refine ⟨_, Y.app (xs := ([] : List api_Op) ++ a1) (ys := ([({ Kind := 1, At := 0, Line := 0, N := 1, Fault := 0, B := ([] : List Int) } : api_Op)] : List api_Op)) 4 underlying30 ap29 rfl (by decide) HS rfl rfl rfl (rdC.at 1 row_rd HS rfl) (St.tie_one 0 HS rfl) (by omega) (by omega), ?_⟩
      rintro _ w ⟨_, _, rfl, HS⟩
      have HS := St.tie_app 1 (HS.fr 3) rfl
      refine T.nw HS ?_
      refine T.e [58, 59] [9, 10, 11, 12, 13] [6] fun w HS => ?_
      obtain ⟨_, H⟩ := ite_n H
      refine ⟨_, Y.app (xs := (([] : List api_Op) ++ a1) ++ ([({ Kind := 1, At := 0, Line := 0, N := 1, Fault := 0, B := ([] : List Int) } : api_Op)] : List api_Op)) (ys := a2) 4 underlying30 ap29 rfl (by decide) HS rfl rfl rfl (rdC.at 10 hr2 HS rfl) (St.tie_one 8 HS rfl) (by omega) (by omega), ?_⟩
      rintro _ w ⟨_, _, rfl, HS⟩
      have HS := St.tie_app 8 HS rfl
      refine T.nw HS ?_
      refine T.e [53, 60] [] [0] fun w HS => ?_
      refine Y.kl H func17 (fun _ h => signalman_Play.calls h HS.j0 (rdC.part 4 row_rd rfl) (fun h hh => let ⟨_, l, t⟩ := Sp.has 0 hh rfl; tie.mono t l)) ?_
      rintro _ _ w H ⟨_, _, _, _, _, rfl, HS⟩
      have HS := HS.o3
      apply T.na [(61, _), (52, _), (62, _), (63, _), (12, _), (13, _)] HS
      exact nmk
      refine T.ff [1, 3, 4, 10, 12] fun w HS => ?_
      have HS := (api_Config.close tv (HS.b [8])).ke [1, 1, 7, 7, 0, 6, 6, 6]
      exact At.mt (_, _, _, _) ⟨HS, kf14, by omega, H⟩
     ·have HS : Sep.St [blk nb1 (#[vi a0.Mode, vi a0.Modulus, vi a0.Window, vi a0.T1, vi a0.N2, vi a0.Hold, vi a0.Wait, vi a0.Keep, vi a0.Queue, vi a0.Size, vi a0.Ring, vi a0.Rate, vi a0.Bad, vi a0.Good, vb a0.Revert, vb a0.Wide]) 24, row 56 4 (.slice ra10 x12.length rc11) x12.length rd13, tie api_Event.El rd13 x12, tie api_Op.El sd2 a2, tie api_Op.El sd1 a1, R] w0 w := HS
      have HS := St.row_freeze (row_nilF (Value.int .u8) 5 1 HS)
      refine ⟨_, Y.lc (e := 29) (sz := 6) [vi (1), vi (0), vi (0), vi (1), vi (0), vs none ([] : List Int).length 0] HS rfl rfl (fun _ => by kernel_rfl), ?_⟩
      rintro _ w ⟨lb104, rfl, HS⟩
      have HS := St.tie_cons (((api_Op.pack (x := ({ Kind := 1, At := 0, Line := 0, N := 1, Fault := 0, B := ([] : List Int) } : api_Op)) ((St.put (A := tie api_Op.El ([]) ([] : List api_Op)) (fun _ => tie.nil) HS).more 2 rfl (fun _ t => t) fsl.pers)).fr 1).fr 1)
      refine T.nw HS ?_
      refine T.e [54] [9, 10, 11, 12, 13] [1] fun w HS => ?_
      obtain ⟨_, H⟩ := ite_n H
      have HS := row_nilE api_Op.El 29 6 HS
      have HS : Sep.St [row 29 6 (.slice none ([] : List api_Op).length 0) ([] : List api_Op).length ([]), tie api_Op.El ([]) ([] : List api_Op), tie api_Op.El ([vi (1), vi (0), vi (0), vi (1), vi (0), vs none ([] : List Int).length 0]) (([({ Kind := 1, At := 0, Line := 0, N := 1, Fault := 0, B := ([] : List Int) } : api_Op)] : List api_Op)), row 29 6 (.slice (some ⟨lb104, 0, none⟩) (([({ Kind := 1, At := 0, Line := 0, N := 1, Fault := 0, B := ([] : List Int) } : api_Op)] : List api_Op)).length 1) (([({ Kind := 1, At := 0, Line := 0, N := 1, Fault := 0, B := ([] : List Int) } : api_Op)] : List api_Op)).length ([vi (1), vi (0), vi (0), vi (1), vi (0), vs none ([] : List Int).length 0]), fsl 1 (.slice none ([] : List Int).length 0) ([] : List Int).length (([] : List Int).map (Value.int .u8)), blk nb1 (#[vi a0.Mode, vi a0.Modulus, vi a0.Window, vi a0.T1, vi a0.N2, vi a0.Hold, vi a0.Wait, vi a0.Keep, vi a0.Queue, vi a0.Size, vi a0.Ring, vi a0.Rate, vi a0.Bad, vi a0.Good, vb a0.Revert, vb a0.Wide]) 24, row 56 4 (.slice ra10 x12.length rc11) x12.length rd13, tie api_Event.El rd13 x12, tie api_Op.El sd2 a2, tie api_Op.El sd1 a1, R] w0 w := HS
      refine ⟨_, Y.app (xs := ([] : List api_Op)) (ys := a1) 0 underlying30 ap29 rfl (by decide) HS rfl rfl rfl (rdC.at 10 hr1 HS rfl) (St.tie_one 9 HS rfl) (by omega) (by omega), ?_⟩
      rintro _ w ⟨_, _, rfl, HS⟩
      have HS := St.tie_app 9 (HS.fr 1) rfl
      refine T.nw HS ?_
      refine T.e [55, 57] [9, 10, 11, 12, 13] [] fun w HS => ?_
      obtain ⟨_, H⟩ := ite_n H
      refine ⟨_, Y.app (xs := ([] : List api_Op) ++ a1) (ys := ([({ Kind := 1, At := 0, Line := 0, N := 1, Fault := 0, B := ([] : List Int) } : api_Op)] : List api_Op)) 1 underlying30 ap29 rfl (by decide) HS rfl rfl rfl (rdC.at 3 row_rd HS rfl) (St.tie_one 2 HS rfl) (by omega) (by omega), ?_⟩
      rintro _ w ⟨_, _, rfl, HS⟩
      have HS := St.tie_app 2 HS rfl
      refine T.nw HS ?_
      refine T.e [58, 59] [9, 10, 11, 12, 13] [6] fun w HS => ?_
      obtain ⟨_, H⟩ := ite_n H
      refine ⟨_, Y.app (xs := (([] : List api_Op) ++ a1) ++ ([({ Kind := 1, At := 0, Line := 0, N := 1, Fault := 0, B := ([] : List Int) } : api_Op)] : List api_Op)) (ys := a2) 1 underlying30 ap29 rfl (by decide) HS rfl rfl rfl (rdC.at 10 hr2 HS rfl) (St.tie_one 8 HS rfl) (by omega) (by omega), ?_⟩
      rintro _ w ⟨_, _, rfl, HS⟩
      have HS := St.tie_app 8 HS rfl
      refine T.nw HS ?_
      refine T.e [53, 60] [] [0] fun w HS => ?_
      refine Y.kl H func17 (fun _ h => signalman_Play.calls h HS.j0 (rdC.part 1 row_rd rfl) (fun h hh => let ⟨_, l, t⟩ := Sp.has 0 hh rfl; tie.mono t l)) ?_
      rintro _ _ w H ⟨_, _, _, _, _, rfl, HS⟩
      have HS := HS.o3
      apply T.na [(61, _), (52, _), (62, _), (63, _), (12, _), (13, _)] HS
      exact nmk
      refine T.ff [1, 3, 4, 10, 12] fun w HS => ?_
      have HS := (api_Config.close tv (HS.b [8])).ke [1, 1, 7, 7, 0, 6, 6, 6]
      exact At.mt (_, _, _, _) ⟨HS, kf14, by omega, H⟩
    ·rintro ⟨ra17, rc18, rd20, x19⟩ w ⟨HS, kf21, _, H⟩
     unfold signalmanlaw25_SignalSplits.j2 at H
     refine V.seq ?_
     refine V.meet (σ := Bool) (fun x24 w => Sep.St [row 56 4 (.slice ra17 x19.length rc18) x19.length rd20, tie api_Event.El rd20 x19, row 56 4 (.slice ra10 x12.length rc11) x12.length rd13, tie api_Event.El rd13 x12, api_Config.at nb1 a0, tie api_Op.El sd2 a2, tie api_Op.El sd1 a1, R] w0 w ∧ ∃ kf25, kf25 ≤ kf21 ∧ signalmanlaw25_SignalSplits.j3 kf25 a0 a1 a3 x24 = some r) (fun x24 => [(1, vs sa1 a1.length sc1), (3, vi a3), (4, pt nb1), (77, vb x24)]) ?_ ?_
     ·refine go ?_
      refine W.cd 69 H rfl (fun _ H => ?_) (fun _ H => ?_)
      ·refine go ?_
       exact At.mt _ ⟨HS, kf21, by omega, H⟩
      ·refine go ?_
       obtain ⟨c85, H⟩ := ite_n H
       refine W.r (X.slH underlying39 inf56 rfl rfl c85 (rdC.at 0 row_rd HS rfl).cap) rfl ?_
       refine go ?_
       have HS := St.tie_cut2 1 (0 : Int) (x12.length : Int) HS rfl
       refine W.kl H func19 (fun _ h => signalmanref20_SameEvents.calls h HS.j0 (rdC.part 3 row_rd rfl) (fun h hh => let ⟨_, l, t⟩ := Sp.has 4 hh rfl; tie.mono t l) (rdC.part 1 (rdC.sub row_rd c85) rfl) (fun h hh => let ⟨_, l, t⟩ := Sp.has 0 hh rfl; tie.mono t l)) ?_
       rintro _ _ w H ⟨rfl, HS⟩
       have HS := HS.o0
       refine go ?_
       have HS := HS.ke [1, 1, 1, 1, 1, 1, 1, 1]
       exact At.mt _ ⟨HS, kf21, by omega, H⟩
     ·rintro x24 w ⟨HS, kf25, _, H⟩
      unfold signalmanlaw25_SignalSplits.j3 at H
      refine V.cv H rfl (fun _ H => ?_) (fun _ H => ?_)
      ·refine go ?_
       have HS := HS.ke [7]
       exact rt
      ·refine go ?_
       have HS := row_nilE api_Op.El 29 6 HS
       refine V.lp (σ := Int × Option Addr × Nat × List Value × List api_Op) (fun kq (x29, ra30, rc31, rd33, x32) w => Sep.St [row 29 6 (.slice ra30 x32.length rc31) x32.length rd33, tie api_Op.El rd33 x32, row 56 4 (.slice ra17 x19.length rc18) x19.length rd20, tie api_Event.El rd20 x19, row 56 4 (.slice ra10 x12.length rc11) x12.length rd13, tie api_Event.El rd13 x12, api_Config.at nb1 a0, tie api_Op.El sd2 a2, tie api_Op.El sd1 a1, R] w0 w ∧ signalmanlaw25_SignalSplits.l4 kq a0 a1 a3 x29 x32 = some r ∧ kq ≤ kf25) (fun (x29, ra30, rc31, rd33, x32) => [(1, vs sa1 a1.length sc1), (3, vi a3), (4, pt nb1), (14, vs ra30 x32.length rc31), (15, vi x29)]) (_, _, _, _, _) ⟨HS, H, Nat.le_refl _⟩ ?_
       rintro kq34 ⟨x29, ra30, rc31, rd33, x32⟩ w ⟨HS, H, _⟩
       cases kq34 with
       | zero => exact absurd H (by simp [signalmanlaw25_SignalSplits.l4])
       | succ kq34 =>
        simp only [signalmanlaw25_SignalSplits.l4] at H
        refine go ?_
        refine V.cd H rfl (fun _ H => ?_) (fun _ H => ?_)
        ·refine go ?_
         refine W.r (X.bd (Value.agg #[vi (1), vi (0), vi (0), vi (1), vi (0), vs none 0 0]) rfl (fun _ => by kernel_rfl)) rfl ?_
         have HS := St.row_freeze (row_nilF (Value.int .u8) 5 1 HS)
         refine W.e (Y.lc (e := 29) (sz := 6) [vi (1), vi (0), vi (0), vi (1), vi (0), vs none ([] : List Int).length 0] HS rfl rfl (fun _ => by kernel_rfl)) rfl ?_
         rintro _ w ⟨_, rfl, HS⟩
         have HS := St.tie_cons (((api_Op.pack (x := ({ Kind := 1, At := 0, Line := 0, N := 1, Fault := 0, B := ([] : List Int) } : api_Op)) ((St.put (A := tie api_Op.El ([]) ([] : List api_Op)) (fun _ => tie.nil) HS).more 2 rfl (fun _ t => t) fsl.pers)).fr 1).fr 1)
         obtain ⟨_, H⟩ := ite_n H
         refine W.e (Y.app (xs := x32) (ys := ([({ Kind := 1, At := 0, Line := 0, N := 1, Fault := 0, B := ([] : List Int) } : api_Op)] : List api_Op)) 3 underlying30 ap29 rfl (by decide) HS rfl rfl rfl (rdC.at 1 row_rd HS rfl) (St.tie_one 0 HS rfl) (by omega) (by omega)) rfl ?_
         rintro _ w ⟨_, _, rfl, HS⟩
         have HS := St.tie_app 1 (HS.fr 4) rfl
         refine go ?_
         have HS := HS.ke [4, 0, 3, 3, 3, 3, 3, 3, 3, 3]
         exact At.rn (_, _, _, _, _) ⟨HS, H, by omega⟩
        ·refine gs ?_
         refine V.meet (σ := Option Addr × Nat × List Value × List api_Event) (fun (ra43, rc44, rd46, x45) w => Sep.St [row 56 4 (.slice ra43 x45.length rc44) x45.length rd46, tie api_Event.El rd46 x45, row 29 6 (.slice ra30 x32.length rc31) x32.length rd33, tie api_Op.El rd33 x32, row 56 4 (.slice ra17 x19.length rc18) x19.length rd20, tie api_Event.El rd20 x19, row 56 4 (.slice ra10 x12.length rc11) x12.length rd13, tie api_Event.El rd13 x12, api_Config.at nb1 a0, tie api_Op.El sd2 a2, tie api_Op.El sd1 a1, R] w0 w ∧ ∃ kf47, kf47 ≤ kq34 ∧ signalmanlaw25_SignalSplits.j5 kf47 a0 a1 x32 x45 = some r) (fun (ra43, rc44, rd46, x45) => [(1, vs sa1 a1.length sc1), (4, pt nb1), (14, vs ra30 x32.length rc31), (16, vs ra43 x45.length rc44)]) ?_ ?_
         ·have HS := HS.fr 6
          obtain ⟨_, HS⟩ := api_Config.open HS
          apply V.da [2, 5, 6, 7] [8, 9, 10, 11, 12] [(88, _), (89, _), (91, _), (92, _)] mo HS
          rfl
          refine T.two rfl rfl ⟨.n1 4 rfl rfl (fun w HS => X.loadSt 0 [vi a0.Mode, vi a0.Modulus, vi a0.Window, vi a0.T1, vi a0.N2, vi a0.Hold, vi a0.Wait, vi a0.Keep, vi a0.Queue, vi a0.Size, vi a0.Ring, vi a0.Rate, vi a0.Bad, vi a0.Good, vb a0.Revert, vb a0.Wide] HS rfl underlying24 rfl inf24 rfl rfl), .mv 1, .mv 3, .n1 91 rfl rfl (fun w HS => X.bd (Value.agg #[vi (1), vi (0), vi (0), vi a3, vi (0), vs none 0 0]) rfl (fun _ => by kernel_rfl)), tv⟩ (T.step (es := [5, 6, 7]) _ [(89, vs sa1 a1.length sc1)] rfl ⟨.inr ⟨rfl, rfl⟩, tv⟩ (Or.inl rfl) (by intro d hd; cases hd; exact ⟨by decide, rfl, rfl⟩) [8, 9, 10, 11, 12] [1] rfl rfl rfl rfl rfl (fun w HS => ?_)) (T.step (es := [2, 6, 7]) _ [(92, Value.agg #[vi (1), vi (0), vi (0), vi a3, vi (0), vs none 0 0])] rfl ⟨.inr ⟨rfl, rfl⟩, tv⟩ (Or.inl rfl) (by intro d hd; cases hd; exact ⟨by decide, rfl, rfl⟩) [8, 9, 10, 11, 12] [3, 4] rfl rfl rfl rfl rfl (fun w HS => ?_))
          ·have HS : Sep.St [blk nb1 (#[vi a0.Mode, vi a0.Modulus, vi a0.Window, vi a0.T1, vi a0.N2, vi a0.Hold, vi a0.Wait, vi a0.Keep, vi a0.Queue, vi a0.Size, vi a0.Ring, vi a0.Rate, vi a0.Bad, vi a0.Good, vb a0.Revert, vb a0.Wide]) 24, row 29 6 (.slice ra30 x32.length rc31) x32.length rd33, tie api_Op.El rd33 x32, row 56 4 (.slice ra17 x19.length rc18) x19.length rd20, tie api_Event.El rd20 x19, row 56 4 (.slice ra10 x12.length rc11) x12.length rd13, tie api_Event.El rd13 x12, tie api_Op.El sd2 a2, tie api_Op.El sd1 a1, R] w0 w := HS
           obtain ⟨_, H⟩ := ite_n H
           have HS := row_nilE api_Op.El 29 6 HS
           have HS : Sep.St [row 29 6 (.slice none ([] : List api_Op).length 0) ([] : List api_Op).length ([]), tie api_Op.El ([]) ([] : List api_Op), blk nb1 (#[vi a0.Mode, vi a0.Modulus, vi a0.Window, vi a0.T1, vi a0.N2, vi a0.Hold, vi a0.Wait, vi a0.Keep, vi a0.Queue, vi a0.Size, vi a0.Ring, vi a0.Rate, vi a0.Bad, vi a0.Good, vb a0.Revert, vb a0.Wide]) 24, row 29 6 (.slice ra30 x32.length rc31) x32.length rd33, tie api_Op.El rd33 x32, row 56 4 (.slice ra17 x19.length rc18) x19.length rd20, tie api_Event.El rd20 x19, row 56 4 (.slice ra10 x12.length rc11) x12.length rd13, tie api_Event.El rd13 x12, tie api_Op.El sd2 a2, tie api_Op.El sd1 a1, R] w0 w := HS
           refine ⟨_, Y.app (xs := ([] : List api_Op)) (ys := a1) 0 underlying30 ap29 rfl (by decide) HS rfl rfl rfl (rdC.at 11 hr1 HS rfl) (St.tie_one 10 HS rfl) (by omega) (by omega), ?_⟩
           rintro _ w ⟨_, _, rfl, HS⟩
           have HS := St.tie_app 10 (HS.fr 1) rfl
           refine T.nw HS ?_
           refine T.e [92] [8, 9, 10, 11, 12] [3, 4] (fun w HS => ?_) ⟨rd, rd, .n1 91 rfl rfl (fun w HS => X.bd (Value.agg #[vi (1), vi (0), vi (0), vi a3, vi (0), vs none 0 0]) rfl (fun _ => by kernel_rfl)), rds⟩
           have HS := St.row_freeze (row_nilF (Value.int .u8) 5 1 HS)
           refine ⟨_, Y.lc (e := 29) (sz := 6) [vi (1), vi (0), vi (0), vi a3, vi (0), vs none ([] : List Int).length 0] HS rfl rfl (fun _ => by kernel_rfl), ?_⟩
           rintro _ w ⟨_, rfl, HS⟩
           have HS := St.tie_cons (((api_Op.pack (x := ({ Kind := 1, At := 0, Line := 0, N := a3, Fault := 0, B := ([] : List Int) } : api_Op)) ((St.put (A := tie api_Op.El ([]) ([] : List api_Op)) (fun _ => tie.nil) HS).more 2 rfl (fun _ t => t) fsl.pers)).fr 1).fr 1)
           refine T.nw HS ?_
           refine T.e [90, 93] [8, 9, 10, 11, 12] [] fun w HS => ?_
           obtain ⟨_, H⟩ := ite_n H
           refine ⟨_, Y.app (xs := ([] : List api_Op) ++ a1) (ys := ([({ Kind := 1, At := 0, Line := 0, N := a3, Fault := 0, B := ([] : List Int) } : api_Op)] : List api_Op)) 4 underlying30 ap29 rfl (by decide) HS rfl rfl rfl (rdC.at 1 row_rd HS rfl) (St.tie_one 0 HS rfl) (by omega) (by omega), ?_⟩
           rintro _ w ⟨_, _, rfl, HS⟩
           have HS := St.tie_app 1 (HS.fr 3) rfl
           refine T.nw HS ?_
           refine T.e [88, 94] [] [0] fun w HS => ?_
           refine Y.kl H func17 (fun _ h => signalman_Play.calls h HS.j0 (rdC.part 4 row_rd rfl) (fun h hh => let ⟨_, l, t⟩ := Sp.has 0 hh rfl; tie.mono t l)) ?_
           rintro _ _ w H ⟨_, _, _, _, _, rfl, HS⟩
           have HS := HS.o3
           apply T.na [(95, _), (87, _), (96, _), (97, _), (16, _), (17, _)] HS
           exact nmk
           refine T.ff [1, 4, 14, 16] fun w HS => ?_
           have HS := (api_Config.close tv (HS.b [8])).ke [1, 1, 7, 7, 7, 7, 7, 7, 0, 6, 6, 6]
           exact At.mt (_, _, _, _) ⟨HS, kq34, by omega, H⟩
          ·have HS : Sep.St [blk nb1 (#[vi a0.Mode, vi a0.Modulus, vi a0.Window, vi a0.T1, vi a0.N2, vi a0.Hold, vi a0.Wait, vi a0.Keep, vi a0.Queue, vi a0.Size, vi a0.Ring, vi a0.Rate, vi a0.Bad, vi a0.Good, vb a0.Revert, vb a0.Wide]) 24, row 29 6 (.slice ra30 x32.length rc31) x32.length rd33, tie api_Op.El rd33 x32, row 56 4 (.slice ra17 x19.length rc18) x19.length rd20, tie api_Event.El rd20 x19, row 56 4 (.slice ra10 x12.length rc11) x12.length rd13, tie api_Event.El rd13 x12, tie api_Op.El sd2 a2, tie api_Op.El sd1 a1, R] w0 w := HS
           have HS := St.row_freeze (row_nilF (Value.int .u8) 5 1 HS)
           refine ⟨_, Y.lc (e := 29) (sz := 6) [vi (1), vi (0), vi (0), vi a3, vi (0), vs none ([] : List Int).length 0] HS rfl rfl (fun _ => by kernel_rfl), ?_⟩
           rintro _ w ⟨lb73, rfl, HS⟩
           have HS := St.tie_cons (((api_Op.pack (x := ({ Kind := 1, At := 0, Line := 0, N := a3, Fault := 0, B := ([] : List Int) } : api_Op)) ((St.put (A := tie api_Op.El ([]) ([] : List api_Op)) (fun _ => tie.nil) HS).more 2 rfl (fun _ t => t) fsl.pers)).fr 1).fr 1)
           refine T.nw HS ?_
           refine T.e [89] [8, 9, 10, 11, 12] [1] fun w HS => ?_
           obtain ⟨_, H⟩ := ite_n H
           have HS := row_nilE api_Op.El 29 6 HS
           have HS : Sep.St [row 29 6 (.slice none ([] : List api_Op).length 0) ([] : List api_Op).length ([]), tie api_Op.El ([]) ([] : List api_Op), tie api_Op.El ([vi (1), vi (0), vi (0), vi a3, vi (0), vs none ([] : List Int).length 0]) (([({ Kind := 1, At := 0, Line := 0, N := a3, Fault := 0, B := ([] : List Int) } : api_Op)] : List api_Op)), row 29 6 (.slice (some ⟨lb73, 0, none⟩) (([({ Kind := 1, At := 0, Line := 0, N := a3, Fault := 0, B := ([] : List Int) } : api_Op)] : List api_Op)).length 1) (([({ Kind := 1, At := 0, Line := 0, N := a3, Fault := 0, B := ([] : List Int) } : api_Op)] : List api_Op)).length ([vi (1), vi (0), vi (0), vi a3, vi (0), vs none ([] : List Int).length 0]), fsl 1 (.slice none ([] : List Int).length 0) ([] : List Int).length (([] : List Int).map (Value.int .u8)), blk nb1 (#[vi a0.Mode, vi a0.Modulus, vi a0.Window, vi a0.T1, vi a0.N2, vi a0.Hold, vi a0.Wait, vi a0.Keep, vi a0.Queue, vi a0.Size, vi a0.Ring, vi a0.Rate, vi a0.Bad, vi a0.Good, vb a0.Revert, vb a0.Wide]) 24, row 29 6 (.slice ra30 x32.length rc31) x32.length rd33, tie api_Op.El rd33 x32, row 56 4 (.slice ra17 x19.length rc18) x19.length rd20, tie api_Event.El rd20 x19, row 56 4 (.slice ra10 x12.length rc11) x12.length rd13, tie api_Event.El rd13 x12, tie api_Op.El sd2 a2, tie api_Op.El sd1 a1, R] w0 w := HS
           refine ⟨_, Y.app (xs := ([] : List api_Op)) (ys := a1) 0 underlying30 ap29 rfl (by decide) HS rfl rfl rfl (rdC.at 14 hr1 HS rfl) (St.tie_one 13 HS rfl) (by omega) (by omega), ?_⟩
           rintro _ w ⟨_, _, rfl, HS⟩
           have HS := St.tie_app 13 (HS.fr 1) rfl
           refine T.nw HS ?_
           refine T.e [90, 93] [8, 9, 10, 11, 12] [] fun w HS => ?_
           obtain ⟨_, H⟩ := ite_n H
           refine ⟨_, Y.app (xs := ([] : List api_Op) ++ a1) (ys := ([({ Kind := 1, At := 0, Line := 0, N := a3, Fault := 0, B := ([] : List Int) } : api_Op)] : List api_Op)) 1 underlying30 ap29 rfl (by decide) HS rfl rfl rfl (rdC.at 3 row_rd HS rfl) (St.tie_one 2 HS rfl) (by omega) (by omega), ?_⟩
           rintro _ w ⟨_, _, rfl, HS⟩
           have HS := St.tie_app 2 HS rfl
           refine T.nw HS ?_
           refine T.e [88, 94] [] [0] fun w HS => ?_
           refine Y.kl H func17 (fun _ h => signalman_Play.calls h HS.j0 (rdC.part 1 row_rd rfl) (fun h hh => let ⟨_, l, t⟩ := Sp.has 0 hh rfl; tie.mono t l)) ?_
           rintro _ _ w H ⟨_, _, _, _, _, rfl, HS⟩
           have HS := HS.o3
           apply T.na [(95, _), (87, _), (96, _), (97, _), (16, _), (17, _)] HS
           exact nmk
           refine T.ff [1, 4, 14, 16] fun w HS => ?_
           have HS := (api_Config.close tv (HS.b [8])).ke [1, 1, 7, 7, 7, 7, 7, 7, 0, 6, 6, 6]
           exact At.mt (_, _, _, _) ⟨HS, kq34, by omega, H⟩
         ·rintro ⟨ra43, rc44, rd46, x45⟩ w ⟨HS, kf47, _, H⟩
          unfold signalmanlaw25_SignalSplits.j5 at H
          refine go ?_
          have HS := HS.fr 8
          obtain ⟨_, HS⟩ := api_Config.open HS
          apply V.da [2, 4, 5] [6, 7, 8, 9, 10] [(99, _), (100, _), (102, _)] mo HS
          rfl
          refine T.e [100] [6, 7, 8, 9, 10] [1] fun w HS => ?_
          obtain ⟨_, H⟩ := ite_n H
          have HS := row_nilE api_Op.El 29 6 HS
          have HS : Sep.St [row 29 6 (.slice none ([] : List api_Op).length 0) ([] : List api_Op).length ([]), tie api_Op.El ([]) ([] : List api_Op), blk nb1 (#[vi a0.Mode, vi a0.Modulus, vi a0.Window, vi a0.T1, vi a0.N2, vi a0.Hold, vi a0.Wait, vi a0.Keep, vi a0.Queue, vi a0.Size, vi a0.Ring, vi a0.Rate, vi a0.Bad, vi a0.Good, vb a0.Revert, vb a0.Wide]) 24, row 56 4 (.slice ra43 x45.length rc44) x45.length rd46, tie api_Event.El rd46 x45, row 29 6 (.slice ra30 x32.length rc31) x32.length rd33, tie api_Op.El rd33 x32, row 56 4 (.slice ra17 x19.length rc18) x19.length rd20, tie api_Event.El rd20 x19, row 56 4 (.slice ra10 x12.length rc11) x12.length rd13, tie api_Event.El rd13 x12, tie api_Op.El sd2 a2, tie api_Op.El sd1 a1, R] w0 w := HS
          refine ⟨_, Y.app (xs := ([] : List api_Op)) (ys := a1) 0 underlying30 ap29 rfl (by decide) HS rfl rfl rfl (rdC.at 13 hr1 HS rfl) (St.tie_one 12 HS rfl) (by omega) (by omega), ?_⟩
          rintro _ w ⟨_, _, rfl, HS⟩
          have HS := St.tie_app 12 (HS.fr 1) rfl
          refine T.nw HS ?_
          refine T.e [101, 102] [6, 7, 8, 9, 10] [3] fun w HS => ?_
          obtain ⟨_, H⟩ := ite_n H
          refine ⟨_, Y.app (xs := ([] : List api_Op) ++ a1) (ys := x32) 1 underlying30 ap29 rfl (by decide) HS rfl rfl rfl (rdC.at 5 row_rd HS rfl) (St.tie_one 6 HS rfl) (by omega) (by omega), ?_⟩
          rintro _ w ⟨_, _, rfl, HS⟩
          have HS := St.tie_app 6 HS rfl
          refine T.nw HS ?_
          refine T.e [99, 103] [] [0] fun w HS => ?_
          refine Y.kl H func17 (fun _ h => signalman_Play.calls h HS.j0 (rdC.part 1 row_rd rfl) (fun h hh => let ⟨_, l, t⟩ := Sp.has 0 hh rfl; tie.mono t l)) ?_
          rintro _ _ w H ⟨_, _, _, _, _, rfl, HS⟩
          have HS := HS.o3
          apply T.na [(104, _), (98, _), (105, _), (106, _), (18, _), (19, _)] HS
          exact nmk
          refine T.ff [16, 18] fun w HS => ?_
          refine go ?_
          refine W.kl H func19 (fun _ h => signalmanref20_SameEvents.calls h HS.j0 (rdC.part 6 row_rd rfl) (fun h hh => let ⟨_, l, t⟩ := Sp.has 7 hh rfl; tie.mono t l) (rdC.part 0 row_rd rfl) (fun h hh => let ⟨_, l, t⟩ := Sp.has 1 hh rfl; tie.mono t l)) ?_
          rintro _ _ w H ⟨rfl, HS⟩
          have HS := HS.o0
          refine go ?_
          have HS := HS.ke [16]
          exact rt
def api_Config.El : El api_Config := El.iso (El.prod (El.int .i64) (El.prod (El.int .i64) (El.prod (El.int .i64) (El.prod (El.int .i64) (El.prod (El.int .i64) (El.prod (El.int .i64) (El.prod (El.int .i64) (El.prod (El.int .i64) (El.prod (El.int .i64) (El.prod (El.int .i64) (El.prod (El.int .i64) (El.prod (El.int .i64) (El.prod (El.int .i64) (El.prod (El.int .i64) (El.prod El.bool (El.prod El.bool El.unit)))))))))))))))) (fun x => (x.Mode, (x.Modulus, (x.Window, (x.T1, (x.N2, (x.Hold, (x.Wait, (x.Keep, (x.Queue, (x.Size, (x.Ring, (x.Rate, (x.Bad, (x.Good, (x.Revert, (x.Wide, ())))))))))))))))))
theorem api_Config.unpack {c : List Value} {x : api_Config} {L : List As} {w0 w : World} (hs : Sep.St (api_Config.El.p c x :: L) w0 w) : c = [vi x.Mode, vi x.Modulus, vi x.Window, vi x.T1, vi x.N2, vi x.Hold, vi x.Wait, vi x.Keep, vi x.Queue, vi x.Size, vi x.Ring, vi x.Rate, vi x.Bad, vi x.Good, vb x.Revert, vb x.Wide] ∧ Sep.St L w0 w := by
 have hs : Sep.St ((El.prod (El.int .i64) (El.prod (El.int .i64) (El.prod (El.int .i64) (El.prod (El.int .i64) (El.prod (El.int .i64) (El.prod (El.int .i64) (El.prod (El.int .i64) (El.prod (El.int .i64) (El.prod (El.int .i64) (El.prod (El.int .i64) (El.prod (El.int .i64) (El.prod (El.int .i64) (El.prod (El.int .i64) (El.prod (El.int .i64) (El.prod El.bool (El.prod El.bool El.unit)))))))))))))))).p c (x.Mode, (x.Modulus, (x.Window, (x.T1, (x.N2, (x.Hold, (x.Wait, (x.Keep, (x.Queue, (x.Size, (x.Ring, (x.Rate, (x.Bad, (x.Good, (x.Revert, (x.Wide, ())))))))))))))))) :: L) w0 w := hs
 obtain ⟨c0, r0, e0, hs⟩ := St.prod_open hs
 have hs : Sep.St ((El.int .i64).p c0 x.Mode :: (El.prod (El.int .i64) (El.prod (El.int .i64) (El.prod (El.int .i64) (El.prod (El.int .i64) (El.prod (El.int .i64) (El.prod (El.int .i64) (El.prod (El.int .i64) (El.prod (El.int .i64) (El.prod (El.int .i64) (El.prod (El.int .i64) (El.prod (El.int .i64) (El.prod (El.int .i64) (El.prod (El.int .i64) (El.prod El.bool (El.prod El.bool El.unit))))))))))))))).p r0 (x.Modulus, (x.Window, (x.T1, (x.N2, (x.Hold, (x.Wait, (x.Keep, (x.Queue, (x.Size, (x.Ring, (x.Rate, (x.Bad, (x.Good, (x.Revert, (x.Wide, ()))))))))))))))) :: L) w0 w := hs
 obtain ⟨q0, hs⟩ := St.int_open hs
 have hs : Sep.St ((El.prod (El.int .i64) (El.prod (El.int .i64) (El.prod (El.int .i64) (El.prod (El.int .i64) (El.prod (El.int .i64) (El.prod (El.int .i64) (El.prod (El.int .i64) (El.prod (El.int .i64) (El.prod (El.int .i64) (El.prod (El.int .i64) (El.prod (El.int .i64) (El.prod (El.int .i64) (El.prod (El.int .i64) (El.prod El.bool (El.prod El.bool El.unit))))))))))))))).p r0 (x.Modulus, (x.Window, (x.T1, (x.N2, (x.Hold, (x.Wait, (x.Keep, (x.Queue, (x.Size, (x.Ring, (x.Rate, (x.Bad, (x.Good, (x.Revert, (x.Wide, ()))))))))))))))) :: L) w0 w := hs
 obtain ⟨c1, r1, e1, hs⟩ := St.prod_open hs
 have hs : Sep.St ((El.int .i64).p c1 x.Modulus :: (El.prod (El.int .i64) (El.prod (El.int .i64) (El.prod (El.int .i64) (El.prod (El.int .i64) (El.prod (El.int .i64) (El.prod (El.int .i64) (El.prod (El.int .i64) (El.prod (El.int .i64) (El.prod (El.int .i64) (El.prod (El.int .i64) (El.prod (El.int .i64) (El.prod (El.int .i64) (El.prod El.bool (El.prod El.bool El.unit)))))))))))))).p r1 (x.Window, (x.T1, (x.N2, (x.Hold, (x.Wait, (x.Keep, (x.Queue, (x.Size, (x.Ring, (x.Rate, (x.Bad, (x.Good, (x.Revert, (x.Wide, ())))))))))))))) :: L) w0 w := hs
 obtain ⟨q1, hs⟩ := St.int_open hs
 have hs : Sep.St ((El.prod (El.int .i64) (El.prod (El.int .i64) (El.prod (El.int .i64) (El.prod (El.int .i64) (El.prod (El.int .i64) (El.prod (El.int .i64) (El.prod (El.int .i64) (El.prod (El.int .i64) (El.prod (El.int .i64) (El.prod (El.int .i64) (El.prod (El.int .i64) (El.prod (El.int .i64) (El.prod El.bool (El.prod El.bool El.unit)))))))))))))).p r1 (x.Window, (x.T1, (x.N2, (x.Hold, (x.Wait, (x.Keep, (x.Queue, (x.Size, (x.Ring, (x.Rate, (x.Bad, (x.Good, (x.Revert, (x.Wide, ())))))))))))))) :: L) w0 w := hs
 obtain ⟨c2, r2, e2, hs⟩ := St.prod_open hs
 have hs : Sep.St ((El.int .i64).p c2 x.Window :: (El.prod (El.int .i64) (El.prod (El.int .i64) (El.prod (El.int .i64) (El.prod (El.int .i64) (El.prod (El.int .i64) (El.prod (El.int .i64) (El.prod (El.int .i64) (El.prod (El.int .i64) (El.prod (El.int .i64) (El.prod (El.int .i64) (El.prod (El.int .i64) (El.prod El.bool (El.prod El.bool El.unit))))))))))))).p r2 (x.T1, (x.N2, (x.Hold, (x.Wait, (x.Keep, (x.Queue, (x.Size, (x.Ring, (x.Rate, (x.Bad, (x.Good, (x.Revert, (x.Wide, ()))))))))))))) :: L) w0 w := hs
 obtain ⟨q2, hs⟩ := St.int_open hs
 have hs : Sep.St ((El.prod (El.int .i64) (El.prod (El.int .i64) (El.prod (El.int .i64) (El.prod (El.int .i64) (El.prod (El.int .i64) (El.prod (El.int .i64) (El.prod (El.int .i64) (El.prod (El.int .i64) (El.prod (El.int .i64) (El.prod (El.int .i64) (El.prod (El.int .i64) (El.prod El.bool (El.prod El.bool El.unit))))))))))))).p r2 (x.T1, (x.N2, (x.Hold, (x.Wait, (x.Keep, (x.Queue, (x.Size, (x.Ring, (x.Rate, (x.Bad, (x.Good, (x.Revert, (x.Wide, ()))))))))))))) :: L) w0 w := hs
 obtain ⟨c3, r3, e3, hs⟩ := St.prod_open hs
 have hs : Sep.St ((El.int .i64).p c3 x.T1 :: (El.prod (El.int .i64) (El.prod (El.int .i64) (El.prod (El.int .i64) (El.prod (El.int .i64) (El.prod (El.int .i64) (El.prod (El.int .i64) (El.prod (El.int .i64) (El.prod (El.int .i64) (El.prod (El.int .i64) (El.prod (El.int .i64) (El.prod El.bool (El.prod El.bool El.unit)))))))))))).p r3 (x.N2, (x.Hold, (x.Wait, (x.Keep, (x.Queue, (x.Size, (x.Ring, (x.Rate, (x.Bad, (x.Good, (x.Revert, (x.Wide, ())))))))))))) :: L) w0 w := hs
 obtain ⟨q3, hs⟩ := St.int_open hs
 have hs : Sep.St ((El.prod (El.int .i64) (El.prod (El.int .i64) (El.prod (El.int .i64) (El.prod (El.int .i64) (El.prod (El.int .i64) (El.prod (El.int .i64) (El.prod (El.int .i64) (El.prod (El.int .i64) (El.prod (El.int .i64) (El.prod (El.int .i64) (El.prod El.bool (El.prod El.bool El.unit)))))))))))).p r3 (x.N2, (x.Hold, (x.Wait, (x.Keep, (x.Queue, (x.Size, (x.Ring, (x.Rate, (x.Bad, (x.Good, (x.Revert, (x.Wide, ())))))))))))) :: L) w0 w := hs
 obtain ⟨c4, r4, e4, hs⟩ := St.prod_open hs
 have hs : Sep.St ((El.int .i64).p c4 x.N2 :: (El.prod (El.int .i64) (El.prod (El.int .i64) (El.prod (El.int .i64) (El.prod (El.int .i64) (El.prod (El.int .i64) (El.prod (El.int .i64) (El.prod (El.int .i64) (El.prod (El.int .i64) (El.prod (El.int .i64) (El.prod El.bool (El.prod El.bool El.unit))))))))))).p r4 (x.Hold, (x.Wait, (x.Keep, (x.Queue, (x.Size, (x.Ring, (x.Rate, (x.Bad, (x.Good, (x.Revert, (x.Wide, ()))))))))))) :: L) w0 w := hs
 obtain ⟨q4, hs⟩ := St.int_open hs
 have hs : Sep.St ((El.prod (El.int .i64) (El.prod (El.int .i64) (El.prod (El.int .i64) (El.prod (El.int .i64) (El.prod (El.int .i64) (El.prod (El.int .i64) (El.prod (El.int .i64) (El.prod (El.int .i64) (El.prod (El.int .i64) (El.prod El.bool (El.prod El.bool El.unit))))))))))).p r4 (x.Hold, (x.Wait, (x.Keep, (x.Queue, (x.Size, (x.Ring, (x.Rate, (x.Bad, (x.Good, (x.Revert, (x.Wide, ()))))))))))) :: L) w0 w := hs
 obtain ⟨c5, r5, e5, hs⟩ := St.prod_open hs
 have hs : Sep.St ((El.int .i64).p c5 x.Hold :: (El.prod (El.int .i64) (El.prod (El.int .i64) (El.prod (El.int .i64) (El.prod (El.int .i64) (El.prod (El.int .i64) (El.prod (El.int .i64) (El.prod (El.int .i64) (El.prod (El.int .i64) (El.prod El.bool (El.prod El.bool El.unit)))))))))).p r5 (x.Wait, (x.Keep, (x.Queue, (x.Size, (x.Ring, (x.Rate, (x.Bad, (x.Good, (x.Revert, (x.Wide, ())))))))))) :: L) w0 w := hs
 obtain ⟨q5, hs⟩ := St.int_open hs
 have hs : Sep.St ((El.prod (El.int .i64) (El.prod (El.int .i64) (El.prod (El.int .i64) (El.prod (El.int .i64) (El.prod (El.int .i64) (El.prod (El.int .i64) (El.prod (El.int .i64) (El.prod (El.int .i64) (El.prod El.bool (El.prod El.bool El.unit)))))))))).p r5 (x.Wait, (x.Keep, (x.Queue, (x.Size, (x.Ring, (x.Rate, (x.Bad, (x.Good, (x.Revert, (x.Wide, ())))))))))) :: L) w0 w := hs
 obtain ⟨c6, r6, e6, hs⟩ := St.prod_open hs
 have hs : Sep.St ((El.int .i64).p c6 x.Wait :: (El.prod (El.int .i64) (El.prod (El.int .i64) (El.prod (El.int .i64) (El.prod (El.int .i64) (El.prod (El.int .i64) (El.prod (El.int .i64) (El.prod (El.int .i64) (El.prod El.bool (El.prod El.bool El.unit))))))))).p r6 (x.Keep, (x.Queue, (x.Size, (x.Ring, (x.Rate, (x.Bad, (x.Good, (x.Revert, (x.Wide, ()))))))))) :: L) w0 w := hs
 obtain ⟨q6, hs⟩ := St.int_open hs
 have hs : Sep.St ((El.prod (El.int .i64) (El.prod (El.int .i64) (El.prod (El.int .i64) (El.prod (El.int .i64) (El.prod (El.int .i64) (El.prod (El.int .i64) (El.prod (El.int .i64) (El.prod El.bool (El.prod El.bool El.unit))))))))).p r6 (x.Keep, (x.Queue, (x.Size, (x.Ring, (x.Rate, (x.Bad, (x.Good, (x.Revert, (x.Wide, ()))))))))) :: L) w0 w := hs
 obtain ⟨c7, r7, e7, hs⟩ := St.prod_open hs
 have hs : Sep.St ((El.int .i64).p c7 x.Keep :: (El.prod (El.int .i64) (El.prod (El.int .i64) (El.prod (El.int .i64) (El.prod (El.int .i64) (El.prod (El.int .i64) (El.prod (El.int .i64) (El.prod El.bool (El.prod El.bool El.unit)))))))).p r7 (x.Queue, (x.Size, (x.Ring, (x.Rate, (x.Bad, (x.Good, (x.Revert, (x.Wide, ())))))))) :: L) w0 w := hs
 obtain ⟨q7, hs⟩ := St.int_open hs
 have hs : Sep.St ((El.prod (El.int .i64) (El.prod (El.int .i64) (El.prod (El.int .i64) (El.prod (El.int .i64) (El.prod (El.int .i64) (El.prod (El.int .i64) (El.prod El.bool (El.prod El.bool El.unit)))))))).p r7 (x.Queue, (x.Size, (x.Ring, (x.Rate, (x.Bad, (x.Good, (x.Revert, (x.Wide, ())))))))) :: L) w0 w := hs
 obtain ⟨c8, r8, e8, hs⟩ := St.prod_open hs
 have hs : Sep.St ((El.int .i64).p c8 x.Queue :: (El.prod (El.int .i64) (El.prod (El.int .i64) (El.prod (El.int .i64) (El.prod (El.int .i64) (El.prod (El.int .i64) (El.prod El.bool (El.prod El.bool El.unit))))))).p r8 (x.Size, (x.Ring, (x.Rate, (x.Bad, (x.Good, (x.Revert, (x.Wide, ()))))))) :: L) w0 w := hs
 obtain ⟨q8, hs⟩ := St.int_open hs
 have hs : Sep.St ((El.prod (El.int .i64) (El.prod (El.int .i64) (El.prod (El.int .i64) (El.prod (El.int .i64) (El.prod (El.int .i64) (El.prod El.bool (El.prod El.bool El.unit))))))).p r8 (x.Size, (x.Ring, (x.Rate, (x.Bad, (x.Good, (x.Revert, (x.Wide, ()))))))) :: L) w0 w := hs
 obtain ⟨c9, r9, e9, hs⟩ := St.prod_open hs
 have hs : Sep.St ((El.int .i64).p c9 x.Size :: (El.prod (El.int .i64) (El.prod (El.int .i64) (El.prod (El.int .i64) (El.prod (El.int .i64) (El.prod El.bool (El.prod El.bool El.unit)))))).p r9 (x.Ring, (x.Rate, (x.Bad, (x.Good, (x.Revert, (x.Wide, ())))))) :: L) w0 w := hs
 obtain ⟨q9, hs⟩ := St.int_open hs
 have hs : Sep.St ((El.prod (El.int .i64) (El.prod (El.int .i64) (El.prod (El.int .i64) (El.prod (El.int .i64) (El.prod El.bool (El.prod El.bool El.unit)))))).p r9 (x.Ring, (x.Rate, (x.Bad, (x.Good, (x.Revert, (x.Wide, ())))))) :: L) w0 w := hs
 obtain ⟨c10, r10, e10, hs⟩ := St.prod_open hs
 have hs : Sep.St ((El.int .i64).p c10 x.Ring :: (El.prod (El.int .i64) (El.prod (El.int .i64) (El.prod (El.int .i64) (El.prod El.bool (El.prod El.bool El.unit))))).p r10 (x.Rate, (x.Bad, (x.Good, (x.Revert, (x.Wide, ()))))) :: L) w0 w := hs
 obtain ⟨q10, hs⟩ := St.int_open hs
 have hs : Sep.St ((El.prod (El.int .i64) (El.prod (El.int .i64) (El.prod (El.int .i64) (El.prod El.bool (El.prod El.bool El.unit))))).p r10 (x.Rate, (x.Bad, (x.Good, (x.Revert, (x.Wide, ()))))) :: L) w0 w := hs
 obtain ⟨c11, r11, e11, hs⟩ := St.prod_open hs
 have hs : Sep.St ((El.int .i64).p c11 x.Rate :: (El.prod (El.int .i64) (El.prod (El.int .i64) (El.prod El.bool (El.prod El.bool El.unit)))).p r11 (x.Bad, (x.Good, (x.Revert, (x.Wide, ())))) :: L) w0 w := hs
 obtain ⟨q11, hs⟩ := St.int_open hs
 have hs : Sep.St ((El.prod (El.int .i64) (El.prod (El.int .i64) (El.prod El.bool (El.prod El.bool El.unit)))).p r11 (x.Bad, (x.Good, (x.Revert, (x.Wide, ())))) :: L) w0 w := hs
 obtain ⟨c12, r12, e12, hs⟩ := St.prod_open hs
 have hs : Sep.St ((El.int .i64).p c12 x.Bad :: (El.prod (El.int .i64) (El.prod El.bool (El.prod El.bool El.unit))).p r12 (x.Good, (x.Revert, (x.Wide, ()))) :: L) w0 w := hs
 obtain ⟨q12, hs⟩ := St.int_open hs
 have hs : Sep.St ((El.prod (El.int .i64) (El.prod El.bool (El.prod El.bool El.unit))).p r12 (x.Good, (x.Revert, (x.Wide, ()))) :: L) w0 w := hs
 obtain ⟨c13, r13, e13, hs⟩ := St.prod_open hs
 have hs : Sep.St ((El.int .i64).p c13 x.Good :: (El.prod El.bool (El.prod El.bool El.unit)).p r13 (x.Revert, (x.Wide, ())) :: L) w0 w := hs
 obtain ⟨q13, hs⟩ := St.int_open hs
 have hs : Sep.St ((El.prod El.bool (El.prod El.bool El.unit)).p r13 (x.Revert, (x.Wide, ())) :: L) w0 w := hs
 obtain ⟨c14, r14, e14, hs⟩ := St.prod_open hs
 have hs : Sep.St (El.bool.p c14 x.Revert :: (El.prod El.bool El.unit).p r14 (x.Wide, ()) :: L) w0 w := hs
 obtain ⟨q14, hs⟩ := St.bool_open hs
 have hs : Sep.St ((El.prod El.bool El.unit).p r14 (x.Wide, ()) :: L) w0 w := hs
 obtain ⟨c15, r15, e15, hs⟩ := St.prod_open hs
 have hs : Sep.St (El.bool.p c15 x.Wide :: El.unit.p r15 () :: L) w0 w := hs
 obtain ⟨q15, hs⟩ := St.bool_open hs
 have hs : Sep.St (El.unit.p r15 () :: L) w0 w := hs
 obtain ⟨qu, hs⟩ := St.unit_open hs
 exact ⟨by rw [e0, q0, e1, q1, e2, q2, e3, q3, e4, q4, e5, q5, e6, q6, e7, q7, e8, q8, e9, q9, e10, q10, e11, q11, e12, q12, e13, q13, e14, q14, e15, q15, qu]; rfl, hs⟩
theorem api_Config.pack  {x : api_Config} {L : List As} {w0 w : World} (hs : Sep.St L w0 w) : Sep.St (api_Config.El.p [vi x.Mode, vi x.Modulus, vi x.Window, vi x.T1, vi x.N2, vi x.Hold, vi x.Wait, vi x.Keep, vi x.Queue, vi x.Size, vi x.Ring, vi x.Rate, vi x.Bad, vi x.Good, vb x.Revert, vb x.Wide] x :: L) w0 w := by
 have h1 := St.join (m := []) hs
 exact h1.mono fun h hh => ⟨[vi x.Mode], [vi x.Modulus, vi x.Window, vi x.T1, vi x.N2, vi x.Hold, vi x.Wait, vi x.Keep, vi x.Queue, vi x.Size, vi x.Ring, vi x.Rate, vi x.Bad, vi x.Good, vb x.Revert, vb x.Wide], rfl, rfl, ⟨[vi x.Modulus], [vi x.Window, vi x.T1, vi x.N2, vi x.Hold, vi x.Wait, vi x.Keep, vi x.Queue, vi x.Size, vi x.Ring, vi x.Rate, vi x.Bad, vi x.Good, vb x.Revert, vb x.Wide], rfl, rfl, ⟨[vi x.Window], [vi x.T1, vi x.N2, vi x.Hold, vi x.Wait, vi x.Keep, vi x.Queue, vi x.Size, vi x.Ring, vi x.Rate, vi x.Bad, vi x.Good, vb x.Revert, vb x.Wide], rfl, rfl, ⟨[vi x.T1], [vi x.N2, vi x.Hold, vi x.Wait, vi x.Keep, vi x.Queue, vi x.Size, vi x.Ring, vi x.Rate, vi x.Bad, vi x.Good, vb x.Revert, vb x.Wide], rfl, rfl, ⟨[vi x.N2], [vi x.Hold, vi x.Wait, vi x.Keep, vi x.Queue, vi x.Size, vi x.Ring, vi x.Rate, vi x.Bad, vi x.Good, vb x.Revert, vb x.Wide], rfl, rfl, ⟨[vi x.Hold], [vi x.Wait, vi x.Keep, vi x.Queue, vi x.Size, vi x.Ring, vi x.Rate, vi x.Bad, vi x.Good, vb x.Revert, vb x.Wide], rfl, rfl, ⟨[vi x.Wait], [vi x.Keep, vi x.Queue, vi x.Size, vi x.Ring, vi x.Rate, vi x.Bad, vi x.Good, vb x.Revert, vb x.Wide], rfl, rfl, ⟨[vi x.Keep], [vi x.Queue, vi x.Size, vi x.Ring, vi x.Rate, vi x.Bad, vi x.Good, vb x.Revert, vb x.Wide], rfl, rfl, ⟨[vi x.Queue], [vi x.Size, vi x.Ring, vi x.Rate, vi x.Bad, vi x.Good, vb x.Revert, vb x.Wide], rfl, rfl, ⟨[vi x.Size], [vi x.Ring, vi x.Rate, vi x.Bad, vi x.Good, vb x.Revert, vb x.Wide], rfl, rfl, ⟨[vi x.Ring], [vi x.Rate, vi x.Bad, vi x.Good, vb x.Revert, vb x.Wide], rfl, rfl, ⟨[vi x.Rate], [vi x.Bad, vi x.Good, vb x.Revert, vb x.Wide], rfl, rfl, ⟨[vi x.Bad], [vi x.Good, vb x.Revert, vb x.Wide], rfl, rfl, ⟨[vi x.Good], [vb x.Revert, vb x.Wide], rfl, rfl, ⟨[vb x.Revert], [vb x.Wide], rfl, rfl, ⟨[vb x.Wide], [], rfl, rfl, rfl⟩⟩⟩⟩⟩⟩⟩⟩⟩⟩⟩⟩⟩⟩⟩⟩
def signalmanlaw25_SignalSplits.Pure : Prop := ∀ (a0 : api_Config) (a1 : List api_Op) (a2 : List api_Op) (a3 : Int), ((Lit.int .i64 a0.Mode).wf = true ∧ ((Lit.int .i64 a0.Modulus).wf = true ∧ ((Lit.int .i64 a0.Window).wf = true ∧ ((Lit.int .i64 a0.T1).wf = true ∧ ((Lit.int .i64 a0.N2).wf = true ∧ ((Lit.int .i64 a0.Hold).wf = true ∧ ((Lit.int .i64 a0.Wait).wf = true ∧ ((Lit.int .i64 a0.Keep).wf = true ∧ ((Lit.int .i64 a0.Queue).wf = true ∧ ((Lit.int .i64 a0.Size).wf = true ∧ ((Lit.int .i64 a0.Ring).wf = true ∧ ((Lit.int .i64 a0.Rate).wf = true ∧ ((Lit.int .i64 a0.Bad).wf = true ∧ ((Lit.int .i64 a0.Good).wf = true ∧ (True ∧ (True ∧ True)))))))))))))))) → (∀ z ∈ a1, ((Lit.int .i64 z.Kind).wf = true ∧ ((Lit.int .i64 z.At).wf = true ∧ ((Lit.int .i64 z.Line).wf = true ∧ ((Lit.int .i64 z.N).wf = true ∧ ((Lit.int .i64 z.Fault).wf = true ∧ (((∀ z3 ∈ z.B, (Lit.int .u8 z3).wf = true) ∧ (z.B.length : Int) ≤ 9223372036854775807) ∧ True))))))) → (a1.length : Int) ≤ 9223372036854775807 → (∀ z ∈ a2, ((Lit.int .i64 z.Kind).wf = true ∧ ((Lit.int .i64 z.At).wf = true ∧ ((Lit.int .i64 z.Line).wf = true ∧ ((Lit.int .i64 z.N).wf = true ∧ ((Lit.int .i64 z.Fault).wf = true ∧ (((∀ z3 ∈ z.B, (Lit.int .u8 z3).wf = true) ∧ (z.B.length : Int) ≤ 9223372036854775807) ∧ True))))))) → (a2.length : Int) ≤ 9223372036854775807 → (Lit.int .i64 a3).wf = true → ∃ k, signalmanlaw25_SignalSplits.f k a0 a1 a2 a3 = some true
end Go.Proofs.YtgkjmdapodgnfaaGreat

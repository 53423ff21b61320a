/- SignalRefuses: the functions that its law reaches, as plain functions, and that the machine's calls come to what these say. Conditions: those that stand at each. -/
import Derived.Test.YtgkjmdapodgnfaaGreatRunSignalRefusesP8
set_option linter.all false
set_option maxRecDepth 100000
set_option maxHeartbeats 4000000
set_option synthInstance.maxSize 100000
set_option synthInstance.maxHeartbeats 1000000
namespace Go.Proofs.YtgkjmdapodgnfaaGreat
open Go.RowKit Go.Proofs.YtgkjmdapodgnfaaGreat.Sep Go.Proofs.YtgkjmdapodgnfaaGreat.Walk Go.Proofs.Tryz
attribute [local irreducible] V W At T Code.rounds RdO RdOk
abbrev signalmanlaw25_SignalRefuses.c0 : List api_Op := ([({ Kind := 0, At := 0, Line := 0, N := 0, Fault := 0, B := ([] : List Int) } : api_Op), ({ Kind := 9, At := 0, Line := 0, N := 0, Fault := 0, B := ([] : List Int) } : api_Op), ({ Kind := 1, At := 0, Line := 0, N := (-1), Fault := 0, B := ([] : List Int) } : api_Op), ({ Kind := 4, At := 2, Line := 0, N := 0, Fault := 0, B := ([] : List Int) } : api_Op), ({ Kind := 2, At := (-1), Line := 0, N := 0, Fault := 0, B := ([] : List Int) } : api_Op), ({ Kind := 6, At := 0, Line := 0, N := 4, Fault := 0, B := ([] : List Int) } : api_Op), ({ Kind := 7, At := 0, Line := 2, N := 0, Fault := 0, B := ([] : List Int) } : api_Op), ({ Kind := 7, At := 0, Line := 0, N := 0, Fault := 9, B := ([] : List Int) } : api_Op), ({ Kind := 4, At := 0, Line := 0, N := 0, Fault := 0, B := List.replicate (1001 : Int).toNat 0 } : api_Op), ({ Kind := 5, At := 5, Line := 0, N := 0, Fault := 0, B := ([] : List Int) } : api_Op)] : List api_Op)
theorem tst2 {G : Prop} (h : G := by first | with_reducible rfl | with_reducible assumption | exact dT (by with_reducible assumption) | exact dF (by with_reducible assumption) | exact b_f (by with_reducible assumption) | exact n_t (by with_reducible assumption) | exact n_f (b_f (by with_reducible assumption)) | exact n_t (dT (by with_reducible assumption)) | exact n_f (dF (by with_reducible assumption))) : G := h
theorem rdO2 {G : Prop} (h : G := by first | exact RdO.mv rfl | exact RdO.fa rfl | exact RdO.ld rfl rfl rfl | exact RdO.nc rfl | exact RdO.as rfl | exact RdO.ls rfl rfl rfl rfl | exact RdO.ia rfl rfl (by first | with_reducible assumption | decide) | exact RdO.is rfl rfl (by with_reducible assumption) | exact RdO.cp rfl rfl rfl | exact RdO.ex rfl rfl | exact RdO.pF rfl tst2 rfl | exact RdO.pT rfl tst2 rfl | exact RdO.ad rfl rfl | exact RdO.le rfl | exact RdO.cv rfl | exact RdO.mu rfl rfl | exact RdO.su rfl rfl | exact RdO.not rfl) : G := h
theorem rd2 {G : Prop} (h : G := by first | exact RdOk.pl rfl rdO2 rfl (by kernel_rfl) (by kernel_rfl) | exact RdOk.ps rfl rfl rfl tst2 rfl (by kernel_rfl) (by kernel_rfl) | exact RdOk.wt rfl rfl rfl tst2 rdO2 rfl (by kernel_rfl) (by kernel_rfl) | exact RdOk.un rfl rfl rfl rfl (by kernel_rfl) (by kernel_rfl)) : G := h
theorem rds2 {G : Prop} (h : G := by (repeat (refine And.intro ?_ ?_; exact rd2)); exact trivial) : G := h
mutual
def signalmanlaw25_SignalRefuses.l3 : Nat → Int → (List api_Event × List Int) → (List api_Event × List Int) → Int → Option Bool
 | 0, _, _, _, _ => none
 | k + 1, a2, t17, t30, x68 => (if x68 < (t30.2.length : Int) then (if x68 < a2 then (if 0 ≤ x68 ∧ x68 < (t30.2.length : Int) then (if 0 ≤ x68 ∧ x68 < (t17.2.length : Int) then ((signalmanlaw25_num.f (t30.2.getD x68.toNat 0)).bind fun t96 => ((signalmanlaw25_num.f (t17.2.getD x68.toNat 0)).bind fun t98 => (if t96 = t98 then (if x68 ≥ (w64 (a2 + ((signalmanlaw25_SignalRefuses.c0).length : Int))) then (if 0 ≤ w64 (x68 - ((signalmanlaw25_SignalRefuses.c0).length : Int)) ∧ w64 (x68 - ((signalmanlaw25_SignalRefuses.c0).length : Int)) < (t17.2.length : Int) then ((signalmanlaw25_num.f (t30.2.getD x68.toNat 0)).bind fun t103 => ((signalmanlaw25_num.f (t17.2.getD (w64 (x68 - ((signalmanlaw25_SignalRefuses.c0).length : Int))).toNat 0)).bind fun t105 => (signalmanlaw25_SignalRefuses.j4 a2 t30 x68 (signalmanlaw25_SignalRefuses.l3 k a2 t17 t30) (!(decide (t103 = t105)))))) else none) else (signalmanlaw25_SignalRefuses.j4 a2 t30 x68 (signalmanlaw25_SignalRefuses.l3 k a2 t17 t30) false)) else (signalmanlaw25_SignalRefuses.j4 a2 t30 x68 (signalmanlaw25_SignalRefuses.l3 k a2 t17 t30) true)))) else none) else none) else (if x68 ≥ (w64 (a2 + ((signalmanlaw25_SignalRefuses.c0).length : Int))) then (if 0 ≤ x68 ∧ x68 < (t30.2.length : Int) then (if 0 ≤ w64 (x68 - ((signalmanlaw25_SignalRefuses.c0).length : Int)) ∧ w64 (x68 - ((signalmanlaw25_SignalRefuses.c0).length : Int)) < (t17.2.length : Int) then ((signalmanlaw25_num.f (t30.2.getD x68.toNat 0)).bind fun t114 => ((signalmanlaw25_num.f (t17.2.getD (w64 (x68 - ((signalmanlaw25_SignalRefuses.c0).length : Int))).toNat 0)).bind fun t116 => (signalmanlaw25_SignalRefuses.j4 a2 t30 x68 (signalmanlaw25_SignalRefuses.l3 k a2 t17 t30) (!(decide (t114 = t116)))))) else none) else none) else (signalmanlaw25_SignalRefuses.j4 a2 t30 x68 (signalmanlaw25_SignalRefuses.l3 k a2 t17 t30) false))) else some true)
def signalmanlaw25_SignalRefuses.j5 (x68 : Int) (Lq79 : Int → Option Bool) (x77 : Bool) : Option Bool := (if x77 = true then some false else (Lq79 (w64 (x68 + 1))))
def signalmanlaw25_SignalRefuses.j4 (a2 : Int) (t30 : List api_Event × List Int) (x68 : Int) (Lq74 : Int → Option Bool) (x72 : Bool) : Option Bool := (if x72 = true then some false else (if x68 ≥ a2 then (if x68 < (w64 (a2 + ((signalmanlaw25_SignalRefuses.c0).length : Int))) then (if 0 ≤ x68 ∧ x68 < (t30.2.length : Int) then ((signalmanlaw25_num.f (t30.2.getD x68.toNat 0)).bind fun t87 => (signalmanlaw25_SignalRefuses.j5 x68 Lq74 (decide (t87 = 0)))) else none) else (signalmanlaw25_SignalRefuses.j5 x68 Lq74 false)) else (signalmanlaw25_SignalRefuses.j5 x68 Lq74 false)))
def signalmanlaw25_SignalRefuses.j2 (k : Nat) (a2 : Int) (t17 : List api_Event × List Int) (t30 : List api_Event × List Int) (t32 : (api_Status × api_Status) × Bool) (x63 : Bool) : Option Bool := (if x63 = true then some false else (if t32.2 = true then (if (t30.2.length : Int) = (w64 ((t17.2.length : Int) + ((signalmanlaw25_SignalRefuses.c0).length : Int))) then (signalmanlaw25_SignalRefuses.l3 k a2 t17 t30 0) else some false) else (if (t17.2.length : Int) = 1 then (if (t30.2.length : Int) = 1 then (if 0 ≤ (0 : Int) ∧ (0 : Int) < (t17.2.length : Int) then ((signalmanlaw25_num.f (t17.2.getD (0 : Int).toNat 0)).bind fun t123 => some (decide (t123 = 1))) else none) else some false) else some false)))
def signalmanlaw25_SignalRefuses.j1 (k : Nat) (a2 : Int) (t17 : List api_Event × List Int) (t30 : List api_Event × List Int) (t32 : (api_Status × api_Status) × Bool) (x59 : (api_Status × api_Status)) (x60 : Bool) : Option Bool := ((signalmanref20_SameEvents.f k t17.1 t30.1).bind fun t125 => (if t125 = true then (if ((api_Status.beq t32.1.1 x59.1) && ((api_Status.beq t32.1.2 x59.2) && true)) = true then (signalmanlaw25_SignalRefuses.j2 k a2 t17 t30 t32 (t32.2 != x60)) else (signalmanlaw25_SignalRefuses.j2 k a2 t17 t30 t32 true)) else (signalmanlaw25_SignalRefuses.j2 k a2 t17 t30 t32 true)))
def signalmanlaw25_SignalRefuses.j0 (k : Nat) (a0 : api_Config) (a1 : List api_Op) (a2 : Int) (t2 : Bool) (x6 : Bool) : Option Bool := (if x6 = true then some t2 else (if 0 ≤ (1001 : Int) ∧ (1001 : Int) ≤ 1099511627776 then ((signalman_Play.f k a0 a1).bind fun t17 => (if 0 ≤ (0 : Int) ∧ (0 : Int) ≤ a2 ∧ a2 ≤ (a1.length : Int) then (if 0 ≤ a2 ∧ a2 ≤ (a1.length : Int) ∧ (a1.length : Int) ≤ (a1.length : Int) then (if (([] : List api_Op).length : Int) + (cut a1 (0 : Int) a2).length ≤ 1099511627776 then (if ((([] : List api_Op) ++ (cut a1 (0 : Int) a2)).length : Int) + (signalmanlaw25_SignalRefuses.c0).length ≤ 1099511627776 then (if (((([] : List api_Op) ++ (cut a1 (0 : Int) a2)) ++ signalmanlaw25_SignalRefuses.c0).length : Int) + (cut a1 a2 (a1.length : Int)).length ≤ 1099511627776 then ((signalman_Play.f k a0 (((([] : List api_Op) ++ (cut a1 (0 : Int) a2)) ++ signalmanlaw25_SignalRefuses.c0) ++ (cut a1 a2 (a1.length : Int)))).bind fun t30 => ((signalman_After.f k a0 a1).bind fun t32 => ((signalman_After.f k a0 (((([] : List api_Op) ++ (cut a1 (0 : Int) a2)) ++ signalmanlaw25_SignalRefuses.c0) ++ (cut a1 a2 (a1.length : Int)))).bind fun t140 => (signalmanlaw25_SignalRefuses.j1 k a2 t17 t30 t32 t140.1 t140.2)))) else none) else none) else none) else none) else none)) else none))
end
def signalmanlaw25_SignalRefuses.f (k : Nat) (a0 : api_Config) (a1 : List api_Op) (a2 : Int) : Option Bool := ((signalmanlaw25_alive.f k ).bind fun t2 => (if t2 = true then ((signalmanlaw25_Few.f k a1).bind fun t167 => (if t167 = true then (if a2 < 0 then (signalmanlaw25_SignalRefuses.j0 k a0 a1 a2 t2 true) else (signalmanlaw25_SignalRefuses.j0 k a0 a1 a2 t2 (decide (a2 > (a1.length : Int))))) else (signalmanlaw25_SignalRefuses.j0 k a0 a1 a2 t2 true))) else (signalmanlaw25_SignalRefuses.j0 k a0 a1 a2 t2 true)))
theorem signalmanlaw25_SignalRefuses.calls {k : Nat} {a0 : api_Config} {a1 : List api_Op} {a2 : Int} {R : As} {w0 w : World} {sa1 : Option Addr} {sc1 : Nat} {sd1 : List Value} {r : Bool} (H : signalmanlaw25_SignalRefuses.f k a0 a1 a2 = some r) (HS : Sep.St [R] w0 w) (hr1 : rdC R 6 (.slice sa1 a1.length sc1) a1.length sd1) (ht1 : ∀ h, R h → tie api_Op.El sd1 a1 h) : Calls Tryz.prog 10 #[Value.agg #[vi a0.Mode, vi a0.Modulus, vi a0.Window, vi a0.T1, vi a0.N2, vi a0.Hold, vi a0.Wait, vi a0.Keep, vi a0.Queue, vi a0.Size, vi a0.Ring, vi a0.Rate, vi a0.Bad, vi a0.Good, vb a0.Revert, vb a0.Wide], vs sa1 a1.length sc1, vi a2] w (Ret fun u w => u = vb r ∧ Sep.St [R] w0 w) := by
 refine calls_enter func10 rfl rfl ?_
 have HS := St.more 0 HS rfl ht1 tie.pers
 refine go ?_
 refine W.e (Y.box HS rfl) rfl ?_
 rintro _ w ⟨nb1, rfl, HS⟩
 refine go ?_
 refine W.kl H func12 (fun _ h => signalmanlaw25_alive.calls h HS.j0) ?_
 rintro t2 _ w H ⟨rfl, HS⟩
 have HS := HS.o0
 refine gs ?_
 refine V.seq ?_
 refine V.meet (σ := Bool) (fun x6 w => Sep.St [api_Config.at nb1 a0, tie api_Op.El sd1 a1, R] w0 w ∧ ∃ kf7, kf7 ≤ k ∧ signalmanlaw25_SignalRefuses.j0 kf7 a0 a1 a2 t2 x6 = some r) (fun x6 => [(1, vs sa1 a1.length sc1), (2, vi a2), (3, pt nb1), (7, vb t2), (35, vb x6)]) ?_ ?_
 ·refine go ?_
  refine W.cx 21 H rfl (fun _ H => ?_) (fun _ H => ?_)
  ·refine go ?_
   refine W.kl H func16 (fun _ h => signalmanlaw25_Few.calls h HS.j0 (rdC.part 2 hr1 rfl) (fun h hh => let ⟨_, l, t⟩ := Sp.has 1 hh rfl; tie.mono t l)) ?_
   rintro _ _ w H ⟨rfl, HS⟩
   have HS := HS.o0
   refine go ?_
   refine W.cx 26 H rfl (fun _ H => ?_) (fun _ H => ?_)
   ·refine go ?_
    refine W.cd 30 H rfl (fun _ H => ?_) (fun _ H => ?_)
    ·refine go ?_
     have HS := api_Config.close tv HS
     exact At.mt _ ⟨HS, k, by omega, H⟩
    ·refine go ?_
     have HS := api_Config.close tv HS
     exact At.mt _ ⟨HS, k, by omega, H⟩
   ·refine go ?_
    have HS := api_Config.close tv HS
    exact At.mt _ ⟨HS, k, by omega, H⟩
  ·refine go ?_
   have HS := api_Config.close tv HS
   exact At.mt _ ⟨HS, k, by omega, H⟩
 ·rintro x6 w ⟨HS, kf7, _, H⟩
  refine V.cv H rfl (fun _ H => ?_) (fun _ H => ?_)
  ·refine go ?_
   have HS := HS.ke [2]
   exact rt
  ·refine go ?_
   refine W.r (X.bd (Value.agg #[vi (0), vi (0), vi (0), vi (0), vi (0), vs none 0 0]) rfl (fun _ => by kernel_rfl)) rfl ?_
   refine W.r (X.bd (Value.agg #[vi (9), vi (0), vi (0), vi (0), vi (0), vs none 0 0]) rfl (fun _ => by kernel_rfl)) rfl ?_
   refine W.r (X.bd (Value.agg #[vi (1), vi (0), vi (0), vi (-1), vi (0), vs none 0 0]) rfl (fun _ => by kernel_rfl)) rfl ?_
   refine W.r (X.bd (Value.agg #[vi (4), vi (2), vi (0), vi (0), vi (0), vs none 0 0]) rfl (fun _ => by kernel_rfl)) rfl ?_
   refine W.r (X.bd (Value.agg #[vi (2), vi (-1), vi (0), vi (0), vi (0), vs none 0 0]) rfl (fun _ => by kernel_rfl)) rfl ?_
   refine W.r (X.bd (Value.agg #[vi (6), vi (0), vi (0), vi (4), vi (0), vs none 0 0]) rfl (fun _ => by kernel_rfl)) rfl ?_
   refine W.r (X.bd (Value.agg #[vi (7), vi (0), vi (2), vi (0), vi (0), vs none 0 0]) rfl (fun _ => by kernel_rfl)) rfl ?_
   refine W.r (X.bd (Value.agg #[vi (7), vi (0), vi (0), vi (0), vi (9), vs none 0 0]) rfl (fun _ => by kernel_rfl)) rfl ?_
   obtain ⟨c9, H⟩ := ite_n H
   refine W.e (Y.makeSl (g := (Value.int .u8)) (N := 1001) 0 underlying27 ap5 rfl HS rfl rfl c9 (by decide)) rfl ?_
   rintro _ w ⟨ra10, rc11, rfl, HS⟩
   refine W.r (X.bd (Value.agg #[vi (4), vi (0), vi (0), vi (0), vi (0), vs ra10 (List.replicate (1001 : Int).toNat 0).length rc11]) rfl (fun _ => by kernel_rfl)) rfl (W.r (X.bd (Value.agg #[vi (5), vi (5), vi (0), vi (0), vi (0), vs none 0 0]) rfl (fun _ => by kernel_rfl)) rfl ?_)
   have HS := St.row_freeze (row_nilF (Value.int .u8) 5 1 (St.row_freeze ((St.row_freeze (row_nilF (Value.int .u8) 5 1 (St.row_freeze (row_nilF (Value.int .u8) 5 1 (St.row_freeze (row_nilF (Value.int .u8) 5 1 (St.row_freeze (row_nilF (Value.int .u8) 5 1 (St.row_freeze (row_nilF (Value.int .u8) 5 1 (St.row_freeze (row_nilF (Value.int .u8) 5 1 (St.row_freeze (row_nilF (Value.int .u8) 5 1 (St.row_freeze (row_nilF (Value.int .u8) 5 1 HS)))))))))))))))).fr 8)))
   refine W.e (Y.lc (e := 29) (sz := 6) [vi (0), vi (0), vi (0), vi (0), vi (0), vs none ([] : List Int).length 0, vi (9), vi (0), vi (0), vi (0), vi (0), vs none ([] : List Int).length 0, vi (1), vi (0), vi (0), vi (-1), vi (0), vs none ([] : List Int).length 0, vi (4), vi (2), vi (0), vi (0), vi (0), vs none ([] : List Int).length 0, vi (2), vi (-1), vi (0), vi (0), vi (0), vs none ([] : List Int).length 0, vi (6), vi (0), vi (0), vi (4), vi (0), vs none ([] : List Int).length 0, vi (7), vi (0), vi (2), vi (0), vi (0), vs none ([] : List Int).length 0, vi (7), vi (0), vi (0), vi (0), vi (9), vs none ([] : List Int).length 0, vi (4), vi (0), vi (0), vi (0), vi (0), vs ra10 (List.replicate (1001 : Int).toNat 0).length rc11, vi (5), vi (5), vi (0), vi (0), vi (0), vs none ([] : List Int).length 0] HS rfl rfl (fun _ => by kernel_rfl)) rfl ?_
   rintro _ w ⟨lb12, rfl, HS⟩
   have HS := St.tie_cons (((api_Op.pack (x := ({ Kind := 0, At := 0, Line := 0, N := 0, Fault := 0, B := ([] : List Int) } : api_Op)) ((St.tie_cons (((api_Op.pack (x := ({ Kind := 9, At := 0, Line := 0, N := 0, Fault := 0, B := ([] : List Int) } : api_Op)) ((St.tie_cons (((api_Op.pack (x := ({ Kind := 1, At := 0, Line := 0, N := (-1), Fault := 0, B := ([] : List Int) } : api_Op)) ((St.tie_cons (((api_Op.pack (x := ({ Kind := 4, At := 2, Line := 0, N := 0, Fault := 0, B := ([] : List Int) } : api_Op)) ((St.tie_cons (((api_Op.pack (x := ({ Kind := 2, At := (-1), Line := 0, N := 0, Fault := 0, B := ([] : List Int) } : api_Op)) ((St.tie_cons (((api_Op.pack (x := ({ Kind := 6, At := 0, Line := 0, N := 4, Fault := 0, B := ([] : List Int) } : api_Op)) ((St.tie_cons (((api_Op.pack (x := ({ Kind := 7, At := 0, Line := 2, N := 0, Fault := 0, B := ([] : List Int) } : api_Op)) ((St.tie_cons (((api_Op.pack (x := ({ Kind := 7, At := 0, Line := 0, N := 0, Fault := 9, B := ([] : List Int) } : api_Op)) ((St.tie_cons (((api_Op.pack (x := ({ Kind := 4, At := 0, Line := 0, N := 0, Fault := 0, B := List.replicate (1001 : Int).toNat 0 } : api_Op)) ((St.tie_cons (((api_Op.pack (x := ({ Kind := 5, At := 5, Line := 0, N := 0, Fault := 0, B := ([] : List Int) } : api_Op)) ((St.put (A := tie api_Op.El ([]) ([] : List api_Op)) (fun _ => tie.nil) HS).more 2 rfl (fun _ t => t) fsl.pers)).fr 1).fr 1)).more 3 rfl (fun _ t => t) fsl.pers)).fr 1).fr 1)).more 4 rfl (fun _ t => t) fsl.pers)).fr 1).fr 1)).more 5 rfl (fun _ t => t) fsl.pers)).fr 1).fr 1)).more 6 rfl (fun _ t => t) fsl.pers)).fr 1).fr 1)).more 7 rfl (fun _ t => t) fsl.pers)).fr 1).fr 1)).more 8 rfl (fun _ t => t) fsl.pers)).fr 1).fr 1)).more 9 rfl (fun _ t => t) fsl.pers)).fr 1).fr 1)).more 10 rfl (fun _ t => t) fsl.pers)).fr 1).fr 1)).more 11 rfl (fun _ t => t) fsl.pers)).fr 1).fr 1)
   refine go ?_
   have HS := HS.fr 12
   obtain ⟨_, HS⟩ := api_Config.open HS
   refine go ?_
   refine W.kl H func17 (fun _ h => signalman_Play.calls h HS.j0 (rdC.part 14 hr1 rfl) (fun h hh => let ⟨_, l, t⟩ := Sp.has 13 hh rfl; tie.mono t l)) ?_
   rintro t17 _ w H ⟨at17_0, ct17_0, dt17_0, at17_1, ct17_1, rfl, HS⟩
   have HS := HS.o3
   refine go ?_
   obtain ⟨c19, H⟩ := ite_n H
   obtain ⟨c20, H⟩ := ite_n H
   apply V.da [4, 6, 10, 11] [12, 13, 14, 15, 16] [(56, _), (57, _), (58, _), (59, _), (61, _), (63, _), (64, _), (65, _)] mo HS
   rfl
   refine T.e [59] [12, 13, 14, 15, 16] [1, 2, 3] (fun w HS => ?_) ⟨rd2, rd2, rd2, .n2 57 58 rfl rfl rfl (fun w HS => X.slH underlying30 inf29 rfl rfl c19 (rdC.at 17 hr1 HS rfl).cap), rd2, rd2, rd2, .n2 63 64 rfl rfl rfl (fun w HS => X.slL underlying30 inf29 rfl rfl c20), rds2⟩
   obtain ⟨_, H⟩ := ite_n H
   have HS := St.tie_cut2 18 (0 : Int) a2 (row_nilE api_Op.El 29 6 HS) rfl
   have HS : Sep.St _ w0 w := HS
   refine ⟨_, Y.app (xs := ([] : List api_Op)) (ys := cut a1 (0 : Int) a2) 1 underlying30 ap29 rfl (by decide) HS rfl rfl rfl (rdC.at 20 (rdC.sub hr1 c19) HS rfl) (St.tie_one 0 HS rfl) (by omega) (by omega), ?_⟩
   rintro _ w ⟨_, _, rfl, HS⟩
   have HS := St.tie_app 1 (HS.fr 2) rfl
   refine T.nw HS ?_
   refine T.e [60, 61] [12, 13, 14, 15, 16] [5] (fun w HS => ?_) ⟨rd2, rd2, rd2, rd2, .n2 63 64 rfl rfl rfl (fun w HS => X.slL underlying30 inf29 rfl rfl c20), rds2⟩
   obtain ⟨_, H⟩ := ite_n H
   refine ⟨_, Y.app (xs := ([] : List api_Op) ++ (cut a1 (0 : Int) a2)) (ys := signalmanlaw25_SignalRefuses.c0) 2 underlying30 ap29 rfl (by decide) HS rfl rfl rfl (rdC.at 8 row_rd HS rfl) (St.tie_one 7 HS rfl) (by omega) (by omega), ?_⟩
   rintro _ w ⟨_, _, rfl, HS⟩
   have HS := St.tie_app 7 HS rfl
   refine T.nw HS ?_
   refine T.e [62, 65] [12, 13, 14, 15, 16] [7, 8, 9] (fun w HS => ?_) ⟨rd2, rd2, rd2, .n2 63 64 rfl rfl rfl (fun w HS => X.slL underlying30 inf29 rfl rfl c20), rds2⟩
   obtain ⟨_, H⟩ := ite_n H
   have HS := St.tie_cut2 19 a2 (a1.length : Int) HS rfl
   have HS : Sep.St _ w0 w := HS
   refine ⟨_, Y.app (xs := (([] : List api_Op) ++ (cut a1 (0 : Int) a2)) ++ signalmanlaw25_SignalRefuses.c0) (ys := cut a1 a2 (a1.length : Int)) 3 underlying30 ap29 rfl (by decide) HS rfl rfl rfl (rdC.at 21 (rdC.sub hr1 c20) HS rfl) (St.tie_one 0 HS rfl) (by omega) (by omega), ?_⟩
   rintro _ w ⟨ra28, rc29, rfl, HS⟩
   have HS := St.tie_app 1 (HS.fr 1) rfl
   refine T.nw HS ?_
   refine T.e [56, 66] [] [0] (fun w HS => ?_) rds2
   refine Y.kl H func17 (fun _ h => signalman_Play.calls h HS.j0 (rdC.part 3 row_rd rfl) (fun h hh => let ⟨_, l, t⟩ := Sp.has 0 hh rfl; tie.mono t l)) ?_
   rintro t30 _ w H ⟨at30_0, ct30_0, dt30_0, at30_1, ct30_1, rfl, HS⟩
   have HS := HS.o3
   apply T.na [(67, _), (55, _), (68, _), (69, _), (11, _), (12, _)] HS
   exact nmk
   refine T.ff [1, 2, 3, 8, 9, 10, 11, 12] (fun w HS => ?_) rds2
   refine go ?_
   refine W.kl H func15 (fun _ h => signalman_After.calls h HS.j0 (rdC.part 24 hr1 rfl) (fun h hh => let ⟨_, l, t⟩ := Sp.has 23 hh rfl; tie.mono t l)) ?_
   rintro t32 _ w H ⟨rfl, HS⟩
   have HS := HS.o0
   refine go ?_
   refine W.e (Y.alloc (z := Value.agg (#[vi (0), vi (0), vi (0), vi (0), vi (0), vi (0), vi (0), vi (0), vi (0), vi (0), vi (0), vi (0), vi (0), vi (0)])) HS ze34) rfl ?_
   rintro _ w ⟨nb34, rfl, HS⟩
   refine W.en (Y.storeSt (c' := #[vi t32.1.1.State, vi t32.1.1.Line, vi t32.1.1.Lines.1, vi t32.1.1.Lines.2, vi t32.1.1.Sent, vi t32.1.1.Acked, vi t32.1.1.Lost, vi t32.1.2.State, vi t32.1.2.Line, vi t32.1.2.Lines.1, vi t32.1.2.Lines.2, vi t32.1.2.Sent, vi t32.1.2.Acked, vi t32.1.2.Lost]) 0 [vi t32.1.1.State, vi t32.1.1.Line, vi t32.1.1.Lines.1, vi t32.1.1.Lines.2, vi t32.1.1.Sent, vi t32.1.1.Acked, vi t32.1.1.Lost, vi t32.1.2.State, vi t32.1.2.Line, vi t32.1.2.Lines.1, vi t32.1.2.Lines.2, vi t32.1.2.Sent, vi t32.1.2.Acked, vi t32.1.2.Lost] HS rfl inf34 rfl rfl rfl rfl rfl rfl) rfl ?_
   rintro _ w HS
   refine gs ?_
   refine V.meet (σ := Nat × (api_Status × api_Status) × Bool) (fun (nb58, x59, x60) w => Sep.St [V34.at nb58 x59, api_Config.at nb1 a0, V34.at nb34 t32.1, row 56 4 (.slice at30_0 t30.1.length ct30_0) t30.1.length dt30_0, tie api_Event.El dt30_0 t30.1, row 44 1 (.slice at30_1 t30.2.length ct30_1) t30.2.length (t30.2.map (Value.int .i64)), tie api_Op.El (((([]) ++ (cutC 6 sd1 (0 : Int) a2)) ++ ([vi (0), vi (0), vi (0), vi (0), vi (0), vs none ([] : List Int).length 0, vi (9), vi (0), vi (0), vi (0), vi (0), vs none ([] : List Int).length 0, vi (1), vi (0), vi (0), vi (-1), vi (0), vs none ([] : List Int).length 0, vi (4), vi (2), vi (0), vi (0), vi (0), vs none ([] : List Int).length 0, vi (2), vi (-1), vi (0), vi (0), vi (0), vs none ([] : List Int).length 0, vi (6), vi (0), vi (0), vi (4), vi (0), vs none ([] : List Int).length 0, vi (7), vi (0), vi (2), vi (0), vi (0), vs none ([] : List Int).length 0, vi (7), vi (0), vi (0), vi (0), vi (9), vs none ([] : List Int).length 0, vi (4), vi (0), vi (0), vi (0), vi (0), vs ra10 (List.replicate (1001 : Int).toNat 0).length rc11, vi (5), vi (5), vi (0), vi (0), vi (0), vs none ([] : List Int).length 0])) ++ (cutC 6 sd1 a2 (a1.length : Int))) (((([] : List api_Op) ++ (cut a1 (0 : Int) a2)) ++ signalmanlaw25_SignalRefuses.c0) ++ (cut a1 a2 (a1.length : Int))), tie api_Op.El (cutC 6 sd1 a2 (a1.length : Int)) (cut a1 a2 (a1.length : Int)), tie api_Op.El (cutC 6 sd1 (0 : Int) a2) (cut a1 (0 : Int) a2), row 29 6 (.slice ra28 (((([] : List api_Op) ++ (cut a1 (0 : Int) a2)) ++ signalmanlaw25_SignalRefuses.c0) ++ (cut a1 a2 (a1.length : Int))).length rc29) (((([] : List api_Op) ++ (cut a1 (0 : Int) a2)) ++ signalmanlaw25_SignalRefuses.c0) ++ (cut a1 a2 (a1.length : Int))).length (((([]) ++ (cutC 6 sd1 (0 : Int) a2)) ++ ([vi (0), vi (0), vi (0), vi (0), vi (0), vs none ([] : List Int).length 0, vi (9), vi (0), vi (0), vi (0), vi (0), vs none ([] : List Int).length 0, vi (1), vi (0), vi (0), vi (-1), vi (0), vs none ([] : List Int).length 0, vi (4), vi (2), vi (0), vi (0), vi (0), vs none ([] : List Int).length 0, vi (2), vi (-1), vi (0), vi (0), vi (0), vs none ([] : List Int).length 0, vi (6), vi (0), vi (0), vi (4), vi (0), vs none ([] : List Int).length 0, vi (7), vi (0), vi (2), vi (0), vi (0), vs none ([] : List Int).length 0, vi (7), vi (0), vi (0), vi (0), vi (9), vs none ([] : List Int).length 0, vi (4), vi (0), vi (0), vi (0), vi (0), vs ra10 (List.replicate (1001 : Int).toNat 0).length rc11, vi (5), vi (5), vi (0), vi (0), vi (0), vs none ([] : List Int).length 0])) ++ (cutC 6 sd1 a2 (a1.length : Int))), row 56 4 (.slice at17_0 t17.1.length ct17_0) t17.1.length dt17_0, tie api_Event.El dt17_0 t17.1, row 44 1 (.slice at17_1 t17.2.length ct17_1) t17.2.length (t17.2.map (Value.int .i64)), tie api_Op.El ([vi (0), vi (0), vi (0), vi (0), vi (0), vs none ([] : List Int).length 0, vi (9), vi (0), vi (0), vi (0), vi (0), vs none ([] : List Int).length 0, vi (1), vi (0), vi (0), vi (-1), vi (0), vs none ([] : List Int).length 0, vi (4), vi (2), vi (0), vi (0), vi (0), vs none ([] : List Int).length 0, vi (2), vi (-1), vi (0), vi (0), vi (0), vs none ([] : List Int).length 0, vi (6), vi (0), vi (0), vi (4), vi (0), vs none ([] : List Int).length 0, vi (7), vi (0), vi (2), vi (0), vi (0), vs none ([] : List Int).length 0, vi (7), vi (0), vi (0), vi (0), vi (9), vs none ([] : List Int).length 0, vi (4), vi (0), vi (0), vi (0), vi (0), vs ra10 (List.replicate (1001 : Int).toNat 0).length rc11, vi (5), vi (5), vi (0), vi (0), vi (0), vs none ([] : List Int).length 0]) (signalmanlaw25_SignalRefuses.c0), row 29 6 (.slice (some ⟨lb12, 0, none⟩) (signalmanlaw25_SignalRefuses.c0).length 10) (signalmanlaw25_SignalRefuses.c0).length ([vi (0), vi (0), vi (0), vi (0), vi (0), vs none ([] : List Int).length 0, vi (9), vi (0), vi (0), vi (0), vi (0), vs none ([] : List Int).length 0, vi (1), vi (0), vi (0), vi (-1), vi (0), vs none ([] : List Int).length 0, vi (4), vi (2), vi (0), vi (0), vi (0), vs none ([] : List Int).length 0, vi (2), vi (-1), vi (0), vi (0), vi (0), vs none ([] : List Int).length 0, vi (6), vi (0), vi (0), vi (4), vi (0), vs none ([] : List Int).length 0, vi (7), vi (0), vi (2), vi (0), vi (0), vs none ([] : List Int).length 0, vi (7), vi (0), vi (0), vi (0), vi (9), vs none ([] : List Int).length 0, vi (4), vi (0), vi (0), vi (0), vi (0), vs ra10 (List.replicate (1001 : Int).toNat 0).length rc11, vi (5), vi (5), vi (0), vi (0), vi (0), vs none ([] : List Int).length 0]), fsl 1 (.slice none ([] : List Int).length 0) ([] : List Int).length (([] : List Int).map (Value.int .u8)), fsl 1 (.slice ra10 (List.replicate (1001 : Int).toNat 0).length rc11) (List.replicate (1001 : Int).toNat 0).length ((List.replicate (1001 : Int).toNat 0).map (Value.int .u8)), fsl 1 (.slice none ([] : List Int).length 0) ([] : List Int).length (([] : List Int).map (Value.int .u8)), fsl 1 (.slice none ([] : List Int).length 0) ([] : List Int).length (([] : List Int).map (Value.int .u8)), fsl 1 (.slice none ([] : List Int).length 0) ([] : List Int).length (([] : List Int).map (Value.int .u8)), fsl 1 (.slice none ([] : List Int).length 0) ([] : List Int).length (([] : List Int).map (Value.int .u8)), fsl 1 (.slice none ([] : List Int).length 0) ([] : List Int).length (([] : List Int).map (Value.int .u8)), fsl 1 (.slice none ([] : List Int).length 0) ([] : List Int).length (([] : List Int).map (Value.int .u8)), fsl 1 (.slice none ([] : List Int).length 0) ([] : List Int).length (([] : List Int).map (Value.int .u8)), fsl 1 (.slice none ([] : List Int).length 0) ([] : List Int).length (([] : List Int).map (Value.int .u8)), tie api_Op.El sd1 a1, R] w0 w ∧ ∃ kf61, kf61 ≤ kf7 ∧ signalmanlaw25_SignalRefuses.j1 kf61 a2 t17 t30 t32 x59 x60 = some r) (fun (nb58, x59, x60) => [(2, vi a2), (8, vs (some ⟨lb12, 0, none⟩) (signalmanlaw25_SignalRefuses.c0).length 10), (9, vs at17_0 t17.1.length ct17_0), (10, vs at17_1 t17.2.length ct17_1), (11, vs at30_0 t30.1.length ct30_0), (12, vs at30_1 t30.2.length ct30_1), (13, pt nb34), (14, vb t32.2), (15, pt nb58), (16, vb x60)]) ?_ ?_
   ·apply V.da [4, 6, 10, 11, 15, 16] [12, 13, 14, 17] [(77, _), (78, _), (79, _), (80, _), (82, _), (84, _), (85, _), (86, _)] mo HS
    rfl
    refine T.pm (es' := [4, 15, 6, 10, 11, 16]) rfl ?_
    refine T.two rfl rfl ⟨.n1 3 rfl rfl (fun w HS => X.loadSt 11 [vi a0.Mode, vi a0.Modulus, vi a0.Window, vi a0.T1, vi a0.N2, vi a0.Hold, vi a0.Wait, vi a0.Keep, vi a0.Queue, vi a0.Size, vi a0.Ring, vi a0.Rate, vi a0.Bad, vi a0.Good, vb a0.Revert, vb a0.Wide] HS rfl underlying24 rfl inf24 rfl rfl), .mv 1, .mv 2, .n2 78 79 rfl rfl rfl (fun w HS => X.slH underlying30 inf29 rfl rfl c19 (rdC.at 25 hr1 HS rfl).cap), .mv 8, .mv 1, .mv 2, .n2 84 85 rfl rfl rfl (fun w HS => X.slL underlying30 inf29 rfl rfl c20), tv⟩ (T.step (es := [15, 6, 10, 11, 16]) _ [(80, vs (vaddr sa1 sc1 (0 : Int).toNat 6) (cut a1 (0 : Int) a2).length (sc1 - (0 : Int).toNat))] rfl ⟨.inr ⟨rfl, rfl⟩, tv⟩ (Or.inl rfl) (by intro d hd; cases hd; exact ⟨by decide, rfl, rfl⟩) [12, 13, 14, 17] [1, 2, 3] rfl rfl rfl rfl rfl (fun w HS => ?_)) (T.step (es := [4, 6, 10, 11, 16]) _ [] rfl tv (Or.inl rfl) (by intro d hd; cases hd; exact ⟨by decide, rfl, rfl⟩) [12, 13, 14, 17] [] rfl rfl rfl rfl rfl (fun w HS => ?_))
    ·have HS : Sep.St _ w0 w := HS
     have HS := St.tie_cut2 26 (0 : Int) a2 (row_nilE api_Op.El 29 6 HS) rfl
     have HS : Sep.St _ w0 w := HS
     refine ⟨_, Y.app (xs := ([] : List api_Op)) (ys := cut a1 (0 : Int) a2) 1 underlying30 ap29 rfl (by decide) HS rfl rfl rfl (rdC.at 28 (rdC.sub hr1 c19) HS rfl) (St.tie_one 0 HS rfl) (by omega) (by omega), ?_⟩
     rintro _ w ⟨ra133, rc134, rfl, HS⟩
     have HS := St.tie_app 1 (HS.fr 2) rfl
     refine T.nw HS ?_
     refine T.two rfl rfl ⟨.n1 3 rfl rfl (fun w HS => X.loadSt 14 [vi a0.Mode, vi a0.Modulus, vi a0.Window, vi a0.T1, vi a0.N2, vi a0.Hold, vi a0.Wait, vi a0.Keep, vi a0.Queue, vi a0.Size, vi a0.Ring, vi a0.Rate, vi a0.Bad, vi a0.Good, vb a0.Revert, vb a0.Wide] HS rfl underlying24 rfl inf24 rfl rfl), .mv 8, .mv 1, .mv 2, .n2 84 85 rfl rfl rfl (fun w HS => X.slL underlying30 inf29 rfl rfl c20), tv⟩ (T.step (es := [6, 10, 11, 16]) _ [] rfl tv (Or.inl rfl) (by intro d hd; cases hd; exact ⟨by decide, rfl, rfl⟩) [12, 13, 14, 17] [] rfl rfl rfl rfl rfl (fun w HS => ?_)) (T.step (es := [15, 10, 11, 16]) _ [(81, vs ra133 (([] : List api_Op) ++ (cut a1 (0 : Int) a2)).length rc134), (82, vs (some ⟨lb12, 0, none⟩) (signalmanlaw25_SignalRefuses.c0).length 10)] rfl ⟨.inr ⟨rfl, rfl⟩, ⟨.inr ⟨rfl, rfl⟩, tv⟩⟩ (Or.inl rfl) (by intro d hd; cases hd; exact ⟨by decide, rfl, rfl⟩) [12, 13, 14, 17] [5] rfl rfl rfl rfl rfl (fun w HS => ?_))
     ·have HS : Sep.St _ w0 w := HS
      refine ⟨_, Y.alloc (z := Value.agg (#[vi (0), vi (0), vi (0), vi (0), vi (0), vi (0), vi (0), vi (0), vi (0), vi (0), vi (0), vi (0), vi (0), vi (0)])) HS ze34, ?_⟩
      rintro _ w ⟨_, rfl, HS⟩
      refine T.nw HS ?_
      refine T.e [81, 82] [12, 13, 14, 17] [5] (fun w HS => ?_) ⟨rd2, rd2, rd2, rd2, .n2 84 85 rfl rfl rfl (fun w HS => X.slL underlying30 inf29 rfl rfl c20), rds2⟩
      have HS : Sep.St _ w0 w := HS
      refine ⟨_, Y.app (xs := ([] : List api_Op) ++ (cut a1 (0 : Int) a2)) (ys := signalmanlaw25_SignalRefuses.c0) 3 underlying30 ap29 rfl (by decide) HS rfl rfl rfl (rdC.at 17 row_rd HS rfl) (St.tie_one 16 HS rfl) (by omega) (by omega), ?_⟩
      rintro _ w ⟨_, _, rfl, HS⟩
      have HS := St.tie_app 16 (HS.fr 1) rfl
      refine T.nw HS ?_
      refine T.e [83, 86] [12, 13, 14, 17] [7, 8, 9] (fun w HS => ?_) ⟨rd2, rd2, rd2, .n2 84 85 rfl rfl rfl (fun w HS => X.slL underlying30 inf29 rfl rfl c20), rds2⟩
      have HS := St.tie_cut2 28 a2 (a1.length : Int) HS rfl
      have HS : Sep.St _ w0 w := HS
      refine ⟨_, Y.app (xs := (([] : List api_Op) ++ (cut a1 (0 : Int) a2)) ++ signalmanlaw25_SignalRefuses.c0) (ys := cut a1 a2 (a1.length : Int)) 4 underlying30 ap29 rfl (by decide) HS rfl rfl rfl (rdC.at 30 (rdC.sub hr1 c20) HS rfl) (St.tie_one 0 HS rfl) (by omega) (by omega), ?_⟩
      rintro _ w ⟨_, _, rfl, HS⟩
      have HS := St.tie_app 1 (HS.fr 1) rfl
      refine T.nw HS ?_
      refine T.e [77, 87] [17] [0] (fun w HS => ?_) rds2
      refine Y.kl H func15 (fun _ h => signalman_After.calls h HS.j0 (rdC.part 4 row_rd rfl) (fun h hh => let ⟨_, l, t⟩ := Sp.has 0 hh rfl; tie.mono t l)) ?_
      rintro t140 _ w H ⟨rfl, HS⟩
      have HS := HS.o0
      apply T.na [(88, _), (76, _), (89, _), (90, _)] HS
      exact nmk
      refine T.e [15, 89] [] [12, 13] (fun w HS => ?_) rds2
      refine ⟨_, Y.storeSt (c' := #[vi t140.1.1.State, vi t140.1.1.Line, vi t140.1.1.Lines.1, vi t140.1.1.Lines.2, vi t140.1.1.Sent, vi t140.1.1.Acked, vi t140.1.1.Lost, vi t140.1.2.State, vi t140.1.2.Line, vi t140.1.2.Lines.1, vi t140.1.2.Lines.2, vi t140.1.2.Sent, vi t140.1.2.Acked, vi t140.1.2.Lost]) 2 [vi t140.1.1.State, vi t140.1.1.Line, vi t140.1.1.Lines.1, vi t140.1.1.Lines.2, vi t140.1.1.Sent, vi t140.1.1.Acked, vi t140.1.1.Lost, vi t140.1.2.State, vi t140.1.2.Line, vi t140.1.2.Lines.1, vi t140.1.2.Lines.2, vi t140.1.2.Sent, vi t140.1.2.Acked, vi t140.1.2.Lost] HS rfl inf34 rfl rfl rfl rfl rfl rfl, ?_⟩
      rintro _ w HS
      apply T.na [(16, _)] HS
      exact nmk
      refine T.ff [2, 8, 9, 10, 11, 12, 13, 14, 15, 16] (fun w HS => ?_) rds2
      have HS := (V34.close tv ((api_Config.close tv ((V34.close tv (HS.b [2])).b [16])).b [6])).ke [2, 1, 0, 4, 4, 4, 4, 4, 4, 4, 4, 4, 4, 4, 4, 4, 4, 4, 4, 4, 4, 4, 4, 4, 4, 4, 4]
      exact At.mt (_, _, _) ⟨HS, kf7, by omega, H⟩
     ·have HS : Sep.St _ w0 w := HS
      refine ⟨_, Y.app (xs := ([] : List api_Op) ++ (cut a1 (0 : Int) a2)) (ys := signalmanlaw25_SignalRefuses.c0) 2 underlying30 ap29 rfl (by decide) HS rfl rfl rfl (rdC.at 16 row_rd HS rfl) (St.tie_one 15 HS rfl) (by omega) (by omega), ?_⟩
      rintro _ w ⟨ra142, rc143, rfl, HS⟩
      have HS := St.tie_app 15 HS rfl
      refine T.nw HS ?_
      refine T.two rfl rfl ⟨.n1 3 rfl rfl (fun w HS => X.loadSt 14 [vi a0.Mode, vi a0.Modulus, vi a0.Window, vi a0.T1, vi a0.N2, vi a0.Hold, vi a0.Wait, vi a0.Keep, vi a0.Queue, vi a0.Size, vi a0.Ring, vi a0.Rate, vi a0.Bad, vi a0.Good, vb a0.Revert, vb a0.Wide] HS rfl underlying24 rfl inf24 rfl rfl), .mv 1, .mv 2, .n2 84 85 rfl rfl rfl (fun w HS => X.slL underlying30 inf29 rfl rfl c20), tv⟩ (T.step (es := [10, 11, 16]) _ [] rfl tv (Or.inl rfl) (by intro d hd; cases hd; exact ⟨by decide, rfl, rfl⟩) [12, 13, 14, 17] [] rfl rfl rfl rfl rfl (fun w HS => ?_)) (T.step (es := [15, 11, 16]) _ [(83, vs ra142 ((([] : List api_Op) ++ (cut a1 (0 : Int) a2)) ++ signalmanlaw25_SignalRefuses.c0).length rc143), (86, vs (vaddr sa1 sc1 a2.toNat 6) (cut a1 a2 (a1.length : Int)).length (sc1 - a2.toNat))] rfl ⟨.inr ⟨rfl, rfl⟩, ⟨.inr ⟨rfl, rfl⟩, tv⟩⟩ (Or.inl rfl) (by intro d hd; cases hd; exact ⟨by decide, rfl, rfl⟩) [12, 13, 14, 17] [7, 8, 9] rfl rfl rfl rfl rfl (fun w HS => ?_))
      ·have HS : Sep.St _ w0 w := HS
       refine ⟨_, Y.alloc (z := Value.agg (#[vi (0), vi (0), vi (0), vi (0), vi (0), vi (0), vi (0), vi (0), vi (0), vi (0), vi (0), vi (0), vi (0), vi (0)])) HS ze34, ?_⟩
       rintro _ w ⟨_, rfl, HS⟩
       refine T.nw HS ?_
       refine T.e [83, 86] [12, 13, 14, 17] [7, 8, 9] (fun w HS => ?_) ⟨rd2, rd2, rd2, .n2 84 85 rfl rfl rfl (fun w HS => X.slL underlying30 inf29 rfl rfl c20), rds2⟩
       have HS := St.tie_cut2 28 a2 (a1.length : Int) HS rfl
       have HS : Sep.St _ w0 w := HS
       refine ⟨_, Y.app (xs := (([] : List api_Op) ++ (cut a1 (0 : Int) a2)) ++ signalmanlaw25_SignalRefuses.c0) (ys := cut a1 a2 (a1.length : Int)) 4 underlying30 ap29 rfl (by decide) HS rfl rfl rfl (rdC.at 30 (rdC.sub hr1 c20) HS rfl) (St.tie_one 0 HS rfl) (by omega) (by omega), ?_⟩
       rintro _ w ⟨_, _, rfl, HS⟩
       have HS := St.tie_app 1 (HS.fr 2) rfl
       refine T.nw HS ?_
       refine T.e [77, 87] [17] [0] (fun w HS => ?_) rds2
       refine Y.kl H func15 (fun _ h => signalman_After.calls h HS.j0 (rdC.part 4 row_rd rfl) (fun h hh => let ⟨_, l, t⟩ := Sp.has 0 hh rfl; tie.mono t l)) ?_
       rintro t147 _ w H ⟨rfl, HS⟩
       have HS := HS.o0
       apply T.na [(88, _), (76, _), (89, _), (90, _)] HS
       exact nmk
       refine T.e [15, 89] [] [12, 13] (fun w HS => ?_) rds2
       refine ⟨_, Y.storeSt (c' := #[vi t147.1.1.State, vi t147.1.1.Line, vi t147.1.1.Lines.1, vi t147.1.1.Lines.2, vi t147.1.1.Sent, vi t147.1.1.Acked, vi t147.1.1.Lost, vi t147.1.2.State, vi t147.1.2.Line, vi t147.1.2.Lines.1, vi t147.1.2.Lines.2, vi t147.1.2.Sent, vi t147.1.2.Acked, vi t147.1.2.Lost]) 2 [vi t147.1.1.State, vi t147.1.1.Line, vi t147.1.1.Lines.1, vi t147.1.1.Lines.2, vi t147.1.1.Sent, vi t147.1.1.Acked, vi t147.1.1.Lost, vi t147.1.2.State, vi t147.1.2.Line, vi t147.1.2.Lines.1, vi t147.1.2.Lines.2, vi t147.1.2.Sent, vi t147.1.2.Acked, vi t147.1.2.Lost] HS rfl inf34 rfl rfl rfl rfl rfl rfl, ?_⟩
       rintro _ w HS
       apply T.na [(16, _)] HS
       exact nmk
       refine T.ff [2, 8, 9, 10, 11, 12, 13, 14, 15, 16] (fun w HS => ?_) rds2
       have HS := (V34.close tv ((api_Config.close tv ((V34.close tv (HS.b [2])).b [16])).b [6])).ke [2, 1, 0, 4, 4, 4, 4, 4, 4, 4, 4, 4, 4, 4, 4, 4, 4, 4, 4, 4, 4, 4, 4, 4, 4, 4, 4]
       exact At.mt (_, _, _) ⟨HS, kf7, by omega, H⟩
      ·have HS : Sep.St _ w0 w := HS
       have HS := St.tie_cut2 27 a2 (a1.length : Int) HS rfl
       have HS : Sep.St _ w0 w := HS
       refine ⟨_, Y.app (xs := (([] : List api_Op) ++ (cut a1 (0 : Int) a2)) ++ signalmanlaw25_SignalRefuses.c0) (ys := cut a1 a2 (a1.length : Int)) 3 underlying30 ap29 rfl (by decide) HS rfl rfl rfl (rdC.at 29 (rdC.sub hr1 c20) HS rfl) (St.tie_one 0 HS rfl) (by omega) (by omega), ?_⟩
       rintro _ w ⟨ra149, rc150, rfl, HS⟩
       have HS := St.tie_app 1 (HS.fr 1) rfl
       refine T.nw HS ?_
       refine T.two rfl rfl ⟨.n1 3 rfl rfl (fun w HS => X.loadSt 15 [vi a0.Mode, vi a0.Modulus, vi a0.Window, vi a0.T1, vi a0.N2, vi a0.Hold, vi a0.Wait, vi a0.Keep, vi a0.Queue, vi a0.Size, vi a0.Ring, vi a0.Rate, vi a0.Bad, vi a0.Good, vb a0.Revert, vb a0.Wide] HS rfl underlying24 rfl inf24 rfl rfl), tv⟩ (T.step (es := [11, 16]) _ [] rfl tv (Or.inl rfl) (by intro d hd; cases hd; exact ⟨by decide, rfl, rfl⟩) [12, 13, 14, 17] [] rfl rfl rfl rfl rfl (fun w HS => ?_)) (T.step (es := [15, 16]) _ [(77, Value.agg #[vi a0.Mode, vi a0.Modulus, vi a0.Window, vi a0.T1, vi a0.N2, vi a0.Hold, vi a0.Wait, vi a0.Keep, vi a0.Queue, vi a0.Size, vi a0.Ring, vi a0.Rate, vi a0.Bad, vi a0.Good, vb a0.Revert, vb a0.Wide]), (87, vs ra149 (((([] : List api_Op) ++ (cut a1 (0 : Int) a2)) ++ signalmanlaw25_SignalRefuses.c0) ++ (cut a1 a2 (a1.length : Int))).length rc150)] rfl ⟨.inr ⟨rfl, rfl⟩, ⟨.inr ⟨rfl, rfl⟩, tv⟩⟩ (Or.inl rfl) (by intro d hd; cases hd; exact ⟨by decide, rfl, rfl⟩) [17] [0] rfl rfl rfl rfl rfl (fun w HS => ?_))
       ·have HS : Sep.St _ w0 w := HS
        refine ⟨_, Y.alloc (z := Value.agg (#[vi (0), vi (0), vi (0), vi (0), vi (0), vi (0), vi (0), vi (0), vi (0), vi (0), vi (0), vi (0), vi (0), vi (0)])) HS ze34, ?_⟩
        rintro _ w ⟨_, rfl, HS⟩
        refine T.nw HS ?_
        refine T.e [77, 87] [17] [0] (fun w HS => ?_) rds2
        refine Y.kl H func15 (fun _ h => signalman_After.calls h HS.j0 (rdC.part 4 row_rd rfl) (fun h hh => let ⟨_, l, t⟩ := Sp.has 1 hh rfl; tie.mono t l)) ?_
        rintro t152 _ w H ⟨rfl, HS⟩
        have HS := HS.o0
        apply T.na [(88, _), (76, _), (89, _), (90, _)] HS
        exact nmk
        refine T.e [15, 89] [] [12, 13] (fun w HS => ?_) rds2
        refine ⟨_, Y.storeSt (c' := #[vi t152.1.1.State, vi t152.1.1.Line, vi t152.1.1.Lines.1, vi t152.1.1.Lines.2, vi t152.1.1.Sent, vi t152.1.1.Acked, vi t152.1.1.Lost, vi t152.1.2.State, vi t152.1.2.Line, vi t152.1.2.Lines.1, vi t152.1.2.Lines.2, vi t152.1.2.Sent, vi t152.1.2.Acked, vi t152.1.2.Lost]) 0 [vi t152.1.1.State, vi t152.1.1.Line, vi t152.1.1.Lines.1, vi t152.1.1.Lines.2, vi t152.1.1.Sent, vi t152.1.1.Acked, vi t152.1.1.Lost, vi t152.1.2.State, vi t152.1.2.Line, vi t152.1.2.Lines.1, vi t152.1.2.Lines.2, vi t152.1.2.Sent, vi t152.1.2.Acked, vi t152.1.2.Lost] HS rfl inf34 rfl rfl rfl rfl rfl rfl, ?_⟩
        rintro _ w HS
        apply T.na [(16, _)] HS
        exact nmk
        refine T.ff [2, 8, 9, 10, 11, 12, 13, 14, 15, 16] (fun w HS => ?_) rds2
        have HS := (V34.close tv ((api_Config.close tv ((V34.close tv HS).b [16])).b [6])).ke [2, 1, 0, 4, 4, 4, 4, 4, 4, 4, 4, 4, 4, 4, 4, 4, 4, 4, 4, 4, 4, 4, 4, 4, 4, 4, 4]
        exact At.mt (_, _, _) ⟨HS, kf7, by omega, H⟩
       ·have HS : Sep.St _ w0 w := HS
        refine Y.kl H func15 (fun _ h => signalman_After.calls h HS.j0 (rdC.part 3 row_rd rfl) (fun h hh => let ⟨_, l, t⟩ := Sp.has 0 hh rfl; tie.mono t l)) ?_
        rintro t154 _ w H ⟨rfl, HS⟩
        have HS := HS.o0
        apply T.na [(88, _), (76, _), (89, _), (90, _)] HS
        exact nmk
        refine T.e [] [17] [] (fun w HS => ?_) rds2
        refine ⟨_, Y.alloc (z := Value.agg (#[vi (0), vi (0), vi (0), vi (0), vi (0), vi (0), vi (0), vi (0), vi (0), vi (0), vi (0), vi (0), vi (0), vi (0)])) HS ze34, ?_⟩
        rintro _ w ⟨_, rfl, HS⟩
        refine T.nw HS ?_
        refine T.e [15, 89] [] [12, 13] (fun w HS => ?_) rds2
        refine ⟨_, Y.storeSt (c' := #[vi t154.1.1.State, vi t154.1.1.Line, vi t154.1.1.Lines.1, vi t154.1.1.Lines.2, vi t154.1.1.Sent, vi t154.1.1.Acked, vi t154.1.1.Lost, vi t154.1.2.State, vi t154.1.2.Line, vi t154.1.2.Lines.1, vi t154.1.2.Lines.2, vi t154.1.2.Sent, vi t154.1.2.Acked, vi t154.1.2.Lost]) 0 [vi t154.1.1.State, vi t154.1.1.Line, vi t154.1.1.Lines.1, vi t154.1.1.Lines.2, vi t154.1.1.Sent, vi t154.1.1.Acked, vi t154.1.1.Lost, vi t154.1.2.State, vi t154.1.2.Line, vi t154.1.2.Lines.1, vi t154.1.2.Lines.2, vi t154.1.2.Sent, vi t154.1.2.Acked, vi t154.1.2.Lost] HS rfl inf34 rfl rfl rfl rfl rfl rfl, ?_⟩
        rintro _ w HS
        apply T.na [(16, _)] HS
        exact nmk
        refine T.ff [2, 8, 9, 10, 11, 12, 13, 14, 15, 16] (fun w HS => ?_) rds2
        have HS := (V34.close tv ((api_Config.close tv ((V34.close tv HS).b [16])).b [6])).ke [2, 1, 0, 4, 4, 4, 4, 4, 4, 4, 4, 4, 4, 4, 4, 4, 4, 4, 4, 4, 4, 4, 4, 4, 4, 4, 4]
        exact At.mt (_, _, _) ⟨HS, kf7, by omega, H⟩
    ·have HS : Sep.St _ w0 w := HS
     refine ⟨_, Y.alloc (z := Value.agg (#[vi (0), vi (0), vi (0), vi (0), vi (0), vi (0), vi (0), vi (0), vi (0), vi (0), vi (0), vi (0), vi (0), vi (0)])) HS ze34, ?_⟩
     rintro _ w ⟨_, rfl, HS⟩
     refine T.nw HS ?_
     refine T.e [80] [12, 13, 14, 17] [1, 2, 3] (fun w HS => ?_) ⟨rd2, rd2, rd2, .n2 78 79 rfl rfl rfl (fun w HS => X.slH underlying30 inf29 rfl rfl c19 (rdC.at 26 hr1 HS rfl).cap), rd2, rd2, rd2, .n2 84 85 rfl rfl rfl (fun w HS => X.slL underlying30 inf29 rfl rfl c20), rds2⟩
     have HS := St.tie_cut2 27 (0 : Int) a2 (row_nilE api_Op.El 29 6 HS) rfl
     have HS : Sep.St _ w0 w := HS
     refine ⟨_, Y.app (xs := ([] : List api_Op)) (ys := cut a1 (0 : Int) a2) 1 underlying30 ap29 rfl (by decide) HS rfl rfl rfl (rdC.at 29 (rdC.sub hr1 c19) HS rfl) (St.tie_one 0 HS rfl) (by omega) (by omega), ?_⟩
     rintro _ w ⟨_, _, rfl, HS⟩
     have HS := St.tie_app 1 (HS.fr 2) rfl
     refine T.nw HS ?_
     refine T.e [81, 82] [12, 13, 14, 17] [5] (fun w HS => ?_) ⟨rd2, rd2, rd2, rd2, .n2 84 85 rfl rfl rfl (fun w HS => X.slL underlying30 inf29 rfl rfl c20), rds2⟩
     have HS : Sep.St _ w0 w := HS
     refine ⟨_, Y.app (xs := ([] : List api_Op) ++ (cut a1 (0 : Int) a2)) (ys := signalmanlaw25_SignalRefuses.c0) 2 underlying30 ap29 rfl (by decide) HS rfl rfl rfl (rdC.at 17 row_rd HS rfl) (St.tie_one 16 HS rfl) (by omega) (by omega), ?_⟩
     rintro _ w ⟨_, _, rfl, HS⟩
     have HS := St.tie_app 16 HS rfl
     refine T.nw HS ?_
     refine T.e [83, 86] [12, 13, 14, 17] [7, 8, 9] (fun w HS => ?_) ⟨rd2, rd2, rd2, .n2 84 85 rfl rfl rfl (fun w HS => X.slL underlying30 inf29 rfl rfl c20), rds2⟩
     have HS := St.tie_cut2 28 a2 (a1.length : Int) HS rfl
     have HS : Sep.St _ w0 w := HS
     refine ⟨_, Y.app (xs := (([] : List api_Op) ++ (cut a1 (0 : Int) a2)) ++ signalmanlaw25_SignalRefuses.c0) (ys := cut a1 a2 (a1.length : Int)) 3 underlying30 ap29 rfl (by decide) HS rfl rfl rfl (rdC.at 30 (rdC.sub hr1 c20) HS rfl) (St.tie_one 0 HS rfl) (by omega) (by omega), ?_⟩
     rintro _ w ⟨_, _, rfl, HS⟩
     have HS := St.tie_app 1 (HS.fr 1) rfl
     refine T.nw HS ?_
     refine T.e [77, 87] [17] [0] (fun w HS => ?_) rds2
     refine Y.kl H func15 (fun _ h => signalman_After.calls h HS.j0 (rdC.part 3 row_rd rfl) (fun h hh => let ⟨_, l, t⟩ := Sp.has 0 hh rfl; tie.mono t l)) ?_
     rintro t164 _ w H ⟨rfl, HS⟩
     have HS := HS.o0
     apply T.na [(88, _), (76, _), (89, _), (90, _)] HS
     exact nmk
     refine T.e [15, 89] [] [12, 13] (fun w HS => ?_) rds2
     refine ⟨_, Y.storeSt (c' := #[vi t164.1.1.State, vi t164.1.1.Line, vi t164.1.1.Lines.1, vi t164.1.1.Lines.2, vi t164.1.1.Sent, vi t164.1.1.Acked, vi t164.1.1.Lost, vi t164.1.2.State, vi t164.1.2.Line, vi t164.1.2.Lines.1, vi t164.1.2.Lines.2, vi t164.1.2.Sent, vi t164.1.2.Acked, vi t164.1.2.Lost]) 4 [vi t164.1.1.State, vi t164.1.1.Line, vi t164.1.1.Lines.1, vi t164.1.1.Lines.2, vi t164.1.1.Sent, vi t164.1.1.Acked, vi t164.1.1.Lost, vi t164.1.2.State, vi t164.1.2.Line, vi t164.1.2.Lines.1, vi t164.1.2.Lines.2, vi t164.1.2.Sent, vi t164.1.2.Acked, vi t164.1.2.Lost] HS rfl inf34 rfl rfl rfl rfl rfl rfl, ?_⟩
     rintro _ w HS
     apply T.na [(16, _)] HS
     exact nmk
     refine T.ff [2, 8, 9, 10, 11, 12, 13, 14, 15, 16] (fun w HS => ?_) rds2
     have HS := (V34.close tv ((api_Config.close tv ((V34.close tv (HS.b [4])).b [16])).b [6])).ke [2, 1, 0, 4, 4, 4, 4, 4, 4, 4, 4, 4, 4, 4, 4, 4, 4, 4, 4, 4, 4, 4, 4, 4, 4, 4, 4]
     exact At.mt (_, _, _) ⟨HS, kf7, by omega, H⟩
   ·rintro ⟨nb58, x59, x60⟩ w ⟨HS, kf61, _, H⟩
    refine V.seq ?_
    refine V.meet (σ := Bool) (fun x63 w => Sep.St [V34.at nb58 x59, api_Config.at nb1 a0, V34.at nb34 t32.1, row 56 4 (.slice at30_0 t30.1.length ct30_0) t30.1.length dt30_0, tie api_Event.El dt30_0 t30.1, row 44 1 (.slice at30_1 t30.2.length ct30_1) t30.2.length (t30.2.map (Value.int .i64)), tie api_Op.El (((([]) ++ (cutC 6 sd1 (0 : Int) a2)) ++ ([vi (0), vi (0), vi (0), vi (0), vi (0), vs none ([] : List Int).length 0, vi (9), vi (0), vi (0), vi (0), vi (0), vs none ([] : List Int).length 0, vi (1), vi (0), vi (0), vi (-1), vi (0), vs none ([] : List Int).length 0, vi (4), vi (2), vi (0), vi (0), vi (0), vs none ([] : List Int).length 0, vi (2), vi (-1), vi (0), vi (0), vi (0), vs none ([] : List Int).length 0, vi (6), vi (0), vi (0), vi (4), vi (0), vs none ([] : List Int).length 0, vi (7), vi (0), vi (2), vi (0), vi (0), vs none ([] : List Int).length 0, vi (7), vi (0), vi (0), vi (0), vi (9), vs none ([] : List Int).length 0, vi (4), vi (0), vi (0), vi (0), vi (0), vs ra10 (List.replicate (1001 : Int).toNat 0).length rc11, vi (5), vi (5), vi (0), vi (0), vi (0), vs none ([] : List Int).length 0])) ++ (cutC 6 sd1 a2 (a1.length : Int))) (((([] : List api_Op) ++ (cut a1 (0 : Int) a2)) ++ signalmanlaw25_SignalRefuses.c0) ++ (cut a1 a2 (a1.length : Int))), tie api_Op.El (cutC 6 sd1 a2 (a1.length : Int)) (cut a1 a2 (a1.length : Int)), tie api_Op.El (cutC 6 sd1 (0 : Int) a2) (cut a1 (0 : Int) a2), row 29 6 (.slice ra28 (((([] : List api_Op) ++ (cut a1 (0 : Int) a2)) ++ signalmanlaw25_SignalRefuses.c0) ++ (cut a1 a2 (a1.length : Int))).length rc29) (((([] : List api_Op) ++ (cut a1 (0 : Int) a2)) ++ signalmanlaw25_SignalRefuses.c0) ++ (cut a1 a2 (a1.length : Int))).length (((([]) ++ (cutC 6 sd1 (0 : Int) a2)) ++ ([vi (0), vi (0), vi (0), vi (0), vi (0), vs none ([] : List Int).length 0, vi (9), vi (0), vi (0), vi (0), vi (0), vs none ([] : List Int).length 0, vi (1), vi (0), vi (0), vi (-1), vi (0), vs none ([] : List Int).length 0, vi (4), vi (2), vi (0), vi (0), vi (0), vs none ([] : List Int).length 0, vi (2), vi (-1), vi (0), vi (0), vi (0), vs none ([] : List Int).length 0, vi (6), vi (0), vi (0), vi (4), vi (0), vs none ([] : List Int).length 0, vi (7), vi (0), vi (2), vi (0), vi (0), vs none ([] : List Int).length 0, vi (7), vi (0), vi (0), vi (0), vi (9), vs none ([] : List Int).length 0, vi (4), vi (0), vi (0), vi (0), vi (0), vs ra10 (List.replicate (1001 : Int).toNat 0).length rc11, vi (5), vi (5), vi (0), vi (0), vi (0), vs none ([] : List Int).length 0])) ++ (cutC 6 sd1 a2 (a1.length : Int))), row 56 4 (.slice at17_0 t17.1.length ct17_0) t17.1.length dt17_0, tie api_Event.El dt17_0 t17.1, row 44 1 (.slice at17_1 t17.2.length ct17_1) t17.2.length (t17.2.map (Value.int .i64)), tie api_Op.El ([vi (0), vi (0), vi (0), vi (0), vi (0), vs none ([] : List Int).length 0, vi (9), vi (0), vi (0), vi (0), vi (0), vs none ([] : List Int).length 0, vi (1), vi (0), vi (0), vi (-1), vi (0), vs none ([] : List Int).length 0, vi (4), vi (2), vi (0), vi (0), vi (0), vs none ([] : List Int).length 0, vi (2), vi (-1), vi (0), vi (0), vi (0), vs none ([] : List Int).length 0, vi (6), vi (0), vi (0), vi (4), vi (0), vs none ([] : List Int).length 0, vi (7), vi (0), vi (2), vi (0), vi (0), vs none ([] : List Int).length 0, vi (7), vi (0), vi (0), vi (0), vi (9), vs none ([] : List Int).length 0, vi (4), vi (0), vi (0), vi (0), vi (0), vs ra10 (List.replicate (1001 : Int).toNat 0).length rc11, vi (5), vi (5), vi (0), vi (0), vi (0), vs none ([] : List Int).length 0]) (signalmanlaw25_SignalRefuses.c0), row 29 6 (.slice (some ⟨lb12, 0, none⟩) (signalmanlaw25_SignalRefuses.c0).length 10) (signalmanlaw25_SignalRefuses.c0).length ([vi (0), vi (0), vi (0), vi (0), vi (0), vs none ([] : List Int).length 0, vi (9), vi (0), vi (0), vi (0), vi (0), vs none ([] : List Int).length 0, vi (1), vi (0), vi (0), vi (-1), vi (0), vs none ([] : List Int).length 0, vi (4), vi (2), vi (0), vi (0), vi (0), vs none ([] : List Int).length 0, vi (2), vi (-1), vi (0), vi (0), vi (0), vs none ([] : List Int).length 0, vi (6), vi (0), vi (0), vi (4), vi (0), vs none ([] : List Int).length 0, vi (7), vi (0), vi (2), vi (0), vi (0), vs none ([] : List Int).length 0, vi (7), vi (0), vi (0), vi (0), vi (9), vs none ([] : List Int).length 0, vi (4), vi (0), vi (0), vi (0), vi (0), vs ra10 (List.replicate (1001 : Int).toNat 0).length rc11, vi (5), vi (5), vi (0), vi (0), vi (0), vs none ([] : List Int).length 0]), fsl 1 (.slice none ([] : List Int).length 0) ([] : List Int).length (([] : List Int).map (Value.int .u8)), fsl 1 (.slice ra10 (List.replicate (1001 : Int).toNat 0).length rc11) (List.replicate (1001 : Int).toNat 0).length ((List.replicate (1001 : Int).toNat 0).map (Value.int .u8)), fsl 1 (.slice none ([] : List Int).length 0) ([] : List Int).length (([] : List Int).map (Value.int .u8)), fsl 1 (.slice none ([] : List Int).length 0) ([] : List Int).length (([] : List Int).map (Value.int .u8)), fsl 1 (.slice none ([] : List Int).length 0) ([] : List Int).length (([] : List Int).map (Value.int .u8)), fsl 1 (.slice none ([] : List Int).length 0) ([] : List Int).length (([] : List Int).map (Value.int .u8)), fsl 1 (.slice none ([] : List Int).length 0) ([] : List Int).length (([] : List Int).map (Value.int .u8)), fsl 1 (.slice none ([] : List Int).length 0) ([] : List Int).length (([] : List Int).map (Value.int .u8)), fsl 1 (.slice none ([] : List Int).length 0) ([] : List Int).length (([] : List Int).map (Value.int .u8)), fsl 1 (.slice none ([] : List Int).length 0) ([] : List Int).length (([] : List Int).map (Value.int .u8)), tie api_Op.El sd1 a1, R] w0 w ∧ ∃ kf64, kf64 ≤ kf61 ∧ signalmanlaw25_SignalRefuses.j2 kf64 a2 t17 t30 t32 x63 = some r) (fun x63 => [(2, vi a2), (8, vs (some ⟨lb12, 0, none⟩) (signalmanlaw25_SignalRefuses.c0).length 10), (10, vs at17_1 t17.2.length ct17_1), (12, vs at30_1 t30.2.length ct30_1), (14, vb t32.2), (104, vb x63)]) ?_ ?_
    ·refine go ?_
     refine W.kl H func19 (fun _ h => signalmanref20_SameEvents.calls h HS.j0 (rdC.part 10 row_rd rfl) (fun h hh => let ⟨_, l, t⟩ := Sp.has 11 hh rfl; tie.mono t l) (rdC.part 3 row_rd rfl) (fun h hh => let ⟨_, l, t⟩ := Sp.has 4 hh rfl; tie.mono t l)) ?_
     rintro _ _ w H ⟨rfl, HS⟩
     have HS := HS.o0
     refine go ?_
     refine W.cx 95 H rfl (fun _ H => ?_) (fun _ H => ?_)
     ·refine go ?_
      have HS := HS.fr 2
      obtain ⟨_, HS⟩ := V34.open HS
      refine go ?_
      have HS := HS.fr 1
      obtain ⟨_, HS⟩ := V34.open HS
      refine go ?_
      refine W.r (X.neV (c := (api_Status.beq t32.1.1 x59.1) && ((api_Status.beq t32.1.2 x59.2) && true)) (by kernel_rfl) Tryz.eqGuardType34 rfl rfl) rfl ?_
      refine go ?_
      refine W.cx 100 H rfl (fun _ H => ?_) (fun _ H => ?_)
      ·refine go ?_
       refine W.r (X.neB underlying4 rfl rfl) rfl ?_
       refine go ?_
       have HS := (V34.close tv ((V34.close tv HS).b [1])).b [1, 1]
       exact At.mt _ ⟨HS, kf61, by omega, H⟩
      ·refine go ?_
       have HS := (V34.close tv ((V34.close tv HS).b [1])).b [1, 1]
       exact At.mt _ ⟨HS, kf61, by omega, H⟩
     ·refine go ?_
      exact At.mt _ ⟨HS, kf61, by omega, H⟩
    ·rintro x63 w ⟨HS, kf64, _, H⟩
     refine V.cv H rfl (fun _ H => ?_) (fun _ H => ?_)
     ·refine go ?_
      have HS := HS.ke [26]
      exact rt
     ·refine go ?_
      refine V.cx H rfl (fun _ H => ?_) (fun _ H => ?_)
      ·refine go ?_
       refine V.cm H rfl (fun _ H => ?_) (fun _ H => ?_)
       ·refine go ?_
        refine V.lp (σ := Int) (fun kq x68 w => Sep.St [V34.at nb58 x59, api_Config.at nb1 a0, V34.at nb34 t32.1, row 56 4 (.slice at30_0 t30.1.length ct30_0) t30.1.length dt30_0, tie api_Event.El dt30_0 t30.1, row 44 1 (.slice at30_1 t30.2.length ct30_1) t30.2.length (t30.2.map (Value.int .i64)), tie api_Op.El (((([]) ++ (cutC 6 sd1 (0 : Int) a2)) ++ ([vi (0), vi (0), vi (0), vi (0), vi (0), vs none ([] : List Int).length 0, vi (9), vi (0), vi (0), vi (0), vi (0), vs none ([] : List Int).length 0, vi (1), vi (0), vi (0), vi (-1), vi (0), vs none ([] : List Int).length 0, vi (4), vi (2), vi (0), vi (0), vi (0), vs none ([] : List Int).length 0, vi (2), vi (-1), vi (0), vi (0), vi (0), vs none ([] : List Int).length 0, vi (6), vi (0), vi (0), vi (4), vi (0), vs none ([] : List Int).length 0, vi (7), vi (0), vi (2), vi (0), vi (0), vs none ([] : List Int).length 0, vi (7), vi (0), vi (0), vi (0), vi (9), vs none ([] : List Int).length 0, vi (4), vi (0), vi (0), vi (0), vi (0), vs ra10 (List.replicate (1001 : Int).toNat 0).length rc11, vi (5), vi (5), vi (0), vi (0), vi (0), vs none ([] : List Int).length 0])) ++ (cutC 6 sd1 a2 (a1.length : Int))) (((([] : List api_Op) ++ (cut a1 (0 : Int) a2)) ++ signalmanlaw25_SignalRefuses.c0) ++ (cut a1 a2 (a1.length : Int))), tie api_Op.El (cutC 6 sd1 a2 (a1.length : Int)) (cut a1 a2 (a1.length : Int)), tie api_Op.El (cutC 6 sd1 (0 : Int) a2) (cut a1 (0 : Int) a2), row 29 6 (.slice ra28 (((([] : List api_Op) ++ (cut a1 (0 : Int) a2)) ++ signalmanlaw25_SignalRefuses.c0) ++ (cut a1 a2 (a1.length : Int))).length rc29) (((([] : List api_Op) ++ (cut a1 (0 : Int) a2)) ++ signalmanlaw25_SignalRefuses.c0) ++ (cut a1 a2 (a1.length : Int))).length (((([]) ++ (cutC 6 sd1 (0 : Int) a2)) ++ ([vi (0), vi (0), vi (0), vi (0), vi (0), vs none ([] : List Int).length 0, vi (9), vi (0), vi (0), vi (0), vi (0), vs none ([] : List Int).length 0, vi (1), vi (0), vi (0), vi (-1), vi (0), vs none ([] : List Int).length 0, vi (4), vi (2), vi (0), vi (0), vi (0), vs none ([] : List Int).length 0, vi (2), vi (-1), vi (0), vi (0), vi (0), vs none ([] : List Int).length 0, vi (6), vi (0), vi (0), vi (4), vi (0), vs none ([] : List Int).length 0, vi (7), vi (0), vi (2), vi (0), vi (0), vs none ([] : List Int).length 0, vi (7), vi (0), vi (0), vi (0), vi (9), vs none ([] : List Int).length 0, vi (4), vi (0), vi (0), vi (0), vi (0), vs ra10 (List.replicate (1001 : Int).toNat 0).length rc11, vi (5), vi (5), vi (0), vi (0), vi (0), vs none ([] : List Int).length 0])) ++ (cutC 6 sd1 a2 (a1.length : Int))), row 56 4 (.slice at17_0 t17.1.length ct17_0) t17.1.length dt17_0, tie api_Event.El dt17_0 t17.1, row 44 1 (.slice at17_1 t17.2.length ct17_1) t17.2.length (t17.2.map (Value.int .i64)), tie api_Op.El ([vi (0), vi (0), vi (0), vi (0), vi (0), vs none ([] : List Int).length 0, vi (9), vi (0), vi (0), vi (0), vi (0), vs none ([] : List Int).length 0, vi (1), vi (0), vi (0), vi (-1), vi (0), vs none ([] : List Int).length 0, vi (4), vi (2), vi (0), vi (0), vi (0), vs none ([] : List Int).length 0, vi (2), vi (-1), vi (0), vi (0), vi (0), vs none ([] : List Int).length 0, vi (6), vi (0), vi (0), vi (4), vi (0), vs none ([] : List Int).length 0, vi (7), vi (0), vi (2), vi (0), vi (0), vs none ([] : List Int).length 0, vi (7), vi (0), vi (0), vi (0), vi (9), vs none ([] : List Int).length 0, vi (4), vi (0), vi (0), vi (0), vi (0), vs ra10 (List.replicate (1001 : Int).toNat 0).length rc11, vi (5), vi (5), vi (0), vi (0), vi (0), vs none ([] : List Int).length 0]) (signalmanlaw25_SignalRefuses.c0), row 29 6 (.slice (some ⟨lb12, 0, none⟩) (signalmanlaw25_SignalRefuses.c0).length 10) (signalmanlaw25_SignalRefuses.c0).length ([vi (0), vi (0), vi (0), vi (0), vi (0), vs none ([] : List Int).length 0, vi (9), vi (0), vi (0), vi (0), vi (0), vs none ([] : List Int).length 0, vi (1), vi (0), vi (0), vi (-1), vi (0), vs none ([] : List Int).length 0, vi (4), vi (2), vi (0), vi (0), vi (0), vs none ([] : List Int).length 0, vi (2), vi (-1), vi (0), vi (0), vi (0), vs none ([] : List Int).length 0, vi (6), vi (0), vi (0), vi (4), vi (0), vs none ([] : List Int).length 0, vi (7), vi (0), vi (2), vi (0), vi (0), vs none ([] : List Int).length 0, vi (7), vi (0), vi (0), vi (0), vi (9), vs none ([] : List Int).length 0, vi (4), vi (0), vi (0), vi (0), vi (0), vs ra10 (List.replicate (1001 : Int).toNat 0).length rc11, vi (5), vi (5), vi (0), vi (0), vi (0), vs none ([] : List Int).length 0]), fsl 1 (.slice none ([] : List Int).length 0) ([] : List Int).length (([] : List Int).map (Value.int .u8)), fsl 1 (.slice ra10 (List.replicate (1001 : Int).toNat 0).length rc11) (List.replicate (1001 : Int).toNat 0).length ((List.replicate (1001 : Int).toNat 0).map (Value.int .u8)), fsl 1 (.slice none ([] : List Int).length 0) ([] : List Int).length (([] : List Int).map (Value.int .u8)), fsl 1 (.slice none ([] : List Int).length 0) ([] : List Int).length (([] : List Int).map (Value.int .u8)), fsl 1 (.slice none ([] : List Int).length 0) ([] : List Int).length (([] : List Int).map (Value.int .u8)), fsl 1 (.slice none ([] : List Int).length 0) ([] : List Int).length (([] : List Int).map (Value.int .u8)), fsl 1 (.slice none ([] : List Int).length 0) ([] : List Int).length (([] : List Int).map (Value.int .u8)), fsl 1 (.slice none ([] : List Int).length 0) ([] : List Int).length (([] : List Int).map (Value.int .u8)), fsl 1 (.slice none ([] : List Int).length 0) ([] : List Int).length (([] : List Int).map (Value.int .u8)), fsl 1 (.slice none ([] : List Int).length 0) ([] : List Int).length (([] : List Int).map (Value.int .u8)), tie api_Op.El sd1 a1, R] w0 w ∧ signalmanlaw25_SignalRefuses.l3 kq a2 t17 t30 x68 = some r ∧ kq ≤ kf64) (fun x68 => [(2, vi a2), (8, vs (some ⟨lb12, 0, none⟩) (signalmanlaw25_SignalRefuses.c0).length 10), (10, vs at17_1 t17.2.length ct17_1), (12, vs at30_1 t30.2.length ct30_1), (17, vi x68)]) _ ⟨HS, H, Nat.le_refl _⟩ ?_
        rintro kq69 x68 w ⟨HS, H, _⟩
        cases kq69 with
        | zero => exact absurd H (by simp [signalmanlaw25_SignalRefuses.l3])
        | succ kq69 =>
         simp only [signalmanlaw25_SignalRefuses.l3] at H
         refine go ?_
         refine V.cd H rfl (fun _ H => ?_) (fun _ H => ?_)
         ·refine gs ?_
          refine V.seq ?_
          refine gs ?_
          refine V.meet (σ := Bool) (fun x72 w => Sep.St [V34.at nb58 x59, api_Config.at nb1 a0, V34.at nb34 t32.1, row 56 4 (.slice at30_0 t30.1.length ct30_0) t30.1.length dt30_0, tie api_Event.El dt30_0 t30.1, row 44 1 (.slice at30_1 t30.2.length ct30_1) t30.2.length (t30.2.map (Value.int .i64)), tie api_Op.El (((([]) ++ (cutC 6 sd1 (0 : Int) a2)) ++ ([vi (0), vi (0), vi (0), vi (0), vi (0), vs none ([] : List Int).length 0, vi (9), vi (0), vi (0), vi (0), vi (0), vs none ([] : List Int).length 0, vi (1), vi (0), vi (0), vi (-1), vi (0), vs none ([] : List Int).length 0, vi (4), vi (2), vi (0), vi (0), vi (0), vs none ([] : List Int).length 0, vi (2), vi (-1), vi (0), vi (0), vi (0), vs none ([] : List Int).length 0, vi (6), vi (0), vi (0), vi (4), vi (0), vs none ([] : List Int).length 0, vi (7), vi (0), vi (2), vi (0), vi (0), vs none ([] : List Int).length 0, vi (7), vi (0), vi (0), vi (0), vi (9), vs none ([] : List Int).length 0, vi (4), vi (0), vi (0), vi (0), vi (0), vs ra10 (List.replicate (1001 : Int).toNat 0).length rc11, vi (5), vi (5), vi (0), vi (0), vi (0), vs none ([] : List Int).length 0])) ++ (cutC 6 sd1 a2 (a1.length : Int))) (((([] : List api_Op) ++ (cut a1 (0 : Int) a2)) ++ signalmanlaw25_SignalRefuses.c0) ++ (cut a1 a2 (a1.length : Int))), tie api_Op.El (cutC 6 sd1 a2 (a1.length : Int)) (cut a1 a2 (a1.length : Int)), tie api_Op.El (cutC 6 sd1 (0 : Int) a2) (cut a1 (0 : Int) a2), row 29 6 (.slice ra28 (((([] : List api_Op) ++ (cut a1 (0 : Int) a2)) ++ signalmanlaw25_SignalRefuses.c0) ++ (cut a1 a2 (a1.length : Int))).length rc29) (((([] : List api_Op) ++ (cut a1 (0 : Int) a2)) ++ signalmanlaw25_SignalRefuses.c0) ++ (cut a1 a2 (a1.length : Int))).length (((([]) ++ (cutC 6 sd1 (0 : Int) a2)) ++ ([vi (0), vi (0), vi (0), vi (0), vi (0), vs none ([] : List Int).length 0, vi (9), vi (0), vi (0), vi (0), vi (0), vs none ([] : List Int).length 0, vi (1), vi (0), vi (0), vi (-1), vi (0), vs none ([] : List Int).length 0, vi (4), vi (2), vi (0), vi (0), vi (0), vs none ([] : List Int).length 0, vi (2), vi (-1), vi (0), vi (0), vi (0), vs none ([] : List Int).length 0, vi (6), vi (0), vi (0), vi (4), vi (0), vs none ([] : List Int).length 0, vi (7), vi (0), vi (2), vi (0), vi (0), vs none ([] : List Int).length 0, vi (7), vi (0), vi (0), vi (0), vi (9), vs none ([] : List Int).length 0, vi (4), vi (0), vi (0), vi (0), vi (0), vs ra10 (List.replicate (1001 : Int).toNat 0).length rc11, vi (5), vi (5), vi (0), vi (0), vi (0), vs none ([] : List Int).length 0])) ++ (cutC 6 sd1 a2 (a1.length : Int))), row 56 4 (.slice at17_0 t17.1.length ct17_0) t17.1.length dt17_0, tie api_Event.El dt17_0 t17.1, row 44 1 (.slice at17_1 t17.2.length ct17_1) t17.2.length (t17.2.map (Value.int .i64)), tie api_Op.El ([vi (0), vi (0), vi (0), vi (0), vi (0), vs none ([] : List Int).length 0, vi (9), vi (0), vi (0), vi (0), vi (0), vs none ([] : List Int).length 0, vi (1), vi (0), vi (0), vi (-1), vi (0), vs none ([] : List Int).length 0, vi (4), vi (2), vi (0), vi (0), vi (0), vs none ([] : List Int).length 0, vi (2), vi (-1), vi (0), vi (0), vi (0), vs none ([] : List Int).length 0, vi (6), vi (0), vi (0), vi (4), vi (0), vs none ([] : List Int).length 0, vi (7), vi (0), vi (2), vi (0), vi (0), vs none ([] : List Int).length 0, vi (7), vi (0), vi (0), vi (0), vi (9), vs none ([] : List Int).length 0, vi (4), vi (0), vi (0), vi (0), vi (0), vs ra10 (List.replicate (1001 : Int).toNat 0).length rc11, vi (5), vi (5), vi (0), vi (0), vi (0), vs none ([] : List Int).length 0]) (signalmanlaw25_SignalRefuses.c0), row 29 6 (.slice (some ⟨lb12, 0, none⟩) (signalmanlaw25_SignalRefuses.c0).length 10) (signalmanlaw25_SignalRefuses.c0).length ([vi (0), vi (0), vi (0), vi (0), vi (0), vs none ([] : List Int).length 0, vi (9), vi (0), vi (0), vi (0), vi (0), vs none ([] : List Int).length 0, vi (1), vi (0), vi (0), vi (-1), vi (0), vs none ([] : List Int).length 0, vi (4), vi (2), vi (0), vi (0), vi (0), vs none ([] : List Int).length 0, vi (2), vi (-1), vi (0), vi (0), vi (0), vs none ([] : List Int).length 0, vi (6), vi (0), vi (0), vi (4), vi (0), vs none ([] : List Int).length 0, vi (7), vi (0), vi (2), vi (0), vi (0), vs none ([] : List Int).length 0, vi (7), vi (0), vi (0), vi (0), vi (9), vs none ([] : List Int).length 0, vi (4), vi (0), vi (0), vi (0), vi (0), vs ra10 (List.replicate (1001 : Int).toNat 0).length rc11, vi (5), vi (5), vi (0), vi (0), vi (0), vs none ([] : List Int).length 0]), fsl 1 (.slice none ([] : List Int).length 0) ([] : List Int).length (([] : List Int).map (Value.int .u8)), fsl 1 (.slice ra10 (List.replicate (1001 : Int).toNat 0).length rc11) (List.replicate (1001 : Int).toNat 0).length ((List.replicate (1001 : Int).toNat 0).map (Value.int .u8)), fsl 1 (.slice none ([] : List Int).length 0) ([] : List Int).length (([] : List Int).map (Value.int .u8)), fsl 1 (.slice none ([] : List Int).length 0) ([] : List Int).length (([] : List Int).map (Value.int .u8)), fsl 1 (.slice none ([] : List Int).length 0) ([] : List Int).length (([] : List Int).map (Value.int .u8)), fsl 1 (.slice none ([] : List Int).length 0) ([] : List Int).length (([] : List Int).map (Value.int .u8)), fsl 1 (.slice none ([] : List Int).length 0) ([] : List Int).length (([] : List Int).map (Value.int .u8)), fsl 1 (.slice none ([] : List Int).length 0) ([] : List Int).length (([] : List Int).map (Value.int .u8)), fsl 1 (.slice none ([] : List Int).length 0) ([] : List Int).length (([] : List Int).map (Value.int .u8)), fsl 1 (.slice none ([] : List Int).length 0) ([] : List Int).length (([] : List Int).map (Value.int .u8)), tie api_Op.El sd1 a1, R] w0 w ∧ ∃ kl75, kl75 ≤ kq69 ∧ signalmanlaw25_SignalRefuses.j4 a2 t30 x68 (signalmanlaw25_SignalRefuses.l3 kl75 a2 t17 t30) x72 = some r) (fun x72 => [(2, vi a2), (8, vs (some ⟨lb12, 0, none⟩) (signalmanlaw25_SignalRefuses.c0).length 10), (10, vs at17_1 t17.2.length ct17_1), (12, vs at30_1 t30.2.length ct30_1), (17, vi x68), (136, vb x72)]) ?_ ?_
          ·refine ite_c H (fun c89 H => ?_) (fun c89 H => ?_)
           ·obtain ⟨c90, H⟩ := ite_n H
            obtain ⟨_, _, hh⟩ := (rdC.at 5 row_rd HS rfl).some (by decide) c90.1 c90.2; subst hh
            obtain ⟨c93, H⟩ := ite_n H
            obtain ⟨_, _, hh⟩ := (rdC.at 12 row_rd HS rfl).some (by decide) c93.1 c93.2; subst hh
            apply V.da [8, 13, 28, 36] [14, 15, 16, 17, 18, 19, 20, 21, 22, 23, 24, 25, 26, 27, 29, 30, 31, 32, 33, 34, 35, 37, 38, 39, 40] [(137, _), (138, _), (139, _), (140, _), (141, _), (142, _), (143, _), (144, _), (146, _), (147, _), (148, _), (149, _)] mo HS
            rfl
            refine T.eG [144, 140] [14, 15, 16, 17, 18, 19, 20, 21, 22, 23, 24, 25, 26, 27, 29, 30, 31, 32, 33, 34, 35, 37, 38, 39, 40] [0, 1, 2, 3, 4, 5, 6, 7] (fun w HS => ?_) ⟨rd2, rd2, rd2, rd2, rd2, rd2, rd2, .gw [(143, _), (140, _)] 3 true 140 ⟨rfl, rfl, tv⟩ rfl (sb (dT c89)) (fun w HS => X.load underlying44 rfl rfl ((rdC.at 5 row_rd HS rfl).cellI c90.1 c90.2)), rd2, rd2, rd2, .gw [(148, _), (140, _)] 3 true 140 ⟨rfl, rfl, tv⟩ rfl (sb (dT c89)) (fun w HS => X.load underlying44 rfl rfl ((rdC.at 12 row_rd HS rfl).cellI c93.1 c93.2)), rds2⟩ (hgd := by exact .inr ⟨_, _, _, rfl, rfl, sb tst2⟩)
            refine Y.kl H func18 (fun _ h => signalmanlaw25_num.calls h HS.j0) ?_
            rintro _ _ w H ⟨rfl, HS⟩
            have HS := HS.o0
            refine T.nw HS ?_
            refine T.eG [149, 140] [37, 38, 39, 40] [9, 10, 11, 12] (fun w HS => ?_) ⟨rd2, rd2, rd2, .gw [(148, _), (140, _)] 3 true 140 ⟨rfl, rfl, tv⟩ rfl (sb (dT c89)) (fun w HS => X.load underlying44 rfl rfl ((rdC.at 12 row_rd HS rfl).cellI c93.1 c93.2)), rds2⟩ (hgd := by exact .inr ⟨_, _, _, rfl, rfl, sb tst2⟩)
            refine Y.kl H func18 (fun _ h => signalmanlaw25_num.calls h HS.j0) ?_
            rintro _ _ w H ⟨rfl, HS⟩
            have HS := HS.o0
            refine ite_c H (fun c100 H => ?_) (fun c100 H => ?_)
            ·refine ite_c H (fun c101 H => ?_) (fun c101 H => ?_)
             ·obtain ⟨c102, H⟩ := ite_n H
              apply T.na [(150, _), (151, _), (152, _), (153, _), (154, _), (155, _), (156, _), (157, _), (158, _), (159, _), (160, _), (161, _), (162, _), (163, _), (164, _), (166, _), (167, _), (168, _), (169, _), (170, _), (171, _), (172, _)] HS
              exact nmk
              refine T.eG [164, 160] [37, 38, 39, 40] [14, 15, 16, 17, 18, 19, 20, 21, 22, 23, 24, 25, 26, 27] (fun w HS => ?_) ⟨rd2, rd2, rd2, rd2, rd2, rd2, rd2, rd2, rd2, rd2, rd2, rd2, rd2, .gw [(163, _), (160, _)] 23 true 160 ⟨rfl, rfl, tv⟩ rfl (sb (dT c101)) (fun w HS => X.load underlying44 rfl rfl ((rdC.at 5 row_rd HS rfl).cellI c90.1 c90.2)), rd2, rd2, rd2, rd2, rd2, rd2, .gw [(171, _), (160, _)] 23 true 160 ⟨rfl, rfl, tv⟩ rfl (sb (dT c101)) (fun w HS => X.load underlying44 rfl rfl ((rdC.at 12 row_rd HS rfl).cellI c102.1 c102.2)), rds2⟩ (hgd := by exact .inr ⟨_, _, _, rfl, rfl, sb tst2⟩)
              refine Y.kl H func18 (fun _ h => signalmanlaw25_num.calls h HS.j0) ?_
              rintro _ _ w H ⟨rfl, HS⟩
              have HS := HS.o0
              refine T.nw HS ?_
              refine T.eG [172, 160] [] [29, 30, 31, 32, 33, 34, 35] (fun w HS => ?_) ⟨rd2, rd2, rd2, rd2, rd2, rd2, .gw [(171, _), (160, _)] 23 true 160 ⟨rfl, rfl, tv⟩ rfl (sb (dT c101)) (fun w HS => X.load underlying44 rfl rfl ((rdC.at 12 row_rd HS rfl).cellI c102.1 c102.2)), rds2⟩ (hgd := by exact .inr ⟨_, _, _, rfl, rfl, sb tst2⟩)
              refine Y.kl H func18 (fun _ h => signalmanlaw25_num.calls h HS.j0) ?_
              rintro _ _ w H ⟨rfl, HS⟩
              have HS := HS.o0
              apply T.na [(173, _), (174, _), (175, _), (176, _), (136, _)] HS
              exact nmk
              refine T.ff [2, 8, 10, 12, 17, 136] (fun w HS => ?_) rds2
              exact At.mt _ ⟨HS, kq69, by omega, H⟩
             ·apply T.na [(150, _), (151, _), (152, _), (153, _), (154, _), (155, _), (156, _), (157, _), (158, _), (159, _), (160, _), (161, _), (162, _), (163, _), (164, _), (166, _), (167, _), (168, _), (169, _), (170, _), (171, _), (172, _)] HS
              exact nmk
              refine T.drop (es' := [36]) (bl' := [37, 38, 39, 40]) [(165, undef)] rfl ⟨.inr ⟨by decide, rfl⟩, tv⟩ ?_
              refine T.drop (es' := []) (bl' := []) [(173, undef), (174, undef), (175, vb false), (176, vb false), (136, vb false)] rfl ⟨.inr ⟨by decide, rfl⟩, ⟨.inr ⟨by decide, rfl⟩, ⟨.inr ⟨by decide, rfl⟩, ⟨.inr ⟨by decide, rfl⟩, ⟨.inr ⟨by decide, rfl⟩, tv⟩⟩⟩⟩⟩ ?_
              refine T.ff [2, 8, 10, 12, 17, 136] (fun w HS => ?_) rds2
              exact At.mt _ ⟨HS, kq69, by omega, H⟩
            ·apply T.na [(150, _), (151, _), (152, _), (153, _), (154, _), (155, _), (156, _), (157, _), (158, _), (159, _), (160, _), (161, _), (162, _), (163, _), (164, _), (166, _), (167, _), (168, _), (169, _), (170, _), (171, _), (172, _)] HS
             exact nmk
             refine T.drop (es' := [36]) (bl' := [37, 38, 39, 40]) [(165, undef)] rfl ⟨.inr ⟨by decide, rfl⟩, tv⟩ ?_
             refine T.drop (es' := []) (bl' := []) [(173, undef), (174, undef), (175, undef), (176, vb true), (136, vb true)] rfl ⟨.inr ⟨by decide, rfl⟩, ⟨.inr ⟨by decide, rfl⟩, ⟨.inr ⟨by decide, rfl⟩, ⟨.inr ⟨by decide, rfl⟩, ⟨.inr ⟨by decide, rfl⟩, tv⟩⟩⟩⟩⟩ ?_
             refine T.ff [2, 8, 10, 12, 17, 136] (fun w HS => ?_) rds2
             exact At.mt _ ⟨HS, kq69, by omega, H⟩
           ·apply V.da [8, 13, 28, 36] [14, 15, 16, 17, 18, 19, 20, 21, 22, 23, 24, 25, 26, 27, 29, 30, 31, 32, 33, 34, 35, 37, 38, 39, 40] [(137, _), (138, _), (139, _), (140, _), (141, _), (142, _), (143, _), (144, _), (146, _), (147, _), (148, _), (149, _)] mo HS
            rfl
            refine T.drop (es' := [13, 28, 36]) (bl' := [14, 15, 16, 17, 18, 19, 20, 21, 22, 23, 24, 25, 26, 27, 29, 30, 31, 32, 33, 34, 35, 37, 38, 39, 40]) [(145, undef)] rfl ⟨.inr ⟨by decide, rfl⟩, tv⟩ ?_
            refine ite_c H (fun c107 H => ?_) (fun c107 H => ?_)
            ·obtain ⟨c108, H⟩ := ite_n H
             obtain ⟨eb109, eo110, hh⟩ := (rdC.at 5 row_rd HS rfl).some (by decide) c108.1 c108.2; subst hh
             obtain ⟨c111, H⟩ := ite_n H
             obtain ⟨eb112, eo113, hh⟩ := (rdC.at 12 row_rd HS rfl).some (by decide) c111.1 c111.2; subst hh
             refine T.drop (es' := [28, 36]) (bl' := [37, 38, 39, 40]) [(150, undef), (151, undef), (152, vb false), (153, vb false), (154, vi x68), (155, vi a2), (156, vs (some ⟨lb12, 0, none⟩) (signalmanlaw25_SignalRefuses.c0).length 10), (157, vi (((signalmanlaw25_SignalRefuses.c0).length : Int))), (158, vi (w64 (a2 + ((signalmanlaw25_SignalRefuses.c0).length : Int)))), (159, vb (decide (x68 ≥ (w64 (a2 + ((signalmanlaw25_SignalRefuses.c0).length : Int)))))), (160, vb (decide (x68 ≥ (w64 (a2 + ((signalmanlaw25_SignalRefuses.c0).length : Int)))))), (161, vs (some ⟨eb109, eo110, none⟩) t30.2.length ct30_1), (162, vi x68), (163, po eb109 (eo110 + x68.toNat * 1)), (164, vi (t30.2.getD x68.toNat 0)), (166, vs (some ⟨eb112, eo113, none⟩) t17.2.length ct17_1), (167, vi x68), (168, vs (some ⟨lb12, 0, none⟩) (signalmanlaw25_SignalRefuses.c0).length 10), (169, vi (((signalmanlaw25_SignalRefuses.c0).length : Int))), (170, vi (w64 (x68 - ((signalmanlaw25_SignalRefuses.c0).length : Int)))), (171, Value.pointer (some ⟨eb112, eo113 + (w64 (x68 - ((signalmanlaw25_SignalRefuses.c0).length : Int))).toNat * 1, none⟩)), (172, vi (t17.2.getD (w64 (x68 - ((signalmanlaw25_SignalRefuses.c0).length : Int))).toNat 0))] rfl ⟨.inr ⟨by decide, rfl⟩, ⟨.inr ⟨by decide, rfl⟩, ⟨.inr ⟨by decide, rfl⟩, ⟨.inr ⟨by decide, rfl⟩, ⟨.inr ⟨by decide, rfl⟩, ⟨.inr ⟨by decide, rfl⟩, ⟨.inr ⟨by decide, rfl⟩, ⟨.inr ⟨by decide, rfl⟩, ⟨.inr ⟨by decide, rfl⟩, ⟨.inr ⟨by decide, rfl⟩, ⟨.inr ⟨by decide, rfl⟩, ⟨.inr ⟨by decide, rfl⟩, ⟨.inr ⟨by decide, rfl⟩, ⟨.inr ⟨by decide, rfl⟩, ⟨.inr ⟨by decide, rfl⟩, ⟨.inr ⟨by decide, rfl⟩, ⟨.inr ⟨by decide, rfl⟩, ⟨.inr ⟨by decide, rfl⟩, ⟨.inr ⟨by decide, rfl⟩, ⟨.inr ⟨by decide, rfl⟩, ⟨.inr ⟨by decide, rfl⟩, ⟨.inr ⟨by decide, rfl⟩, tv⟩⟩⟩⟩⟩⟩⟩⟩⟩⟩⟩⟩⟩⟩⟩⟩⟩⟩⟩⟩⟩⟩ ?_
             refine T.eG [164, 160] [37, 38, 39, 40] [0, 1, 2, 3, 4, 5, 6, 7, 8, 9, 10, 11, 12, 13, 14, 15, 16, 17, 18, 19, 20, 21, 22, 23, 24, 25, 26, 27] (fun w HS => ?_) ⟨rd2, rd2, rd2, rd2, rd2, rd2, rd2, rd2, rd2, rd2, rd2, rd2, rd2, rd2, rd2, rd2, rd2, rd2, rd2, rd2, rd2, rd2, rd2, rd2, rd2, rd2, rd2, .gw [(163, _), (160, _)] 23 true 160 ⟨rfl, rfl, tv⟩ rfl (sb (dT c107)) (fun w HS => X.load underlying44 rfl rfl ((rdC.at 5 row_rd HS rfl).cellI c108.1 c108.2)), rd2, rd2, rd2, rd2, rd2, rd2, .gw [(171, _), (160, _)] 23 true 160 ⟨rfl, rfl, tv⟩ rfl (sb (dT c107)) (fun w HS => X.load underlying44 rfl rfl ((rdC.at 12 row_rd HS rfl).cellI c111.1 c111.2)), rds2⟩ (hgd := by exact .inr ⟨_, _, _, rfl, rfl, sb tst2⟩)
             refine Y.kl H func18 (fun _ h => signalmanlaw25_num.calls h HS.j0) ?_
             rintro _ _ w H ⟨rfl, HS⟩
             have HS := HS.o0
             refine T.nw HS ?_
             refine T.eG [172, 160] [] [29, 30, 31, 32, 33, 34, 35] (fun w HS => ?_) ⟨rd2, rd2, rd2, rd2, rd2, rd2, .gw [(171, _), (160, _)] 23 true 160 ⟨rfl, rfl, tv⟩ rfl (sb (dT c107)) (fun w HS => X.load underlying44 rfl rfl ((rdC.at 12 row_rd HS rfl).cellI c111.1 c111.2)), rds2⟩ (hgd := by exact .inr ⟨_, _, _, rfl, rfl, sb tst2⟩)
             refine Y.kl H func18 (fun _ h => signalmanlaw25_num.calls h HS.j0) ?_
             rintro _ _ w H ⟨rfl, HS⟩
             have HS := HS.o0
             apply T.na [(173, _), (174, _), (175, _), (176, _), (136, _)] HS
             exact nmk
             refine T.ff [2, 8, 10, 12, 17, 136] (fun w HS => ?_) rds2
             exact At.mt _ ⟨HS, kq69, by omega, H⟩
            ·refine T.drop (es' := [28, 36]) (bl' := [37, 38, 39, 40]) [(150, undef), (151, undef), (152, vb false), (153, vb false), (154, vi x68), (155, vi a2), (156, vs (some ⟨lb12, 0, none⟩) (signalmanlaw25_SignalRefuses.c0).length 10), (157, vi (((signalmanlaw25_SignalRefuses.c0).length : Int))), (158, vi (w64 (a2 + ((signalmanlaw25_SignalRefuses.c0).length : Int)))), (159, vb (decide (x68 ≥ (w64 (a2 + ((signalmanlaw25_SignalRefuses.c0).length : Int)))))), (160, vb (decide (x68 ≥ (w64 (a2 + ((signalmanlaw25_SignalRefuses.c0).length : Int)))))), (161, undef), (162, undef), (163, undef), (164, undef), (166, undef), (167, undef), (168, undef), (169, undef), (170, undef), (171, undef), (172, undef)] rfl ⟨.inr ⟨by decide, rfl⟩, ⟨.inr ⟨by decide, rfl⟩, ⟨.inr ⟨by decide, rfl⟩, ⟨.inr ⟨by decide, rfl⟩, ⟨.inr ⟨by decide, rfl⟩, ⟨.inr ⟨by decide, rfl⟩, ⟨.inr ⟨by decide, rfl⟩, ⟨.inr ⟨by decide, rfl⟩, ⟨.inr ⟨by decide, rfl⟩, ⟨.inr ⟨by decide, rfl⟩, ⟨.inr ⟨by decide, rfl⟩, ⟨.inr ⟨by decide, rfl⟩, ⟨.inr ⟨by decide, rfl⟩, ⟨.inr ⟨by decide, rfl⟩, ⟨.inr ⟨by decide, rfl⟩, ⟨.inr ⟨by decide, rfl⟩, ⟨.inr ⟨by decide, rfl⟩, ⟨.inr ⟨by decide, rfl⟩, ⟨.inr ⟨by decide, rfl⟩, ⟨.inr ⟨by decide, rfl⟩, ⟨.inr ⟨by decide, rfl⟩, ⟨.inr ⟨by decide, rfl⟩, tv⟩⟩⟩⟩⟩⟩⟩⟩⟩⟩⟩⟩⟩⟩⟩⟩⟩⟩⟩⟩⟩⟩ ?_
             refine T.drop (es' := [36]) (bl' := [37, 38, 39, 40]) [(165, undef)] rfl ⟨.inr ⟨by decide, rfl⟩, tv⟩ ?_
             refine T.drop (es' := []) (bl' := []) [(173, undef), (174, undef), (175, vb false), (176, vb false), (136, vb false)] rfl ⟨.inr ⟨by decide, rfl⟩, ⟨.inr ⟨by decide, rfl⟩, ⟨.inr ⟨by decide, rfl⟩, ⟨.inr ⟨by decide, rfl⟩, ⟨.inr ⟨by decide, rfl⟩, tv⟩⟩⟩⟩⟩ ?_
             refine T.ff [2, 8, 10, 12, 17, 136] (fun w HS => ?_) rds2
             exact At.mt _ ⟨HS, kq69, by omega, H⟩
          ·rintro x72 w ⟨HS, kl75, _, H⟩
           refine V.cv H rfl (fun _ H => ?_) (fun _ H => ?_)
           ·refine go ?_
            have HS := HS.ke [26]
            exact rt
           ·refine V.meet (σ := Bool) (fun x77 w => Sep.St [V34.at nb58 x59, api_Config.at nb1 a0, V34.at nb34 t32.1, row 56 4 (.slice at30_0 t30.1.length ct30_0) t30.1.length dt30_0, tie api_Event.El dt30_0 t30.1, row 44 1 (.slice at30_1 t30.2.length ct30_1) t30.2.length (t30.2.map (Value.int .i64)), tie api_Op.El (((([]) ++ (cutC 6 sd1 (0 : Int) a2)) ++ ([vi (0), vi (0), vi (0), vi (0), vi (0), vs none ([] : List Int).length 0, vi (9), vi (0), vi (0), vi (0), vi (0), vs none ([] : List Int).length 0, vi (1), vi (0), vi (0), vi (-1), vi (0), vs none ([] : List Int).length 0, vi (4), vi (2), vi (0), vi (0), vi (0), vs none ([] : List Int).length 0, vi (2), vi (-1), vi (0), vi (0), vi (0), vs none ([] : List Int).length 0, vi (6), vi (0), vi (0), vi (4), vi (0), vs none ([] : List Int).length 0, vi (7), vi (0), vi (2), vi (0), vi (0), vs none ([] : List Int).length 0, vi (7), vi (0), vi (0), vi (0), vi (9), vs none ([] : List Int).length 0, vi (4), vi (0), vi (0), vi (0), vi (0), vs ra10 (List.replicate (1001 : Int).toNat 0).length rc11, vi (5), vi (5), vi (0), vi (0), vi (0), vs none ([] : List Int).length 0])) ++ (cutC 6 sd1 a2 (a1.length : Int))) (((([] : List api_Op) ++ (cut a1 (0 : Int) a2)) ++ signalmanlaw25_SignalRefuses.c0) ++ (cut a1 a2 (a1.length : Int))), tie api_Op.El (cutC 6 sd1 a2 (a1.length : Int)) (cut a1 a2 (a1.length : Int)), tie api_Op.El (cutC 6 sd1 (0 : Int) a2) (cut a1 (0 : Int) a2), row 29 6 (.slice ra28 (((([] : List api_Op) ++ (cut a1 (0 : Int) a2)) ++ signalmanlaw25_SignalRefuses.c0) ++ (cut a1 a2 (a1.length : Int))).length rc29) (((([] : List api_Op) ++ (cut a1 (0 : Int) a2)) ++ signalmanlaw25_SignalRefuses.c0) ++ (cut a1 a2 (a1.length : Int))).length (((([]) ++ (cutC 6 sd1 (0 : Int) a2)) ++ ([vi (0), vi (0), vi (0), vi (0), vi (0), vs none ([] : List Int).length 0, vi (9), vi (0), vi (0), vi (0), vi (0), vs none ([] : List Int).length 0, vi (1), vi (0), vi (0), vi (-1), vi (0), vs none ([] : List Int).length 0, vi (4), vi (2), vi (0), vi (0), vi (0), vs none ([] : List Int).length 0, vi (2), vi (-1), vi (0), vi (0), vi (0), vs none ([] : List Int).length 0, vi (6), vi (0), vi (0), vi (4), vi (0), vs none ([] : List Int).length 0, vi (7), vi (0), vi (2), vi (0), vi (0), vs none ([] : List Int).length 0, vi (7), vi (0), vi (0), vi (0), vi (9), vs none ([] : List Int).length 0, vi (4), vi (0), vi (0), vi (0), vi (0), vs ra10 (List.replicate (1001 : Int).toNat 0).length rc11, vi (5), vi (5), vi (0), vi (0), vi (0), vs none ([] : List Int).length 0])) ++ (cutC 6 sd1 a2 (a1.length : Int))), row 56 4 (.slice at17_0 t17.1.length ct17_0) t17.1.length dt17_0, tie api_Event.El dt17_0 t17.1, row 44 1 (.slice at17_1 t17.2.length ct17_1) t17.2.length (t17.2.map (Value.int .i64)), tie api_Op.El ([vi (0), vi (0), vi (0), vi (0), vi (0), vs none ([] : List Int).length 0, vi (9), vi (0), vi (0), vi (0), vi (0), vs none ([] : List Int).length 0, vi (1), vi (0), vi (0), vi (-1), vi (0), vs none ([] : List Int).length 0, vi (4), vi (2), vi (0), vi (0), vi (0), vs none ([] : List Int).length 0, vi (2), vi (-1), vi (0), vi (0), vi (0), vs none ([] : List Int).length 0, vi (6), vi (0), vi (0), vi (4), vi (0), vs none ([] : List Int).length 0, vi (7), vi (0), vi (2), vi (0), vi (0), vs none ([] : List Int).length 0, vi (7), vi (0), vi (0), vi (0), vi (9), vs none ([] : List Int).length 0, vi (4), vi (0), vi (0), vi (0), vi (0), vs ra10 (List.replicate (1001 : Int).toNat 0).length rc11, vi (5), vi (5), vi (0), vi (0), vi (0), vs none ([] : List Int).length 0]) (signalmanlaw25_SignalRefuses.c0), row 29 6 (.slice (some ⟨lb12, 0, none⟩) (signalmanlaw25_SignalRefuses.c0).length 10) (signalmanlaw25_SignalRefuses.c0).length ([vi (0), vi (0), vi (0), vi (0), vi (0), vs none ([] : List Int).length 0, vi (9), vi (0), vi (0), vi (0), vi (0), vs none ([] : List Int).length 0, vi (1), vi (0), vi (0), vi (-1), vi (0), vs none ([] : List Int).length 0, vi (4), vi (2), vi (0), vi (0), vi (0), vs none ([] : List Int).length 0, vi (2), vi (-1), vi (0), vi (0), vi (0), vs none ([] : List Int).length 0, vi (6), vi (0), vi (0), vi (4), vi (0), vs none ([] : List Int).length 0, vi (7), vi (0), vi (2), vi (0), vi (0), vs none ([] : List Int).length 0, vi (7), vi (0), vi (0), vi (0), vi (9), vs none ([] : List Int).length 0, vi (4), vi (0), vi (0), vi (0), vi (0), vs ra10 (List.replicate (1001 : Int).toNat 0).length rc11, vi (5), vi (5), vi (0), vi (0), vi (0), vs none ([] : List Int).length 0]), fsl 1 (.slice none ([] : List Int).length 0) ([] : List Int).length (([] : List Int).map (Value.int .u8)), fsl 1 (.slice ra10 (List.replicate (1001 : Int).toNat 0).length rc11) (List.replicate (1001 : Int).toNat 0).length ((List.replicate (1001 : Int).toNat 0).map (Value.int .u8)), fsl 1 (.slice none ([] : List Int).length 0) ([] : List Int).length (([] : List Int).map (Value.int .u8)), fsl 1 (.slice none ([] : List Int).length 0) ([] : List Int).length (([] : List Int).map (Value.int .u8)), fsl 1 (.slice none ([] : List Int).length 0) ([] : List Int).length (([] : List Int).map (Value.int .u8)), fsl 1 (.slice none ([] : List Int).length 0) ([] : List Int).length (([] : List Int).map (Value.int .u8)), fsl 1 (.slice none ([] : List Int).length 0) ([] : List Int).length (([] : List Int).map (Value.int .u8)), fsl 1 (.slice none ([] : List Int).length 0) ([] : List Int).length (([] : List Int).map (Value.int .u8)), fsl 1 (.slice none ([] : List Int).length 0) ([] : List Int).length (([] : List Int).map (Value.int .u8)), fsl 1 (.slice none ([] : List Int).length 0) ([] : List Int).length (([] : List Int).map (Value.int .u8)), tie api_Op.El sd1 a1, R] w0 w ∧ ∃ kl80, kl80 ≤ kl75 ∧ signalmanlaw25_SignalRefuses.j5 x68 (signalmanlaw25_SignalRefuses.l3 kl80 a2 t17 t30) x77 = some r) (fun x77 => [(2, vi a2), (8, vs (some ⟨lb12, 0, none⟩) (signalmanlaw25_SignalRefuses.c0).length 10), (10, vs at17_1 t17.2.length ct17_1), (12, vs at30_1 t30.2.length ct30_1), (17, vi x68), (177, vb x77)]) ?_ ?_
            ·refine go ?_
             refine W.cd 181 H rfl (fun _ H => ?_) (fun _ H => ?_)
             ·refine go ?_
              refine W.cd 189 H rfl (fun _ H => ?_) (fun _ H => ?_)
              ·refine go ?_
               obtain ⟨c84, H⟩ := ite_n H
               obtain ⟨_, _, hh⟩ := (rdC.at 5 row_rd HS rfl).some (by decide) c84.1 c84.2; subst hh
               refine go ?_
               refine W.r (X.load underlying44 rfl rfl ((rdC.at 5 row_rd HS rfl).cellI c84.1 c84.2)) rfl ?_
               refine go ?_
               refine W.kl H func18 (fun _ h => signalmanlaw25_num.calls h HS.j0) ?_
               rintro _ _ w H ⟨rfl, HS⟩
               have HS := HS.o0
               refine go ?_
               exact At.mt _ ⟨HS, kl75, by omega, H⟩
              ·refine go ?_
               exact At.mt _ ⟨HS, kl75, by omega, H⟩
             ·refine go ?_
              exact At.mt _ ⟨HS, kl75, by omega, H⟩
            ·rintro x77 w ⟨HS, kl80, _, H⟩
             refine V.cv H rfl (fun _ H => ?_) (fun _ H => ?_)
             ·refine go ?_
              have HS := HS.ke [26]
              exact rt
             ·refine go ?_
              exact At.rn _ ⟨HS, H, by omega⟩
         ·refine go ?_
          have HS := HS.ke [26]
          exact rt
       ·refine go ?_
        have HS := HS.ke [26]
        exact rt
      ·refine go ?_
       refine W.cd 110 H rfl (fun _ H => ?_) (fun _ H => ?_)
       ·refine go ?_
        refine W.cd 115 H rfl (fun _ H => ?_) (fun _ H => ?_)
        ·refine go ?_
         obtain ⟨c120, H⟩ := ite_n H
         obtain ⟨_, _, hh⟩ := (rdC.at 12 row_rd HS rfl).some (by decide) c120.1 c120.2; subst hh
         refine go ?_
         refine W.r (X.load underlying44 rfl rfl ((rdC.at 12 row_rd HS rfl).cellI c120.1 c120.2)) rfl ?_
         refine go ?_
         refine W.kl H func18 (fun _ h => signalmanlaw25_num.calls h HS.j0) ?_
         rintro _ _ w H ⟨rfl, HS⟩
         have HS := HS.o0
         refine go ?_
         have HS := HS.ke [26]
         exact rt
        ·refine go ?_
         have HS := HS.ke [26]
         exact rt
       ·refine go ?_
        have HS := HS.ke [26]
        exact rt
def api_Config.El : El api_Config := El.iso (El.prod (El.int .i64) (El.prod (El.int .i64) (El.prod (El.int .i64) (El.prod (El.int .i64) (El.prod (El.int .i64) (El.prod (El.int .i64) (El.prod (El.int .i64) (El.prod (El.int .i64) (El.prod (El.int .i64) (El.prod (El.int .i64) (El.prod (El.int .i64) (El.prod (El.int .i64) (El.prod (El.int .i64) (El.prod (El.int .i64) (El.prod El.bool (El.prod El.bool El.unit)))))))))))))))) (fun x => (x.Mode, (x.Modulus, (x.Window, (x.T1, (x.N2, (x.Hold, (x.Wait, (x.Keep, (x.Queue, (x.Size, (x.Ring, (x.Rate, (x.Bad, (x.Good, (x.Revert, (x.Wide, ())))))))))))))))))
theorem api_Config.unpack {c : List Value} {x : api_Config} {L : List As} {w0 w : World} (hs : Sep.St (api_Config.El.p c x :: L) w0 w) : c = [vi x.Mode, vi x.Modulus, vi x.Window, vi x.T1, vi x.N2, vi x.Hold, vi x.Wait, vi x.Keep, vi x.Queue, vi x.Size, vi x.Ring, vi x.Rate, vi x.Bad, vi x.Good, vb x.Revert, vb x.Wide] ∧ Sep.St L w0 w := by
 have hs : Sep.St ((El.prod (El.int .i64) (El.prod (El.int .i64) (El.prod (El.int .i64) (El.prod (El.int .i64) (El.prod (El.int .i64) (El.prod (El.int .i64) (El.prod (El.int .i64) (El.prod (El.int .i64) (El.prod (El.int .i64) (El.prod (El.int .i64) (El.prod (El.int .i64) (El.prod (El.int .i64) (El.prod (El.int .i64) (El.prod (El.int .i64) (El.prod El.bool (El.prod El.bool El.unit)))))))))))))))).p c (x.Mode, (x.Modulus, (x.Window, (x.T1, (x.N2, (x.Hold, (x.Wait, (x.Keep, (x.Queue, (x.Size, (x.Ring, (x.Rate, (x.Bad, (x.Good, (x.Revert, (x.Wide, ())))))))))))))))) :: L) w0 w := hs
 obtain ⟨c0, r0, e0, hs⟩ := St.prod_open hs
 have hs : Sep.St ((El.int .i64).p c0 x.Mode :: (El.prod (El.int .i64) (El.prod (El.int .i64) (El.prod (El.int .i64) (El.prod (El.int .i64) (El.prod (El.int .i64) (El.prod (El.int .i64) (El.prod (El.int .i64) (El.prod (El.int .i64) (El.prod (El.int .i64) (El.prod (El.int .i64) (El.prod (El.int .i64) (El.prod (El.int .i64) (El.prod (El.int .i64) (El.prod El.bool (El.prod El.bool El.unit))))))))))))))).p r0 (x.Modulus, (x.Window, (x.T1, (x.N2, (x.Hold, (x.Wait, (x.Keep, (x.Queue, (x.Size, (x.Ring, (x.Rate, (x.Bad, (x.Good, (x.Revert, (x.Wide, ()))))))))))))))) :: L) w0 w := hs
 obtain ⟨q0, hs⟩ := St.int_open hs
 have hs : Sep.St ((El.prod (El.int .i64) (El.prod (El.int .i64) (El.prod (El.int .i64) (El.prod (El.int .i64) (El.prod (El.int .i64) (El.prod (El.int .i64) (El.prod (El.int .i64) (El.prod (El.int .i64) (El.prod (El.int .i64) (El.prod (El.int .i64) (El.prod (El.int .i64) (El.prod (El.int .i64) (El.prod (El.int .i64) (El.prod El.bool (El.prod El.bool El.unit))))))))))))))).p r0 (x.Modulus, (x.Window, (x.T1, (x.N2, (x.Hold, (x.Wait, (x.Keep, (x.Queue, (x.Size, (x.Ring, (x.Rate, (x.Bad, (x.Good, (x.Revert, (x.Wide, ()))))))))))))))) :: L) w0 w := hs
 obtain ⟨c1, r1, e1, hs⟩ := St.prod_open hs
 have hs : Sep.St ((El.int .i64).p c1 x.Modulus :: (El.prod (El.int .i64) (El.prod (El.int .i64) (El.prod (El.int .i64) (El.prod (El.int .i64) (El.prod (El.int .i64) (El.prod (El.int .i64) (El.prod (El.int .i64) (El.prod (El.int .i64) (El.prod (El.int .i64) (El.prod (El.int .i64) (El.prod (El.int .i64) (El.prod (El.int .i64) (El.prod El.bool (El.prod El.bool El.unit)))))))))))))).p r1 (x.Window, (x.T1, (x.N2, (x.Hold, (x.Wait, (x.Keep, (x.Queue, (x.Size, (x.Ring, (x.Rate, (x.Bad, (x.Good, (x.Revert, (x.Wide, ())))))))))))))) :: L) w0 w := hs
 obtain ⟨q1, hs⟩ := St.int_open hs
 have hs : Sep.St ((El.prod (El.int .i64) (El.prod (El.int .i64) (El.prod (El.int .i64) (El.prod (El.int .i64) (El.prod (El.int .i64) (El.prod (El.int .i64) (El.prod (El.int .i64) (El.prod (El.int .i64) (El.prod (El.int .i64) (El.prod (El.int .i64) (El.prod (El.int .i64) (El.prod (El.int .i64) (El.prod El.bool (El.prod El.bool El.unit)))))))))))))).p r1 (x.Window, (x.T1, (x.N2, (x.Hold, (x.Wait, (x.Keep, (x.Queue, (x.Size, (x.Ring, (x.Rate, (x.Bad, (x.Good, (x.Revert, (x.Wide, ())))))))))))))) :: L) w0 w := hs
 obtain ⟨c2, r2, e2, hs⟩ := St.prod_open hs
 have hs : Sep.St ((El.int .i64).p c2 x.Window :: (El.prod (El.int .i64) (El.prod (El.int .i64) (El.prod (El.int .i64) (El.prod (El.int .i64) (El.prod (El.int .i64) (El.prod (El.int .i64) (El.prod (El.int .i64) (El.prod (El.int .i64) (El.prod (El.int .i64) (El.prod (El.int .i64) (El.prod (El.int .i64) (El.prod El.bool (El.prod El.bool El.unit))))))))))))).p r2 (x.T1, (x.N2, (x.Hold, (x.Wait, (x.Keep, (x.Queue, (x.Size, (x.Ring, (x.Rate, (x.Bad, (x.Good, (x.Revert, (x.Wide, ()))))))))))))) :: L) w0 w := hs
 obtain ⟨q2, hs⟩ := St.int_open hs
 have hs : Sep.St ((El.prod (El.int .i64) (El.prod (El.int .i64) (El.prod (El.int .i64) (El.prod (El.int .i64) (El.prod (El.int .i64) (El.prod (El.int .i64) (El.prod (El.int .i64) (El.prod (El.int .i64) (El.prod (El.int .i64) (El.prod (El.int .i64) (El.prod (El.int .i64) (El.prod El.bool (El.prod El.bool El.unit))))))))))))).p r2 (x.T1, (x.N2, (x.Hold, (x.Wait, (x.Keep, (x.Queue, (x.Size, (x.Ring, (x.Rate, (x.Bad, (x.Good, (x.Revert, (x.Wide, ()))))))))))))) :: L) w0 w := hs
 obtain ⟨c3, r3, e3, hs⟩ := St.prod_open hs
 have hs : Sep.St ((El.int .i64).p c3 x.T1 :: (El.prod (El.int .i64) (El.prod (El.int .i64) (El.prod (El.int .i64) (El.prod (El.int .i64) (El.prod (El.int .i64) (El.prod (El.int .i64) (El.prod (El.int .i64) (El.prod (El.int .i64) (El.prod (El.int .i64) (El.prod (El.int .i64) (El.prod El.bool (El.prod El.bool El.unit)))))))))))).p r3 (x.N2, (x.Hold, (x.Wait, (x.Keep, (x.Queue, (x.Size, (x.Ring, (x.Rate, (x.Bad, (x.Good, (x.Revert, (x.Wide, ())))))))))))) :: L) w0 w := hs
 obtain ⟨q3, hs⟩ := St.int_open hs
 have hs : Sep.St ((El.prod (El.int .i64) (El.prod (El.int .i64) (El.prod (El.int .i64) (El.prod (El.int .i64) (El.prod (El.int .i64) (El.prod (El.int .i64) (El.prod (El.int .i64) (El.prod (El.int .i64) (El.prod (El.int .i64) (El.prod (El.int .i64) (El.prod El.bool (El.prod El.bool El.unit)))))))))))).p r3 (x.N2, (x.Hold, (x.Wait, (x.Keep, (x.Queue, (x.Size, (x.Ring, (x.Rate, (x.Bad, (x.Good, (x.Revert, (x.Wide, ())))))))))))) :: L) w0 w := hs
 obtain ⟨c4, r4, e4, hs⟩ := St.prod_open hs
 have hs : Sep.St ((El.int .i64).p c4 x.N2 :: (El.prod (El.int .i64) (El.prod (El.int .i64) (El.prod (El.int .i64) (El.prod (El.int .i64) (El.prod (El.int .i64) (El.prod (El.int .i64) (El.prod (El.int .i64) (El.prod (El.int .i64) (El.prod (El.int .i64) (El.prod El.bool (El.prod El.bool El.unit))))))))))).p r4 (x.Hold, (x.Wait, (x.Keep, (x.Queue, (x.Size, (x.Ring, (x.Rate, (x.Bad, (x.Good, (x.Revert, (x.Wide, ()))))))))))) :: L) w0 w := hs
 obtain ⟨q4, hs⟩ := St.int_open hs
 have hs : Sep.St ((El.prod (El.int .i64) (El.prod (El.int .i64) (El.prod (El.int .i64) (El.prod (El.int .i64) (El.prod (El.int .i64) (El.prod (El.int .i64) (El.prod (El.int .i64) (El.prod (El.int .i64) (El.prod (El.int .i64) (El.prod El.bool (El.prod El.bool El.unit))))))))))).p r4 (x.Hold, (x.Wait, (x.Keep, (x.Queue, (x.Size, (x.Ring, (x.Rate, (x.Bad, (x.Good, (x.Revert, (x.Wide, ()))))))))))) :: L) w0 w := hs
 obtain ⟨c5, r5, e5, hs⟩ := St.prod_open hs
 have hs : Sep.St ((El.int .i64).p c5 x.Hold :: (El.prod (El.int .i64) (El.prod (El.int .i64) (El.prod (El.int .i64) (El.prod (El.int .i64) (El.prod (El.int .i64) (El.prod (El.int .i64) (El.prod (El.int .i64) (El.prod (El.int .i64) (El.prod El.bool (El.prod El.bool El.unit)))))))))).p r5 (x.Wait, (x.Keep, (x.Queue, (x.Size, (x.Ring, (x.Rate, (x.Bad, (x.Good, (x.Revert, (x.Wide, ())))))))))) :: L) w0 w := hs
 obtain ⟨q5, hs⟩ := St.int_open hs
 have hs : Sep.St ((El.prod (El.int .i64) (El.prod (El.int .i64) (El.prod (El.int .i64) (El.prod (El.int .i64) (El.prod (El.int .i64) (El.prod (El.int .i64) (El.prod (El.int .i64) (El.prod (El.int .i64) (El.prod El.bool (El.prod El.bool El.unit)))))))))).p r5 (x.Wait, (x.Keep, (x.Queue, (x.Size, (x.Ring, (x.Rate, (x.Bad, (x.Good, (x.Revert, (x.Wide, ())))))))))) :: L) w0 w := hs
 obtain ⟨c6, r6, e6, hs⟩ := St.prod_open hs
 have hs : Sep.St ((El.int .i64).p c6 x.Wait :: (El.prod (El.int .i64) (El.prod (El.int .i64) (El.prod (El.int .i64) (El.prod (El.int .i64) (El.prod (El.int .i64) (El.prod (El.int .i64) (El.prod (El.int .i64) (El.prod El.bool (El.prod El.bool El.unit))))))))).p r6 (x.Keep, (x.Queue, (x.Size, (x.Ring, (x.Rate, (x.Bad, (x.Good, (x.Revert, (x.Wide, ()))))))))) :: L) w0 w := hs
 obtain ⟨q6, hs⟩ := St.int_open hs
 have hs : Sep.St ((El.prod (El.int .i64) (El.prod (El.int .i64) (El.prod (El.int .i64) (El.prod (El.int .i64) (El.prod (El.int .i64) (El.prod (El.int .i64) (El.prod (El.int .i64) (El.prod El.bool (El.prod El.bool El.unit))))))))).p r6 (x.Keep, (x.Queue, (x.Size, (x.Ring, (x.Rate, (x.Bad, (x.Good, (x.Revert, (x.Wide, ()))))))))) :: L) w0 w := hs
 obtain ⟨c7, r7, e7, hs⟩ := St.prod_open hs
 have hs : Sep.St ((El.int .i64).p c7 x.Keep :: (El.prod (El.int .i64) (El.prod (El.int .i64) (El.prod (El.int .i64) (El.prod (El.int .i64) (El.prod (El.int .i64) (El.prod (El.int .i64) (El.prod El.bool (El.prod El.bool El.unit)))))))).p r7 (x.Queue, (x.Size, (x.Ring, (x.Rate, (x.Bad, (x.Good, (x.Revert, (x.Wide, ())))))))) :: L) w0 w := hs
 obtain ⟨q7, hs⟩ := St.int_open hs
 have hs : Sep.St ((El.prod (El.int .i64) (El.prod (El.int .i64) (El.prod (El.int .i64) (El.prod (El.int .i64) (El.prod (El.int .i64) (El.prod (El.int .i64) (El.prod El.bool (El.prod El.bool El.unit)))))))).p r7 (x.Queue, (x.Size, (x.Ring, (x.Rate, (x.Bad, (x.Good, (x.Revert, (x.Wide, ())))))))) :: L) w0 w := hs
 obtain ⟨c8, r8, e8, hs⟩ := St.prod_open hs
 have hs : Sep.St ((El.int .i64).p c8 x.Queue :: (El.prod (El.int .i64) (El.prod (El.int .i64) (El.prod (El.int .i64) (El.prod (El.int .i64) (El.prod (El.int .i64) (El.prod El.bool (El.prod El.bool El.unit))))))).p r8 (x.Size, (x.Ring, (x.Rate, (x.Bad, (x.Good, (x.Revert, (x.Wide, ()))))))) :: L) w0 w := hs
 obtain ⟨q8, hs⟩ := St.int_open hs
 have hs : Sep.St ((El.prod (El.int .i64) (El.prod (El.int .i64) (El.prod (El.int .i64) (El.prod (El.int .i64) (El.prod (El.int .i64) (El.prod El.bool (El.prod El.bool El.unit))))))).p r8 (x.Size, (x.Ring, (x.Rate, (x.Bad, (x.Good, (x.Revert, (x.Wide, ()))))))) :: L) w0 w := hs
 obtain ⟨c9, r9, e9, hs⟩ := St.prod_open hs
 have hs : Sep.St ((El.int .i64).p c9 x.Size :: (El.prod (El.int .i64) (El.prod (El.int .i64) (El.prod (El.int .i64) (El.prod (El.int .i64) (El.prod El.bool (El.prod El.bool El.unit)))))).p r9 (x.Ring, (x.Rate, (x.Bad, (x.Good, (x.Revert, (x.Wide, ())))))) :: L) w0 w := hs
 obtain ⟨q9, hs⟩ := St.int_open hs
 have hs : Sep.St ((El.prod (El.int .i64) (El.prod (El.int .i64) (El.prod (El.int .i64) (El.prod (El.int .i64) (El.prod El.bool (El.prod El.bool El.unit)))))).p r9 (x.Ring, (x.Rate, (x.Bad, (x.Good, (x.Revert, (x.Wide, ())))))) :: L) w0 w := hs
 obtain ⟨c10, r10, e10, hs⟩ := St.prod_open hs
 have hs : Sep.St ((El.int .i64).p c10 x.Ring :: (El.prod (El.int .i64) (El.prod (El.int .i64) (El.prod (El.int .i64) (El.prod El.bool (El.prod El.bool El.unit))))).p r10 (x.Rate, (x.Bad, (x.Good, (x.Revert, (x.Wide, ()))))) :: L) w0 w := hs
 obtain ⟨q10, hs⟩ := St.int_open hs
 have hs : Sep.St ((El.prod (El.int .i64) (El.prod (El.int .i64) (El.prod (El.int .i64) (El.prod El.bool (El.prod El.bool El.unit))))).p r10 (x.Rate, (x.Bad, (x.Good, (x.Revert, (x.Wide, ()))))) :: L) w0 w := hs
 obtain ⟨c11, r11, e11, hs⟩ := St.prod_open hs
 have hs : Sep.St ((El.int .i64).p c11 x.Rate :: (El.prod (El.int .i64) (El.prod (El.int .i64) (El.prod El.bool (El.prod El.bool El.unit)))).p r11 (x.Bad, (x.Good, (x.Revert, (x.Wide, ())))) :: L) w0 w := hs
 obtain ⟨q11, hs⟩ := St.int_open hs
 have hs : Sep.St ((El.prod (El.int .i64) (El.prod (El.int .i64) (El.prod El.bool (El.prod El.bool El.unit)))).p r11 (x.Bad, (x.Good, (x.Revert, (x.Wide, ())))) :: L) w0 w := hs
 obtain ⟨c12, r12, e12, hs⟩ := St.prod_open hs
 have hs : Sep.St ((El.int .i64).p c12 x.Bad :: (El.prod (El.int .i64) (El.prod El.bool (El.prod El.bool El.unit))).p r12 (x.Good, (x.Revert, (x.Wide, ()))) :: L) w0 w := hs
 obtain ⟨q12, hs⟩ := St.int_open hs
 have hs : Sep.St ((El.prod (El.int .i64) (El.prod El.bool (El.prod El.bool El.unit))).p r12 (x.Good, (x.Revert, (x.Wide, ()))) :: L) w0 w := hs
 obtain ⟨c13, r13, e13, hs⟩ := St.prod_open hs
 have hs : Sep.St ((El.int .i64).p c13 x.Good :: (El.prod El.bool (El.prod El.bool El.unit)).p r13 (x.Revert, (x.Wide, ())) :: L) w0 w := hs
 obtain ⟨q13, hs⟩ := St.int_open hs
 have hs : Sep.St ((El.prod El.bool (El.prod El.bool El.unit)).p r13 (x.Revert, (x.Wide, ())) :: L) w0 w := hs
 obtain ⟨c14, r14, e14, hs⟩ := St.prod_open hs
 have hs : Sep.St (El.bool.p c14 x.Revert :: (El.prod El.bool El.unit).p r14 (x.Wide, ()) :: L) w0 w := hs
 obtain ⟨q14, hs⟩ := St.bool_open hs
 have hs : Sep.St ((El.prod El.bool El.unit).p r14 (x.Wide, ()) :: L) w0 w := hs
 obtain ⟨c15, r15, e15, hs⟩ := St.prod_open hs
 have hs : Sep.St (El.bool.p c15 x.Wide :: El.unit.p r15 () :: L) w0 w := hs
 obtain ⟨q15, hs⟩ := St.bool_open hs
 have hs : Sep.St (El.unit.p r15 () :: L) w0 w := hs
 obtain ⟨qu, hs⟩ := St.unit_open hs
 exact ⟨by rw [e0, q0, e1, q1, e2, q2, e3, q3, e4, q4, e5, q5, e6, q6, e7, q7, e8, q8, e9, q9, e10, q10, e11, q11, e12, q12, e13, q13, e14, q14, e15, q15, qu]; rfl, hs⟩
theorem api_Config.pack  {x : api_Config} {L : List As} {w0 w : World} (hs : Sep.St L w0 w) : Sep.St (api_Config.El.p [vi x.Mode, vi x.Modulus, vi x.Window, vi x.T1, vi x.N2, vi x.Hold, vi x.Wait, vi x.Keep, vi x.Queue, vi x.Size, vi x.Ring, vi x.Rate, vi x.Bad, vi x.Good, vb x.Revert, vb x.Wide] x :: L) w0 w := by
 have h1 := St.join (m := []) hs
 exact h1.mono fun h hh => ⟨[vi x.Mode], [vi x.Modulus, vi x.Window, vi x.T1, vi x.N2, vi x.Hold, vi x.Wait, vi x.Keep, vi x.Queue, vi x.Size, vi x.Ring, vi x.Rate, vi x.Bad, vi x.Good, vb x.Revert, vb x.Wide], rfl, rfl, ⟨[vi x.Modulus], [vi x.Window, vi x.T1, vi x.N2, vi x.Hold, vi x.Wait, vi x.Keep, vi x.Queue, vi x.Size, vi x.Ring, vi x.Rate, vi x.Bad, vi x.Good, vb x.Revert, vb x.Wide], rfl, rfl, ⟨[vi x.Window], [vi x.T1, vi x.N2, vi x.Hold, vi x.Wait, vi x.Keep, vi x.Queue, vi x.Size, vi x.Ring, vi x.Rate, vi x.Bad, vi x.Good, vb x.Revert, vb x.Wide], rfl, rfl, ⟨[vi x.T1], [vi x.N2, vi x.Hold, vi x.Wait, vi x.Keep, vi x.Queue, vi x.Size, vi x.Ring, vi x.Rate, vi x.Bad, vi x.Good, vb x.Revert, vb x.Wide], rfl, rfl, ⟨[vi x.N2], [vi x.Hold, vi x.Wait, vi x.Keep, vi x.Queue, vi x.Size, vi x.Ring, vi x.Rate, vi x.Bad, vi x.Good, vb x.Revert, vb x.Wide], rfl, rfl, ⟨[vi x.Hold], [vi x.Wait, vi x.Keep, vi x.Queue, vi x.Size, vi x.Ring, vi x.Rate, vi x.Bad, vi x.Good, vb x.Revert, vb x.Wide], rfl, rfl, ⟨[vi x.Wait], [vi x.Keep, vi x.Queue, vi x.Size, vi x.Ring, vi x.Rate, vi x.Bad, vi x.Good, vb x.Revert, vb x.Wide], rfl, rfl, ⟨[vi x.Keep], [vi x.Queue, vi x.Size, vi x.Ring, vi x.Rate, vi x.Bad, vi x.Good, vb x.Revert, vb x.Wide], rfl, rfl, ⟨[vi x.Queue], [vi x.Size, vi x.Ring, vi x.Rate, vi x.Bad, vi x.Good, vb x.Revert, vb x.Wide], rfl, rfl, ⟨[vi x.Size], [vi x.Ring, vi x.Rate, vi x.Bad, vi x.Good, vb x.Revert, vb x.Wide], rfl, rfl, ⟨[vi x.Ring], [vi x.Rate, vi x.Bad, vi x.Good, vb x.Revert, vb x.Wide], rfl, rfl, ⟨[vi x.Rate], [vi x.Bad, vi x.Good, vb x.Revert, vb x.Wide], rfl, rfl, ⟨[vi x.Bad], [vi x.Good, vb x.Revert, vb x.Wide], rfl, rfl, ⟨[vi x.Good], [vb x.Revert, vb x.Wide], rfl, rfl, ⟨[vb x.Revert], [vb x.Wide], rfl, rfl, ⟨[vb x.Wide], [], rfl, rfl, rfl⟩⟩⟩⟩⟩⟩⟩⟩⟩⟩⟩⟩⟩⟩⟩⟩
def signalmanlaw25_SignalRefuses.Pure : Prop := ∀ (a0 : api_Config) (a1 : List api_Op) (a2 : Int), ((Lit.int .i64 a0.Mode).wf = true ∧ ((Lit.int .i64 a0.Modulus).wf = true ∧ ((Lit.int .i64 a0.Window).wf = true ∧ ((Lit.int .i64 a0.T1).wf = true ∧ ((Lit.int .i64 a0.N2).wf = true ∧ ((Lit.int .i64 a0.Hold).wf = true ∧ ((Lit.int .i64 a0.Wait).wf = true ∧ ((Lit.int .i64 a0.Keep).wf = true ∧ ((Lit.int .i64 a0.Queue).wf = true ∧ ((Lit.int .i64 a0.Size).wf = true ∧ ((Lit.int .i64 a0.Ring).wf = true ∧ ((Lit.int .i64 a0.Rate).wf = true ∧ ((Lit.int .i64 a0.Bad).wf = true ∧ ((Lit.int .i64 a0.Good).wf = true ∧ (True ∧ (True ∧ True)))))))))))))))) → (∀ z ∈ a1, ((Lit.int .i64 z.Kind).wf = true ∧ ((Lit.int .i64 z.At).wf = true ∧ ((Lit.int .i64 z.Line).wf = true ∧ ((Lit.int .i64 z.N).wf = true ∧ ((Lit.int .i64 z.Fault).wf = true ∧ (((∀ z3 ∈ z.B, (Lit.int .u8 z3).wf = true) ∧ (z.B.length : Int) ≤ 9223372036854775807) ∧ True))))))) → (a1.length : Int) ≤ 9223372036854775807 → (Lit.int .i64 a2).wf = true → ∃ k, signalmanlaw25_SignalRefuses.f k a0 a1 a2 = some true
end Go.Proofs.YtgkjmdapodgnfaaGreat

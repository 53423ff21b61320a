/- StationTwins: the functions that its law reaches, as plain functions, and that the machine's calls come to what these say. Conditions: those that stand at each. -/
import Derived.Test.YtodbopebbmplaaaGreatRunStationTwinsP2
set_option linter.all false
set_option maxRecDepth 100000
set_option maxHeartbeats 4000000
set_option synthInstance.maxSize 100000
set_option synthInstance.maxHeartbeats 1000000
namespace Go.Proofs.YtodbopebbmplaaaGreat
open Go.RowKit Go.Proofs.YtodbopebbmplaaaGreat.Sep Go.Proofs.YtodbopebbmplaaaGreat.Walk
mutual
def station_Station_Step.l1 : Nat → (Int × aps_Aps) → (List (List Int) × arq_Arq) → Int → station_Station → (List (List Int) × List (List Int)) → Option ((List (List Int) × List (List Int)) × station_Station)
 | 0, _, _, _, _, _ => none
 | k + 1, t21, t38, x42, x43, x44 => (if x42 < (t38.1.length : Int) then (if 0 ≤ x42 ∧ x42 < (t38.1.length : Int) then ((station_Station_piece.f k x43 (t38.1.getD x42.toNat [])).bind fun t57 => ((station_Station_twice.f t57.2).bind fun t96 => (if t96 = true then (station_Station_Step.j2 k t21 x42 x44 t57 (station_Station_Step.l1 k t21 t38) true) else (station_Station_Step.j2 k t21 x42 x44 t57 (station_Station_Step.l1 k t21 t38) (decide (0 = t21.1)))))) else none) else (if ¬ (x43.c.Keep = 0) then (if ((w64 (x43.steps + 1)).tmod x43.c.Keep) = 0 then ((aps_Aps_Request.f x43.aps).bind fun t108 => ((kcode_Put.f t108 t21.1).bind fun t110 => (if (([1] : List Int).length : Int) + t110.length ≤ 1099511627776 then ((station_Station_put.f k ({ x43 with steps := w64 (x43.steps + 1) } : station_Station) x44 0 (([1] : List Int) ++ t110)).bind fun t126 => ((station_Station_put.f k t126.1 t126.2 1 (([1] : List Int) ++ t110)).bind fun t129 => some (t129.2, t129.1))) else none))) else some (x44, ({ x43 with steps := w64 (x43.steps + 1) } : station_Station))) else none))
def station_Station_Step.j3 (k : Nat) (x42 : Int) (t57 : List Int × station_Station) (t66 : station_Station × (List (List Int) × List (List Int))) (Lq71 : Int → station_Station → (List (List Int) × List (List Int)) → Option ((List (List Int) × List (List Int)) × station_Station)) (x69 : Bool) : Option ((List (List Int) × List (List Int)) × station_Station) := (if x69 = true then ((station_Station_put.f k t66.1 t66.2 1 t57.1).bind fun t74 => (Lq71 (w64 (x42 + 1)) t74.1 t74.2)) else (Lq71 (w64 (x42 + 1)) t66.1 t66.2))
def station_Station_Step.j4 (k : Nat) (x42 : Int) (x44 : (List (List Int) × List (List Int))) (t57 : List Int × station_Station) (Lq83 : Int → station_Station → (List (List Int) × List (List Int)) → Option ((List (List Int) × List (List Int)) × station_Station)) (x81 : Bool) : Option ((List (List Int) × List (List Int)) × station_Station) := (if x81 = true then ((station_Station_put.f k t57.2 x44 1 t57.1).bind fun t86 => (Lq83 (w64 (x42 + 1)) t86.1 t86.2)) else (Lq83 (w64 (x42 + 1)) t57.2 x44))
def station_Station_Step.j2 (k : Nat) (t21 : Int × aps_Aps) (x42 : Int) (x44 : (List (List Int) × List (List Int))) (t57 : List Int × station_Station) (Lq63 : Int → station_Station → (List (List Int) × List (List Int)) → Option ((List (List Int) × List (List Int)) × station_Station)) (x61 : Bool) : Option ((List (List Int) × List (List Int)) × station_Station) := (if x61 = true then ((station_Station_put.f k t57.2 x44 0 t57.1).bind fun t66 => ((station_Station_twice.f t66.1).bind fun t78 => (if t78 = true then (station_Station_Step.j3 k x42 t57 t66 Lq63 true) else (station_Station_Step.j3 k x42 t57 t66 Lq63 (decide (1 = t21.1)))))) else ((station_Station_twice.f t57.2).bind fun t91 => (if t91 = true then (station_Station_Step.j4 k x42 x44 t57 Lq63 true) else (station_Station_Step.j4 k x42 x44 t57 Lq63 (decide (1 = t21.1))))))
def station_Station_Step.j0 (k : Nat) (t21 : Int × aps_Aps) (x23 : station_Station) : Option ((List (List Int) × List (List Int)) × station_Station) := ((arq_Arq_Pass.f k x23.arq 1).bind fun t27 => ((arq_Arq_Output.f t27).bind fun t38 => (station_Station_Step.l1 k t21 t38 0 ({ x23 with arq := t38.2, line := t21.1 } : station_Station) (([] : List (List Int)), ([] : List (List Int))))))
def station_Station_Step.j5 (k : Nat) (a0 : station_Station) (t8 : Int × monitor_Monitor) (t19 : Int × monitor_Monitor) (t21 : Int × aps_Aps) (x141 : Bool) : Option ((List (List Int) × List (List Int)) × station_Station) := (if x141 = true then ((arq_Arq_Again.f k ((({ a0 with aps := t21.2, sides := (({ a0.sides.1 with monitor := t8.2 } : station_side), ({ a0.sides.2 with monitor := t19.2 } : station_side)) } : station_Station)).arq)).bind fun t146 => (station_Station_Step.j0 k t21 ({ c := ({ Mode := (({ a0 with aps := t21.2, sides := (({ a0.sides.1 with monitor := t8.2 } : station_side), ({ a0.sides.2 with monitor := t19.2 } : station_side)) } : station_Station)).c.Mode, Modulus := (({ a0 with aps := t21.2, sides := (({ a0.sides.1 with monitor := t8.2 } : station_side), ({ a0.sides.2 with monitor := t19.2 } : station_side)) } : station_Station)).c.Modulus, Window := (({ a0 with aps := t21.2, sides := (({ a0.sides.1 with monitor := t8.2 } : station_side), ({ a0.sides.2 with monitor := t19.2 } : station_side)) } : station_Station)).c.Window, T1 := (({ a0 with aps := t21.2, sides := (({ a0.sides.1 with monitor := t8.2 } : station_side), ({ a0.sides.2 with monitor := t19.2 } : station_side)) } : station_Station)).c.T1, N2 := (({ a0 with aps := t21.2, sides := (({ a0.sides.1 with monitor := t8.2 } : station_side), ({ a0.sides.2 with monitor := t19.2 } : station_side)) } : station_Station)).c.N2, Hold := (({ a0 with aps := t21.2, sides := (({ a0.sides.1 with monitor := t8.2 } : station_side), ({ a0.sides.2 with monitor := t19.2 } : station_side)) } : station_Station)).c.Hold, Wait := (({ a0 with aps := t21.2, sides := (({ a0.sides.1 with monitor := t8.2 } : station_side), ({ a0.sides.2 with monitor := t19.2 } : station_side)) } : station_Station)).c.Wait, Keep := (({ a0 with aps := t21.2, sides := (({ a0.sides.1 with monitor := t8.2 } : station_side), ({ a0.sides.2 with monitor := t19.2 } : station_side)) } : station_Station)).c.Keep, Queue := (({ a0 with aps := t21.2, sides := (({ a0.sides.1 with monitor := t8.2 } : station_side), ({ a0.sides.2 with monitor := t19.2 } : station_side)) } : station_Station)).c.Queue, Size := (({ a0 with aps := t21.2, sides := (({ a0.sides.1 with monitor := t8.2 } : station_side), ({ a0.sides.2 with monitor := t19.2 } : station_side)) } : station_Station)).c.Size, Ring := (({ a0 with aps := t21.2, sides := (({ a0.sides.1 with monitor := t8.2 } : station_side), ({ a0.sides.2 with monitor := t19.2 } : station_side)) } : station_Station)).c.Ring, Rate := (({ a0 with aps := t21.2, sides := (({ a0.sides.1 with monitor := t8.2 } : station_side), ({ a0.sides.2 with monitor := t19.2 } : station_side)) } : station_Station)).c.Rate, Bad := (({ a0 with aps := t21.2, sides := (({ a0.sides.1 with monitor := t8.2 } : station_side), ({ a0.sides.2 with monitor := t19.2 } : station_side)) } : station_Station)).c.Bad, Good := (({ a0 with aps := t21.2, sides := (({ a0.sides.1 with monitor := t8.2 } : station_side), ({ a0.sides.2 with monitor := t19.2 } : station_side)) } : station_Station)).c.Good, Revert := (({ a0 with aps := t21.2, sides := (({ a0.sides.1 with monitor := t8.2 } : station_side), ({ a0.sides.2 with monitor := t19.2 } : station_side)) } : station_Station)).c.Revert, Wide := (({ a0 with aps := t21.2, sides := (({ a0.sides.1 with monitor := t8.2 } : station_side), ({ a0.sides.2 with monitor := t19.2 } : station_side)) } : station_Station)).c.Wide } : api_Config), arq := t146, aps := (({ a0 with aps := t21.2, sides := (({ a0.sides.1 with monitor := t8.2 } : station_side), ({ a0.sides.2 with monitor := t19.2 } : station_side)) } : station_Station)).aps, twins := (({ a0 with aps := t21.2, sides := (({ a0.sides.1 with monitor := t8.2 } : station_side), ({ a0.sides.2 with monitor := t19.2 } : station_side)) } : station_Station)).twins, number := (({ a0 with aps := t21.2, sides := (({ a0.sides.1 with monitor := t8.2 } : station_side), ({ a0.sides.2 with monitor := t19.2 } : station_side)) } : station_Station)).number, steps := (({ a0 with aps := t21.2, sides := (({ a0.sides.1 with monitor := t8.2 } : station_side), ({ a0.sides.2 with monitor := t19.2 } : station_side)) } : station_Station)).steps, line := (({ a0 with aps := t21.2, sides := (({ a0.sides.1 with monitor := t8.2 } : station_side), ({ a0.sides.2 with monitor := t19.2 } : station_side)) } : station_Station)).line, sides := (({ reader := (({ a0 with aps := t21.2, sides := (({ a0.sides.1 with monitor := t8.2 } : station_side), ({ a0.sides.2 with monitor := t19.2 } : station_side)) } : station_Station)).sides.1.reader, monitor := (({ a0 with aps := t21.2, sides := (({ a0.sides.1 with monitor := t8.2 } : station_side), ({ a0.sides.2 with monitor := t19.2 } : station_side)) } : station_Station)).sides.1.monitor, ring := (({ a0 with aps := t21.2, sides := (({ a0.sides.1 with monitor := t8.2 } : station_side), ({ a0.sides.2 with monitor := t19.2 } : station_side)) } : station_Station)).sides.1.ring, counts := ({ Good := (({ a0 with aps := t21.2, sides := (({ a0.sides.1 with monitor := t8.2 } : station_side), ({ a0.sides.2 with monitor := t19.2 } : station_side)) } : station_Station)).sides.1.counts.Good, Bad := (({ a0 with aps := t21.2, sides := (({ a0.sides.1 with monitor := t8.2 } : station_side), ({ a0.sides.2 with monitor := t19.2 } : station_side)) } : station_Station)).sides.1.counts.Bad, Aborts := (({ a0 with aps := t21.2, sides := (({ a0.sides.1 with monitor := t8.2 } : station_side), ({ a0.sides.2 with monitor := t19.2 } : station_side)) } : station_Station)).sides.1.counts.Aborts, Runts := (({ a0 with aps := t21.2, sides := (({ a0.sides.1 with monitor := t8.2 } : station_side), ({ a0.sides.2 with monitor := t19.2 } : station_side)) } : station_Station)).sides.1.counts.Runts, Giants := (({ a0 with aps := t21.2, sides := (({ a0.sides.1 with monitor := t8.2 } : station_side), ({ a0.sides.2 with monitor := t19.2 } : station_side)) } : station_Station)).sides.1.counts.Giants, Dropped := (({ a0 with aps := t21.2, sides := (({ a0.sides.1 with monitor := t8.2 } : station_side), ({ a0.sides.2 with monitor := t19.2 } : station_side)) } : station_Station)).sides.1.counts.Dropped, Twins := (({ a0 with aps := t21.2, sides := (({ a0.sides.1 with monitor := t8.2 } : station_side), ({ a0.sides.2 with monitor := t19.2 } : station_side)) } : station_Station)).sides.1.counts.Twins } : api_Counts) } : station_side), ({ reader := (({ a0 with aps := t21.2, sides := (({ a0.sides.1 with monitor := t8.2 } : station_side), ({ a0.sides.2 with monitor := t19.2 } : station_side)) } : station_Station)).sides.2.reader, monitor := (({ a0 with aps := t21.2, sides := (({ a0.sides.1 with monitor := t8.2 } : station_side), ({ a0.sides.2 with monitor := t19.2 } : station_side)) } : station_Station)).sides.2.monitor, ring := (({ a0 with aps := t21.2, sides := (({ a0.sides.1 with monitor := t8.2 } : station_side), ({ a0.sides.2 with monitor := t19.2 } : station_side)) } : station_Station)).sides.2.ring, counts := ({ Good := (({ a0 with aps := t21.2, sides := (({ a0.sides.1 with monitor := t8.2 } : station_side), ({ a0.sides.2 with monitor := t19.2 } : station_side)) } : station_Station)).sides.2.counts.Good, Bad := (({ a0 with aps := t21.2, sides := (({ a0.sides.1 with monitor := t8.2 } : station_side), ({ a0.sides.2 with monitor := t19.2 } : station_side)) } : station_Station)).sides.2.counts.Bad, Aborts := (({ a0 with aps := t21.2, sides := (({ a0.sides.1 with monitor := t8.2 } : station_side), ({ a0.sides.2 with monitor := t19.2 } : station_side)) } : station_Station)).sides.2.counts.Aborts, Runts := (({ a0 with aps := t21.2, sides := (({ a0.sides.1 with monitor := t8.2 } : station_side), ({ a0.sides.2 with monitor := t19.2 } : station_side)) } : station_Station)).sides.2.counts.Runts, Giants := (({ a0 with aps := t21.2, sides := (({ a0.sides.1 with monitor := t8.2 } : station_side), ({ a0.sides.2 with monitor := t19.2 } : station_side)) } : station_Station)).sides.2.counts.Giants, Dropped := (({ a0 with aps := t21.2, sides := (({ a0.sides.1 with monitor := t8.2 } : station_side), ({ a0.sides.2 with monitor := t19.2 } : station_side)) } : station_Station)).sides.2.counts.Dropped, Twins := (({ a0 with aps := t21.2, sides := (({ a0.sides.1 with monitor := t8.2 } : station_side), ({ a0.sides.2 with monitor := t19.2 } : station_side)) } : station_Station)).sides.2.counts.Twins } : api_Counts) } : station_side)) } : station_Station))) else (station_Station_Step.j0 k t21 ({ a0 with aps := t21.2, sides := (({ a0.sides.1 with monitor := t8.2 } : station_side), ({ a0.sides.2 with monitor := t19.2 } : station_side)) } : station_Station)))
end
def station_Station_Step.f (k : Nat) (a0 : station_Station) : Option ((List (List Int) × List (List Int)) × station_Station) := ((monitor_Monitor_Pass.f a0.sides.1.monitor 1).bind fun t8 => ((monitor_Monitor_Pass.f a0.sides.2.monitor 1).bind fun t19 => ((aps_Aps_Pass.f a0.aps t8.1 t19.1).bind fun t21 => ((station_Station_twice.f ({ a0 with aps := t21.2, sides := (({ a0.sides.1 with monitor := t8.2 } : station_side), ({ a0.sides.2 with monitor := t19.2 } : station_side)) } : station_Station)).bind fun t148 => (if t148 = true then (station_Station_Step.j5 k a0 t8 t19 t21 false) else (station_Station_Step.j5 k a0 t8 t19 t21 (!(decide (t21.1 = a0.line)))))))))
theorem station_Station_Step.calls {k : Nat} {a0 : station_Station} {R : As} {w0 w : World} {b0 : Nat} {r : (List (List Int) × List (List Int)) × station_Station} (H : station_Station_Step.f k a0 = some r) (HS : Sep.St [station_Station.at b0 a0, R] w0 w)  : Calls Tryz.prog 14 #[Value.pointer (some ⟨b0, 0, none⟩)] w (Ret fun u w => ∃ (aq0_0 : Option Addr) (cq0_0 : Nat) (dq0_0 : List Value) (aq0_1 : Option Addr) (cq0_1 : Nat) (dq0_1 : List Value), u = Value.agg #[Value.slice aq0_0 r.1.1.length cq0_0, Value.slice aq0_1 r.1.2.length cq0_1] ∧ Sep.St [row 32 1 (.slice aq0_0 r.1.1.length cq0_0) r.1.1.length dq0_0, tie (El.sl (El.int .u8)) dq0_0 r.1.1, row 32 1 (.slice aq0_1 r.1.2.length cq0_1) r.1.2.length dq0_1, tie (El.sl (El.int .u8)) dq0_1 r.1.2, station_Station.at b0 r.2, R] w0 w) := by
 unfold station_Station_Step.f at H
 refine calls_enter Tryz.func14 rfl rfl ?_
 have H : _ = some r := H
 refine V.seq (V.region (W.e (Y.alloc (z := Value.agg (#[Value.slice none 0 0, Value.slice none 0 0])) HS ze38) rfl ?_))
 rintro _ w ⟨nb1, rfl, HS⟩
 refine W.nx (V.seq (V.region (W.e (Y.alloc (z := Value.agg (#[Value.slice none 0 0, Value.slice none 0 0])) HS ze38) rfl ?_)))
 rintro _ w ⟨nb2, rfl, HS⟩
 refine W.nx (V.seq (V.region (W.mv rfl (W.nc rfl ?_))))
 replace HS := HS.fr 2
 obtain ⟨b16_6, b17_6, b18_6, b22_6, b23_6, b24_6, b32_6, b33_6, b34_6, hi7, HS⟩ := station_Station.open HS
 refine W.fa fo87_7 rfl (W.r (X.indexArK 0 rfl Tryz.underlying85 inf84 rfl rfl (by decide) (by decide)) rfl (W.fa fo84_1 rfl (W.ld 0 HS Tryz.underlying81 rfl rfl rfl rfl ?_)))
 obtain ⟨t8, A9, H⟩ := bind_s H
 replace HS := HS.pm [5, 0, 1, 2, 3, 4, 6, 7, 8, 9, 10, 11, 12]
 refine W.e (Y.cl Tryz.func52 (monitor_Monitor_Pass.calls A9 HS.j1)) rfl ?_
 rintro _ w ⟨rfl, HS⟩
 replace HS := HS.o1
 refine W.as rfl (W.nx (V.seq (V.dr [11, 12] [13] [(19, Value.pointer (some ⟨b0, 0, none⟩)), (20, Value.pointer (some ⟨b0, 0, none⟩)), (21, Value.pointer (some ⟨b0, 0 + 17, none⟩)), (22, Value.pointer (some ⟨b17_6, 0, none⟩)), (23, Value.int .i64 t8.1), (24, Value.pointer (some ⟨b0, 0, none⟩)), (25, Value.pointer (some ⟨b0, 0, none⟩)), (26, Value.pointer (some ⟨b0, 0 + 22, none⟩)), (27, Value.pointer (some ⟨b0, 0 + 22 + 1 * 10, none⟩)), (28, Value.pointer (some ⟨b0, 0 + 22 + 1 * 10 + 1, none⟩)), (29, Value.pointer (some ⟨b33_6, 0, none⟩))] mo HS ?_)))
 refine T.ev [(29, _)] [13] [5, 6, 7, 8, 9, 10] ⟨rfl, trivial⟩ ⟨.mv 0, .nc 19, .fa 20 fo87_2, .ld 21 1 Tryz.underlying75, .mv 4, .mv 0, .nc 24, .fa 25 fo87_7, .n1 26 rfl rfl (fun w HS => X.indexArK 1 rfl Tryz.underlying85 inf84 rfl rfl (by decide) (by decide)), .fa 27 fo84_1, .ld 28 1 Tryz.underlying81, trivial⟩ rfl (fun w HS => ?_)
 obtain ⟨t19, A20, H⟩ := bind_s H
 replace HS := HS.pm [8, 0, 1, 2, 3, 4, 5, 6, 7, 9, 10, 11, 12]
 refine ⟨_, Y.cl Tryz.func52 (monitor_Monitor_Pass.calls A20 HS.j1), ?_⟩
 rintro _ w ⟨rfl, HS⟩
 replace HS := HS.o1
 refine T.nw HS ?_
 refine T.ev [(22, _), (23, _), (30, _)] [] [0, 1, 2, 3, 4] ⟨rfl, rfl, rfl, trivial⟩ ⟨.mv 0, .nc 19, .fa 20 fo87_2, .ld 21 2 Tryz.underlying75, .mv 4, trivial⟩ rfl (fun w HS => ?_)
 obtain ⟨t21, A22, H⟩ := bind_s H
 replace HS := HS.pm [4, 0, 1, 2, 3, 5, 6, 7, 8, 9, 10, 11, 12]
 refine ⟨_, Y.cl Tryz.func53 (aps_Aps_Pass.calls A22 HS.j1), ?_⟩
 rintro _ w ⟨rfl, HS⟩
 replace HS := HS.o1
 refine T.nm [(31, Value.int .i64 t21.1), (5, Value.int .i64 t21.1)] HS ⟨.inl ⟨rfl, rfl⟩, ⟨.inr ⟨by decide, rfl⟩, trivial⟩⟩ ?_
 refine T.fn [(0, _), (2, _), (3, _), (5, _)] ⟨rfl, rfl, rfl, rfl, trivial⟩ ⟨.as 31, trivial⟩ (fun w HS => ?_)
 refine At.next (V.meet (σ := station_Station) (fun st w => match st with | x23 => Sep.St [V38.at nb1 ((([] : List (List Int)), ([] : List (List Int)))), V38.at nb2 ((([] : List (List Int)), ([] : List (List Int)))), station_Station.at b0 x23, R] w0 w ∧ ∃ kf24, kf24 ≤ k ∧ station_Station_Step.j0 kf24 t21 x23 = some r) (fun st => match st with | x23 => [(0, Value.pointer (some ⟨b0, 0, none⟩)), (2, Value.pointer (some ⟨nb1, 0, none⟩)), (3, Value.pointer (some ⟨nb2, 0, none⟩)), (5, Value.int .i64 t21.1)]) ?_ ?_)
 ·refine V.meet (σ := Bool) (fun st w => match st with | x141 => Sep.St [V38.at nb1 ((([] : List (List Int)), ([] : List (List Int)))), V38.at nb2 ((([] : List (List Int)), ([] : List (List Int)))), station_Station.at b0 (({ a0 with aps := t21.2, sides := (({ a0.sides.1 with monitor := t8.2 } : station_side), ({ a0.sides.2 with monitor := t19.2 } : station_side)) } : station_Station)), R] w0 w ∧ ∃ kf142, kf142 ≤ k ∧ station_Station_Step.j5 kf142 a0 t8 t19 t21 x141 = some r) (fun st => match st with | x141 => [(0, Value.pointer (some ⟨b0, 0, none⟩)), (2, Value.pointer (some ⟨nb1, 0, none⟩)), (3, Value.pointer (some ⟨nb2, 0, none⟩)), (5, Value.int .i64 t21.1), (42, Value.bool x141)]) ?_ ?_
  ·refine V.region (W.mv rfl ?_)
   obtain ⟨t148, A149, H⟩ := bind_s H
   replace HS := HS.pm [3, 4, 0, 5, 6, 2, 7, 8, 1, 9, 10, 11, 12]
   refine W.e (Y.cl Tryz.func49 (station_Station_twice.calls A149 HS.j10)) rfl ?_
   rintro _ w ⟨rfl, HS⟩
   replace HS := HS.o10
   refine W.r (X.not rfl) rfl (W.mv rfl ?_)
   by_cases c150 : t148 = true
   ·replace H := ite_t c150 H
    refine W.pass 35 rfl (sb (n_t c150)) rfl rfl (W.pass 35 rfl (sb (n_t c150)) rfl rfl (W.pass 35 rfl (sb (n_t c150)) rfl rfl (W.pass 35 rfl (sb (n_t c150)) rfl rfl (W.pass 35 rfl (sb (n_t c150)) rfl rfl (W.pass 35 rfl (sb (n_t c150)) rfl rfl (W.r (X.pickF (sb (n_t c150)) rfl) rfl (W.nil ?_)))))))
    replace HS := row_nilE (El.sl (El.int .u8)) 32 1 HS
    replace HS := row_nilE (El.sl (El.int .u8)) 32 1 HS
    replace HS := HS.pm [15, 2, 3, 0, 1, 4, 5, 6, 7, 8, 9, 10, 11, 12, 13, 14, 16]
    replace HS := V38.close (l0 := ([] : List (List Int))) (l1 := ([] : List (List Int))) trivial HS
    replace HS := row_nilE (El.sl (El.int .u8)) 32 1 HS
    replace HS := row_nilE (El.sl (El.int .u8)) 32 1 HS
    replace HS := HS.pm [15, 2, 3, 0, 1, 4, 5, 6, 7, 8, 9, 10, 11, 12, 13, 14, 16]
    replace HS := V38.close (l0 := ([] : List (List Int))) (l1 := ([] : List (List Int))) trivial HS
    replace HS := HS.pm [2, 3, 4, 5, 6, 7, 8, 9, 10, 11, 0, 1, 12]
    replace HS := station_Station.close trivial HS
    replace HS := HS.pk [2, 1, 0, 3] []
    exact At.meet false ⟨rfl, rfl, rfl, rfl, rfl, trivial⟩ ⟨HS, k, by omega, H⟩
   ·replace H := ite_f c150 H
    refine W.want 35 rfl (sb (n_f (b_f c150))) (W.mv rfl (W.want 35 rfl (sb (n_f (b_f c150))) (W.mv rfl (W.want 35 rfl (sb (n_f (b_f c150))) (W.nc rfl (W.want 35 rfl (sb (n_f (b_f c150))) (W.fa fo87_6 rfl (W.want 35 rfl (sb (n_f (b_f c150))) (W.ld 0 HS Tryz.underlying3 rfl rfl rfl rfl (W.want 35 rfl (sb (n_f (b_f c150))) (W.r (X.cmp (!(decide (t21.1 = a0.line))) rfl rfl rfl rfl) rfl (W.r (X.pickT (sb (n_f (b_f c150))) rfl) rfl (W.nil ?_)))))))))))))
    replace HS := row_nilE (El.sl (El.int .u8)) 32 1 HS
    replace HS := row_nilE (El.sl (El.int .u8)) 32 1 HS
    replace HS := HS.pm [15, 2, 3, 0, 1, 4, 5, 6, 7, 8, 9, 10, 11, 12, 13, 14, 16]
    replace HS := V38.close (l0 := ([] : List (List Int))) (l1 := ([] : List (List Int))) trivial HS
    replace HS := row_nilE (El.sl (El.int .u8)) 32 1 HS
    replace HS := row_nilE (El.sl (El.int .u8)) 32 1 HS
    replace HS := HS.pm [15, 2, 3, 0, 1, 4, 5, 6, 7, 8, 9, 10, 11, 12, 13, 14, 16]
    replace HS := V38.close (l0 := ([] : List (List Int))) (l1 := ([] : List (List Int))) trivial HS
    replace HS := HS.pm [2, 3, 4, 5, 6, 7, 8, 9, 10, 11, 0, 1, 12]
    replace HS := station_Station.close trivial HS
    replace HS := HS.pk [2, 1, 0, 3] []
    exact At.meet (!(decide (t21.1 = a0.line))) ⟨rfl, rfl, rfl, rfl, rfl, trivial⟩ ⟨HS, k, by omega, H⟩
  ·rintro x141 w ⟨HS, kf142, hkkf142, H⟩
   unfold station_Station_Step.j5 at H
   by_cases c143 : x141 = true
   ·replace H := ite_t c143 H
    refine V.condT (sb c143) (V.region (W.mv rfl (W.nc rfl ?_)))
    replace HS := HS.fr 2
    obtain ⟨b16_144, b17_144, b18_144, b22_144, b23_144, b24_144, b32_144, b33_144, b34_144, hi145, HS⟩ := station_Station.open HS
    refine W.fa fo87_1 rfl (W.ld 0 HS Tryz.underlying73 rfl rfl rfl rfl ?_)
    obtain ⟨t146, A147, H⟩ := bind_s H
    replace HS := HS.pm [1, 0, 2, 3, 4, 5, 6, 7, 8, 9, 10, 11, 12]
    refine W.e (Y.cl Tryz.func54 (arq_Arq_Again.calls A147 HS.j1)) rfl ?_
    rintro _ w ⟨rfl, HS⟩
    replace HS := HS.o1
    refine W.nil ?_
    replace HS := HS.pm [1, 0, 2, 3, 4, 5, 6, 7, 8, 9, 10, 11, 12]
    replace HS := station_Station.close trivial HS
    replace HS := HS.pk [1, 2, 0, 3] []
    exact At.meet (({ c := ({ Mode := (({ a0 with aps := t21.2, sides := (({ a0.sides.1 with monitor := t8.2 } : station_side), ({ a0.sides.2 with monitor := t19.2 } : station_side)) } : station_Station)).c.Mode, Modulus := (({ a0 with aps := t21.2, sides := (({ a0.sides.1 with monitor := t8.2 } : station_side), ({ a0.sides.2 with monitor := t19.2 } : station_side)) } : station_Station)).c.Modulus, Window := (({ a0 with aps := t21.2, sides := (({ a0.sides.1 with monitor := t8.2 } : station_side), ({ a0.sides.2 with monitor := t19.2 } : station_side)) } : station_Station)).c.Window, T1 := (({ a0 with aps := t21.2, sides := (({ a0.sides.1 with monitor := t8.2 } : station_side), ({ a0.sides.2 with monitor := t19.2 } : station_side)) } : station_Station)).c.T1, N2 := (({ a0 with aps := t21.2, sides := (({ a0.sides.1 with monitor := t8.2 } : station_side), ({ a0.sides.2 with monitor := t19.2 } : station_side)) } : station_Station)).c.N2, Hold := (({ a0 with aps := t21.2, sides := (({ a0.sides.1 with monitor := t8.2 } : station_side), ({ a0.sides.2 with monitor := t19.2 } : station_side)) } : station_Station)).c.Hold, Wait := (({ a0 with aps := t21.2, sides := (({ a0.sides.1 with monitor := t8.2 } : station_side), ({ a0.sides.2 with monitor := t19.2 } : station_side)) } : station_Station)).c.Wait, Keep := (({ a0 with aps := t21.2, sides := (({ a0.sides.1 with monitor := t8.2 } : station_side), ({ a0.sides.2 with monitor := t19.2 } : station_side)) } : station_Station)).c.Keep, Queue := (({ a0 with aps := t21.2, sides := (({ a0.sides.1 with monitor := t8.2 } : station_side), ({ a0.sides.2 with monitor := t19.2 } : station_side)) } : station_Station)).c.Queue, Size := (({ a0 with aps := t21.2, sides := (({ a0.sides.1 with monitor := t8.2 } : station_side), ({ a0.sides.2 with monitor := t19.2 } : station_side)) } : station_Station)).c.Size, Ring := (({ a0 with aps := t21.2, sides := (({ a0.sides.1 with monitor := t8.2 } : station_side), ({ a0.sides.2 with monitor := t19.2 } : station_side)) } : station_Station)).c.Ring, Rate := (({ a0 with aps := t21.2, sides := (({ a0.sides.1 with monitor := t8.2 } : station_side), ({ a0.sides.2 with monitor := t19.2 } : station_side)) } : station_Station)).c.Rate, Bad := (({ a0 with aps := t21.2, sides := (({ a0.sides.1 with monitor := t8.2 } : station_side), ({ a0.sides.2 with monitor := t19.2 } : station_side)) } : station_Station)).c.Bad, Good := (({ a0 with aps := t21.2, sides := (({ a0.sides.1 with monitor := t8.2 } : station_side), ({ a0.sides.2 with monitor := t19.2 } : station_side)) } : station_Station)).c.Good, Revert := (({ a0 with aps := t21.2, sides := (({ a0.sides.1 with monitor := t8.2 } : station_side), ({ a0.sides.2 with monitor := t19.2 } : station_side)) } : station_Station)).c.Revert, Wide := (({ a0 with aps := t21.2, sides := (({ a0.sides.1 with monitor := t8.2 } : station_side), ({ a0.sides.2 with monitor := t19.2 } : station_side)) } : station_Station)).c.Wide } : api_Config), arq := t146, aps := (({ a0 with aps := t21.2, sides := (({ a0.sides.1 with monitor := t8.2 } : station_side), ({ a0.sides.2 with monitor := t19.2 } : station_side)) } : station_Station)).aps, twins := (({ a0 with aps := t21.2, sides := (({ a0.sides.1 with monitor := t8.2 } : station_side), ({ a0.sides.2 with monitor := t19.2 } : station_side)) } : station_Station)).twins, number := (({ a0 with aps := t21.2, sides := (({ a0.sides.1 with monitor := t8.2 } : station_side), ({ a0.sides.2 with monitor := t19.2 } : station_side)) } : station_Station)).number, steps := (({ a0 with aps := t21.2, sides := (({ a0.sides.1 with monitor := t8.2 } : station_side), ({ a0.sides.2 with monitor := t19.2 } : station_side)) } : station_Station)).steps, line := (({ a0 with aps := t21.2, sides := (({ a0.sides.1 with monitor := t8.2 } : station_side), ({ a0.sides.2 with monitor := t19.2 } : station_side)) } : station_Station)).line, sides := (({ reader := (({ a0 with aps := t21.2, sides := (({ a0.sides.1 with monitor := t8.2 } : station_side), ({ a0.sides.2 with monitor := t19.2 } : station_side)) } : station_Station)).sides.1.reader, monitor := (({ a0 with aps := t21.2, sides := (({ a0.sides.1 with monitor := t8.2 } : station_side), ({ a0.sides.2 with monitor := t19.2 } : station_side)) } : station_Station)).sides.1.monitor, ring := (({ a0 with aps := t21.2, sides := (({ a0.sides.1 with monitor := t8.2 } : station_side), ({ a0.sides.2 with monitor := t19.2 } : station_side)) } : station_Station)).sides.1.ring, counts := ({ Good := (({ a0 with aps := t21.2, sides := (({ a0.sides.1 with monitor := t8.2 } : station_side), ({ a0.sides.2 with monitor := t19.2 } : station_side)) } : station_Station)).sides.1.counts.Good, Bad := (({ a0 with aps := t21.2, sides := (({ a0.sides.1 with monitor := t8.2 } : station_side), ({ a0.sides.2 with monitor := t19.2 } : station_side)) } : station_Station)).sides.1.counts.Bad, Aborts := (({ a0 with aps := t21.2, sides := (({ a0.sides.1 with monitor := t8.2 } : station_side), ({ a0.sides.2 with monitor := t19.2 } : station_side)) } : station_Station)).sides.1.counts.Aborts, Runts := (({ a0 with aps := t21.2, sides := (({ a0.sides.1 with monitor := t8.2 } : station_side), ({ a0.sides.2 with monitor := t19.2 } : station_side)) } : station_Station)).sides.1.counts.Runts, Giants := (({ a0 with aps := t21.2, sides := (({ a0.sides.1 with monitor := t8.2 } : station_side), ({ a0.sides.2 with monitor := t19.2 } : station_side)) } : station_Station)).sides.1.counts.Giants, Dropped := (({ a0 with aps := t21.2, sides := (({ a0.sides.1 with monitor := t8.2 } : station_side), ({ a0.sides.2 with monitor := t19.2 } : station_side)) } : station_Station)).sides.1.counts.Dropped, Twins := (({ a0 with aps := t21.2, sides := (({ a0.sides.1 with monitor := t8.2 } : station_side), ({ a0.sides.2 with monitor := t19.2 } : station_side)) } : station_Station)).sides.1.counts.Twins } : api_Counts) } : station_side), ({ reader := (({ a0 with aps := t21.2, sides := (({ a0.sides.1 with monitor := t8.2 } : station_side), ({ a0.sides.2 with monitor := t19.2 } : station_side)) } : station_Station)).sides.2.reader, monitor := (({ a0 with aps := t21.2, sides := (({ a0.sides.1 with monitor := t8.2 } : station_side), ({ a0.sides.2 with monitor := t19.2 } : station_side)) } : station_Station)).sides.2.monitor, ring := (({ a0 with aps := t21.2, sides := (({ a0.sides.1 with monitor := t8.2 } : station_side), ({ a0.sides.2 with monitor := t19.2 } : station_side)) } : station_Station)).sides.2.ring, counts := ({ Good := (({ a0 with aps := t21.2, sides := (({ a0.sides.1 with monitor := t8.2 } : station_side), ({ a0.sides.2 with monitor := t19.2 } : station_side)) } : station_Station)).sides.2.counts.Good, Bad := (({ a0 with aps := t21.2, sides := (({ a0.sides.1 with monitor := t8.2 } : station_side), ({ a0.sides.2 with monitor := t19.2 } : station_side)) } : station_Station)).sides.2.counts.Bad, Aborts := (({ a0 with aps := t21.2, sides := (({ a0.sides.1 with monitor := t8.2 } : station_side), ({ a0.sides.2 with monitor := t19.2 } : station_side)) } : station_Station)).sides.2.counts.Aborts, Runts := (({ a0 with aps := t21.2, sides := (({ a0.sides.1 with monitor := t8.2 } : station_side), ({ a0.sides.2 with monitor := t19.2 } : station_side)) } : station_Station)).sides.2.counts.Runts, Giants := (({ a0 with aps := t21.2, sides := (({ a0.sides.1 with monitor := t8.2 } : station_side), ({ a0.sides.2 with monitor := t19.2 } : station_side)) } : station_Station)).sides.2.counts.Giants, Dropped := (({ a0 with aps := t21.2, sides := (({ a0.sides.1 with monitor := t8.2 } : station_side), ({ a0.sides.2 with monitor := t19.2 } : station_side)) } : station_Station)).sides.2.counts.Dropped, Twins := (({ a0 with aps := t21.2, sides := (({ a0.sides.1 with monitor := t8.2 } : station_side), ({ a0.sides.2 with monitor := t19.2 } : station_side)) } : station_Station)).sides.2.counts.Twins } : api_Counts) } : station_side)) } : station_Station)) ⟨rfl, rfl, rfl, rfl, trivial⟩ ⟨HS, kf142, by omega, H⟩
   ·replace H := ite_f c143 H
    refine V.condF (sb (b_f c143)) (V.skip ?_)
    exact At.meet (({ a0 with aps := t21.2, sides := (({ a0.sides.1 with monitor := t8.2 } : station_side), ({ a0.sides.2 with monitor := t19.2 } : station_side)) } : station_Station)) ⟨rfl, rfl, rfl, rfl, trivial⟩ ⟨HS, kf142, by omega, H⟩
 ·rintro x23 w ⟨HS, kf24, hkkf24, H⟩
  unfold station_Station_Step.j0 at H
  refine V.seq (V.region (W.mv rfl (W.mv rfl (W.nc rfl ?_))))
  replace HS := HS.fr 2
  obtain ⟨b16_25, b17_25, b18_25, b22_25, b23_25, b24_25, b32_25, b33_25, b34_25, hi26, HS⟩ := station_Station.open HS
  refine W.fa fo87_6 rfl (W.st 0 21 HS inf3 rfl rfl rfl rfl rfl rfl fun w HS => ?_)
  refine W.nx (V.seq (V.region (W.mv rfl (W.nc rfl (W.fa fo87_1 rfl (W.ld 0 HS Tryz.underlying73 rfl rfl rfl rfl ?_))))))
  obtain ⟨t27, A28, H⟩ := bind_s H
  replace HS := HS.pm [1, 0, 2, 3, 4, 5, 6, 7, 8, 9, 10, 11, 12]
  refine W.e (Y.cl Tryz.func55 (arq_Arq_Pass.calls A28 HS.j1)) rfl ?_
  rintro _ w ⟨rfl, HS⟩
  replace HS := HS.o1
  refine W.nx (V.seq (V.seq (V.region (W.mv rfl (W.nc rfl (W.fa fo87_1 rfl (W.ld 1 HS Tryz.underlying73 rfl rfl rfl rfl ?_)))))))
  obtain ⟨t38, A39, H⟩ := bind_s H
  refine W.e (Y.cl Tryz.func56 (arq_Arq_Output.calls A39 HS.j1)) rfl ?_
  rintro _ w ⟨at38_0, ct38_0, dt38_0, rfl, HS⟩
  replace HS := HS.o3
  refine W.r (X.lenSl Tryz.underlying37 rfl) rfl (W.mv rfl (W.nx (V.block ?_)))
  replace HS := HS.pm [3, 2, 4, 5, 6, 7, 8, 9, 10, 11, 0, 1, 12, 13, 14]
  replace HS := station_Station.close trivial HS
  refine V.loop (σ := Int × station_Station × (List (List Int) × List (List Int))) (fun kq (st : Int × station_Station × (List (List Int) × List (List Int))) w => match st with | (x42, x43, x44) => Sep.St [station_Station.at b0 x43, row 32 1 (.slice at38_0 t38.1.length ct38_0) t38.1.length dt38_0, tie (El.sl (El.int .u8)) dt38_0 t38.1, V38.at nb1 ((([] : List (List Int)), ([] : List (List Int)))), V38.at nb2 x44, R] w0 w ∧ station_Station_Step.l1 kq t21 t38 x42 x43 x44 = some r ∧ kq ≤ kf24) (fun st => match st with | (x42, x43, x44) => [(0, Value.pointer (some ⟨b0, 0, none⟩)), (2, Value.pointer (some ⟨nb1, 0, none⟩)), (3, Value.pointer (some ⟨nb2, 0, none⟩)), (5, Value.int .i64 t21.1), (61, Value.slice at38_0 t38.1.length ct38_0), (62, Value.int .i64 (t38.1.length : Int)), (63, Value.int .i64 x42)]) kf24 (0, ({ x23 with arq := t38.2, line := t21.1 } : station_Station), (([] : List (List Int)), ([] : List (List Int)))) ⟨rfl, rfl, rfl, rfl, rfl, rfl, rfl, trivial⟩ ⟨HS, H, Nat.le_refl _⟩ ?_
  rintro kq45 ⟨x42, x43, x44⟩ w ⟨HS, H, hk46⟩
  cases kq45 with
  | zero => exact absurd H (by simp [station_Station_Step.l1])
  | succ kq45 =>
   simp only [station_Station_Step.l1] at H
   refine V.seq (V.region (W.r (X.cmp (decide (x42 < (t38.1.length : Int))) rfl rfl rfl rfl) rfl (W.nx (V.seq ?_))))
   by_cases c47 : x42 < (t38.1.length : Int)
   ·replace H := ite_t c47 H
    refine V.condT (sb (decide_eq_true c47)) (V.skip (At.next (V.seq (V.block (V.seq (V.region ?_))))))
    obtain ⟨c48, H⟩ := ite_n H
    obtain ⟨eb49, eo50, hh⟩ := (rdC.at 1 row_rd HS rfl).some (by decide) c48.1 c48.2; subst hh
    refine W.r (X.indexSl Tryz.underlying37 inf32 rfl rfl c48.1 c48.2) rfl ?_
    obtain ⟨ec51, hc52, HS⟩ := St.tie_at 2 HS rfl ([]) c48.1 c48.2
    obtain ⟨ea53, em54, he56, HN⟩ := St.sl_openF (Value.int .u8) (fun t => tie_int t) HS; clear HS; subst he56; have HS := HN
    refine W.r (X.load Tryz.underlying32 rfl rfl ((rdC.at 2 row_rd HS rfl).cellEl0 (hc52 0 _ rfl))) rfl (W.as rfl (W.nx (V.seq (V.region (W.mv rfl (W.mv rfl ?_))))))
    replace HS := HS.more 0 rfl (fun _ t => t) fsl.pers
    obtain ⟨t57, A58, H⟩ := bind_s H
    replace HS := HS.pm [2, 0, 1, 3, 4, 5, 6, 7]
    refine W.e (Y.cl Tryz.func57 (station_Station_piece.calls A58 HS.j2)) rfl ?_
    rintro _ w ⟨at57_0, ct57_0, rfl, HS⟩
    replace HS := HS.o2
    refine W.as rfl (W.nx (V.seq (V.region (W.mv rfl (W.nx (V.block (V.rounds 2 [(0, Value.pointer (some ⟨b0, 0, none⟩)), (2, Value.pointer (some ⟨nb1, 0, none⟩)), (3, Value.pointer (some ⟨nb2, 0, none⟩)), (5, Value.int .i64 t21.1), (8, Value.slice at57_0 t57.1.length ct57_0), (61, Value.slice (some ⟨eb49, eo50, none⟩) t38.1.length ct38_0), (62, Value.int .i64 (t38.1.length : Int)), (63, Value.int .i64 x42), (70, Value.int .i64 (0))] ⟨rfl, rfl, rfl, rfl, rfl, rfl, rfl, rfl, rfl, trivial⟩ ?_)))))))
    refine V.seq (V.region (W.r (X.cmp true (by decide) rfl rfl rfl) rfl (W.nx (V.seq (V.condT rfl (V.skip (At.next (V.seq (V.block (V.seq (V.region (W.mv rfl (W.as rfl (W.nx (V.meet (σ := Bool) (fun st w => match st with | x61 => Sep.St [row 5 1 (.slice at57_0 t57.1.length ct57_0) t57.1.length (t57.1.map (Value.int .u8)), station_Station.at b0 t57.2, fsl 1 (.slice ea53 (t38.1.getD x42.toNat []).length em54) (t38.1.getD x42.toNat []).length ((t38.1.getD x42.toNat []).map (Value.int .u8)), row 32 1 (.slice (some ⟨eb49, eo50, none⟩) t38.1.length ct38_0) t38.1.length dt38_0, tie (El.sl (El.int .u8)) dt38_0 t38.1, V38.at nb1 ((([] : List (List Int)), ([] : List (List Int)))), V38.at nb2 x44, R] w0 w ∧ ∃ kf62 kl64, kf62 ≤ kq45 ∧ kl64 ≤ kq45 ∧ station_Station_Step.j2 kf62 t21 x42 x44 t57 (station_Station_Step.l1 kl64 t21 t38) x61 = some r) (fun st => match st with | x61 => [(0, Value.pointer (some ⟨b0, 0, none⟩)), (2, Value.pointer (some ⟨nb1, 0, none⟩)), (3, Value.pointer (some ⟨nb2, 0, none⟩)), (5, Value.int .i64 t21.1), (8, Value.slice at57_0 t57.1.length ct57_0), (9, Value.int .i64 (0)), (61, Value.slice (some ⟨eb49, eo50, none⟩) t38.1.length ct38_0), (62, Value.int .i64 (t38.1.length : Int)), (63, Value.int .i64 x42), (70, Value.int .i64 (0)), (79, Value.bool x61)]) ?_ ?_)))))))))))))))
    ·refine V.region (W.mv rfl ?_)
     replace HS := HS.fr 1
     obtain ⟨b16_94, b17_94, b18_94, b22_94, b23_94, b24_94, b32_94, b33_94, b34_94, hi95, HS⟩ := station_Station.open HS
     obtain ⟨t96, A97, H⟩ := bind_s H
     refine W.e (Y.cl Tryz.func49 (station_Station_twice.calls A97 HS.j10)) rfl ?_
     rintro _ w ⟨rfl, HS⟩
     replace HS := HS.o10
     refine W.mv rfl ?_
     by_cases c98 : t96 = true
     ·replace H := ite_t c98 H
      refine W.pass 75 rfl (sb c98) rfl rfl (W.pass 75 rfl (sb c98) rfl rfl (W.pass 75 rfl (sb c98) rfl rfl (W.r (X.pickT (sb c98) rfl) rfl (W.nil ?_))))
      replace HS := station_Station.close trivial HS
      replace HS := HS.pk [1, 0, 2, 3, 4, 5, 6, 7] []
      exact At.meet true ⟨rfl, rfl, rfl, rfl, rfl, rfl, rfl, rfl, rfl, rfl, rfl, trivial⟩ ⟨HS, kq45, kq45, by omega, by omega, H⟩
     ·replace H := ite_f c98 H
      refine W.want 75 rfl (sb (b_f c98)) (W.mv rfl (W.want 75 rfl (sb (b_f c98)) (W.mv rfl (W.want 75 rfl (sb (b_f c98)) (W.r (X.cmp (decide (0 = t21.1)) rfl rfl rfl rfl) rfl (W.r (X.pickF (sb (b_f c98)) rfl) rfl (W.nil ?_)))))))
      replace HS := station_Station.close trivial HS
      replace HS := HS.pk [1, 0, 2, 3, 4, 5, 6, 7] []
      exact At.meet (decide (0 = t21.1)) ⟨rfl, rfl, rfl, rfl, rfl, rfl, rfl, rfl, rfl, rfl, rfl, trivial⟩ ⟨HS, kq45, kq45, by omega, by omega, H⟩
    ·rintro x61 w ⟨HS, kf62, kl64, hkkf62, hkkl64, H⟩
     unfold station_Station_Step.j2 at H
     by_cases c65 : x61 = true
     ·replace H := ite_t c65 H
      refine V.condT (sb c65) (V.region (W.mv rfl (W.mv rfl (W.mv rfl ?_))))
      replace HS := St.row_freeze HS
      replace HS := HS.more 0 rfl (fun _ t => t) fsl.pers
      obtain ⟨t66, A67, H⟩ := bind_s H
      replace HS := HS.pm [2, 7, 0, 1, 3, 4, 5, 6, 8]
      refine W.e (Y.cl Tryz.func58 (station_Station_put.calls A67 HS.j3)) rfl ?_
      rintro _ w ⟨rfl, HS⟩
      replace HS := HS.o2
      refine W.nil (At.blockEnd (At.next (V.region (W.r (X.add rfl rfl) rfl (W.mv rfl (W.nil (At.onward [(0, Value.pointer (some ⟨b0, 0, none⟩)), (2, Value.pointer (some ⟨nb1, 0, none⟩)), (3, Value.pointer (some ⟨nb2, 0, none⟩)), (5, Value.int .i64 t21.1), (8, Value.slice at57_0 t57.1.length ct57_0), (61, Value.slice (some ⟨eb49, eo50, none⟩) t38.1.length ct38_0), (62, Value.int .i64 (t38.1.length : Int)), (63, Value.int .i64 x42), (70, Value.int .i64 (1))] ⟨rfl, rfl, rfl, rfl, rfl, rfl, rfl, rfl, rfl, trivial⟩ ?_)))))))
      refine V.seq (V.region (W.r (X.cmp true (by decide) rfl rfl rfl) rfl (W.nx (V.seq (V.condT rfl (V.skip (At.next (V.seq (V.block (V.seq (V.region (W.mv rfl (W.as rfl (W.nx (V.meet (σ := Bool) (fun st w => match st with | x69 => Sep.St [station_Station.at b0 t66.1, V38.at nb2 t66.2, fsl 1 (.slice at57_0 t57.1.length ct57_0) t57.1.length (t57.1.map (Value.int .u8)), fsl 1 (.slice ea53 (t38.1.getD x42.toNat []).length em54) (t38.1.getD x42.toNat []).length ((t38.1.getD x42.toNat []).map (Value.int .u8)), row 32 1 (.slice (some ⟨eb49, eo50, none⟩) t38.1.length ct38_0) t38.1.length dt38_0, tie (El.sl (El.int .u8)) dt38_0 t38.1, V38.at nb1 ((([] : List (List Int)), ([] : List (List Int)))), R] w0 w ∧ ∃ kf70 kl72, kf70 ≤ kf62 ∧ kl72 ≤ kl64 ∧ station_Station_Step.j3 kf70 x42 t57 t66 (station_Station_Step.l1 kl72 t21 t38) x69 = some r) (fun st => match st with | x69 => [(0, Value.pointer (some ⟨b0, 0, none⟩)), (2, Value.pointer (some ⟨nb1, 0, none⟩)), (3, Value.pointer (some ⟨nb2, 0, none⟩)), (5, Value.int .i64 t21.1), (8, Value.slice at57_0 t57.1.length ct57_0), (9, Value.int .i64 (1)), (61, Value.slice (some ⟨eb49, eo50, none⟩) t38.1.length ct38_0), (62, Value.int .i64 (t38.1.length : Int)), (63, Value.int .i64 x42), (70, Value.int .i64 (1)), (79, Value.bool x69)]) ?_ ?_)))))))))))))))
      ·refine V.region (W.mv rfl ?_)
       obtain ⟨b16_76, b17_76, b18_76, b22_76, b23_76, b24_76, b32_76, b33_76, b34_76, hi77, HS⟩ := station_Station.open HS
       obtain ⟨t78, A79, H⟩ := bind_s H
       refine W.e (Y.cl Tryz.func49 (station_Station_twice.calls A79 HS.j10)) rfl ?_
       rintro _ w ⟨rfl, HS⟩
       replace HS := HS.o10
       refine W.mv rfl ?_
       by_cases c80 : t78 = true
       ·replace H := ite_t c80 H
        refine W.pass 75 rfl (sb c80) rfl rfl (W.pass 75 rfl (sb c80) rfl rfl (W.pass 75 rfl (sb c80) rfl rfl (W.r (X.pickT (sb c80) rfl) rfl (W.nil ?_))))
        replace HS := station_Station.close trivial HS
        exact At.meet true ⟨rfl, rfl, rfl, rfl, rfl, rfl, rfl, rfl, rfl, rfl, rfl, trivial⟩ ⟨HS, kf62, kl64, by omega, by omega, H⟩
       ·replace H := ite_f c80 H
        refine W.want 75 rfl (sb (b_f c80)) (W.mv rfl (W.want 75 rfl (sb (b_f c80)) (W.mv rfl (W.want 75 rfl (sb (b_f c80)) (W.r (X.cmp (decide (1 = t21.1)) rfl rfl rfl rfl) rfl (W.r (X.pickF (sb (b_f c80)) rfl) rfl (W.nil ?_)))))))
        replace HS := station_Station.close trivial HS
        exact At.meet (decide (1 = t21.1)) ⟨rfl, rfl, rfl, rfl, rfl, rfl, rfl, rfl, rfl, rfl, rfl, trivial⟩ ⟨HS, kf62, kl64, by omega, by omega, H⟩
      ·rintro x69 w ⟨HS, kf70, kl72, hkkf70, hkkl72, H⟩
       unfold station_Station_Step.j3 at H
       by_cases c73 : x69 = true
       ·replace H := ite_t c73 H
        refine V.condT (sb c73) (V.region (W.mv rfl (W.mv rfl (W.mv rfl ?_))))
        replace HS := HS.more 2 rfl (fun _ t => t) fsl.pers
        obtain ⟨t74, A75, H⟩ := bind_s H
        replace HS := HS.pm [1, 2, 0, 3, 4, 5, 6, 7, 8]
        refine W.e (Y.cl Tryz.func58 (station_Station_put.calls A75 HS.j3)) rfl ?_
        rintro _ w ⟨rfl, HS⟩
        replace HS := HS.o2
        refine W.nil (At.blockEnd (At.next (V.region (W.r (X.add rfl rfl) rfl (W.mv rfl (W.nil (At.onward [(0, Value.pointer (some ⟨b0, 0, none⟩)), (2, Value.pointer (some ⟨nb1, 0, none⟩)), (3, Value.pointer (some ⟨nb2, 0, none⟩)), (5, Value.int .i64 t21.1), (8, Value.slice at57_0 t57.1.length ct57_0), (61, Value.slice (some ⟨eb49, eo50, none⟩) t38.1.length ct38_0), (62, Value.int .i64 (t38.1.length : Int)), (63, Value.int .i64 x42), (70, Value.int .i64 (2))] ⟨rfl, rfl, rfl, rfl, rfl, rfl, rfl, rfl, rfl, trivial⟩ ?_)))))))
        refine V.seq (V.region (W.r (X.cmp false (by decide) rfl rfl rfl) rfl (W.nx (V.seq (V.condF rfl (V.exit (At.thenExit (At.thenExit (At.blockExit (At.blockEnd (At.next (V.region (W.r (X.add rfl rfl) rfl (W.mv rfl (W.nil ?_)))))))))))))))
        replace HS := HS.pk [0, 4, 5, 6, 1, 7] [2, 3]
        exact At.round kl72 (by omega) (w64 (x42 + 1), t74.1, t74.2) ⟨rfl, rfl, rfl, rfl, rfl, rfl, rfl, trivial⟩ ⟨HS, H, by omega⟩
       ·replace H := ite_f c73 H
        refine V.condF (sb (b_f c73)) (V.skip (At.blockEnd (At.next (V.region (W.r (X.add rfl rfl) rfl (W.mv rfl (W.nil (At.onward [(0, Value.pointer (some ⟨b0, 0, none⟩)), (2, Value.pointer (some ⟨nb1, 0, none⟩)), (3, Value.pointer (some ⟨nb2, 0, none⟩)), (5, Value.int .i64 t21.1), (8, Value.slice at57_0 t57.1.length ct57_0), (61, Value.slice (some ⟨eb49, eo50, none⟩) t38.1.length ct38_0), (62, Value.int .i64 (t38.1.length : Int)), (63, Value.int .i64 x42), (70, Value.int .i64 (2))] ⟨rfl, rfl, rfl, rfl, rfl, rfl, rfl, rfl, rfl, trivial⟩ ?_))))))))
        refine V.seq (V.region (W.r (X.cmp false (by decide) rfl rfl rfl) rfl (W.nx (V.seq (V.condF rfl (V.exit (At.thenExit (At.thenExit (At.blockExit (At.blockEnd (At.next (V.region (W.r (X.add rfl rfl) rfl (W.mv rfl (W.nil ?_)))))))))))))))
        replace HS := HS.pk [0, 4, 5, 6, 1, 7] [2, 3]
        exact At.round kl72 (by omega) (w64 (x42 + 1), t66.1, t66.2) ⟨rfl, rfl, rfl, rfl, rfl, rfl, rfl, trivial⟩ ⟨HS, H, by omega⟩
     ·replace H := ite_f c65 H
      refine V.condF (sb (b_f c65)) (V.skip (At.blockEnd (At.next (V.region (W.r (X.add rfl rfl) rfl (W.mv rfl (W.nil (At.onward [(0, Value.pointer (some ⟨b0, 0, none⟩)), (2, Value.pointer (some ⟨nb1, 0, none⟩)), (3, Value.pointer (some ⟨nb2, 0, none⟩)), (5, Value.int .i64 t21.1), (8, Value.slice at57_0 t57.1.length ct57_0), (61, Value.slice (some ⟨eb49, eo50, none⟩) t38.1.length ct38_0), (62, Value.int .i64 (t38.1.length : Int)), (63, Value.int .i64 x42), (70, Value.int .i64 (1))] ⟨rfl, rfl, rfl, rfl, rfl, rfl, rfl, rfl, rfl, trivial⟩ ?_))))))))
      refine V.seq (V.region (W.r (X.cmp true (by decide) rfl rfl rfl) rfl (W.nx (V.seq (V.condT rfl (V.skip (At.next (V.seq (V.block (V.seq (V.region (W.mv rfl (W.as rfl (W.nx (V.meet (σ := Bool) (fun st w => match st with | x81 => Sep.St [row 5 1 (.slice at57_0 t57.1.length ct57_0) t57.1.length (t57.1.map (Value.int .u8)), station_Station.at b0 t57.2, fsl 1 (.slice ea53 (t38.1.getD x42.toNat []).length em54) (t38.1.getD x42.toNat []).length ((t38.1.getD x42.toNat []).map (Value.int .u8)), row 32 1 (.slice (some ⟨eb49, eo50, none⟩) t38.1.length ct38_0) t38.1.length dt38_0, tie (El.sl (El.int .u8)) dt38_0 t38.1, V38.at nb1 ((([] : List (List Int)), ([] : List (List Int)))), V38.at nb2 x44, R] w0 w ∧ ∃ kf82 kl84, kf82 ≤ kf62 ∧ kl84 ≤ kl64 ∧ station_Station_Step.j4 kf82 x42 x44 t57 (station_Station_Step.l1 kl84 t21 t38) x81 = some r) (fun st => match st with | x81 => [(0, Value.pointer (some ⟨b0, 0, none⟩)), (2, Value.pointer (some ⟨nb1, 0, none⟩)), (3, Value.pointer (some ⟨nb2, 0, none⟩)), (5, Value.int .i64 t21.1), (8, Value.slice at57_0 t57.1.length ct57_0), (9, Value.int .i64 (1)), (61, Value.slice (some ⟨eb49, eo50, none⟩) t38.1.length ct38_0), (62, Value.int .i64 (t38.1.length : Int)), (63, Value.int .i64 x42), (70, Value.int .i64 (1)), (79, Value.bool x81)]) ?_ ?_)))))))))))))))
      ·refine V.region (W.mv rfl ?_)
       replace HS := HS.fr 1
       obtain ⟨b16_89, b17_89, b18_89, b22_89, b23_89, b24_89, b32_89, b33_89, b34_89, hi90, HS⟩ := station_Station.open HS
       obtain ⟨t91, A92, H⟩ := bind_s H
       refine W.e (Y.cl Tryz.func49 (station_Station_twice.calls A92 HS.j10)) rfl ?_
       rintro _ w ⟨rfl, HS⟩
       replace HS := HS.o10
       refine W.mv rfl ?_
       by_cases c93 : t91 = true
       ·replace H := ite_t c93 H
        refine W.pass 75 rfl (sb c93) rfl rfl (W.pass 75 rfl (sb c93) rfl rfl (W.pass 75 rfl (sb c93) rfl rfl (W.r (X.pickT (sb c93) rfl) rfl (W.nil ?_))))
        replace HS := station_Station.close trivial HS
        replace HS := HS.pk [1, 0, 2, 3, 4, 5, 6, 7] []
        exact At.meet true ⟨rfl, rfl, rfl, rfl, rfl, rfl, rfl, rfl, rfl, rfl, rfl, trivial⟩ ⟨HS, kf62, kl64, by omega, by omega, H⟩
       ·replace H := ite_f c93 H
        refine W.want 75 rfl (sb (b_f c93)) (W.mv rfl (W.want 75 rfl (sb (b_f c93)) (W.mv rfl (W.want 75 rfl (sb (b_f c93)) (W.r (X.cmp (decide (1 = t21.1)) rfl rfl rfl rfl) rfl (W.r (X.pickF (sb (b_f c93)) rfl) rfl (W.nil ?_)))))))
        replace HS := station_Station.close trivial HS
        replace HS := HS.pk [1, 0, 2, 3, 4, 5, 6, 7] []
        exact At.meet (decide (1 = t21.1)) ⟨rfl, rfl, rfl, rfl, rfl, rfl, rfl, rfl, rfl, rfl, rfl, trivial⟩ ⟨HS, kf62, kl64, by omega, by omega, H⟩
      ·rintro x81 w ⟨HS, kf82, kl84, hkkf82, hkkl84, H⟩
       unfold station_Station_Step.j4 at H
       by_cases c85 : x81 = true
       ·replace H := ite_t c85 H
        refine V.condT (sb c85) (V.region (W.mv rfl (W.mv rfl (W.mv rfl ?_))))
        replace HS := St.row_freeze HS
        replace HS := HS.more 0 rfl (fun _ t => t) fsl.pers
        obtain ⟨t86, A87, H⟩ := bind_s H
        replace HS := HS.pm [2, 7, 0, 1, 3, 4, 5, 6, 8]
        refine W.e (Y.cl Tryz.func58 (station_Station_put.calls A87 HS.j3)) rfl ?_
        rintro _ w ⟨rfl, HS⟩
        replace HS := HS.o2
        refine W.nil (At.blockEnd (At.next (V.region (W.r (X.add rfl rfl) rfl (W.mv rfl (W.nil (At.onward [(0, Value.pointer (some ⟨b0, 0, none⟩)), (2, Value.pointer (some ⟨nb1, 0, none⟩)), (3, Value.pointer (some ⟨nb2, 0, none⟩)), (5, Value.int .i64 t21.1), (8, Value.slice at57_0 t57.1.length ct57_0), (61, Value.slice (some ⟨eb49, eo50, none⟩) t38.1.length ct38_0), (62, Value.int .i64 (t38.1.length : Int)), (63, Value.int .i64 x42), (70, Value.int .i64 (2))] ⟨rfl, rfl, rfl, rfl, rfl, rfl, rfl, rfl, rfl, trivial⟩ ?_)))))))
        refine V.seq (V.region (W.r (X.cmp false (by decide) rfl rfl rfl) rfl (W.nx (V.seq (V.condF rfl (V.exit (At.thenExit (At.thenExit (At.blockExit (At.blockEnd (At.next (V.region (W.r (X.add rfl rfl) rfl (W.mv rfl (W.nil ?_)))))))))))))))
        replace HS := HS.pk [0, 4, 5, 6, 1, 7] [2, 3]
        exact At.round kl84 (by omega) (w64 (x42 + 1), t86.1, t86.2) ⟨rfl, rfl, rfl, rfl, rfl, rfl, rfl, trivial⟩ ⟨HS, H, by omega⟩
       ·replace H := ite_f c85 H
        refine V.condF (sb (b_f c85)) (V.skip (At.blockEnd (At.next (V.region (W.r (X.add rfl rfl) rfl (W.mv rfl (W.nil (At.onward [(0, Value.pointer (some ⟨b0, 0, none⟩)), (2, Value.pointer (some ⟨nb1, 0, none⟩)), (3, Value.pointer (some ⟨nb2, 0, none⟩)), (5, Value.int .i64 t21.1), (8, Value.slice at57_0 t57.1.length ct57_0), (61, Value.slice (some ⟨eb49, eo50, none⟩) t38.1.length ct38_0), (62, Value.int .i64 (t38.1.length : Int)), (63, Value.int .i64 x42), (70, Value.int .i64 (2))] ⟨rfl, rfl, rfl, rfl, rfl, rfl, rfl, rfl, rfl, trivial⟩ ?_))))))))
        refine V.seq (V.region (W.r (X.cmp false (by decide) rfl rfl rfl) rfl (W.nx (V.seq (V.condF rfl (V.exit (At.thenExit (At.thenExit (At.blockExit (At.blockEnd (At.next (V.region (W.r (X.add rfl rfl) rfl (W.mv rfl (W.nil ?_)))))))))))))))
        replace HS := HS.pk [1, 3, 4, 5, 6, 7] [0, 2]
        exact At.round kl84 (by omega) (w64 (x42 + 1), t57.2, x44) ⟨rfl, rfl, rfl, rfl, rfl, rfl, rfl, trivial⟩ ⟨HS, H, by omega⟩
   ·replace H := ite_f c47 H
    refine V.condF (sb (decide_eq_false c47)) (V.exit (At.thenExit (At.thenExit (At.blockExit (At.next (V.seq (V.region (W.mv rfl (W.nc rfl ?_)))))))))
    obtain ⟨b16_99, b17_99, b18_99, b22_99, b23_99, b24_99, b32_99, b33_99, b34_99, hi100, HS⟩ := station_Station.open HS
    refine W.fa fo87_5 rfl (W.ld 0 HS Tryz.underlying3 rfl rfl rfl rfl (W.r (X.add rfl rfl) rfl (W.nc rfl (W.fa fo87_5 rfl (W.st 0 20 HS inf3 rfl rfl rfl rfl rfl rfl fun w HS => ?_)))))
    refine W.nx (V.seq (V.seq ?_))
    obtain ⟨c101, H⟩ := ite_n H
    refine V.dr [] [] [(93, Value.pointer (some ⟨b0, 0, none⟩)), (94, Value.pointer (some ⟨b0, 0, none⟩)), (95, Value.pointer (some ⟨b0, 0 + 20, none⟩)), (96, Value.int .i64 (w64 (x43.steps + 1))), (97, Value.pointer (some ⟨b0, 0, none⟩)), (98, Value.pointer (some ⟨b0, 0, none⟩)), (99, Value.pointer (some ⟨b0, 0 + 0, none⟩)), (100, Value.pointer (some ⟨b0, 0 + 0 + 7, none⟩)), (101, Value.int .i64 x43.c.Keep), (102, Value.int .i64 ((w64 (x43.steps + 1)).tmod x43.c.Keep)), (103, Value.bool (decide (((w64 (x43.steps + 1)).tmod x43.c.Keep) = 0)))] mo HS ?_
    refine T.fn [(0, _), (2, _), (3, _), (5, _), (103, _)] ⟨rfl, rfl, rfl, rfl, rfl, trivial⟩ ⟨.mv 0, .nc 93, .fa 94 fo87_5, .ld 95 0 Tryz.underlying3, .mv 0, .nc 97, .fa 98 fo87_0, .fa 99 fo28_7, .ld 100 0 Tryz.underlying3, .n2 96 101 rfl rfl rfl (fun w HS => X.rem rfl rfl c101), .n1 102 rfl rfl (fun w HS => X.cmp (decide (((w64 (x43.steps + 1)).tmod x43.c.Keep) = 0)) rfl rfl rfl rfl), trivial⟩ (fun w HS => ?_)
    refine At.next ?_
    by_cases c102 : ((w64 (x43.steps + 1)).tmod x43.c.Keep) = 0
    ·replace H := ite_t c102 H
     refine V.condT (sb (decide_eq_true c102)) (V.seq (V.region (W.e (Y.ls (e := 5) (Value.int .u8) ([1] : List Int) HS rfl rfl (fun _ => by kernel_rfl)) rfl ?_)))
     rintro _ w ⟨lb105, rfl, HS⟩
     refine W.mv rfl (W.nc rfl (W.fa fo87_2 rfl (W.ld 1 HS Tryz.underlying75 rfl rfl rfl rfl ?_)))
     replace HS := HS.fr 3
     obtain ⟨hi107, HS⟩ := aps_Aps.open HS
     obtain ⟨t108, A109, H⟩ := bind_s H
     refine W.e (Y.cl Tryz.func60 (aps_Aps_Request.calls A109 HS.j1)) rfl ?_
     rintro _ w ⟨rfl, HS⟩
     replace HS := HS.o1
     refine W.mv rfl ?_
     obtain ⟨t110, A111, H⟩ := bind_s H
     refine W.e (Y.cl Tryz.func59 (kcode_Put.calls A111 HS.j0)) rfl ?_
     rintro _ w ⟨at110_0, ct110_0, rfl, HS⟩
     replace HS := HS.o1
     obtain ⟨c112, H⟩ := ite_n H
     refine W.e (Y.appF (Value.int .u8) (fun _ => rfl) 2 Tryz.underlying32 ap5 rfl HS rfl rfl rfl (rdC.at 0 row_rd HS rfl) (by omega) (by omega)) rfl ?_
     rintro _ w ⟨ra113, rc114, rfl, HS⟩
     refine W.as rfl (W.nx (V.seq (V.region (W.mv rfl (W.nx (V.block (V.rounds 2 [(0, Value.pointer (some ⟨b0, 0, none⟩)), (2, Value.pointer (some ⟨nb1, 0, none⟩)), (3, Value.pointer (some ⟨nb2, 0, none⟩)), (10, Value.slice ra113 (([1] : List Int) ++ t110).length rc114), (113, Value.int .i64 (0))] ⟨rfl, rfl, rfl, rfl, rfl, trivial⟩ ?_)))))))
     refine V.seq (V.region (W.r (X.cmp true (by decide) rfl rfl rfl) rfl (W.nx (V.seq (V.condT rfl (V.skip (At.next (V.seq (V.block (V.seq (V.region (W.mv rfl (W.as rfl (W.nx (V.region (W.mv rfl (W.mv rfl (W.mv rfl ?_))))))))))))))))))
     replace HS := HS.pm [1, 0, 2, 3, 4, 5, 6, 7, 8, 9, 10, 11, 12, 13, 14, 15, 16]
     replace HS := aps_Aps.close trivial HS
     replace HS := HS.pm [3, 4, 0, 5, 6, 7, 8, 9, 10, 11, 1, 2, 12, 13, 14, 15, 16]
     replace HS := station_Station.close trivial HS
     replace HS := HS.fr 2
     replace HS := St.row_freeze HS
     replace HS := HS.more 0 rfl (fun _ t => t) fsl.pers
     obtain ⟨t126, A127, H⟩ := bind_s H
     replace HS := HS.pm [2, 7, 0, 1, 3, 4, 5, 6, 8]
     refine W.e (Y.cl Tryz.func58 (station_Station_put.calls A127 HS.j3)) rfl ?_
     rintro _ w ⟨rfl, HS⟩
     replace HS := HS.o2
     refine W.nil (At.blockEnd (At.next (V.region (W.r (X.add rfl rfl) rfl (W.mv rfl (W.nil (At.onward [(0, Value.pointer (some ⟨b0, 0, none⟩)), (2, Value.pointer (some ⟨nb1, 0, none⟩)), (3, Value.pointer (some ⟨nb2, 0, none⟩)), (10, Value.slice ra113 (([1] : List Int) ++ t110).length rc114), (113, Value.int .i64 (1))] ⟨rfl, rfl, rfl, rfl, rfl, trivial⟩ ?_)))))))
     refine V.seq (V.region (W.r (X.cmp true (by decide) rfl rfl rfl) rfl (W.nx (V.seq (V.condT rfl (V.skip (At.next (V.seq (V.block (V.seq (V.region (W.mv rfl (W.as rfl (W.nx (V.region (W.mv rfl (W.mv rfl (W.mv rfl ?_))))))))))))))))))
     replace HS := HS.more 2 rfl (fun _ t => t) fsl.pers
     obtain ⟨t129, A130, H⟩ := bind_s H
     replace HS := HS.pm [1, 2, 0, 3, 4, 5, 6, 7, 8]
     refine W.e (Y.cl Tryz.func58 (station_Station_put.calls A130 HS.j3)) rfl ?_
     rintro _ w ⟨rfl, HS⟩
     replace HS := HS.o2
     refine W.nil (At.blockEnd (At.next (V.region (W.r (X.add rfl rfl) rfl (W.mv rfl (W.nil (At.onward [(0, Value.pointer (some ⟨b0, 0, none⟩)), (2, Value.pointer (some ⟨nb1, 0, none⟩)), (3, Value.pointer (some ⟨nb2, 0, none⟩)), (10, Value.slice ra113 (([1] : List Int) ++ t110).length rc114), (113, Value.int .i64 (2))] ⟨rfl, rfl, rfl, rfl, rfl, trivial⟩ ?_)))))))
     refine V.seq (V.region (W.r (X.cmp false (by decide) rfl rfl rfl) rfl (W.nx (V.seq (V.condF rfl (V.exit (At.thenExit (At.thenExit (At.blockExit (At.next (V.seq (V.region ?_))))))))))))
     replace HS := HS.fr 1
     obtain ⟨a0_131, c0_131, d0_131, a1_131, c1_131, d1_131, hi132, HS⟩ := V38.open HS
     refine W.r (X.loadSt 0 [Value.slice a0_131 t129.2.1.length c0_131, Value.slice a1_131 t129.2.2.length c1_131] HS rfl Tryz.underlying38 rfl inf38 rfl rfl) rfl ?_
     replace HS := HS.fr 10
     obtain ⟨a0_133, c0_133, d0_133, a1_133, c1_133, d1_133, hi134, HS⟩ := V38.open HS
     refine W.en (Y.storeSt (c' := #[Value.slice a0_131 t129.2.1.length c0_131, Value.slice a1_131 t129.2.2.length c1_131]) 0 [Value.slice a0_131 t129.2.1.length c0_131, Value.slice a1_131 t129.2.2.length c1_131] HS rfl inf38 rfl rfl rfl rfl rfl rfl) rfl ?_
     rintro _ w HS
     refine W.nx (V.ret ?_)
     have hv135 := run_loadSt (P := Tryz.prog) (p := 0) 0 [Value.slice a0_131 t129.2.1.length c0_131, Value.slice a1_131 t129.2.2.length c1_131] HS rfl Tryz.underlying38 rfl inf38 rfl
     replace HS := HS.pk [6, 7, 8, 9, 10, 15] [0, 1, 2, 3, 4, 5, 11, 12, 13, 14]
     cases H
     exact At.retv1 rfl ⟨_, rfl, hv135⟩ ⟨_, rfl, a0_131, c0_131, d0_131, a1_131, c1_131, d1_131, rfl, HS⟩
    ·replace H := ite_f c102 H
     refine V.condF (sb (decide_eq_false c102)) (V.skip (At.next (V.seq (V.region ?_))))
     replace HS := HS.fr 13
     obtain ⟨a0_136, c0_136, d0_136, a1_136, c1_136, d1_136, hi137, HS⟩ := V38.open HS
     refine W.r (X.loadSt 0 [Value.slice a0_136 x44.1.length c0_136, Value.slice a1_136 x44.2.length c1_136] HS rfl Tryz.underlying38 rfl inf38 rfl rfl) rfl ?_
     replace HS := HS.fr 17
     obtain ⟨a0_138, c0_138, d0_138, a1_138, c1_138, d1_138, hi139, HS⟩ := V38.open HS
     refine W.en (Y.storeSt (c' := #[Value.slice a0_136 x44.1.length c0_136, Value.slice a1_136 x44.2.length c1_136]) 0 [Value.slice a0_136 x44.1.length c0_136, Value.slice a1_136 x44.2.length c1_136] HS rfl inf38 rfl rfl rfl rfl rfl rfl) rfl ?_
     rintro _ w HS
     refine W.nx (V.ret ?_)
     have hv140 := run_loadSt (P := Tryz.prog) (p := 0) 0 [Value.slice a0_136 x44.1.length c0_136, Value.slice a1_136 x44.2.length c1_136] HS rfl Tryz.underlying38 rfl inf38 rfl
     replace HS := HS.pm [10, 11, 12, 13, 14, 15, 16, 17, 18, 19, 0, 1, 2, 3, 4, 5, 6, 7, 8, 9, 20, 21, 22]
     replace HS := station_Station.close trivial HS
     replace HS := HS.pk [7, 8, 9, 10, 0, 13] [1, 2, 3, 4, 5, 6, 11, 12]
     cases H
     exact At.retv1 rfl ⟨_, rfl, hv140⟩ ⟨_, rfl, a0_136, c0_136, d0_136, a1_136, c1_136, d1_136, rfl, HS⟩
def arq_Arq_State.f (a0 : arq_Arq) : Option Int := some a0.state
theorem arq_Arq_State.calls {a0 : arq_Arq} {R : As} {w0 w : World} {b0 : Nat} {b8_p0 : Nat} {b9_p0 : Nat} {b10_p0 : Nat} {a11_p0 : Option Addr} {c11_p0 : Nat} {d11_p0 : List Value} {a12_p0 : Option Addr} {c12_p0 : Nat} {r : Int} (H : arq_Arq_State.f a0 = some r) (HS : Sep.St [blk b0 (#[Value.int .i64 a0.m, Value.int .i64 a0.t1, Value.int .i64 a0.n2, Value.int .i64 a0.size, Value.int .i64 a0.state, Value.int .i64 a0.tag, Value.int .i64 a0.tries, Value.bool a0.rejected, Value.pointer (some ⟨b8_p0, 0, none⟩), Value.pointer (some ⟨b9_p0, 0, none⟩), Value.pointer (some ⟨b10_p0, 0, none⟩), Value.slice a11_p0 a0.out.length c11_p0, Value.slice a12_p0 a0.inds.length c12_p0, Value.int .i64 a0.sent, Value.int .i64 a0.acked, Value.int .i64 a0.lost]) 136, backlog_Log.at b8_p0 a0.log, reorder_Order.at b9_p0 a0.order, clock_Set.at b10_p0 a0.timers, row 32 1 (.slice a11_p0 a0.out.length c11_p0) a0.out.length d11_p0, tie (El.sl (El.int .u8)) d11_p0 a0.out, row 3 1 (.slice a12_p0 a0.inds.length c12_p0) a0.inds.length (a0.inds.map (Value.int .i64)), R] w0 w)  : Calls Tryz.prog 47 #[Value.pointer (some ⟨b0, 0, none⟩)] w (Ret fun u w => u = Value.int .i64 r ∧ Sep.St [blk b0 (#[Value.int .i64 a0.m, Value.int .i64 a0.t1, Value.int .i64 a0.n2, Value.int .i64 a0.size, Value.int .i64 a0.state, Value.int .i64 a0.tag, Value.int .i64 a0.tries, Value.bool a0.rejected, Value.pointer (some ⟨b8_p0, 0, none⟩), Value.pointer (some ⟨b9_p0, 0, none⟩), Value.pointer (some ⟨b10_p0, 0, none⟩), Value.slice a11_p0 a0.out.length c11_p0, Value.slice a12_p0 a0.inds.length c12_p0, Value.int .i64 a0.sent, Value.int .i64 a0.acked, Value.int .i64 a0.lost]) 136, backlog_Log.at b8_p0 a0.log, reorder_Order.at b9_p0 a0.order, clock_Set.at b10_p0 a0.timers, row 32 1 (.slice a11_p0 a0.out.length c11_p0) a0.out.length d11_p0, tie (El.sl (El.int .u8)) d11_p0 a0.out, row 3 1 (.slice a12_p0 a0.inds.length c12_p0) a0.inds.length (a0.inds.map (Value.int .i64)), R] w0 w) := by
 unfold arq_Arq_State.f at H
 refine calls_enter Tryz.func47 rfl rfl ?_
 have H : _ = some r := H
 refine V.seq (V.region (W.as rfl (W.nx (V.seq (V.region (W.mv rfl (W.nc rfl (W.fa fo136_4 rfl (W.ld 0 HS Tryz.underlying3 rfl rfl rfl rfl (W.as rfl (W.nx (V.ret ?_))))))))))))
 cases H
 exact At.ret1 rfl rfl ⟨_, rfl, rfl, HS⟩
def aps_Aps_Line.f (a0 : aps_Aps) : Option Int := some a0.line
theorem aps_Aps_Line.calls {a0 : aps_Aps} {R : As} {w0 w : World} {b0 : Nat} {r : Int} (H : aps_Aps_Line.f a0 = some r) (HS : Sep.St [blk b0 (#[Value.int .i64 a0.hold, Value.int .i64 a0.wait, Value.bool a0.revert, Value.int .i64 a0.command, Value.int .i64 a0.remote, Value.int .i64 a0.own, Value.int .i64 a0.bad, Value.int .i64 a0.left, Value.int .i64 a0.line]) 138, R] w0 w)  : Calls Tryz.prog 48 #[Value.pointer (some ⟨b0, 0, none⟩)] w (Ret fun u w => u = Value.int .i64 r ∧ Sep.St [blk b0 (#[Value.int .i64 a0.hold, Value.int .i64 a0.wait, Value.bool a0.revert, Value.int .i64 a0.command, Value.int .i64 a0.remote, Value.int .i64 a0.own, Value.int .i64 a0.bad, Value.int .i64 a0.left, Value.int .i64 a0.line]) 138, R] w0 w) := by
 unfold aps_Aps_Line.f at H
 refine calls_enter Tryz.func48 rfl rfl ?_
 have H : _ = some r := H
 refine V.seq (V.region (W.as rfl (W.nx (V.seq (V.region (W.mv rfl (W.nc rfl (W.fa fo138_8 rfl (W.ld 0 HS Tryz.underlying3 rfl rfl rfl rfl (W.as rfl (W.nx (V.ret ?_))))))))))))
 cases H
 exact At.ret1 rfl rfl ⟨_, rfl, rfl, HS⟩
def arq_Arq_Counts.f (a0 : arq_Arq) : Option (Int × Int × Int) := some (a0.sent, a0.acked, a0.lost)
theorem arq_Arq_Counts.calls {a0 : arq_Arq} {R : As} {w0 w : World} {b0 : Nat} {b8_p0 : Nat} {b9_p0 : Nat} {b10_p0 : Nat} {a11_p0 : Option Addr} {c11_p0 : Nat} {d11_p0 : List Value} {a12_p0 : Option Addr} {c12_p0 : Nat} {r : Int × Int × Int} (H : arq_Arq_Counts.f a0 = some r) (HS : Sep.St [blk b0 (#[Value.int .i64 a0.m, Value.int .i64 a0.t1, Value.int .i64 a0.n2, Value.int .i64 a0.size, Value.int .i64 a0.state, Value.int .i64 a0.tag, Value.int .i64 a0.tries, Value.bool a0.rejected, Value.pointer (some ⟨b8_p0, 0, none⟩), Value.pointer (some ⟨b9_p0, 0, none⟩), Value.pointer (some ⟨b10_p0, 0, none⟩), Value.slice a11_p0 a0.out.length c11_p0, Value.slice a12_p0 a0.inds.length c12_p0, Value.int .i64 a0.sent, Value.int .i64 a0.acked, Value.int .i64 a0.lost]) 136, backlog_Log.at b8_p0 a0.log, reorder_Order.at b9_p0 a0.order, clock_Set.at b10_p0 a0.timers, row 32 1 (.slice a11_p0 a0.out.length c11_p0) a0.out.length d11_p0, tie (El.sl (El.int .u8)) d11_p0 a0.out, row 3 1 (.slice a12_p0 a0.inds.length c12_p0) a0.inds.length (a0.inds.map (Value.int .i64)), R] w0 w)  : Calls Tryz.prog 50 #[Value.pointer (some ⟨b0, 0, none⟩)] w (Ret fun u w => u = Value.tuple #[Value.int .i64 r.1, Value.int .i64 r.2.1, Value.int .i64 r.2.2] ∧ Sep.St [blk b0 (#[Value.int .i64 a0.m, Value.int .i64 a0.t1, Value.int .i64 a0.n2, Value.int .i64 a0.size, Value.int .i64 a0.state, Value.int .i64 a0.tag, Value.int .i64 a0.tries, Value.bool a0.rejected, Value.pointer (some ⟨b8_p0, 0, none⟩), Value.pointer (some ⟨b9_p0, 0, none⟩), Value.pointer (some ⟨b10_p0, 0, none⟩), Value.slice a11_p0 a0.out.length c11_p0, Value.slice a12_p0 a0.inds.length c12_p0, Value.int .i64 a0.sent, Value.int .i64 a0.acked, Value.int .i64 a0.lost]) 136, backlog_Log.at b8_p0 a0.log, reorder_Order.at b9_p0 a0.order, clock_Set.at b10_p0 a0.timers, row 32 1 (.slice a11_p0 a0.out.length c11_p0) a0.out.length d11_p0, tie (El.sl (El.int .u8)) d11_p0 a0.out, row 3 1 (.slice a12_p0 a0.inds.length c12_p0) a0.inds.length (a0.inds.map (Value.int .i64)), R] w0 w) := by
 unfold arq_Arq_Counts.f at H
 refine calls_enter Tryz.func50 rfl rfl ?_
 have H : _ = some r := H
 refine V.seq (V.region (W.as rfl (W.as rfl (W.as rfl (W.nx (V.seq (V.dr [] [] [(5, Value.pointer (some ⟨b0, 0, none⟩)), (6, Value.pointer (some ⟨b0, 0, none⟩)), (7, Value.pointer (some ⟨b0, 0 + 13, none⟩)), (8, Value.int .i64 a0.sent), (9, Value.pointer (some ⟨b0, 0, none⟩)), (10, Value.pointer (some ⟨b0, 0, none⟩)), (11, Value.pointer (some ⟨b0, 0 + 14, none⟩)), (12, Value.int .i64 a0.acked), (13, Value.pointer (some ⟨b0, 0, none⟩)), (14, Value.pointer (some ⟨b0, 0, none⟩)), (15, Value.pointer (some ⟨b0, 0 + 15, none⟩)), (16, Value.int .i64 a0.lost), (2, Value.int .i64 a0.sent), (3, Value.int .i64 a0.acked), (4, Value.int .i64 a0.lost)] mo HS ?_)))))))
 refine T.fn [(2, _), (3, _), (4, _)] ⟨rfl, rfl, rfl, trivial⟩ ⟨.mv 0, .nc 5, .fa 6 fo136_13, .ld 7 0 Tryz.underlying3, .mv 0, .nc 9, .fa 10 fo136_14, .ld 11 0 Tryz.underlying3, .mv 0, .nc 13, .fa 14 fo136_15, .ld 15 0 Tryz.underlying3, .as 8, .as 12, .as 16, trivial⟩ (fun w HS => ?_)
 refine At.next (V.ret ?_)
 cases H
 exact At.ret3 rfl rfl rfl rfl ⟨_, rfl, rfl, HS⟩
def monitor_Monitor_State.f (a0 : monitor_Monitor) : Option Int := some a0.state
theorem monitor_Monitor_State.calls {a0 : monitor_Monitor} {R : As} {w0 w : World} {b0 : Nat} {b3_p0 : Nat} {r : Int} (H : monitor_Monitor_State.f a0 = some r) (HS : Sep.St [blk b0 (#[Value.int .i64 a0.bad, Value.int .i64 a0.good, Value.int .i64 a0.silent, Value.pointer (some ⟨b3_p0, 0, none⟩), Value.int .i64 a0.row, Value.int .i64 a0.silence, Value.int .i64 a0.state]) 147, tally_Window.at b3_p0 a0.w, R] w0 w)  : Calls Tryz.prog 51 #[Value.pointer (some ⟨b0, 0, none⟩)] w (Ret fun u w => u = Value.int .i64 r ∧ Sep.St [blk b0 (#[Value.int .i64 a0.bad, Value.int .i64 a0.good, Value.int .i64 a0.silent, Value.pointer (some ⟨b3_p0, 0, none⟩), Value.int .i64 a0.row, Value.int .i64 a0.silence, Value.int .i64 a0.state]) 147, tally_Window.at b3_p0 a0.w, R] w0 w) := by
 unfold monitor_Monitor_State.f at H
 refine calls_enter Tryz.func51 rfl rfl ?_
 have H : _ = some r := H
 refine V.seq (V.region (W.as rfl (W.nx (V.seq (V.region (W.mv rfl (W.nc rfl (W.fa fo147_6 rfl (W.ld 0 HS Tryz.underlying3 rfl rfl rfl rfl (W.as rfl (W.nx (V.ret ?_))))))))))))
 cases H
 exact At.ret1 rfl rfl ⟨_, rfl, rfl, HS⟩
structure api_Status where
 State : Int
 Line : Int
 Lines : (Int × Int)
 Sent : Int
 Acked : Int
 Lost : Int
deriving DecidableEq, Inhabited
def api_Status.at (b : Nat) (x : api_Status) : As := fun h => True ∧ Sp [blk b (#[Value.int .i64 x.State, Value.int .i64 x.Line, Value.int .i64 x.Lines.1, Value.int .i64 x.Lines.2, Value.int .i64 x.Sent, Value.int .i64 x.Acked, Value.int .i64 x.Lost]) 35] h
theorem api_Status.open {b : Nat} {x : api_Status} {L : List As} {w0 w : World} (hs : Sep.St (api_Status.at b x :: L) w0 w) : True ∧ Sep.St (blk b (#[Value.int .i64 x.State, Value.int .i64 x.Line, Value.int .i64 x.Lines.1, Value.int .i64 x.Lines.2, Value.int .i64 x.Sent, Value.int .i64 x.Acked, Value.int .i64 x.Lost]) 35 :: L) w0 w := by
 have h1 := St.pure.1 (show St ((fun h => True ∧ (fun h => Sp [blk b (#[Value.int .i64 x.State, Value.int .i64 x.Line, Value.int .i64 x.Lines.1, Value.int .i64 x.Lines.2, Value.int .i64 x.Sent, Value.int .i64 x.Acked, Value.int .i64 x.Lost]) 35] h) h) :: L) w0 w from hs)
 obtain ⟨hi, hs⟩ := h1
 exact ⟨hi, St.open (m := [blk b (#[Value.int .i64 x.State, Value.int .i64 x.Line, Value.int .i64 x.Lines.1, Value.int .i64 x.Lines.2, Value.int .i64 x.Sent, Value.int .i64 x.Acked, Value.int .i64 x.Lost]) 35]) hs⟩
theorem api_Status.close {b : Nat} {l0 : Int} {l1 : Int} {l2 : Int} {l3 : Int} {l4 : Int} {l5 : Int} {l6 : Int}  {L : List As} {w0 w : World} (hi : True) (hs : Sep.St (blk b (#[Value.int .i64 l0, Value.int .i64 l1, Value.int .i64 l2, Value.int .i64 l3, Value.int .i64 l4, Value.int .i64 l5, Value.int .i64 l6]) 35 :: L) w0 w) : Sep.St (api_Status.at b ({ State := l0, Line := l1, Lines := (l2, l3), Sent := l4, Acked := l5, Lost := l6 } : api_Status) :: L) w0 w := by
 have h2 := St.join (m := [blk b (#[Value.int .i64 l0, Value.int .i64 l1, Value.int .i64 l2, Value.int .i64 l3, Value.int .i64 l4, Value.int .i64 l5, Value.int .i64 l6]) 35]) hs
 exact h2.mono fun h hh => ⟨hi, hh⟩
def station_side.at (b : Nat) (x : station_side) : As := fun h => True ∧ ∃ b0 : Nat, ∃ b1 : Nat, ∃ b2 : Nat, Sp [blk b (#[Value.pointer (some ⟨b0, 0, none⟩), Value.pointer (some ⟨b1, 0, none⟩), Value.pointer (some ⟨b2, 0, none⟩), Value.int .i64 x.counts.Good, Value.int .i64 x.counts.Bad, Value.int .i64 x.counts.Aborts, Value.int .i64 x.counts.Runts, Value.int .i64 x.counts.Giants, Value.int .i64 x.counts.Dropped, Value.int .i64 x.counts.Twins]) 84, frame_Reader.at b0 x.reader, monitor_Monitor.at b1 x.monitor, ring_Ring.at b2 x.ring] h
theorem station_side.open {b : Nat} {x : station_side} {L : List As} {w0 w : World} (hs : Sep.St (station_side.at b x :: L) w0 w) : ∃ b0 : Nat, ∃ b1 : Nat, ∃ b2 : Nat, True ∧ Sep.St (blk b (#[Value.pointer (some ⟨b0, 0, none⟩), Value.pointer (some ⟨b1, 0, none⟩), Value.pointer (some ⟨b2, 0, none⟩), Value.int .i64 x.counts.Good, Value.int .i64 x.counts.Bad, Value.int .i64 x.counts.Aborts, Value.int .i64 x.counts.Runts, Value.int .i64 x.counts.Giants, Value.int .i64 x.counts.Dropped, Value.int .i64 x.counts.Twins]) 84 :: frame_Reader.at b0 x.reader :: monitor_Monitor.at b1 x.monitor :: ring_Ring.at b2 x.ring :: L) w0 w := by
 have h1 := St.pure.1 (show St ((fun h => True ∧ (fun h => ∃ b0 : Nat, ∃ b1 : Nat, ∃ b2 : Nat, Sp [blk b (#[Value.pointer (some ⟨b0, 0, none⟩), Value.pointer (some ⟨b1, 0, none⟩), Value.pointer (some ⟨b2, 0, none⟩), Value.int .i64 x.counts.Good, Value.int .i64 x.counts.Bad, Value.int .i64 x.counts.Aborts, Value.int .i64 x.counts.Runts, Value.int .i64 x.counts.Giants, Value.int .i64 x.counts.Dropped, Value.int .i64 x.counts.Twins]) 84, frame_Reader.at b0 x.reader, monitor_Monitor.at b1 x.monitor, ring_Ring.at b2 x.ring] h) h) :: L) w0 w from hs)
 obtain ⟨hi, hs⟩ := h1
 obtain ⟨b0, hs⟩ := St.ex.1 (show St ((fun h => ∃ b0 : Nat, (fun h => ∃ b1 : Nat, ∃ b2 : Nat, Sp [blk b (#[Value.pointer (some ⟨b0, 0, none⟩), Value.pointer (some ⟨b1, 0, none⟩), Value.pointer (some ⟨b2, 0, none⟩), Value.int .i64 x.counts.Good, Value.int .i64 x.counts.Bad, Value.int .i64 x.counts.Aborts, Value.int .i64 x.counts.Runts, Value.int .i64 x.counts.Giants, Value.int .i64 x.counts.Dropped, Value.int .i64 x.counts.Twins]) 84, frame_Reader.at b0 x.reader, monitor_Monitor.at b1 x.monitor, ring_Ring.at b2 x.ring] h) h) :: L) w0 w from hs)
 obtain ⟨b1, hs⟩ := St.ex.1 (show St ((fun h => ∃ b1 : Nat, (fun h => ∃ b2 : Nat, Sp [blk b (#[Value.pointer (some ⟨b0, 0, none⟩), Value.pointer (some ⟨b1, 0, none⟩), Value.pointer (some ⟨b2, 0, none⟩), Value.int .i64 x.counts.Good, Value.int .i64 x.counts.Bad, Value.int .i64 x.counts.Aborts, Value.int .i64 x.counts.Runts, Value.int .i64 x.counts.Giants, Value.int .i64 x.counts.Dropped, Value.int .i64 x.counts.Twins]) 84, frame_Reader.at b0 x.reader, monitor_Monitor.at b1 x.monitor, ring_Ring.at b2 x.ring] h) h) :: L) w0 w from hs)
 obtain ⟨b2, hs⟩ := St.ex.1 (show St ((fun h => ∃ b2 : Nat, (fun h => Sp [blk b (#[Value.pointer (some ⟨b0, 0, none⟩), Value.pointer (some ⟨b1, 0, none⟩), Value.pointer (some ⟨b2, 0, none⟩), Value.int .i64 x.counts.Good, Value.int .i64 x.counts.Bad, Value.int .i64 x.counts.Aborts, Value.int .i64 x.counts.Runts, Value.int .i64 x.counts.Giants, Value.int .i64 x.counts.Dropped, Value.int .i64 x.counts.Twins]) 84, frame_Reader.at b0 x.reader, monitor_Monitor.at b1 x.monitor, ring_Ring.at b2 x.ring] h) h) :: L) w0 w from hs)
 exact ⟨b0, b1, b2, hi, St.open (m := [blk b (#[Value.pointer (some ⟨b0, 0, none⟩), Value.pointer (some ⟨b1, 0, none⟩), Value.pointer (some ⟨b2, 0, none⟩), Value.int .i64 x.counts.Good, Value.int .i64 x.counts.Bad, Value.int .i64 x.counts.Aborts, Value.int .i64 x.counts.Runts, Value.int .i64 x.counts.Giants, Value.int .i64 x.counts.Dropped, Value.int .i64 x.counts.Twins]) 84, frame_Reader.at b0 x.reader, monitor_Monitor.at b1 x.monitor, ring_Ring.at b2 x.ring]) hs⟩
theorem station_side.close {b : Nat} {l0 : frame_Reader} {l1 : monitor_Monitor} {l2 : ring_Ring} {l3 : Int} {l4 : Int} {l5 : Int} {l6 : Int} {l7 : Int} {l8 : Int} {l9 : Int} {b0 : Nat} {b1 : Nat} {b2 : Nat} {L : List As} {w0 w : World} (hi : True) (hs : Sep.St (blk b (#[Value.pointer (some ⟨b0, 0, none⟩), Value.pointer (some ⟨b1, 0, none⟩), Value.pointer (some ⟨b2, 0, none⟩), Value.int .i64 l3, Value.int .i64 l4, Value.int .i64 l5, Value.int .i64 l6, Value.int .i64 l7, Value.int .i64 l8, Value.int .i64 l9]) 84 :: frame_Reader.at b0 l0 :: monitor_Monitor.at b1 l1 :: ring_Ring.at b2 l2 :: L) w0 w) : Sep.St (station_side.at b ({ reader := l0, monitor := l1, ring := l2, counts := ({ Good := l3, Bad := l4, Aborts := l5, Runts := l6, Giants := l7, Dropped := l8, Twins := l9 } : api_Counts) } : station_side) :: L) w0 w := by
 have h2 := St.join (m := [blk b (#[Value.pointer (some ⟨b0, 0, none⟩), Value.pointer (some ⟨b1, 0, none⟩), Value.pointer (some ⟨b2, 0, none⟩), Value.int .i64 l3, Value.int .i64 l4, Value.int .i64 l5, Value.int .i64 l6, Value.int .i64 l7, Value.int .i64 l8, Value.int .i64 l9]) 84, frame_Reader.at b0 l0, monitor_Monitor.at b1 l1, ring_Ring.at b2 l2]) hs
 exact h2.mono fun h hh => ⟨hi, _, _, _, hh⟩
mutual
def station_Station_Status.j1 (a0 : station_Station) (x17 : api_Status) : Option api_Status := ((arq_Arq_Counts.f a0.arq).bind fun t21 => ((monitor_Monitor_State.f a0.sides.1.monitor).bind fun t34 => ((monitor_Monitor_State.f a0.sides.2.monitor).bind fun t41 => some (({ x17 with Lines := (t34, t41), Sent := t21.1, Acked := t21.2.1, Lost := t21.2.2 } : api_Status)))))
def station_Station_Status.j0 (a0 : station_Station) (x14 : api_Status) : Option api_Status := ((station_Station_twice.f a0).bind fun t48 => (if t48 = true then (station_Station_Status.j1 a0 ({ x14 with Line := 0 } : api_Status)) else (station_Station_Status.j1 a0 x14)))
end
def station_Station_Status.f (a0 : station_Station) : Option api_Status := ((arq_Arq_State.f a0.arq).bind fun t55 => ((aps_Aps_Line.f a0.aps).bind fun t60 => (station_Station_Status.j0 a0 ({ State := t55, Line := t60, Lines := (0, 0), Sent := 0, Acked := 0, Lost := 0 } : api_Status))))
theorem station_Station_Status.calls {a0 : station_Station} {R : As} {w0 w : World} {b0 : Nat} {b16_p0 : Nat} {b17_p0 : Nat} {b18_p0 : Nat} {b22_p0 : Nat} {b23_p0 : Nat} {b24_p0 : Nat} {b32_p0 : Nat} {b33_p0 : Nat} {b34_p0 : Nat} {r : api_Status} (H : station_Station_Status.f a0 = some r) (HS : Sep.St [blk b0 (#[Value.int .i64 a0.c.Mode, Value.int .i64 a0.c.Modulus, Value.int .i64 a0.c.Window, Value.int .i64 a0.c.T1, Value.int .i64 a0.c.N2, Value.int .i64 a0.c.Hold, Value.int .i64 a0.c.Wait, Value.int .i64 a0.c.Keep, Value.int .i64 a0.c.Queue, Value.int .i64 a0.c.Size, Value.int .i64 a0.c.Ring, Value.int .i64 a0.c.Rate, Value.int .i64 a0.c.Bad, Value.int .i64 a0.c.Good, Value.bool a0.c.Revert, Value.bool a0.c.Wide, Value.pointer (some ⟨b16_p0, 0, none⟩), Value.pointer (some ⟨b17_p0, 0, none⟩), Value.pointer (some ⟨b18_p0, 0, none⟩), Value.int .u32 a0.number, Value.int .i64 a0.steps, Value.int .i64 a0.line, Value.pointer (some ⟨b22_p0, 0, none⟩), Value.pointer (some ⟨b23_p0, 0, none⟩), Value.pointer (some ⟨b24_p0, 0, none⟩), Value.int .i64 a0.sides.1.counts.Good, Value.int .i64 a0.sides.1.counts.Bad, Value.int .i64 a0.sides.1.counts.Aborts, Value.int .i64 a0.sides.1.counts.Runts, Value.int .i64 a0.sides.1.counts.Giants, Value.int .i64 a0.sides.1.counts.Dropped, Value.int .i64 a0.sides.1.counts.Twins, Value.pointer (some ⟨b32_p0, 0, none⟩), Value.pointer (some ⟨b33_p0, 0, none⟩), Value.pointer (some ⟨b34_p0, 0, none⟩), Value.int .i64 a0.sides.2.counts.Good, Value.int .i64 a0.sides.2.counts.Bad, Value.int .i64 a0.sides.2.counts.Aborts, Value.int .i64 a0.sides.2.counts.Runts, Value.int .i64 a0.sides.2.counts.Giants, Value.int .i64 a0.sides.2.counts.Dropped, Value.int .i64 a0.sides.2.counts.Twins]) 87, arq_Arq.at b16_p0 a0.arq, aps_Aps.at b17_p0 a0.aps, twins_Table.at b18_p0 a0.twins, frame_Reader.at b22_p0 a0.sides.1.reader, monitor_Monitor.at b23_p0 a0.sides.1.monitor, ring_Ring.at b24_p0 a0.sides.1.ring, frame_Reader.at b32_p0 a0.sides.2.reader, monitor_Monitor.at b33_p0 a0.sides.2.monitor, ring_Ring.at b34_p0 a0.sides.2.ring, R] w0 w)  : Calls Tryz.prog 13 #[Value.pointer (some ⟨b0, 0, none⟩)] w (Ret fun u w => u = Value.agg #[Value.int .i64 r.State, Value.int .i64 r.Line, Value.int .i64 r.Lines.1, Value.int .i64 r.Lines.2, Value.int .i64 r.Sent, Value.int .i64 r.Acked, Value.int .i64 r.Lost] ∧ Sep.St [blk b0 (#[Value.int .i64 a0.c.Mode, Value.int .i64 a0.c.Modulus, Value.int .i64 a0.c.Window, Value.int .i64 a0.c.T1, Value.int .i64 a0.c.N2, Value.int .i64 a0.c.Hold, Value.int .i64 a0.c.Wait, Value.int .i64 a0.c.Keep, Value.int .i64 a0.c.Queue, Value.int .i64 a0.c.Size, Value.int .i64 a0.c.Ring, Value.int .i64 a0.c.Rate, Value.int .i64 a0.c.Bad, Value.int .i64 a0.c.Good, Value.bool a0.c.Revert, Value.bool a0.c.Wide, Value.pointer (some ⟨b16_p0, 0, none⟩), Value.pointer (some ⟨b17_p0, 0, none⟩), Value.pointer (some ⟨b18_p0, 0, none⟩), Value.int .u32 a0.number, Value.int .i64 a0.steps, Value.int .i64 a0.line, Value.pointer (some ⟨b22_p0, 0, none⟩), Value.pointer (some ⟨b23_p0, 0, none⟩), Value.pointer (some ⟨b24_p0, 0, none⟩), Value.int .i64 a0.sides.1.counts.Good, Value.int .i64 a0.sides.1.counts.Bad, Value.int .i64 a0.sides.1.counts.Aborts, Value.int .i64 a0.sides.1.counts.Runts, Value.int .i64 a0.sides.1.counts.Giants, Value.int .i64 a0.sides.1.counts.Dropped, Value.int .i64 a0.sides.1.counts.Twins, Value.pointer (some ⟨b32_p0, 0, none⟩), Value.pointer (some ⟨b33_p0, 0, none⟩), Value.pointer (some ⟨b34_p0, 0, none⟩), Value.int .i64 a0.sides.2.counts.Good, Value.int .i64 a0.sides.2.counts.Bad, Value.int .i64 a0.sides.2.counts.Aborts, Value.int .i64 a0.sides.2.counts.Runts, Value.int .i64 a0.sides.2.counts.Giants, Value.int .i64 a0.sides.2.counts.Dropped, Value.int .i64 a0.sides.2.counts.Twins]) 87, arq_Arq.at b16_p0 a0.arq, aps_Aps.at b17_p0 a0.aps, twins_Table.at b18_p0 a0.twins, frame_Reader.at b22_p0 a0.sides.1.reader, monitor_Monitor.at b23_p0 a0.sides.1.monitor, ring_Ring.at b24_p0 a0.sides.1.ring, frame_Reader.at b32_p0 a0.sides.2.reader, monitor_Monitor.at b33_p0 a0.sides.2.monitor, ring_Ring.at b34_p0 a0.sides.2.ring, R] w0 w) := by
 unfold station_Station_Status.f at H
 refine calls_enter Tryz.func13 rfl rfl ?_
 have H : _ = some r := H
 refine V.seq (V.region (W.e (Y.alloc (z := Value.agg (#[Value.int .i64 (0), Value.int .i64 (0), Value.int .i64 (0), Value.int .i64 (0), Value.int .i64 (0), Value.int .i64 (0), Value.int .i64 (0)])) HS ze35) rfl ?_))
 rintro _ w ⟨nb1, rfl, HS⟩
 refine W.nx (V.meet (σ := Nat × api_Status) (fun st w => match st with | (nb13, x14) => Sep.St [api_Status.at nb13 x14, api_Status.at nb1 (({ State := 0, Line := 0, Lines := (0, 0), Sent := 0, Acked := 0, Lost := 0 } : api_Status)), blk b0 (#[Value.int .i64 a0.c.Mode, Value.int .i64 a0.c.Modulus, Value.int .i64 a0.c.Window, Value.int .i64 a0.c.T1, Value.int .i64 a0.c.N2, Value.int .i64 a0.c.Hold, Value.int .i64 a0.c.Wait, Value.int .i64 a0.c.Keep, Value.int .i64 a0.c.Queue, Value.int .i64 a0.c.Size, Value.int .i64 a0.c.Ring, Value.int .i64 a0.c.Rate, Value.int .i64 a0.c.Bad, Value.int .i64 a0.c.Good, Value.bool a0.c.Revert, Value.bool a0.c.Wide, Value.pointer (some ⟨b16_p0, 0, none⟩), Value.pointer (some ⟨b17_p0, 0, none⟩), Value.pointer (some ⟨b18_p0, 0, none⟩), Value.int .u32 a0.number, Value.int .i64 a0.steps, Value.int .i64 a0.line, Value.pointer (some ⟨b22_p0, 0, none⟩), Value.pointer (some ⟨b23_p0, 0, none⟩), Value.pointer (some ⟨b24_p0, 0, none⟩), Value.int .i64 a0.sides.1.counts.Good, Value.int .i64 a0.sides.1.counts.Bad, Value.int .i64 a0.sides.1.counts.Aborts, Value.int .i64 a0.sides.1.counts.Runts, Value.int .i64 a0.sides.1.counts.Giants, Value.int .i64 a0.sides.1.counts.Dropped, Value.int .i64 a0.sides.1.counts.Twins, Value.pointer (some ⟨b32_p0, 0, none⟩), Value.pointer (some ⟨b33_p0, 0, none⟩), Value.pointer (some ⟨b34_p0, 0, none⟩), Value.int .i64 a0.sides.2.counts.Good, Value.int .i64 a0.sides.2.counts.Bad, Value.int .i64 a0.sides.2.counts.Aborts, Value.int .i64 a0.sides.2.counts.Runts, Value.int .i64 a0.sides.2.counts.Giants, Value.int .i64 a0.sides.2.counts.Dropped, Value.int .i64 a0.sides.2.counts.Twins]) 87, arq_Arq.at b16_p0 a0.arq, aps_Aps.at b17_p0 a0.aps, twins_Table.at b18_p0 a0.twins, frame_Reader.at b22_p0 a0.sides.1.reader, monitor_Monitor.at b23_p0 a0.sides.1.monitor, ring_Ring.at b24_p0 a0.sides.1.ring, frame_Reader.at b32_p0 a0.sides.2.reader, monitor_Monitor.at b33_p0 a0.sides.2.monitor, ring_Ring.at b34_p0 a0.sides.2.ring, R] w0 w ∧ station_Station_Status.j0 a0 x14 = some r) (fun st => match st with | (nb13, x14) => [(0, Value.pointer (some ⟨b0, 0, none⟩)), (2, Value.pointer (some ⟨nb1, 0, none⟩)), (3, Value.pointer (some ⟨nb13, 0, none⟩))]) ?_ ?_)
 ·refine V.dr [4, 9, 11, 12] [10] [(6, Value.pointer (some ⟨b0, 0, none⟩)), (7, Value.pointer (some ⟨b0, 0, none⟩)), (8, Value.pointer (some ⟨b0, 0 + 16, none⟩)), (9, Value.pointer (some ⟨b16_p0, 0, none⟩)), (11, Value.pointer (some ⟨b0, 0, none⟩)), (12, Value.pointer (some ⟨b0, 0, none⟩)), (13, Value.pointer (some ⟨b0, 0 + 17, none⟩)), (14, Value.pointer (some ⟨b17_p0, 0, none⟩))] mo HS ?_
  refine T.pm (es' := [4, 11, 9, 12]) rfl ?_
  refine T.two rfl rfl ⟨.mv 0, .nc 6, .fa 7 fo87_1, .ld 8 1 Tryz.underlying73, .mv 0, .nc 11, .fa 12 fo87_2, .ld 13 1 Tryz.underlying75, trivial⟩ (T.step (es := [11, 9, 12]) _ [(9, Value.pointer (some ⟨b16_p0, 0, none⟩))] rfl ⟨.inr ⟨rfl, rfl⟩, trivial⟩ (Or.inl rfl) (by intro d hd; cases hd; exact ⟨by decide, rfl, rfl⟩) [10] [0, 1, 2, 3] rfl rfl rfl rfl rfl (fun w HS => ?_)) (T.step (es := [4, 9, 12]) _ [] rfl trivial (Or.inl rfl) (by intro d hd; cases hd; exact ⟨by decide, rfl, rfl⟩) [10] [] rfl rfl rfl rfl rfl (fun w HS => ?_))
  ·have HS : Sep.St [blk nb1 (#[Value.int .i64 (0), Value.int .i64 (0), Value.int .i64 (0), Value.int .i64 (0), Value.int .i64 (0), Value.int .i64 (0), Value.int .i64 (0)]) 35, blk b0 (#[Value.int .i64 a0.c.Mode, Value.int .i64 a0.c.Modulus, Value.int .i64 a0.c.Window, Value.int .i64 a0.c.T1, Value.int .i64 a0.c.N2, Value.int .i64 a0.c.Hold, Value.int .i64 a0.c.Wait, Value.int .i64 a0.c.Keep, Value.int .i64 a0.c.Queue, Value.int .i64 a0.c.Size, Value.int .i64 a0.c.Ring, Value.int .i64 a0.c.Rate, Value.int .i64 a0.c.Bad, Value.int .i64 a0.c.Good, Value.bool a0.c.Revert, Value.bool a0.c.Wide, Value.pointer (some ⟨b16_p0, 0, none⟩), Value.pointer (some ⟨b17_p0, 0, none⟩), Value.pointer (some ⟨b18_p0, 0, none⟩), Value.int .u32 a0.number, Value.int .i64 a0.steps, Value.int .i64 a0.line, Value.pointer (some ⟨b22_p0, 0, none⟩), Value.pointer (some ⟨b23_p0, 0, none⟩), Value.pointer (some ⟨b24_p0, 0, none⟩), Value.int .i64 a0.sides.1.counts.Good, Value.int .i64 a0.sides.1.counts.Bad, Value.int .i64 a0.sides.1.counts.Aborts, Value.int .i64 a0.sides.1.counts.Runts, Value.int .i64 a0.sides.1.counts.Giants, Value.int .i64 a0.sides.1.counts.Dropped, Value.int .i64 a0.sides.1.counts.Twins, Value.pointer (some ⟨b32_p0, 0, none⟩), Value.pointer (some ⟨b33_p0, 0, none⟩), Value.pointer (some ⟨b34_p0, 0, none⟩), Value.int .i64 a0.sides.2.counts.Good, Value.int .i64 a0.sides.2.counts.Bad, Value.int .i64 a0.sides.2.counts.Aborts, Value.int .i64 a0.sides.2.counts.Runts, Value.int .i64 a0.sides.2.counts.Giants, Value.int .i64 a0.sides.2.counts.Dropped, Value.int .i64 a0.sides.2.counts.Twins]) 87, arq_Arq.at b16_p0 a0.arq, aps_Aps.at b17_p0 a0.aps, twins_Table.at b18_p0 a0.twins, frame_Reader.at b22_p0 a0.sides.1.reader, monitor_Monitor.at b23_p0 a0.sides.1.monitor, ring_Ring.at b24_p0 a0.sides.1.ring, frame_Reader.at b32_p0 a0.sides.2.reader, monitor_Monitor.at b33_p0 a0.sides.2.monitor, ring_Ring.at b34_p0 a0.sides.2.ring, R] w0 w := HS
   replace HS := HS.fr 2
   obtain ⟨b8_53, b9_53, b10_53, a11_53, c11_53, d11_53, a12_53, c12_53, hi54, HS⟩ := arq_Arq.open HS
   obtain ⟨t55, A56, H⟩ := bind_s H
   refine ⟨_, Y.cl Tryz.func47 (arq_Arq_State.calls A56 HS.j7), ?_⟩
   rintro _ w ⟨rfl, HS⟩
   replace HS := HS.o7
   refine T.nw HS ?_
   refine T.two rfl rfl ⟨.mv 0, .nc 11, .fa 12 fo87_2, .ld 13 8 Tryz.underlying75, trivial⟩ (T.step (es := [9, 12]) _ [] rfl trivial (Or.inl rfl) (by intro d hd; cases hd; exact ⟨by decide, rfl, rfl⟩) [10] [] rfl rfl rfl rfl rfl (fun w HS => ?_)) (T.step (es := [11, 12]) _ [(14, Value.pointer (some ⟨b17_p0, 0, none⟩))] rfl ⟨.inr ⟨rfl, rfl⟩, trivial⟩ (Or.inl rfl) (by intro d hd; cases hd; exact ⟨by decide, rfl, rfl⟩) [] [5, 6, 7, 8] rfl rfl rfl rfl rfl (fun w HS => ?_))
   ·have HS : Sep.St [blk b16_p0 (#[Value.int .i64 a0.arq.m, Value.int .i64 a0.arq.t1, Value.int .i64 a0.arq.n2, Value.int .i64 a0.arq.size, Value.int .i64 a0.arq.state, Value.int .i64 a0.arq.tag, Value.int .i64 a0.arq.tries, Value.bool a0.arq.rejected, Value.pointer (some ⟨b8_53, 0, none⟩), Value.pointer (some ⟨b9_53, 0, none⟩), Value.pointer (some ⟨b10_53, 0, none⟩), Value.slice a11_53 a0.arq.out.length c11_53, Value.slice a12_53 a0.arq.inds.length c12_53, Value.int .i64 a0.arq.sent, Value.int .i64 a0.arq.acked, Value.int .i64 a0.arq.lost]) 136, backlog_Log.at b8_53 a0.arq.log, reorder_Order.at b9_53 a0.arq.order, clock_Set.at b10_53 a0.arq.timers, row 32 1 (.slice a11_53 a0.arq.out.length c11_53) a0.arq.out.length d11_53, tie (El.sl (El.int .u8)) d11_53 a0.arq.out, row 3 1 (.slice a12_53 a0.arq.inds.length c12_53) a0.arq.inds.length (a0.arq.inds.map (Value.int .i64)), blk nb1 (#[Value.int .i64 (0), Value.int .i64 (0), Value.int .i64 (0), Value.int .i64 (0), Value.int .i64 (0), Value.int .i64 (0), Value.int .i64 (0)]) 35, blk b0 (#[Value.int .i64 a0.c.Mode, Value.int .i64 a0.c.Modulus, Value.int .i64 a0.c.Window, Value.int .i64 a0.c.T1, Value.int .i64 a0.c.N2, Value.int .i64 a0.c.Hold, Value.int .i64 a0.c.Wait, Value.int .i64 a0.c.Keep, Value.int .i64 a0.c.Queue, Value.int .i64 a0.c.Size, Value.int .i64 a0.c.Ring, Value.int .i64 a0.c.Rate, Value.int .i64 a0.c.Bad, Value.int .i64 a0.c.Good, Value.bool a0.c.Revert, Value.bool a0.c.Wide, Value.pointer (some ⟨b16_p0, 0, none⟩), Value.pointer (some ⟨b17_p0, 0, none⟩), Value.pointer (some ⟨b18_p0, 0, none⟩), Value.int .u32 a0.number, Value.int .i64 a0.steps, Value.int .i64 a0.line, Value.pointer (some ⟨b22_p0, 0, none⟩), Value.pointer (some ⟨b23_p0, 0, none⟩), Value.pointer (some ⟨b24_p0, 0, none⟩), Value.int .i64 a0.sides.1.counts.Good, Value.int .i64 a0.sides.1.counts.Bad, Value.int .i64 a0.sides.1.counts.Aborts, Value.int .i64 a0.sides.1.counts.Runts, Value.int .i64 a0.sides.1.counts.Giants, Value.int .i64 a0.sides.1.counts.Dropped, Value.int .i64 a0.sides.1.counts.Twins, Value.pointer (some ⟨b32_p0, 0, none⟩), Value.pointer (some ⟨b33_p0, 0, none⟩), Value.pointer (some ⟨b34_p0, 0, none⟩), Value.int .i64 a0.sides.2.counts.Good, Value.int .i64 a0.sides.2.counts.Bad, Value.int .i64 a0.sides.2.counts.Aborts, Value.int .i64 a0.sides.2.counts.Runts, Value.int .i64 a0.sides.2.counts.Giants, Value.int .i64 a0.sides.2.counts.Dropped, Value.int .i64 a0.sides.2.counts.Twins]) 87, aps_Aps.at b17_p0 a0.aps, twins_Table.at b18_p0 a0.twins, frame_Reader.at b22_p0 a0.sides.1.reader, monitor_Monitor.at b23_p0 a0.sides.1.monitor, ring_Ring.at b24_p0 a0.sides.1.ring, frame_Reader.at b32_p0 a0.sides.2.reader, monitor_Monitor.at b33_p0 a0.sides.2.monitor, ring_Ring.at b34_p0 a0.sides.2.ring, R] w0 w := HS
    refine ⟨_, Y.alloc (z := Value.agg (#[Value.int .i64 (0), Value.int .i64 (0), Value.int .i64 (0), Value.int .i64 (0), Value.int .i64 (0), Value.int .i64 (0), Value.int .i64 (0)])) HS ze35, ?_⟩
    rintro _ w ⟨nb57, rfl, HS⟩
    refine T.nw HS ?_
    refine T.ev [(14, _)] [] [5, 6, 7, 8] ⟨rfl, trivial⟩ ⟨.mv 0, .nc 11, .fa 12 fo87_2, .ld 13 9 Tryz.underlying75, trivial⟩ rfl (fun w HS => ?_)
    replace HS := HS.fr 10
    obtain ⟨hi59, HS⟩ := aps_Aps.open HS
    obtain ⟨t60, A61, H⟩ := bind_s H
    refine ⟨_, Y.cl Tryz.func48 (aps_Aps_Line.calls A61 HS.j1), ?_⟩
    rintro _ w ⟨rfl, HS⟩
    replace HS := HS.o1
    refine T.nm [(15, Value.int .i64 t60), (16, Value.agg #[Value.int .i64 t55, Value.int .i64 t60, Value.int .i64 (0), Value.int .i64 (0), Value.int .i64 (0), Value.int .i64 (0), Value.int .i64 (0)])] HS ⟨.inl ⟨rfl, rfl⟩, ⟨.inr ⟨by decide, rfl⟩, trivial⟩⟩ ?_
    refine T.ev [(3, _), (16, _)] [] [10] ⟨rfl, rfl, trivial⟩ ⟨.n2 10 15 rfl rfl rfl (fun w HS => X.bd (Value.agg #[Value.int .i64 t55, Value.int .i64 t60, Value.int .i64 (0), Value.int .i64 (0), Value.int .i64 (0), Value.int .i64 (0), Value.int .i64 (0)]) rfl (fun _ => by kernel_rfl)), trivial⟩ rfl (fun w HS => ?_)
    refine ⟨_, Y.storeSt (c' := #[Value.int .i64 t55, Value.int .i64 t60, Value.int .i64 (0), Value.int .i64 (0), Value.int .i64 (0), Value.int .i64 (0), Value.int .i64 (0)]) 1 [Value.int .i64 t55, Value.int .i64 t60, Value.int .i64 (0), Value.int .i64 (0), Value.int .i64 (0), Value.int .i64 (0), Value.int .i64 (0)] HS rfl inf35 rfl rfl rfl rfl rfl rfl, ?_⟩
    rintro _ w HS
    refine T.nn HS ?_
    refine T.fn [(0, _), (2, _), (3, _)] ⟨rfl, rfl, rfl, trivial⟩ trivial (fun w HS => ?_)
    replace HS := HS.pm [1, 0, 2, 3, 4, 5, 6, 7, 8, 9, 10, 11, 12, 13, 14, 15, 16, 17, 18]
    replace HS := api_Status.close trivial HS
    replace HS := HS.pm [9, 0, 1, 2, 3, 4, 5, 6, 7, 8, 10, 11, 12, 13, 14, 15, 16, 17, 18]
    replace HS := api_Status.close trivial HS
    replace HS := HS.pm [3, 4, 5, 6, 7, 8, 9, 0, 1, 2, 10, 11, 12, 13, 14, 15, 16, 17, 18]
    replace HS := arq_Arq.close trivial HS
    replace HS := HS.pm [3, 0, 1, 2, 4, 5, 6, 7, 8, 9, 10, 11, 12]
    replace HS := aps_Aps.close trivial HS
    replace HS := HS.pk [3, 2, 4, 1, 0, 5, 6, 7, 8, 9, 10, 11, 12] []
    exact At.meet (nb57, ({ State := t55, Line := t60, Lines := (0, 0), Sent := 0, Acked := 0, Lost := 0 } : api_Status)) ⟨rfl, rfl, rfl, trivial⟩ ⟨HS, H⟩
   ·have HS : Sep.St [blk b16_p0 (#[Value.int .i64 a0.arq.m, Value.int .i64 a0.arq.t1, Value.int .i64 a0.arq.n2, Value.int .i64 a0.arq.size, Value.int .i64 a0.arq.state, Value.int .i64 a0.arq.tag, Value.int .i64 a0.arq.tries, Value.bool a0.arq.rejected, Value.pointer (some ⟨b8_53, 0, none⟩), Value.pointer (some ⟨b9_53, 0, none⟩), Value.pointer (some ⟨b10_53, 0, none⟩), Value.slice a11_53 a0.arq.out.length c11_53, Value.slice a12_53 a0.arq.inds.length c12_53, Value.int .i64 a0.arq.sent, Value.int .i64 a0.arq.acked, Value.int .i64 a0.arq.lost]) 136, backlog_Log.at b8_53 a0.arq.log, reorder_Order.at b9_53 a0.arq.order, clock_Set.at b10_53 a0.arq.timers, row 32 1 (.slice a11_53 a0.arq.out.length c11_53) a0.arq.out.length d11_53, tie (El.sl (El.int .u8)) d11_53 a0.arq.out, row 3 1 (.slice a12_53 a0.arq.inds.length c12_53) a0.arq.inds.length (a0.arq.inds.map (Value.int .i64)), blk nb1 (#[Value.int .i64 (0), Value.int .i64 (0), Value.int .i64 (0), Value.int .i64 (0), Value.int .i64 (0), Value.int .i64 (0), Value.int .i64 (0)]) 35, blk b0 (#[Value.int .i64 a0.c.Mode, Value.int .i64 a0.c.Modulus, Value.int .i64 a0.c.Window, Value.int .i64 a0.c.T1, Value.int .i64 a0.c.N2, Value.int .i64 a0.c.Hold, Value.int .i64 a0.c.Wait, Value.int .i64 a0.c.Keep, Value.int .i64 a0.c.Queue, Value.int .i64 a0.c.Size, Value.int .i64 a0.c.Ring, Value.int .i64 a0.c.Rate, Value.int .i64 a0.c.Bad, Value.int .i64 a0.c.Good, Value.bool a0.c.Revert, Value.bool a0.c.Wide, Value.pointer (some ⟨b16_p0, 0, none⟩), Value.pointer (some ⟨b17_p0, 0, none⟩), Value.pointer (some ⟨b18_p0, 0, none⟩), Value.int .u32 a0.number, Value.int .i64 a0.steps, Value.int .i64 a0.line, Value.pointer (some ⟨b22_p0, 0, none⟩), Value.pointer (some ⟨b23_p0, 0, none⟩), Value.pointer (some ⟨b24_p0, 0, none⟩), Value.int .i64 a0.sides.1.counts.Good, Value.int .i64 a0.sides.1.counts.Bad, Value.int .i64 a0.sides.1.counts.Aborts, Value.int .i64 a0.sides.1.counts.Runts, Value.int .i64 a0.sides.1.counts.Giants, Value.int .i64 a0.sides.1.counts.Dropped, Value.int .i64 a0.sides.1.counts.Twins, Value.pointer (some ⟨b32_p0, 0, none⟩), Value.pointer (some ⟨b33_p0, 0, none⟩), Value.pointer (some ⟨b34_p0, 0, none⟩), Value.int .i64 a0.sides.2.counts.Good, Value.int .i64 a0.sides.2.counts.Bad, Value.int .i64 a0.sides.2.counts.Aborts, Value.int .i64 a0.sides.2.counts.Runts, Value.int .i64 a0.sides.2.counts.Giants, Value.int .i64 a0.sides.2.counts.Dropped, Value.int .i64 a0.sides.2.counts.Twins]) 87, aps_Aps.at b17_p0 a0.aps, twins_Table.at b18_p0 a0.twins, frame_Reader.at b22_p0 a0.sides.1.reader, monitor_Monitor.at b23_p0 a0.sides.1.monitor, ring_Ring.at b24_p0 a0.sides.1.ring, frame_Reader.at b32_p0 a0.sides.2.reader, monitor_Monitor.at b33_p0 a0.sides.2.monitor, ring_Ring.at b34_p0 a0.sides.2.ring, R] w0 w := HS
    replace HS := HS.fr 9
    obtain ⟨hi63, HS⟩ := aps_Aps.open HS
    obtain ⟨t64, A65, H⟩ := bind_s H
    refine ⟨_, Y.cl Tryz.func48 (aps_Aps_Line.calls A65 HS.j1), ?_⟩
    rintro _ w ⟨rfl, HS⟩
    replace HS := HS.o1
    refine T.nm [(15, Value.int .i64 t64), (16, Value.agg #[Value.int .i64 t55, Value.int .i64 t64, Value.int .i64 (0), Value.int .i64 (0), Value.int .i64 (0), Value.int .i64 (0), Value.int .i64 (0)])] HS ⟨.inl ⟨rfl, rfl⟩, ⟨.inr ⟨by decide, rfl⟩, trivial⟩⟩ ?_
    refine T.ev [] [] [] trivial ⟨.n2 10 15 rfl rfl rfl (fun w HS => X.bd (Value.agg #[Value.int .i64 t55, Value.int .i64 t64, Value.int .i64 (0), Value.int .i64 (0), Value.int .i64 (0), Value.int .i64 (0), Value.int .i64 (0)]) rfl (fun _ => by kernel_rfl)), trivial⟩ rfl (fun w HS => ?_)
    refine ⟨_, Y.alloc (z := Value.agg (#[Value.int .i64 (0), Value.int .i64 (0), Value.int .i64 (0), Value.int .i64 (0), Value.int .i64 (0), Value.int .i64 (0), Value.int .i64 (0)])) HS ze35, ?_⟩
    rintro _ w ⟨nb66, rfl, HS⟩
    refine T.nw HS ?_
    refine T.ev [(3, _), (16, _)] [] [10] ⟨rfl, rfl, trivial⟩ ⟨.n2 10 15 rfl rfl rfl (fun w HS => X.bd (Value.agg #[Value.int .i64 t55, Value.int .i64 t64, Value.int .i64 (0), Value.int .i64 (0), Value.int .i64 (0), Value.int .i64 (0), Value.int .i64 (0)]) rfl (fun _ => by kernel_rfl)), trivial⟩ rfl (fun w HS => ?_)
    refine ⟨_, Y.storeSt (c' := #[Value.int .i64 t55, Value.int .i64 t64, Value.int .i64 (0), Value.int .i64 (0), Value.int .i64 (0), Value.int .i64 (0), Value.int .i64 (0)]) 0 [Value.int .i64 t55, Value.int .i64 t64, Value.int .i64 (0), Value.int .i64 (0), Value.int .i64 (0), Value.int .i64 (0), Value.int .i64 (0)] HS rfl inf35 rfl rfl rfl rfl rfl rfl, ?_⟩
    rintro _ w HS
    refine T.nn HS ?_
    refine T.fn [(0, _), (2, _), (3, _)] ⟨rfl, rfl, rfl, trivial⟩ trivial (fun w HS => ?_)
    replace HS := api_Status.close trivial HS
    replace HS := HS.pm [9, 0, 1, 2, 3, 4, 5, 6, 7, 8, 10, 11, 12, 13, 14, 15, 16, 17, 18]
    replace HS := api_Status.close trivial HS
    replace HS := HS.pm [3, 4, 5, 6, 7, 8, 9, 0, 1, 2, 10, 11, 12, 13, 14, 15, 16, 17, 18]
    replace HS := arq_Arq.close trivial HS
    replace HS := HS.pm [3, 0, 1, 2, 4, 5, 6, 7, 8, 9, 10, 11, 12]
    replace HS := aps_Aps.close trivial HS
    replace HS := HS.pk [3, 2, 4, 1, 0, 5, 6, 7, 8, 9, 10, 11, 12] []
    exact At.meet (nb66, ({ State := t55, Line := t64, Lines := (0, 0), Sent := 0, Acked := 0, Lost := 0 } : api_Status)) ⟨rfl, rfl, rfl, trivial⟩ ⟨HS, H⟩
  ·have HS : Sep.St [blk nb1 (#[Value.int .i64 (0), Value.int .i64 (0), Value.int .i64 (0), Value.int .i64 (0), Value.int .i64 (0), Value.int .i64 (0), Value.int .i64 (0)]) 35, blk b0 (#[Value.int .i64 a0.c.Mode, Value.int .i64 a0.c.Modulus, Value.int .i64 a0.c.Window, Value.int .i64 a0.c.T1, Value.int .i64 a0.c.N2, Value.int .i64 a0.c.Hold, Value.int .i64 a0.c.Wait, Value.int .i64 a0.c.Keep, Value.int .i64 a0.c.Queue, Value.int .i64 a0.c.Size, Value.int .i64 a0.c.Ring, Value.int .i64 a0.c.Rate, Value.int .i64 a0.c.Bad, Value.int .i64 a0.c.Good, Value.bool a0.c.Revert, Value.bool a0.c.Wide, Value.pointer (some ⟨b16_p0, 0, none⟩), Value.pointer (some ⟨b17_p0, 0, none⟩), Value.pointer (some ⟨b18_p0, 0, none⟩), Value.int .u32 a0.number, Value.int .i64 a0.steps, Value.int .i64 a0.line, Value.pointer (some ⟨b22_p0, 0, none⟩), Value.pointer (some ⟨b23_p0, 0, none⟩), Value.pointer (some ⟨b24_p0, 0, none⟩), Value.int .i64 a0.sides.1.counts.Good, Value.int .i64 a0.sides.1.counts.Bad, Value.int .i64 a0.sides.1.counts.Aborts, Value.int .i64 a0.sides.1.counts.Runts, Value.int .i64 a0.sides.1.counts.Giants, Value.int .i64 a0.sides.1.counts.Dropped, Value.int .i64 a0.sides.1.counts.Twins, Value.pointer (some ⟨b32_p0, 0, none⟩), Value.pointer (some ⟨b33_p0, 0, none⟩), Value.pointer (some ⟨b34_p0, 0, none⟩), Value.int .i64 a0.sides.2.counts.Good, Value.int .i64 a0.sides.2.counts.Bad, Value.int .i64 a0.sides.2.counts.Aborts, Value.int .i64 a0.sides.2.counts.Runts, Value.int .i64 a0.sides.2.counts.Giants, Value.int .i64 a0.sides.2.counts.Dropped, Value.int .i64 a0.sides.2.counts.Twins]) 87, arq_Arq.at b16_p0 a0.arq, aps_Aps.at b17_p0 a0.aps, twins_Table.at b18_p0 a0.twins, frame_Reader.at b22_p0 a0.sides.1.reader, monitor_Monitor.at b23_p0 a0.sides.1.monitor, ring_Ring.at b24_p0 a0.sides.1.ring, frame_Reader.at b32_p0 a0.sides.2.reader, monitor_Monitor.at b33_p0 a0.sides.2.monitor, ring_Ring.at b34_p0 a0.sides.2.ring, R] w0 w := HS
   refine ⟨_, Y.alloc (z := Value.agg (#[Value.int .i64 (0), Value.int .i64 (0), Value.int .i64 (0), Value.int .i64 (0), Value.int .i64 (0), Value.int .i64 (0), Value.int .i64 (0)])) HS ze35, ?_⟩
   rintro _ w ⟨nb67, rfl, HS⟩
   refine T.nw HS ?_
   refine T.ev [(9, _)] [10] [0, 1, 2, 3] ⟨rfl, trivial⟩ ⟨.mv 0, .nc 6, .fa 7 fo87_1, .ld 8 2 Tryz.underlying73, .mv 0, .nc 11, .fa 12 fo87_2, .ld 13 2 Tryz.underlying75, trivial⟩ rfl (fun w HS => ?_)
   replace HS := HS.fr 3
   obtain ⟨b8_68, b9_68, b10_68, a11_68, c11_68, d11_68, a12_68, c12_68, hi69, HS⟩ := arq_Arq.open HS
   obtain ⟨t70, A71, H⟩ := bind_s H
   refine ⟨_, Y.cl Tryz.func47 (arq_Arq_State.calls A71 HS.j7), ?_⟩
   rintro _ w ⟨rfl, HS⟩
   replace HS := HS.o7
   refine T.nw HS ?_
   refine T.ev [(14, _)] [] [5, 6, 7, 8] ⟨rfl, trivial⟩ ⟨.mv 0, .nc 11, .fa 12 fo87_2, .ld 13 9 Tryz.underlying75, trivial⟩ rfl (fun w HS => ?_)
   replace HS := HS.fr 10
   obtain ⟨hi73, HS⟩ := aps_Aps.open HS
   obtain ⟨t74, A75, H⟩ := bind_s H
   refine ⟨_, Y.cl Tryz.func48 (aps_Aps_Line.calls A75 HS.j1), ?_⟩
   rintro _ w ⟨rfl, HS⟩
   replace HS := HS.o1
   refine T.nm [(15, Value.int .i64 t74), (16, Value.agg #[Value.int .i64 t70, Value.int .i64 t74, Value.int .i64 (0), Value.int .i64 (0), Value.int .i64 (0), Value.int .i64 (0), Value.int .i64 (0)])] HS ⟨.inl ⟨rfl, rfl⟩, ⟨.inr ⟨by decide, rfl⟩, trivial⟩⟩ ?_
   refine T.ev [(3, _), (16, _)] [] [10] ⟨rfl, rfl, trivial⟩ ⟨.n2 10 15 rfl rfl rfl (fun w HS => X.bd (Value.agg #[Value.int .i64 t70, Value.int .i64 t74, Value.int .i64 (0), Value.int .i64 (0), Value.int .i64 (0), Value.int .i64 (0), Value.int .i64 (0)]) rfl (fun _ => by kernel_rfl)), trivial⟩ rfl (fun w HS => ?_)
   refine ⟨_, Y.storeSt (c' := #[Value.int .i64 t70, Value.int .i64 t74, Value.int .i64 (0), Value.int .i64 (0), Value.int .i64 (0), Value.int .i64 (0), Value.int .i64 (0)]) 8 [Value.int .i64 t70, Value.int .i64 t74, Value.int .i64 (0), Value.int .i64 (0), Value.int .i64 (0), Value.int .i64 (0), Value.int .i64 (0)] HS rfl inf35 rfl rfl rfl rfl rfl rfl, ?_⟩
   rintro _ w HS
   refine T.nn HS ?_
   refine T.fn [(0, _), (2, _), (3, _)] ⟨rfl, rfl, rfl, trivial⟩ trivial (fun w HS => ?_)
   replace HS := HS.pm [8, 0, 1, 2, 3, 4, 5, 6, 7, 9, 10, 11, 12, 13, 14, 15, 16, 17, 18]
   replace HS := api_Status.close trivial HS
   replace HS := HS.pm [9, 0, 1, 2, 3, 4, 5, 6, 7, 8, 10, 11, 12, 13, 14, 15, 16, 17, 18]
   replace HS := api_Status.close trivial HS
   replace HS := HS.pm [3, 4, 5, 6, 7, 8, 9, 0, 1, 2, 10, 11, 12, 13, 14, 15, 16, 17, 18]
   replace HS := arq_Arq.close trivial HS
   replace HS := HS.pm [3, 0, 1, 2, 4, 5, 6, 7, 8, 9, 10, 11, 12]
   replace HS := aps_Aps.close trivial HS
   replace HS := HS.pk [3, 2, 4, 1, 0, 5, 6, 7, 8, 9, 10, 11, 12] []
   exact At.meet (nb67, ({ State := t70, Line := t74, Lines := (0, 0), Sent := 0, Acked := 0, Lost := 0 } : api_Status)) ⟨rfl, rfl, rfl, trivial⟩ ⟨HS, H⟩
 ·rintro ⟨nb13, x14⟩ w ⟨HS, H⟩
  unfold station_Station_Status.j0 at H
  refine V.meet (σ := api_Status) (fun st w => match st with | x17 => Sep.St [api_Status.at nb13 x17, api_Status.at nb1 (({ State := 0, Line := 0, Lines := (0, 0), Sent := 0, Acked := 0, Lost := 0 } : api_Status)), blk b0 (#[Value.int .i64 a0.c.Mode, Value.int .i64 a0.c.Modulus, Value.int .i64 a0.c.Window, Value.int .i64 a0.c.T1, Value.int .i64 a0.c.N2, Value.int .i64 a0.c.Hold, Value.int .i64 a0.c.Wait, Value.int .i64 a0.c.Keep, Value.int .i64 a0.c.Queue, Value.int .i64 a0.c.Size, Value.int .i64 a0.c.Ring, Value.int .i64 a0.c.Rate, Value.int .i64 a0.c.Bad, Value.int .i64 a0.c.Good, Value.bool a0.c.Revert, Value.bool a0.c.Wide, Value.pointer (some ⟨b16_p0, 0, none⟩), Value.pointer (some ⟨b17_p0, 0, none⟩), Value.pointer (some ⟨b18_p0, 0, none⟩), Value.int .u32 a0.number, Value.int .i64 a0.steps, Value.int .i64 a0.line, Value.pointer (some ⟨b22_p0, 0, none⟩), Value.pointer (some ⟨b23_p0, 0, none⟩), Value.pointer (some ⟨b24_p0, 0, none⟩), Value.int .i64 a0.sides.1.counts.Good, Value.int .i64 a0.sides.1.counts.Bad, Value.int .i64 a0.sides.1.counts.Aborts, Value.int .i64 a0.sides.1.counts.Runts, Value.int .i64 a0.sides.1.counts.Giants, Value.int .i64 a0.sides.1.counts.Dropped, Value.int .i64 a0.sides.1.counts.Twins, Value.pointer (some ⟨b32_p0, 0, none⟩), Value.pointer (some ⟨b33_p0, 0, none⟩), Value.pointer (some ⟨b34_p0, 0, none⟩), Value.int .i64 a0.sides.2.counts.Good, Value.int .i64 a0.sides.2.counts.Bad, Value.int .i64 a0.sides.2.counts.Aborts, Value.int .i64 a0.sides.2.counts.Runts, Value.int .i64 a0.sides.2.counts.Giants, Value.int .i64 a0.sides.2.counts.Dropped, Value.int .i64 a0.sides.2.counts.Twins]) 87, arq_Arq.at b16_p0 a0.arq, aps_Aps.at b17_p0 a0.aps, twins_Table.at b18_p0 a0.twins, frame_Reader.at b22_p0 a0.sides.1.reader, monitor_Monitor.at b23_p0 a0.sides.1.monitor, ring_Ring.at b24_p0 a0.sides.1.ring, frame_Reader.at b32_p0 a0.sides.2.reader, monitor_Monitor.at b33_p0 a0.sides.2.monitor, ring_Ring.at b34_p0 a0.sides.2.ring, R] w0 w ∧ station_Station_Status.j1 a0 x17 = some r) (fun st => match st with | x17 => [(0, Value.pointer (some ⟨b0, 0, none⟩)), (2, Value.pointer (some ⟨nb1, 0, none⟩)), (3, Value.pointer (some ⟨nb13, 0, none⟩))]) ?_ ?_
  ·refine V.seq (V.region (W.mv rfl ?_))
   obtain ⟨t48, A49, H⟩ := bind_s H
   replace HS := HS.pm [2, 3, 4, 5, 6, 7, 8, 9, 10, 11, 0, 1, 12]
   refine W.e (Y.cl Tryz.func49 (station_Station_twice.calls A49 HS.j10)) rfl ?_
   rintro _ w ⟨rfl, HS⟩
   replace HS := HS.o10
   refine W.nx ?_
   by_cases c50 : t48 = true
   ·replace H := ite_t c50 H
    refine V.condT (sb c50) (V.region ?_)
    replace HS := HS.fr 10
    obtain ⟨hi52, HS⟩ := api_Status.open HS
    refine W.fa fo35_1 rfl (W.st 0 1 HS inf3 rfl rfl rfl rfl rfl rfl fun w HS => ?_)
    refine W.nil ?_
    replace HS := api_Status.close trivial HS
    replace HS := HS.pk [0, 11, 1, 2, 3, 4, 5, 6, 7, 8, 9, 10, 12] []
    exact At.meet ({ x14 with Line := 0 } : api_Status) ⟨rfl, rfl, rfl, trivial⟩ ⟨HS, H⟩
   ·replace H := ite_f c50 H
    refine V.condF (sb (b_f c50)) (V.skip ?_)
    replace HS := HS.pk [10, 11, 0, 1, 2, 3, 4, 5, 6, 7, 8, 9, 12] []
    exact At.meet x14 ⟨rfl, rfl, rfl, trivial⟩ ⟨HS, H⟩
  ·rintro x17 w ⟨HS, H⟩
   unfold station_Station_Status.j1 at H
   refine V.seq (V.region (W.mv rfl (W.nc rfl (W.fa fo87_1 rfl (W.ld 2 HS Tryz.underlying73 rfl rfl rfl rfl ?_)))))
   replace HS := HS.fr 3
   obtain ⟨b8_19, b9_19, b10_19, a11_19, c11_19, d11_19, a12_19, c12_19, hi20, HS⟩ := arq_Arq.open HS
   obtain ⟨t21, A22, H⟩ := bind_s H
   refine W.e (Y.cl Tryz.func50 (arq_Arq_Counts.calls A22 HS.j7)) rfl ?_
   rintro _ w ⟨rfl, HS⟩
   replace HS := HS.o7
   refine W.mv rfl (W.r (X.extract rfl rfl) rfl (W.r (X.extract rfl rfl) rfl (W.r (X.extract rfl rfl) rfl ?_)))
   replace HS := HS.fr 7
   obtain ⟨hi24, HS⟩ := api_Status.open HS
   refine W.fa fo35_3 rfl (W.st 0 4 HS inf3 rfl rfl rfl rfl rfl rfl fun w HS => ?_)
   refine W.fa fo35_4 rfl (W.st 0 5 HS inf3 rfl rfl rfl rfl rfl rfl fun w HS => ?_)
   refine W.fa fo35_5 rfl (W.st 0 6 HS inf3 rfl rfl rfl rfl rfl rfl fun w HS => ?_)
   refine W.nx (V.seq (V.seq (V.region (W.mv rfl (W.nc rfl (W.fa fo87_7 rfl (W.r (X.loadSt 9 [Value.pointer (some ⟨b22_p0, 0, none⟩), Value.pointer (some ⟨b23_p0, 0, none⟩), Value.pointer (some ⟨b24_p0, 0, none⟩), Value.int .i64 a0.sides.1.counts.Good, Value.int .i64 a0.sides.1.counts.Bad, Value.int .i64 a0.sides.1.counts.Aborts, Value.int .i64 a0.sides.1.counts.Runts, Value.int .i64 a0.sides.1.counts.Giants, Value.int .i64 a0.sides.1.counts.Dropped, Value.int .i64 a0.sides.1.counts.Twins, Value.pointer (some ⟨b32_p0, 0, none⟩), Value.pointer (some ⟨b33_p0, 0, none⟩), Value.pointer (some ⟨b34_p0, 0, none⟩), Value.int .i64 a0.sides.2.counts.Good, Value.int .i64 a0.sides.2.counts.Bad, Value.int .i64 a0.sides.2.counts.Aborts, Value.int .i64 a0.sides.2.counts.Runts, Value.int .i64 a0.sides.2.counts.Giants, Value.int .i64 a0.sides.2.counts.Dropped, Value.int .i64 a0.sides.2.counts.Twins] HS rfl Tryz.underlying85 rfl inf85 rfl rfl) rfl (W.mv rfl (W.nx (V.block (V.rounds 2 [(2, Value.pointer (some ⟨nb1, 0, none⟩)), (3, Value.pointer (some ⟨nb13, 0, none⟩)), (35, Value.agg #[Value.pointer (some ⟨b22_p0, 0, none⟩), Value.pointer (some ⟨b23_p0, 0, none⟩), Value.pointer (some ⟨b24_p0, 0, none⟩), Value.int .i64 a0.sides.1.counts.Good, Value.int .i64 a0.sides.1.counts.Bad, Value.int .i64 a0.sides.1.counts.Aborts, Value.int .i64 a0.sides.1.counts.Runts, Value.int .i64 a0.sides.1.counts.Giants, Value.int .i64 a0.sides.1.counts.Dropped, Value.int .i64 a0.sides.1.counts.Twins, Value.pointer (some ⟨b32_p0, 0, none⟩), Value.pointer (some ⟨b33_p0, 0, none⟩), Value.pointer (some ⟨b34_p0, 0, none⟩), Value.int .i64 a0.sides.2.counts.Good, Value.int .i64 a0.sides.2.counts.Bad, Value.int .i64 a0.sides.2.counts.Aborts, Value.int .i64 a0.sides.2.counts.Runts, Value.int .i64 a0.sides.2.counts.Giants, Value.int .i64 a0.sides.2.counts.Dropped, Value.int .i64 a0.sides.2.counts.Twins]), (36, Value.int .i64 (0))] ⟨rfl, rfl, rfl, rfl, trivial⟩ ?_)))))))))))
   refine V.seq (V.region (W.r (X.cmp true (by decide) rfl rfl rfl) rfl (W.nx (V.seq (V.condT rfl (V.skip (At.next (V.seq (V.block (V.seq (V.region (W.mv rfl (W.r (X.ixK (Value.agg #[Value.pointer (some ⟨b22_p0, 0, none⟩), Value.pointer (some ⟨b23_p0, 0, none⟩), Value.pointer (some ⟨b24_p0, 0, none⟩), Value.int .i64 a0.sides.1.counts.Good, Value.int .i64 a0.sides.1.counts.Bad, Value.int .i64 a0.sides.1.counts.Aborts, Value.int .i64 a0.sides.1.counts.Runts, Value.int .i64 a0.sides.1.counts.Giants, Value.int .i64 a0.sides.1.counts.Dropped, Value.int .i64 a0.sides.1.counts.Twins]) rfl rfl (fun _ => by kernel_rfl)) rfl (W.e (Y.alloc (z := Value.agg (#[Value.pointer none, Value.pointer none, Value.pointer none, Value.int .i64 (0), Value.int .i64 (0), Value.int .i64 (0), Value.int .i64 (0), Value.int .i64 (0), Value.int .i64 (0), Value.int .i64 (0)])) HS ze84) rfl ?_))))))))))))))
   rintro _ w ⟨nb31, rfl, HS⟩
   refine W.as rfl (W.en (Y.storeSt (c' := #[Value.pointer (some ⟨b22_p0, 0, none⟩), Value.pointer (some ⟨b23_p0, 0, none⟩), Value.pointer (some ⟨b24_p0, 0, none⟩), Value.int .i64 a0.sides.1.counts.Good, Value.int .i64 a0.sides.1.counts.Bad, Value.int .i64 a0.sides.1.counts.Aborts, Value.int .i64 a0.sides.1.counts.Runts, Value.int .i64 a0.sides.1.counts.Giants, Value.int .i64 a0.sides.1.counts.Dropped, Value.int .i64 a0.sides.1.counts.Twins]) 0 [Value.pointer (some ⟨b22_p0, 0, none⟩), Value.pointer (some ⟨b23_p0, 0, none⟩), Value.pointer (some ⟨b24_p0, 0, none⟩), Value.int .i64 a0.sides.1.counts.Good, Value.int .i64 a0.sides.1.counts.Bad, Value.int .i64 a0.sides.1.counts.Aborts, Value.int .i64 a0.sides.1.counts.Runts, Value.int .i64 a0.sides.1.counts.Giants, Value.int .i64 a0.sides.1.counts.Dropped, Value.int .i64 a0.sides.1.counts.Twins] HS rfl inf84 rfl rfl rfl rfl rfl rfl) rfl ?_)
   rintro _ w HS
   refine W.nx (V.region (W.mv rfl (W.fa fo84_1 rfl (W.ld 0 HS Tryz.underlying81 rfl rfl rfl rfl ?_))))
   replace HS := HS.fr 14
   obtain ⟨b3_32, hi33, HS⟩ := monitor_Monitor.open HS
   obtain ⟨t34, A35, H⟩ := bind_s H
   refine W.e (Y.cl Tryz.func51 (monitor_Monitor_State.calls A35 HS.j2)) rfl ?_
   rintro _ w ⟨rfl, HS⟩
   replace HS := HS.o2
   refine W.fa fo35_2 rfl (W.r (X.indexArK 0 rfl Tryz.underlying33 inf3 rfl rfl (by decide) (by decide)) rfl (W.st 3 2 HS inf3 rfl rfl rfl rfl rfl rfl fun w HS => ?_))
   refine W.nil (At.blockEnd (At.next (V.region (W.r (X.add rfl rfl) rfl (W.mv rfl (W.nil (At.onward [(2, Value.pointer (some ⟨nb1, 0, none⟩)), (3, Value.pointer (some ⟨nb13, 0, none⟩)), (35, Value.agg #[Value.pointer (some ⟨b22_p0, 0, none⟩), Value.pointer (some ⟨b23_p0, 0, none⟩), Value.pointer (some ⟨b24_p0, 0, none⟩), Value.int .i64 a0.sides.1.counts.Good, Value.int .i64 a0.sides.1.counts.Bad, Value.int .i64 a0.sides.1.counts.Aborts, Value.int .i64 a0.sides.1.counts.Runts, Value.int .i64 a0.sides.1.counts.Giants, Value.int .i64 a0.sides.1.counts.Dropped, Value.int .i64 a0.sides.1.counts.Twins, Value.pointer (some ⟨b32_p0, 0, none⟩), Value.pointer (some ⟨b33_p0, 0, none⟩), Value.pointer (some ⟨b34_p0, 0, none⟩), Value.int .i64 a0.sides.2.counts.Good, Value.int .i64 a0.sides.2.counts.Bad, Value.int .i64 a0.sides.2.counts.Aborts, Value.int .i64 a0.sides.2.counts.Runts, Value.int .i64 a0.sides.2.counts.Giants, Value.int .i64 a0.sides.2.counts.Dropped, Value.int .i64 a0.sides.2.counts.Twins]), (36, Value.int .i64 (1))] ⟨rfl, rfl, rfl, rfl, trivial⟩ ?_)))))))
   refine V.seq (V.region (W.r (X.cmp true (by decide) rfl rfl rfl) rfl (W.nx (V.seq (V.condT rfl (V.skip (At.next (V.seq (V.block (V.seq (V.region (W.mv rfl (W.r (X.ixK (Value.agg #[Value.pointer (some ⟨b32_p0, 0, none⟩), Value.pointer (some ⟨b33_p0, 0, none⟩), Value.pointer (some ⟨b34_p0, 0, none⟩), Value.int .i64 a0.sides.2.counts.Good, Value.int .i64 a0.sides.2.counts.Bad, Value.int .i64 a0.sides.2.counts.Aborts, Value.int .i64 a0.sides.2.counts.Runts, Value.int .i64 a0.sides.2.counts.Giants, Value.int .i64 a0.sides.2.counts.Dropped, Value.int .i64 a0.sides.2.counts.Twins]) rfl rfl (fun _ => by kernel_rfl)) rfl (W.e (Y.alloc (z := Value.agg (#[Value.pointer none, Value.pointer none, Value.pointer none, Value.int .i64 (0), Value.int .i64 (0), Value.int .i64 (0), Value.int .i64 (0), Value.int .i64 (0), Value.int .i64 (0), Value.int .i64 (0)])) HS ze84) rfl ?_))))))))))))))
   rintro _ w ⟨nb38, rfl, HS⟩
   refine W.as rfl (W.en (Y.storeSt (c' := #[Value.pointer (some ⟨b32_p0, 0, none⟩), Value.pointer (some ⟨b33_p0, 0, none⟩), Value.pointer (some ⟨b34_p0, 0, none⟩), Value.int .i64 a0.sides.2.counts.Good, Value.int .i64 a0.sides.2.counts.Bad, Value.int .i64 a0.sides.2.counts.Aborts, Value.int .i64 a0.sides.2.counts.Runts, Value.int .i64 a0.sides.2.counts.Giants, Value.int .i64 a0.sides.2.counts.Dropped, Value.int .i64 a0.sides.2.counts.Twins]) 0 [Value.pointer (some ⟨b32_p0, 0, none⟩), Value.pointer (some ⟨b33_p0, 0, none⟩), Value.pointer (some ⟨b34_p0, 0, none⟩), Value.int .i64 a0.sides.2.counts.Good, Value.int .i64 a0.sides.2.counts.Bad, Value.int .i64 a0.sides.2.counts.Aborts, Value.int .i64 a0.sides.2.counts.Runts, Value.int .i64 a0.sides.2.counts.Giants, Value.int .i64 a0.sides.2.counts.Dropped, Value.int .i64 a0.sides.2.counts.Twins] HS rfl inf84 rfl rfl rfl rfl rfl rfl) rfl ?_)
   rintro _ w HS
   refine W.nx (V.region (W.mv rfl (W.fa fo84_1 rfl (W.ld 0 HS Tryz.underlying81 rfl rfl rfl rfl ?_))))
   replace HS := HS.fr 19
   obtain ⟨b3_39, hi40, HS⟩ := monitor_Monitor.open HS
   obtain ⟨t41, A42, H⟩ := bind_s H
   refine W.e (Y.cl Tryz.func51 (monitor_Monitor_State.calls A42 HS.j2)) rfl ?_
   rintro _ w ⟨rfl, HS⟩
   replace HS := HS.o2
   refine W.fa fo35_2 rfl (W.r (X.indexArK 1 rfl Tryz.underlying33 inf3 rfl rfl (by decide) (by decide)) rfl (W.st 6 3 HS inf3 rfl rfl rfl rfl rfl rfl fun w HS => ?_))
   refine W.nil (At.blockEnd (At.next (V.region (W.r (X.add rfl rfl) rfl (W.mv rfl (W.nil (At.onward [(2, Value.pointer (some ⟨nb1, 0, none⟩)), (3, Value.pointer (some ⟨nb13, 0, none⟩)), (35, Value.agg #[Value.pointer (some ⟨b22_p0, 0, none⟩), Value.pointer (some ⟨b23_p0, 0, none⟩), Value.pointer (some ⟨b24_p0, 0, none⟩), Value.int .i64 a0.sides.1.counts.Good, Value.int .i64 a0.sides.1.counts.Bad, Value.int .i64 a0.sides.1.counts.Aborts, Value.int .i64 a0.sides.1.counts.Runts, Value.int .i64 a0.sides.1.counts.Giants, Value.int .i64 a0.sides.1.counts.Dropped, Value.int .i64 a0.sides.1.counts.Twins, Value.pointer (some ⟨b32_p0, 0, none⟩), Value.pointer (some ⟨b33_p0, 0, none⟩), Value.pointer (some ⟨b34_p0, 0, none⟩), Value.int .i64 a0.sides.2.counts.Good, Value.int .i64 a0.sides.2.counts.Bad, Value.int .i64 a0.sides.2.counts.Aborts, Value.int .i64 a0.sides.2.counts.Runts, Value.int .i64 a0.sides.2.counts.Giants, Value.int .i64 a0.sides.2.counts.Dropped, Value.int .i64 a0.sides.2.counts.Twins]), (36, Value.int .i64 (2))] ⟨rfl, rfl, rfl, rfl, trivial⟩ ?_)))))))
   refine V.seq (V.region (W.r (X.cmp false (by decide) rfl rfl rfl) rfl (W.nx (V.seq (V.condF rfl (V.exit (At.thenExit (At.thenExit (At.blockExit (At.next (V.seq (V.region (W.r (X.loadSt 6 [Value.int .i64 x17.State, Value.int .i64 x17.Line, Value.int .i64 t34, Value.int .i64 t41, Value.int .i64 t21.1, Value.int .i64 t21.2.1, Value.int .i64 t21.2.2] HS rfl Tryz.underlying35 rfl inf35 rfl rfl) rfl ?_)))))))))))))
   replace HS := HS.fr 14
   obtain ⟨hi46, HS⟩ := api_Status.open HS
   refine W.en (Y.storeSt (c' := #[Value.int .i64 x17.State, Value.int .i64 x17.Line, Value.int .i64 t34, Value.int .i64 t41, Value.int .i64 t21.1, Value.int .i64 t21.2.1, Value.int .i64 t21.2.2]) 0 [Value.int .i64 x17.State, Value.int .i64 x17.Line, Value.int .i64 t34, Value.int .i64 t41, Value.int .i64 t21.1, Value.int .i64 t21.2.1, Value.int .i64 t21.2.2] HS rfl inf35 rfl rfl rfl rfl rfl rfl) rfl ?_
   rintro _ w HS
   refine W.nx (V.ret ?_)
   have hv47 := run_loadSt (P := Tryz.prog) (p := 0) 0 [Value.int .i64 x17.State, Value.int .i64 x17.Line, Value.int .i64 t34, Value.int .i64 t41, Value.int .i64 t21.1, Value.int .i64 t21.2.1, Value.int .i64 t21.2.2] HS rfl Tryz.underlying35 rfl inf35 rfl
   replace HS := HS.pm [8, 9, 10, 11, 12, 13, 14, 0, 1, 2, 3, 4, 5, 6, 7, 15, 16, 17, 18, 19, 20, 21, 22]
   replace HS := arq_Arq.close trivial HS
   replace HS := HS.pm [5, 6, 0, 1, 2, 3, 4, 7, 8, 9, 10, 11, 12, 13, 14, 15, 16]
   replace HS := monitor_Monitor.close trivial HS
   replace HS := HS.pm [3, 4, 0, 1, 2, 5, 6, 7, 8, 9, 10, 11, 12, 13, 14, 15]
   replace HS := monitor_Monitor.close trivial HS
   replace HS := HS.pk [7, 2, 8, 9, 10, 1, 11, 12, 0, 13, 14] [3, 4, 5, 6]
   cases H
   exact At.retv1 rfl ⟨_, rfl, hv47⟩ ⟨_, rfl, rfl, HS⟩
def station_has.f (a0 : Int) : Option Bool := (if a0 ≥ 0 then some (decide (a0 < 2)) else some false)
theorem station_has.calls {a0 : Int} {R : As} {w0 w : World}  {r : Bool} (H : station_has.f a0 = some r) (HS : Sep.St [R] w0 w)  : Calls Tryz.prog 61 #[Value.int .i64 a0] w (Ret fun u w => u = Value.bool r ∧ Sep.St [R] w0 w) := by
 unfold station_has.f at H
 refine calls_enter Tryz.func61 rfl rfl ?_
 have H : _ = some r := H
 refine V.seq (V.region (W.as rfl (W.nx (V.seq (V.region (W.mv rfl (W.r (X.cmp (decide (a0 ≥ 0)) rfl rfl rfl rfl) rfl (W.mv rfl ?_))))))))
 by_cases c1 : a0 ≥ 0
 ·replace H := ite_t c1 H
  refine W.want 5 rfl (sb (decide_eq_true c1)) (W.mv rfl (W.want 5 rfl (sb (decide_eq_true c1)) (W.r (X.cmp (decide (a0 < 2)) rfl rfl rfl rfl) rfl (W.r (X.pickT (sb (decide_eq_true c1)) rfl) rfl (W.as rfl (W.nx (V.ret ?_)))))))
  cases H
  exact At.ret1 rfl rfl ⟨_, rfl, rfl, HS⟩
 ·replace H := ite_f c1 H
  refine W.pass 5 rfl (sb (decide_eq_false c1)) rfl rfl (W.pass 5 rfl (sb (decide_eq_false c1)) rfl rfl (W.r (X.pickF (sb (decide_eq_false c1)) rfl) rfl (W.as rfl (W.nx (V.ret ?_)))))
  cases H
  exact At.ret1 rfl rfl ⟨_, rfl, rfl, HS⟩
def slices_Delete_Sbytebyte.f (a0 : List Int) (a1 : Int) (a2 : Int) : Option (List Int) := (if 0 ≤ a1 ∧ a1 ≤ a2 ∧ a2 ≤ (a0.length : Int) then (if a1 = a2 then some a0 else (if 0 ≤ (0 : Int) ∧ (0 : Int) ≤ a1 ∧ a1 ≤ (a0.length : Int) then (if 0 ≤ a2 ∧ a2 ≤ (a0.length : Int) ∧ (a0.length : Int) ≤ (a0.length : Int) then some ((cut a0 (0 : Int) a1) ++ (cut a0 a2 (a0.length : Int))) else none) else none)) else none)
theorem slices_Delete_Sbytebyte.calls {a0 : List Int} {a1 : Int} {a2 : Int} {R : As} {w0 w : World} {sa0 : Option Addr} {sc0 : Nat} {r : List Int} (H : slices_Delete_Sbytebyte.f a0 a1 a2 = some r) (HS : Sep.St [row 5 1 (.slice sa0 a0.length sc0) a0.length (a0.map (Value.int .u8)), R] w0 w)  : Calls Tryz.prog 143 #[Value.slice sa0 a0.length sc0, Value.int .i64 a1, Value.int .i64 a2] w (Ret fun u w => ∃ (aq0 : Option Addr) (cq0 : Nat), u = Value.slice aq0 r.length cq0 ∧ Sep.St [row 5 1 (.slice aq0 r.length cq0) r.length (r.map (Value.int .u8)), R] w0 w) := by
 unfold slices_Delete_Sbytebyte.f at H
 refine calls_enter Tryz.func143 rfl rfl ?_
 have H : _ = some r := H
 refine V.seq (V.region (W.as rfl (W.nx (V.seq (V.region (W.mv rfl (W.mv rfl (W.mv rfl (W.mv rfl (W.r (X.lenSl Tryz.underlying32 rfl) rfl ?_))))))))))
 obtain ⟨c1, H⟩ := ite_n H
 refine W.r (X.sl3 Tryz.underlying32 inf5 rfl rfl rfl rfl c1 (Int.ofNat_le.2 (rdC.at 0 row_rd HS rfl).cap)) rfl (W.nx (V.seq (V.seq (V.region (W.mv rfl (W.mv rfl (W.r (X.cmp (decide (a1 = a2)) rfl rfl rfl rfl) rfl (W.nx ?_))))))))
 by_cases c3 : a1 = a2
 ·replace H := ite_t c3 H
  refine V.condT (sb (decide_eq_true c3)) (V.seq (V.region (W.mv rfl (W.as rfl (W.nx (V.ret (At.thenRet ?_)))))))
  cases H
  exact At.ret1 rfl rfl ⟨_, rfl, sa0, sc0, rfl, HS⟩
 ·replace H := ite_f c3 H
  refine V.condF (sb (decide_eq_false c3)) (V.skip (At.next (V.seq (V.region (W.mv rfl (W.r (X.lenSl Tryz.underlying32 rfl) rfl (W.as rfl (W.nx (V.seq ?_)))))))))
  obtain ⟨c4, H⟩ := ite_n H
  obtain ⟨c5, H⟩ := ite_n H
  refine V.dr [6] [7] [(20, Value.slice sa0 a0.length sc0), (21, Value.int .i64 a1), (22, Value.slice (vaddr sa0 sc0 (0 : Int).toNat 1) (cut a0 (0 : Int) a1).length (sc0 - (0 : Int).toNat)), (23, Value.slice sa0 a0.length sc0), (24, Value.int .i64 a2), (25, Value.slice (vaddr sa0 sc0 a2.toNat 1) (cut a0 a2 (a0.length : Int)).length (sc0 - a2.toNat))] mo HS ?_
  refine T.ev [(22, _), (25, _)] [] [0, 1, 2, 3, 4, 5] ⟨rfl, rfl, trivial⟩ ⟨.mv 0, .mv 1, .n2 20 21 rfl rfl rfl (fun w HS => X.slH Tryz.underlying32 inf5 rfl rfl c4 (rdC.at 0 row_rd HS rfl).cap), .mv 0, .mv 2, .n2 23 24 rfl rfl rfl (fun w HS => X.slL Tryz.underlying32 inf5 rfl rfl c5), trivial⟩ rfl (fun w HS => ?_)
  have hlt6 : a1 < a2 := by omega
  have hd7 : 0 ≤ a1 ∧ a1 < a2 ∧ a2 ≤ (a0.length : Int) := by omega
  have hc8 : (a0.length : Int) ≤ (sc0 : Int) := Int.ofNat_le.2 (rdC.at 0 row_rd HS rfl).cap
  have hl9 : (((cut a0 (0 : Int) a1) ++ (cut a0 a2 (a0.length : Int))).length : Int) ≤ (a0.length : Int) := by rw [List.length_append, cut_len ⟨by omega, by omega, by omega⟩, cut_len ⟨by omega, by omega, by omega⟩]; omega
  refine ⟨_, Y.appDelF (Value.int .u8) (fun _ => rfl) 0 Tryz.underlying32 ap5 HS rfl hd7 rfl rfl, ?_⟩
  rintro _ w ⟨rfl, HS⟩
  refine T.nm [(26, Value.slice sa0 ((cut a0 (0 : Int) a1) ++ (cut a0 a2 (a0.length : Int))).length sc0), (0, Value.slice sa0 ((cut a0 (0 : Int) a1) ++ (cut a0 a2 (a0.length : Int))).length sc0)] HS ⟨.inl ⟨rfl, rfl⟩, ⟨.inr ⟨by decide, rfl⟩, trivial⟩⟩ ?_
  refine T.fn [(0, _), (7, _)] ⟨rfl, rfl, trivial⟩ ⟨.as 26, trivial⟩ (fun w HS => ?_)
  refine At.next (V.seq (V.region (W.mv rfl (W.mv rfl (W.r (X.lenSl Tryz.underlying32 rfl) rfl (W.mv rfl (W.r (X.slC Tryz.underlying32 inf5 rfl rfl rfl ⟨by omega, hl9⟩ hc8) rfl (W.en (Y.clearTail (n0 := a0.length) 0 Tryz.underlying32 ap5 rfl rfl HS rfl (Int.ofNat_le.1 hl9) (Int.ofNat_le.1 hc8) rfl) rfl ?_))))))))
  rintro _ w HS
  refine W.nx (V.seq (V.region (W.mv rfl (W.as rfl (W.nx (V.ret ?_))))))
  cases H
  exact At.ret1 rfl rfl ⟨_, rfl, sa0, sc0, rfl, HS⟩
mutual
def ring_Ring_passed.l0 : Nat → Int → ring_Ring → Option ring_Ring
 | 0, _, _ => none
 | k + 1, x2, x3 => (if x2 > 0 then (if x3.begun = 0 then (if 0 ≤ (0 : Int) ∧ (0 : Int) < (x3.pieces.length : Int) then (if 0 ≤ (1 : Int) ∧ (1 : Int) ≤ (x3.pieces.length : Int) ∧ (x3.pieces.length : Int) ≤ (x3.pieces.length : Int) then (ring_Ring_passed.l0 k (w64 (x2 - (imin x2 (x3.pieces.getD (0 : Int).toNat 0)))) ({ x3 with begun := w64 ((x3.pieces.getD (0 : Int).toNat 0) - (imin x2 (x3.pieces.getD (0 : Int).toNat 0))), pieces := cut x3.pieces (1 : Int) (x3.pieces.length : Int) } : ring_Ring)) else none) else none) else (ring_Ring_passed.l0 k (w64 (x2 - (imin x2 x3.begun))) ({ x3 with begun := w64 (x3.begun - (imin x2 x3.begun)) } : ring_Ring))) else some x3)
end
def ring_Ring_passed.f (k : Nat) (a0 : ring_Ring) (a1 : Int) : Option ring_Ring := (ring_Ring_passed.l0 k a1 a0)
theorem ring_Ring_passed.calls {k : Nat} {a0 : ring_Ring} {a1 : Int} {R : As} {w0 w : World} {b0 : Nat} {r : ring_Ring} (H : ring_Ring_passed.f k a0 a1 = some r) (HS : Sep.St [ring_Ring.at b0 a0, R] w0 w)  : Calls Tryz.prog 144 #[Value.pointer (some ⟨b0, 0, none⟩), Value.int .i64 a1] w (Ret fun u w => u = Value.tuple #[] ∧ Sep.St [ring_Ring.at b0 r, R] w0 w) := by
 unfold ring_Ring_passed.f at H
 refine calls_enter Tryz.func144 rfl rfl ?_
 have H : _ = some r := H
 refine V.block (V.loop (σ := Int × ring_Ring) (fun kq (st : Int × ring_Ring) w => match st with | (x2, x3) => Sep.St [ring_Ring.at b0 x3, R] w0 w ∧ ring_Ring_passed.l0 kq x2 x3 = some r ∧ kq ≤ k) (fun st => match st with | (x2, x3) => [(0, Value.pointer (some ⟨b0, 0, none⟩)), (1, Value.int .i64 x2)]) k (a1, a0) ⟨rfl, rfl, trivial⟩ ⟨HS, H, Nat.le_refl _⟩ ?_)
 rintro kq4 ⟨x2, x3⟩ w ⟨HS, H, hk5⟩
 cases kq4 with
 | zero => exact absurd H (by simp [ring_Ring_passed.l0])
 | succ kq4 =>
  simp only [ring_Ring_passed.l0] at H
  refine V.seq (V.seq (V.region (W.mv rfl (W.r (X.cmp (decide (x2 > 0)) rfl rfl rfl rfl) rfl (W.nx ?_)))))
  by_cases c6 : x2 > 0
  ·replace H := ite_t c6 H
   refine V.condT (sb (decide_eq_true c6)) (V.skip (At.next (V.block (V.seq (V.seq (V.region (W.mv rfl (W.nc rfl ?_))))))))
   obtain ⟨a1_7, c1_7, a3_7, c3_7, hi8, HS⟩ := ring_Ring.open HS
   refine W.fa fo149_2 rfl (W.ld 0 HS Tryz.underlying3 rfl rfl rfl rfl (W.r (X.cmp (decide (x3.begun = 0)) rfl rfl rfl rfl) rfl (W.nx ?_)))
   by_cases c9 : x3.begun = 0
   ·replace H := ite_t c9 H
    refine V.condT (sb (decide_eq_true c9)) (V.seq (V.region (W.mv rfl (W.mv rfl (W.nc rfl (W.fa fo149_3 rfl (W.ld 0 HS Tryz.underlying48 rfl rfl rfl rfl ?_)))))))
    obtain ⟨c10, H⟩ := ite_n H
    obtain ⟨eb11, eo12, hh⟩ := (rdC.at 2 row_rd HS rfl).some (by decide) c10.1 c10.2; subst hh
    refine W.r (X.indexSl Tryz.underlying48 inf3 rfl rfl c10.1 c10.2) rfl (W.r (X.load Tryz.underlying3 rfl rfl ((rdC.at 2 row_rd HS rfl).cellI c10.1 c10.2)) rfl (W.nc rfl (W.fa fo149_2 rfl (W.st 0 2 HS inf3 rfl rfl rfl rfl rfl rfl fun w HS => ?_))))
    refine W.nx (V.region (W.mv rfl (W.mv rfl (W.nc rfl (W.fa fo149_3 rfl (W.ld 0 HS Tryz.underlying48 rfl rfl rfl rfl ?_))))))
    obtain ⟨c13, H⟩ := ite_n H
    refine W.r (X.slL Tryz.underlying48 inf3 rfl rfl c13) rfl (W.nc rfl (W.fa fo149_3 rfl (W.st 0 3 HS inf48 rfl rfl rfl rfl rfl rfl fun w HS => ?_)))
    refine W.nx (V.seq (V.region (W.mv rfl (W.mv rfl (W.nc rfl (W.fa fo149_2 rfl (W.ld 0 HS Tryz.underlying3 rfl rfl rfl rfl (W.r (X.min2 rfl rfl) rfl (W.as rfl (W.nx (V.seq (V.region (W.mv rfl (W.nc rfl (W.fa fo149_2 rfl (W.ld 0 HS Tryz.underlying3 rfl rfl rfl rfl (W.mv rfl (W.r (X.sub rfl rfl) rfl (W.nc rfl (W.fa fo149_2 rfl (W.st 0 2 HS inf3 rfl rfl rfl rfl rfl rfl fun w HS => ?_)))))))))))))))))))))
    refine W.nx (V.region (W.mv rfl (W.mv rfl (W.r (X.sub rfl rfl) rfl (W.as rfl (W.nil (At.blockEnd ?_)))))))
    replace HS := HS.fr 2
    replace HS := St.row_subM HS c13
    replace HS := HS.pm [1, 2, 0, 3]
    replace HS := ring_Ring.close trivial HS
    exact At.round kq4 (by omega) (w64 (x2 - (imin x2 (x3.pieces.getD (0 : Int).toNat 0))), ({ x3 with begun := w64 ((x3.pieces.getD (0 : Int).toNat 0) - (imin x2 (x3.pieces.getD (0 : Int).toNat 0))), pieces := cut x3.pieces (1 : Int) (x3.pieces.length : Int) } : ring_Ring)) ⟨rfl, rfl, trivial⟩ ⟨HS, H, by omega⟩
   ·replace H := ite_f c9 H
    refine V.condF (sb (decide_eq_false c9)) (V.skip (At.next (V.seq (V.region (W.mv rfl (W.mv rfl (W.nc rfl (W.fa fo149_2 rfl (W.ld 0 HS Tryz.underlying3 rfl rfl rfl rfl (W.r (X.min2 rfl rfl) rfl (W.as rfl (W.nx (V.seq (V.region (W.mv rfl (W.nc rfl (W.fa fo149_2 rfl (W.ld 0 HS Tryz.underlying3 rfl rfl rfl rfl (W.mv rfl (W.r (X.sub rfl rfl) rfl (W.nc rfl (W.fa fo149_2 rfl (W.st 0 2 HS inf3 rfl rfl rfl rfl rfl rfl fun w HS => ?_)))))))))))))))))))))))
    refine W.nx (V.region (W.mv rfl (W.mv rfl (W.r (X.sub rfl rfl) rfl (W.as rfl (W.nil (At.blockEnd ?_)))))))
    replace HS := ring_Ring.close trivial HS
    exact At.round kq4 (by omega) (w64 (x2 - (imin x2 x3.begun)), ({ x3 with begun := w64 (x3.begun - (imin x2 x3.begun)) } : ring_Ring)) ⟨rfl, rfl, trivial⟩ ⟨HS, H, by omega⟩
  ·replace H := ite_f c6 H
   refine V.condF (sb (decide_eq_false c6)) (V.exit (At.thenExit (At.thenExit (At.blockExit ?_))))
   cases H
   exact At.end0 rfl ⟨_, rfl, rfl, HS⟩
def ring_Ring_Take.f (k : Nat) (a0 : ring_Ring) (a1 : Int) : Option (List Int × ring_Ring) := (if 0 ≤ (0 : Int) ∧ (0 : Int) ≤ imax (0) (imin a1 (a0.b.length : Int)) ∧ imax (0) (imin a1 (a0.b.length : Int)) ≤ (a0.b.length : Int) then ((slices_Clone_Sbytebyte.f (cut a0.b (0 : Int) (imax (0) (imin a1 (a0.b.length : Int))))).bind fun t4 => ((slices_Delete_Sbytebyte.f a0.b 0 (imax (0) (imin a1 (a0.b.length : Int)))).bind fun t6 => ((ring_Ring_passed.f k ({ a0 with b := t6 } : ring_Ring) (imax (0) (imin a1 (a0.b.length : Int)))).bind fun t8 => some (t4, t8)))) else none)
theorem ring_Ring_Take.calls {k : Nat} {a0 : ring_Ring} {a1 : Int} {R : As} {w0 w : World} {b0 : Nat} {r : List Int × ring_Ring} (H : ring_Ring_Take.f k a0 a1 = some r) (HS : Sep.St [ring_Ring.at b0 a0, R] w0 w)  : Calls Tryz.prog 69 #[Value.pointer (some ⟨b0, 0, none⟩), Value.int .i64 a1] w (Ret fun u w => ∃ (aq0 : Option Addr) (cq0 : Nat), u = Value.slice aq0 r.1.length cq0 ∧ Sep.St [row 5 1 (.slice aq0 r.1.length cq0) r.1.length (r.1.map (Value.int .u8)), ring_Ring.at b0 r.2, R] w0 w) := by
 unfold ring_Ring_Take.f at H
 refine calls_enter Tryz.func69 rfl rfl ?_
 have H : _ = some r := H
 refine V.seq (V.region (W.as rfl (W.nx (V.seq (V.region (W.mv rfl (W.mv rfl (W.nc rfl ?_))))))))
 obtain ⟨a1_1, c1_1, a3_1, c3_1, hi2, HS⟩ := ring_Ring.open HS
 refine W.fa fo149_1 rfl (W.ld 0 HS Tryz.underlying32 rfl rfl rfl rfl (W.r (X.lenSl Tryz.underlying32 rfl) rfl (W.r (X.min2 rfl rfl) rfl (W.r (X.max2 rfl rfl) rfl (W.as rfl (W.nx (V.seq (V.region (W.mv rfl (W.nc rfl (W.fa fo149_1 rfl (W.ld 0 HS Tryz.underlying32 rfl rfl rfl rfl (W.mv rfl ?_)))))))))))))
 obtain ⟨c3, H⟩ := ite_n H
 refine W.r (X.slH Tryz.underlying32 inf5 rfl rfl c3 (rdC.at 1 row_rd HS rfl).cap) rfl ?_
 obtain ⟨t4, A5, H⟩ := bind_s H
 refine W.e (Y.cl Tryz.func130 (slices_Clone_Sbytebyte.calls A5 HS.j0 (rdC.part 1 (rdC.subM row_rd c3) rfl))) rfl ?_
 rintro _ w ⟨at4_0, ct4_0, rfl, HS⟩
 replace HS := HS.o1
 refine W.as rfl (W.nx (V.seq (V.region (W.mv rfl (W.mv rfl (W.nc rfl (W.fa fo149_1 rfl (W.ld 1 HS Tryz.underlying32 rfl rfl rfl rfl (W.mv rfl ?_)))))))))
 obtain ⟨t6, A7, H⟩ := bind_s H
 replace HS := HS.pm [2, 0, 1, 3, 4]
 refine W.e (Y.cl Tryz.func143 (slices_Delete_Sbytebyte.calls A7 HS.j1)) rfl ?_
 rintro _ w ⟨at6_0, ct6_0, rfl, HS⟩
 replace HS := HS.o1
 refine W.nc rfl (W.fa fo149_1 rfl (W.st 2 1 HS inf32 rfl rfl rfl rfl rfl rfl fun w HS => ?_))
 refine W.nx (V.seq (V.region (W.mv rfl (W.mv rfl ?_))))
 replace HS := HS.pm [2, 0, 3, 1, 4]
 replace HS := ring_Ring.close trivial HS
 obtain ⟨t8, A9, H⟩ := bind_s H
 refine W.e (Y.cl Tryz.func144 (ring_Ring_passed.calls A9 HS.j1)) rfl ?_
 rintro _ w ⟨rfl, HS⟩
 replace HS := HS.o1
 refine W.nx (V.seq (V.region (W.mv rfl (W.as rfl (W.nx (V.ret ?_))))))
 replace HS := HS.pk [1, 0, 2] []
 cases H
 exact At.ret1 rfl rfl ⟨_, rfl, at4_0, ct4_0, rfl, HS⟩
def station_Station_Take.f (k : Nat) (a0 : station_Station) (a1 : Int) (a2 : Int) : Option (List Int × station_Station) := ((station_has.f a1).bind fun t2 => (if t2 = true then (if 0 ≤ a1 ∧ a1 < 2 then (if a1 = 0 then ((ring_Ring_Take.f k a0.sides.1.ring a2).bind fun t9 => some (t9.1, ({ a0 with sides := (({ a0.sides.1 with ring := t9.2 } : station_side), a0.sides.2) } : station_Station))) else ((ring_Ring_Take.f k a0.sides.2.ring a2).bind fun t12 => some (t12.1, ({ a0 with sides := (a0.sides.1, ({ a0.sides.2 with ring := t12.2 } : station_side)) } : station_Station)))) else none) else some (([] : List Int), a0)))
theorem station_Station_Take.calls {k : Nat} {a0 : station_Station} {a1 : Int} {a2 : Int} {R : As} {w0 w : World} {b0 : Nat} {r : List Int × station_Station} (H : station_Station_Take.f k a0 a1 a2 = some r) (HS : Sep.St [station_Station.at b0 a0, R] w0 w)  : Calls Tryz.prog 18 #[Value.pointer (some ⟨b0, 0, none⟩), Value.int .i64 a1, Value.int .i64 a2] w (Ret fun u w => ∃ (aq0 : Option Addr) (cq0 : Nat), u = Value.slice aq0 r.1.length cq0 ∧ Sep.St [row 5 1 (.slice aq0 r.1.length cq0) r.1.length (r.1.map (Value.int .u8)), station_Station.at b0 r.2, R] w0 w) := by
 unfold station_Station_Take.f at H
 refine calls_enter Tryz.func18 rfl rfl ?_
 have H : _ = some r := H
 refine V.seq (V.region (W.as rfl (W.nx (V.seq (V.seq (V.region (W.mv rfl ?_)))))))
 obtain ⟨t2, A3, H⟩ := bind_s H
 refine W.e (Y.cl Tryz.func61 (station_has.calls A3 HS.j0)) rfl ?_
 rintro _ w ⟨rfl, HS⟩
 replace HS := HS.o0
 refine W.r (X.not rfl) rfl (W.nx ?_)
 by_cases c4 : t2 = true
 ·replace H := ite_t c4 H
  refine V.condF (sb (n_t c4)) (V.skip (At.next (V.seq (V.region (W.mv rfl (W.mv rfl (W.nc rfl ?_)))))))
  obtain ⟨b16_5, b17_5, b18_5, b22_5, b23_5, b24_5, b32_5, b33_5, b34_5, hi6, HS⟩ := station_Station.open HS
  refine W.fa fo87_7 rfl ?_
  obtain ⟨c7, H⟩ := ite_n H
  by_cases c8 : a1 = 0
  ·replace H := ite_t c8 H
   refine W.r (X.indexArK 0 c8 Tryz.underlying85 inf84 rfl rfl c7.1 c7.2) rfl (W.fa fo84_2 rfl (W.ld 0 HS Tryz.underlying82 rfl rfl rfl rfl (W.mv rfl ?_)))
   obtain ⟨t9, A10, H⟩ := bind_s H
   replace HS := HS.pm [6, 0, 1, 2, 3, 4, 5, 7, 8, 9, 10]
   refine W.e (Y.cl Tryz.func69 (ring_Ring_Take.calls A10 HS.j1)) rfl ?_
   rintro _ w ⟨at9_0, ct9_0, rfl, HS⟩
   replace HS := HS.o2
   refine W.as rfl (W.nx (V.ret ?_))
   replace HS := HS.pm [2, 3, 4, 5, 6, 7, 1, 8, 9, 10, 0, 11]
   replace HS := station_Station.close trivial HS
   replace HS := HS.pk [1, 0, 2] []
   cases H
   exact At.ret1 rfl rfl ⟨_, rfl, at9_0, ct9_0, rfl, HS⟩
  ·replace H := ite_f c8 H
   have hk11 : a1 = 1 := by omega
   refine W.r (X.indexArK 1 hk11 Tryz.underlying85 inf84 rfl rfl c7.1 c7.2) rfl (W.fa fo84_2 rfl (W.ld 0 HS Tryz.underlying82 rfl rfl rfl rfl (W.mv rfl ?_)))
   obtain ⟨t12, A13, H⟩ := bind_s H
   replace HS := HS.pm [9, 0, 1, 2, 3, 4, 5, 6, 7, 8, 10]
   refine W.e (Y.cl Tryz.func69 (ring_Ring_Take.calls A13 HS.j1)) rfl ?_
   rintro _ w ⟨at12_0, ct12_0, rfl, HS⟩
   replace HS := HS.o2
   refine W.as rfl (W.nx (V.ret ?_))
   replace HS := HS.pm [2, 3, 4, 5, 6, 7, 8, 9, 10, 1, 0, 11]
   replace HS := station_Station.close trivial HS
   replace HS := HS.pk [1, 0, 2] []
   cases H
   exact At.ret1 rfl rfl ⟨_, rfl, at12_0, ct12_0, rfl, HS⟩
 ·replace H := ite_f c4 H
  refine V.condT (sb (n_f (b_f c4))) (V.seq (V.region (W.as rfl (W.nx (V.ret (At.thenRet ?_))))))
  replace HS := row_nilF (Value.int .u8) 5 1 HS
  cases H
  exact At.ret1 rfl rfl ⟨_, rfl, none, 0, rfl, HS⟩
mutual
def signalmanlaw20_alive.j0  : Option Bool := some false
def signalmanlaw20_alive.j1 (k : Nat) (t3 : Option station_Station × Int) (t3 : Option station_Station × Int) (t3 : Option station_Station × Int) (x15 : Bool) : Option Bool := (if x15 = true then some false else ((station_Station_Connect.f k (t3.1.getD default)).bind fun t18 => ((station_Station_Step.f k t18.2).bind fun t20 => ((signalmanlaw20_num.f t18.1).bind fun t23 => (if t23 = 0 then ((station_Station_Status.f t20.2).bind fun t28 => (if t28.State = 1 then (if (t20.1.1.length : Int) = 1 then (if (t20.1.2.length : Int) = 1 then ((station_Station_Take.f k t20.2 0 100).bind fun t33 => some (decide ((t33.1.length : Int) > 0))) else some false) else some false) else some false)) else some false)))))
end
def signalmanlaw20_alive.f (k : Nat)  : Option Bool := ((signalmanlaw20_Good.f 0 3 10 false false).bind fun t1 => ((station_New.f k t1).bind fun t3 => (if t3.1.isNone = true then ((signalmanlaw20_num.f t3.2).bind fun t9 => (if t9 = 0 then signalmanlaw20_alive.j0 else signalmanlaw20_alive.j0)) else ((signalmanlaw20_num.f t3.2).bind fun t35 => (if t35 = 0 then (signalmanlaw20_alive.j1 k t3 t3 t3 false) else (signalmanlaw20_alive.j1 k t3 t3 t3 true))))))
theorem signalmanlaw20_alive.calls {k : Nat}  {R : As} {w0 w : World}  {r : Bool} (H : signalmanlaw20_alive.f k  = some r) (HS : Sep.St [R] w0 w)  : Calls Tryz.prog 8 #[] w (Ret fun u w => u = Value.bool r ∧ Sep.St [R] w0 w) := by
 unfold signalmanlaw20_alive.f at H
 refine calls_enter Tryz.func8 rfl rfl ?_
 have H : _ = some r := H
 refine V.seq (V.region (W.as rfl (W.nx (V.seq (V.region ?_)))))
 obtain ⟨t1, A2, H⟩ := bind_s H
 refine W.e (Y.cl Tryz.func10 (signalmanlaw20_Good.calls A2 HS.j0)) rfl ?_
 rintro _ w ⟨rfl, HS⟩
 replace HS := HS.o0
 obtain ⟨t3, A4, H⟩ := bind_s H
 by_cases c5 : t3.1.isNone = true
 ·replace H := ite_t c5 H
  refine W.e (Y.cl Tryz.func9 (station_New.calls A4 HS.j0)) rfl ?_
  rintro _ w ⟨bt3_0, rfl, HS⟩
  replace HS := HS.o1
  replace HS := St.optN c5 HS
  rw [optv_n c5]
  refine W.mv rfl (W.r (X.extract rfl rfl) rfl (W.r (X.extract rfl rfl) rfl (W.as rfl (W.as rfl (W.nx (V.seq (V.meet (σ := Unit) (fun st w => match st with | _ => Sep.St [R] w0 w ∧ signalmanlaw20_alive.j0 = some r) (fun st => match st with | _ => [(1, Value.pointer none), (16, Value.bool true)]) ?_ ?_)))))))
  ·refine V.region (W.mv rfl ?_)
   obtain ⟨t9, A10, H⟩ := bind_s H
   refine W.e (Y.cl Tryz.func11 (signalmanlaw20_num.calls A10 HS.j0)) rfl ?_
   rintro _ w ⟨rfl, HS⟩
   replace HS := HS.o0
   refine W.r (X.cmp (!(decide (t9 = 0))) rfl rfl rfl rfl) rfl (W.mv rfl ?_)
   by_cases c11 : t9 = 0
   ·replace H := ite_t c11 H
    refine W.want 13 rfl (sb (n_t (decide_eq_true c11))) (W.mv rfl (W.want 13 rfl (sb (n_t (decide_eq_true c11))) (W.r (X.eqP Tryz.underlying23 rfl rfl) rfl (W.r (X.pickF (sb (n_t (decide_eq_true c11))) rfl) rfl (W.nil ?_)))))
    exact At.meet () ⟨rfl, rfl, trivial⟩ ⟨HS, H⟩
   ·replace H := ite_f c11 H
    refine W.pass 13 rfl (sb (n_f (decide_eq_false c11))) rfl rfl (W.pass 13 rfl (sb (n_f (decide_eq_false c11))) rfl rfl (W.r (X.pickT (sb (n_f (decide_eq_false c11))) rfl) rfl (W.nil ?_)))
    exact At.meet () ⟨rfl, rfl, trivial⟩ ⟨HS, H⟩
  ·rintro ⟨⟩ w ⟨HS, H⟩
   unfold signalmanlaw20_alive.j0 at H
   refine V.condT rfl (V.seq (V.region (W.as rfl (W.nx (V.ret (At.thenRet ?_))))))
   cases H
   exact At.ret1 rfl rfl ⟨_, rfl, rfl, HS⟩
 ·replace H := ite_f c5 H
  refine W.e (Y.cl Tryz.func9 (station_New.calls A4 HS.j0)) rfl ?_
  rintro _ w ⟨bt3_0, rfl, HS⟩
  replace HS := HS.o1
  replace HS := St.optS default c5 HS
  rw [optv_s c5]
  refine W.mv rfl (W.r (X.extract rfl rfl) rfl (W.r (X.extract rfl rfl) rfl (W.as rfl (W.as rfl (W.nx (V.seq (V.meet (σ := Bool) (fun st w => match st with | x15 => Sep.St [station_Station.at bt3_0 (t3.1.getD default), R] w0 w ∧ ∃ kf16, kf16 ≤ k ∧ signalmanlaw20_alive.j1 kf16 t3 t3 t3 x15 = some r) (fun st => match st with | x15 => [(1, Value.pointer (some ⟨bt3_0, 0, none⟩)), (16, Value.bool x15)]) ?_ ?_)))))))
  ·refine V.region (W.mv rfl ?_)
   obtain ⟨t35, A36, H⟩ := bind_s H
   refine W.e (Y.cl Tryz.func11 (signalmanlaw20_num.calls A36 HS.j0)) rfl ?_
   rintro _ w ⟨rfl, HS⟩
   replace HS := HS.o0
   refine W.r (X.cmp (!(decide (t35 = 0))) rfl rfl rfl rfl) rfl (W.mv rfl ?_)
   by_cases c37 : t35 = 0
   ·replace H := ite_t c37 H
    refine W.want 13 rfl (sb (n_t (decide_eq_true c37))) (W.mv rfl (W.want 13 rfl (sb (n_t (decide_eq_true c37))) (W.r (X.eqP Tryz.underlying23 rfl rfl) rfl (W.r (X.pickF (sb (n_t (decide_eq_true c37))) rfl) rfl (W.nil ?_)))))
    exact At.meet false ⟨rfl, rfl, trivial⟩ ⟨HS, k, by omega, H⟩
   ·replace H := ite_f c37 H
    refine W.pass 13 rfl (sb (n_f (decide_eq_false c37))) rfl rfl (W.pass 13 rfl (sb (n_f (decide_eq_false c37))) rfl rfl (W.r (X.pickT (sb (n_f (decide_eq_false c37))) rfl) rfl (W.nil ?_)))
    exact At.meet true ⟨rfl, rfl, trivial⟩ ⟨HS, k, by omega, H⟩
  ·rintro x15 w ⟨HS, kf16, hkkf16, H⟩
   unfold signalmanlaw20_alive.j1 at H
   by_cases c17 : x15 = true
   ·replace H := ite_t c17 H
    refine V.condT (sb c17) (V.seq (V.region (W.as rfl (W.nx (V.ret (At.thenRet ?_))))))
    replace HS := HS.pk [1] [0]
    cases H
    exact At.ret1 rfl rfl ⟨_, rfl, rfl, HS⟩
   ·replace H := ite_f c17 H
    refine V.condF (sb (b_f c17)) (V.skip (At.next (V.seq (V.region (W.mv rfl ?_)))))
    obtain ⟨t18, A19, H⟩ := bind_s H
    refine W.e (Y.cl Tryz.func21 (station_Station_Connect.calls A19 HS.j1)) rfl ?_
    rintro _ w ⟨rfl, HS⟩
    replace HS := HS.o1
    refine W.as rfl (W.nx (V.seq (V.region (W.mv rfl ?_))))
    obtain ⟨t20, A21, H⟩ := bind_s H
    refine W.e (Y.cl Tryz.func14 (station_Station_Step.calls A21 HS.j1)) rfl ?_
    rintro _ w ⟨at20_0_0, ct20_0_0, dt20_0_0, at20_0_1, ct20_0_1, dt20_0_1, rfl, HS⟩
    replace HS := HS.o5
    refine W.e (Y.alloc (z := Value.agg (#[Value.slice none 0 0, Value.slice none 0 0])) HS ze38) rfl ?_
    rintro _ w ⟨nb22, rfl, HS⟩
    refine W.en (Y.storeSt (c' := #[Value.slice at20_0_0 t20.1.1.length ct20_0_0, Value.slice at20_0_1 t20.1.2.length ct20_0_1]) 0 [Value.slice at20_0_0 t20.1.1.length ct20_0_0, Value.slice at20_0_1 t20.1.2.length ct20_0_1] HS rfl inf38 rfl rfl rfl rfl rfl rfl) rfl ?_
    rintro _ w HS
    refine W.nx (V.seq (V.region (W.mv rfl ?_)))
    obtain ⟨t23, A24, H⟩ := bind_s H
    refine W.e (Y.cl Tryz.func11 (signalmanlaw20_num.calls A24 HS.j0)) rfl ?_
    rintro _ w ⟨rfl, HS⟩
    replace HS := HS.o0
    refine W.r (X.cmp (decide (t23 = 0)) rfl rfl rfl rfl) rfl (W.mv rfl ?_)
    by_cases c25 : t23 = 0
    ·replace H := ite_t c25 H
     refine W.want 24 rfl (sb (decide_eq_true c25)) (W.mv rfl (W.want 24 rfl (sb (decide_eq_true c25)) ?_))
     replace HS := HS.fr 5
     obtain ⟨b16_26, b17_26, b18_26, b22_26, b23_26, b24_26, b32_26, b33_26, b34_26, hi27, HS⟩ := station_Station.open HS
     obtain ⟨t28, A29, H⟩ := bind_s H
     refine W.e (Y.cl Tryz.func13 (station_Station_Status.calls A29 HS.j10)) rfl ?_
     rintro _ w ⟨rfl, HS⟩
     replace HS := HS.o10
     refine W.want 24 rfl (sb (decide_eq_true c25)) (W.r (X.fdK (Value.int .i64 t28.State) rfl (fun _ => by kernel_rfl)) rfl (W.want 24 rfl (sb (decide_eq_true c25)) (W.r (X.cmp (decide (t28.State = 1)) rfl rfl rfl rfl) rfl (W.r (X.pickT (sb (decide_eq_true c25)) rfl) rfl (W.mv rfl ?_)))))
     by_cases c30 : t28.State = 1
     ·replace H := ite_t c30 H
      refine W.want 30 rfl (sb (decide_eq_true c30)) (W.r (X.indexArK 0 rfl Tryz.underlying38 inf37 rfl rfl (by decide) (by decide)) rfl (W.want 30 rfl (sb (decide_eq_true c30)) (W.ld 10 HS Tryz.underlying37 rfl rfl rfl rfl (W.want 30 rfl (sb (decide_eq_true c30)) (W.r (X.lenSl Tryz.underlying37 rfl) rfl (W.want 30 rfl (sb (decide_eq_true c30)) (W.r (X.cmp (decide ((t20.1.1.length : Int) = 1)) rfl rfl rfl rfl) rfl (W.r (X.pickT (sb (decide_eq_true c30)) rfl) rfl (W.mv rfl ?_)))))))))
      by_cases c31 : (t20.1.1.length : Int) = 1
      ·replace H := ite_t c31 H
       refine W.want 36 rfl (sb (decide_eq_true c31)) (W.r (X.indexArK 1 rfl Tryz.underlying38 inf37 rfl rfl (by decide) (by decide)) rfl (W.want 36 rfl (sb (decide_eq_true c31)) (W.ld 10 HS Tryz.underlying37 rfl rfl rfl rfl (W.want 36 rfl (sb (decide_eq_true c31)) (W.r (X.lenSl Tryz.underlying37 rfl) rfl (W.want 36 rfl (sb (decide_eq_true c31)) (W.r (X.cmp (decide ((t20.1.2.length : Int) = 1)) rfl rfl rfl rfl) rfl (W.r (X.pickT (sb (decide_eq_true c31)) rfl) rfl (W.mv rfl ?_)))))))))
       by_cases c32 : (t20.1.2.length : Int) = 1
       ·replace H := ite_t c32 H
        refine W.want 42 rfl (sb (decide_eq_true c32)) (W.mv rfl (W.want 42 rfl (sb (decide_eq_true c32)) ?_))
        replace HS := station_Station.close trivial HS
        obtain ⟨t33, A34, H⟩ := bind_s H
        refine W.e (Y.cl Tryz.func18 (station_Station_Take.calls A34 HS.j1)) rfl ?_
        rintro _ w ⟨at33_0, ct33_0, rfl, HS⟩
        replace HS := HS.o2
        refine W.want 42 rfl (sb (decide_eq_true c32)) (W.r (X.lenSl Tryz.underlying32 rfl) rfl (W.want 42 rfl (sb (decide_eq_true c32)) (W.r (X.cmp (decide ((t33.1.length : Int) > 0)) rfl rfl rfl rfl) rfl (W.r (X.pickT (sb (decide_eq_true c32)) rfl) rfl (W.as rfl (W.nx (V.ret ?_)))))))
        replace HS := HS.pk [7] [0, 1, 2, 3, 4, 5, 6]
        cases H
        exact At.ret1 rfl rfl ⟨_, rfl, rfl, HS⟩
       ·replace H := ite_f c32 H
        refine W.pass 42 rfl (sb (decide_eq_false c32)) rfl rfl (W.pass 42 rfl (sb (decide_eq_false c32)) rfl rfl (W.pass 42 rfl (sb (decide_eq_false c32)) rfl rfl (W.pass 42 rfl (sb (decide_eq_false c32)) rfl rfl (W.r (X.pickF (sb (decide_eq_false c32)) rfl) rfl (W.as rfl (W.nx (V.ret ?_)))))))
        replace HS := HS.pk [15] [0, 1, 2, 3, 4, 5, 6, 7, 8, 9, 10, 11, 12, 13, 14]
        cases H
        exact At.ret1 rfl rfl ⟨_, rfl, rfl, HS⟩
      ·replace H := ite_f c31 H
       refine W.pass 36 rfl (sb (decide_eq_false c31)) rfl rfl (W.pass 36 rfl (sb (decide_eq_false c31)) rfl rfl (W.pass 36 rfl (sb (decide_eq_false c31)) rfl rfl (W.pass 36 rfl (sb (decide_eq_false c31)) rfl rfl (W.r (X.pickF (sb (decide_eq_false c31)) rfl) rfl (W.mv rfl (W.pass 42 rfl rfl rfl rfl (W.pass 42 rfl rfl rfl rfl (W.pass 42 rfl rfl rfl rfl (W.pass 42 rfl rfl rfl rfl (W.r (X.pickF rfl rfl) rfl (W.as rfl (W.nx (V.ret ?_)))))))))))))
       replace HS := HS.pk [15] [0, 1, 2, 3, 4, 5, 6, 7, 8, 9, 10, 11, 12, 13, 14]
       cases H
       exact At.ret1 rfl rfl ⟨_, rfl, rfl, HS⟩
     ·replace H := ite_f c30 H
      refine W.pass 30 rfl (sb (decide_eq_false c30)) rfl rfl (W.pass 30 rfl (sb (decide_eq_false c30)) rfl rfl (W.pass 30 rfl (sb (decide_eq_false c30)) rfl rfl (W.pass 30 rfl (sb (decide_eq_false c30)) rfl rfl (W.r (X.pickF (sb (decide_eq_false c30)) rfl) rfl (W.mv rfl (W.pass 36 rfl rfl rfl rfl (W.pass 36 rfl rfl rfl rfl (W.pass 36 rfl rfl rfl rfl (W.pass 36 rfl rfl rfl rfl (W.r (X.pickF rfl rfl) rfl (W.mv rfl (W.pass 42 rfl rfl rfl rfl (W.pass 42 rfl rfl rfl rfl (W.pass 42 rfl rfl rfl rfl (W.pass 42 rfl rfl rfl rfl (W.r (X.pickF rfl rfl) rfl (W.as rfl (W.nx (V.ret ?_)))))))))))))))))))
      replace HS := HS.pk [15] [0, 1, 2, 3, 4, 5, 6, 7, 8, 9, 10, 11, 12, 13, 14]
      cases H
      exact At.ret1 rfl rfl ⟨_, rfl, rfl, HS⟩
    ·replace H := ite_f c25 H
     refine W.pass 24 rfl (sb (decide_eq_false c25)) rfl rfl (W.pass 24 rfl (sb (decide_eq_false c25)) rfl rfl (W.pass 24 rfl (sb (decide_eq_false c25)) rfl rfl (W.pass 24 rfl (sb (decide_eq_false c25)) rfl rfl (W.r (X.pickF (sb (decide_eq_false c25)) rfl) rfl (W.mv rfl (W.pass 30 rfl rfl rfl rfl (W.pass 30 rfl rfl rfl rfl (W.pass 30 rfl rfl rfl rfl (W.pass 30 rfl rfl rfl rfl (W.r (X.pickF rfl rfl) rfl (W.mv rfl (W.pass 36 rfl rfl rfl rfl (W.pass 36 rfl rfl rfl rfl (W.pass 36 rfl rfl rfl rfl (W.pass 36 rfl rfl rfl rfl (W.r (X.pickF rfl rfl) rfl (W.mv rfl (W.pass 42 rfl rfl rfl rfl (W.pass 42 rfl rfl rfl rfl (W.pass 42 rfl rfl rfl rfl (W.pass 42 rfl rfl rfl rfl (W.r (X.pickF rfl rfl) rfl (W.as rfl (W.nx (V.ret ?_)))))))))))))))))))))))))
     replace HS := HS.pk [6] [0, 1, 2, 3, 4, 5]
     cases H
     exact At.ret1 rfl rfl ⟨_, rfl, rfl, HS⟩
mutual
def signalmanref1_Short.l0 : Nat → (List Int) → Int → Int → Option Int
 | 0, _, _, _ => none
 | k + 1, a0, x1, x2 => (if x2 < (a0.length : Int) then (if 0 ≤ x2 ∧ x2 < (a0.length : Int) then (signalmanref1_Short.l1 k a0 x2 (ixor .u16 x1 (IntKind.u16.wrap (a0.getD x2.toNat 0))) 0) else none) else some (icom .u16 x1))
def signalmanref1_Short.l1 : Nat → (List Int) → Int → Int → Int → Option Int
 | 0, _, _, _, _ => none
 | k + 1, a0, x2, x9, x10 => (if x10 < 8 then (if (iand .u16 x9 (1)) = 1 then (signalmanref1_Short.l1 k a0 x2 (ixor .u16 (x9.fdiv (2 ^ (min (1 : Int).toNat IntKind.u16.bits))) (33800)) (w64 (x10 + 1))) else (signalmanref1_Short.l1 k a0 x2 (x9.fdiv (2 ^ (min (1 : Int).toNat IntKind.u16.bits))) (w64 (x10 + 1)))) else (signalmanref1_Short.l0 k a0 x9 (w64 (x2 + 1))))
end
def signalmanref1_Short.f (k : Nat) (a0 : List Int) : Option Int := (signalmanref1_Short.l0 k a0 65535 0)
theorem signalmanref1_Short.calls {k : Nat} {a0 : List Int} {R : As} {w0 w : World} {sa0 : Option Addr} {sc0 : Nat} {r : Int} (H : signalmanref1_Short.f k a0 = some r) (HS : Sep.St [R] w0 w) (hr0 : rdC R 1 (.slice sa0 a0.length sc0) a0.length (a0.map (Value.int .u8))) : Calls Tryz.prog 200 #[Value.slice sa0 a0.length sc0] w (Ret fun u w => u = Value.int .u16 r ∧ Sep.St [R] w0 w) := by
 unfold signalmanref1_Short.f at H
 refine calls_enter Tryz.func200 rfl rfl ?_
 have H : _ = some r := H
 refine V.seq (V.region (W.as rfl (W.nx (V.seq (V.region (W.as rfl (W.nx (V.seq (V.seq (V.region (W.as rfl (W.nx (V.block (V.loop (σ := Int × Int) (fun kq (st : Int × Int) w => match st with | (x1, x2) => Sep.St [R] w0 w ∧ signalmanref1_Short.l0 kq a0 x1 x2 = some r ∧ kq ≤ k) (fun st => match st with | (x1, x2) => [(0, Value.slice sa0 a0.length sc0), (3, Value.int .u16 x1), (4, Value.int .i64 x2)]) k (65535, 0) ⟨rfl, rfl, rfl, trivial⟩ ⟨HS, H, Nat.le_refl _⟩ ?_))))))))))))))
 rintro kq3 ⟨x1, x2⟩ w ⟨HS, H, hk4⟩
 cases kq3 with
 | zero => exact absurd H (by simp [signalmanref1_Short.l0])
 | succ kq3 =>
  simp only [signalmanref1_Short.l0] at H
  refine V.seq (V.seq (V.region (W.mv rfl (W.mv rfl (W.r (X.lenSl Tryz.underlying32 rfl) rfl (W.r (X.cmp (decide (x2 < (a0.length : Int))) rfl rfl rfl rfl) rfl (W.nx ?_)))))))
  by_cases c5 : x2 < (a0.length : Int)
  ·replace H := ite_t c5 H
   refine V.condT (sb (decide_eq_true c5)) (V.skip (At.next (V.seq (V.block (V.seq (V.region (W.mv rfl (W.mv rfl (W.mv rfl ?_)))))))))
   obtain ⟨c6, H⟩ := ite_n H
   obtain ⟨eb7, eo8, hh⟩ := (rdC.at 0 hr0 HS rfl).some (by decide) c6.1 c6.2; subst hh
   refine W.r (X.indexSl Tryz.underlying32 inf5 rfl rfl c6.1 c6.2) rfl (W.r (X.load Tryz.underlying5 rfl rfl ((rdC.at 0 hr0 HS rfl).cellI c6.1 c6.2)) rfl (W.r (X.conv Tryz.underlying5 Tryz.underlying210 rfl) rfl (W.r (X.xor rfl rfl) rfl (W.as rfl (W.nx (V.seq (V.region (W.as rfl (W.nx (V.block (V.loop (σ := Int × Int) (fun kq (st : Int × Int) w => match st with | (x9, x10) => Sep.St [R] w0 w ∧ signalmanref1_Short.l1 kq a0 x2 x9 x10 = some r ∧ kq ≤ kq3) (fun st => match st with | (x9, x10) => [(0, Value.slice (some ⟨eb7, eo8, none⟩) a0.length sc0), (3, Value.int .u16 x9), (4, Value.int .i64 x2), (5, Value.int .i64 x10)]) kq3 (ixor .u16 x1 (IntKind.u16.wrap (a0.getD x2.toNat 0)), 0) ⟨rfl, rfl, rfl, rfl, trivial⟩ ⟨HS, H, Nat.le_refl _⟩ ?_)))))))))))
   rintro kq11 ⟨x9, x10⟩ w ⟨HS, H, hk12⟩
   cases kq11 with
   | zero => exact absurd H (by simp [signalmanref1_Short.l1])
   | succ kq11 =>
    simp only [signalmanref1_Short.l1] at H
    refine V.seq (V.seq (V.region (W.mv rfl (W.r (X.cmp (decide (x10 < 8)) rfl rfl rfl rfl) rfl (W.nx ?_)))))
    by_cases c13 : x10 < 8
    ·replace H := ite_t c13 H
     refine V.condT (sb (decide_eq_true c13)) (V.skip (At.next (V.seq (V.block (V.seq (V.region (W.mv rfl (W.r (X.and rfl rfl) rfl (W.as rfl (W.nx (V.seq (V.region (W.mv rfl (W.r (X.shr rfl rfl (by decide)) rfl (W.as rfl (W.nx (V.seq (V.region (W.mv rfl (W.r (X.cmp (decide ((iand .u16 x9 (1)) = 1)) rfl rfl rfl rfl) rfl (W.nx ?_)))))))))))))))))))))
     by_cases c14 : (iand .u16 x9 (1)) = 1
     ·replace H := ite_t c14 H
      refine V.condT (sb (decide_eq_true c14)) (V.region (W.mv rfl (W.r (X.xor rfl rfl) rfl (W.as rfl (W.nil (At.blockEnd (At.next (V.region (W.mv rfl (W.r (X.add rfl rfl) rfl (W.as rfl (W.nil ?_))))))))))))
      exact At.round kq11 (by omega) (ixor .u16 (x9.fdiv (2 ^ (min (1 : Int).toNat IntKind.u16.bits))) (33800), w64 (x10 + 1)) ⟨rfl, rfl, rfl, rfl, trivial⟩ ⟨HS, H, by omega⟩
     ·replace H := ite_f c14 H
      refine V.condF (sb (decide_eq_false c14)) (V.skip (At.blockEnd (At.next (V.region (W.mv rfl (W.r (X.add rfl rfl) rfl (W.as rfl (W.nil ?_))))))))
      exact At.round kq11 (by omega) (x9.fdiv (2 ^ (min (1 : Int).toNat IntKind.u16.bits)), w64 (x10 + 1)) ⟨rfl, rfl, rfl, rfl, trivial⟩ ⟨HS, H, by omega⟩
    ·replace H := ite_f c13 H
     refine V.condF (sb (decide_eq_false c13)) (V.exit (At.thenExit (At.thenExit (At.blockExit (At.blockEnd (At.next (V.region (W.mv rfl (W.r (X.add rfl rfl) rfl (W.as rfl (W.nil ?_)))))))))))
     exact At.round kq11 (by omega) (x9, w64 (x2 + 1)) ⟨rfl, rfl, rfl, trivial⟩ ⟨HS, H, by omega⟩
  ·replace H := ite_f c5 H
   refine V.condF (sb (decide_eq_false c5)) (V.exit (At.thenExit (At.thenExit (At.blockExit (At.next (V.seq (V.region (W.mv rfl (W.r (X.com rfl) rfl (W.as rfl (W.nx (V.ret ?_))))))))))))
   cases H
   exact At.ret1 rfl rfl ⟨_, rfl, rfl, HS⟩
mutual
def signalmanref1_Long.l0 : Nat → (List Int) → Int → Int → Option Int
 | 0, _, _, _ => none
 | k + 1, a0, x1, x2 => (if x2 < (a0.length : Int) then (if 0 ≤ x2 ∧ x2 < (a0.length : Int) then (signalmanref1_Long.l1 k a0 x2 (ixor .u32 x1 (IntKind.u32.wrap (a0.getD x2.toNat 0))) 0) else none) else some (icom .u32 x1))
def signalmanref1_Long.l1 : Nat → (List Int) → Int → Int → Int → Option Int
 | 0, _, _, _, _ => none
 | k + 1, a0, x2, x9, x10 => (if x10 < 8 then (if (iand .u32 x9 (1)) = 1 then (signalmanref1_Long.l1 k a0 x2 (ixor .u32 (x9.fdiv (2 ^ (min (1 : Int).toNat IntKind.u32.bits))) (3988292384)) (w64 (x10 + 1))) else (signalmanref1_Long.l1 k a0 x2 (x9.fdiv (2 ^ (min (1 : Int).toNat IntKind.u32.bits))) (w64 (x10 + 1)))) else (signalmanref1_Long.l0 k a0 x9 (w64 (x2 + 1))))
end
def signalmanref1_Long.f (k : Nat) (a0 : List Int) : Option Int := (signalmanref1_Long.l0 k a0 4294967295 0)
theorem signalmanref1_Long.calls {k : Nat} {a0 : List Int} {R : As} {w0 w : World} {sa0 : Option Addr} {sc0 : Nat} {r : Int} (H : signalmanref1_Long.f k a0 = some r) (HS : Sep.St [R] w0 w) (hr0 : rdC R 1 (.slice sa0 a0.length sc0) a0.length (a0.map (Value.int .u8))) : Calls Tryz.prog 201 #[Value.slice sa0 a0.length sc0] w (Ret fun u w => u = Value.int .u32 r ∧ Sep.St [R] w0 w) := by
 unfold signalmanref1_Long.f at H
 refine calls_enter Tryz.func201 rfl rfl ?_
 have H : _ = some r := H
 refine V.seq (V.region (W.as rfl (W.nx (V.seq (V.region (W.as rfl (W.nx (V.seq (V.seq (V.region (W.as rfl (W.nx (V.block (V.loop (σ := Int × Int) (fun kq (st : Int × Int) w => match st with | (x1, x2) => Sep.St [R] w0 w ∧ signalmanref1_Long.l0 kq a0 x1 x2 = some r ∧ kq ≤ k) (fun st => match st with | (x1, x2) => [(0, Value.slice sa0 a0.length sc0), (3, Value.int .u32 x1), (4, Value.int .i64 x2)]) k (4294967295, 0) ⟨rfl, rfl, rfl, trivial⟩ ⟨HS, H, Nat.le_refl _⟩ ?_))))))))))))))
 rintro kq3 ⟨x1, x2⟩ w ⟨HS, H, hk4⟩
 cases kq3 with
 | zero => exact absurd H (by simp [signalmanref1_Long.l0])
 | succ kq3 =>
  simp only [signalmanref1_Long.l0] at H
  refine V.seq (V.seq (V.region (W.mv rfl (W.mv rfl (W.r (X.lenSl Tryz.underlying32 rfl) rfl (W.r (X.cmp (decide (x2 < (a0.length : Int))) rfl rfl rfl rfl) rfl (W.nx ?_)))))))
  by_cases c5 : x2 < (a0.length : Int)
  ·replace H := ite_t c5 H
   refine V.condT (sb (decide_eq_true c5)) (V.skip (At.next (V.seq (V.block (V.seq (V.region (W.mv rfl (W.mv rfl (W.mv rfl ?_)))))))))
   obtain ⟨c6, H⟩ := ite_n H
   obtain ⟨eb7, eo8, hh⟩ := (rdC.at 0 hr0 HS rfl).some (by decide) c6.1 c6.2; subst hh
   refine W.r (X.indexSl Tryz.underlying32 inf5 rfl rfl c6.1 c6.2) rfl (W.r (X.load Tryz.underlying5 rfl rfl ((rdC.at 0 hr0 HS rfl).cellI c6.1 c6.2)) rfl (W.r (X.conv Tryz.underlying5 Tryz.underlying79 rfl) rfl (W.r (X.xor rfl rfl) rfl (W.as rfl (W.nx (V.seq (V.region (W.as rfl (W.nx (V.block (V.loop (σ := Int × Int) (fun kq (st : Int × Int) w => match st with | (x9, x10) => Sep.St [R] w0 w ∧ signalmanref1_Long.l1 kq a0 x2 x9 x10 = some r ∧ kq ≤ kq3) (fun st => match st with | (x9, x10) => [(0, Value.slice (some ⟨eb7, eo8, none⟩) a0.length sc0), (3, Value.int .u32 x9), (4, Value.int .i64 x2), (5, Value.int .i64 x10)]) kq3 (ixor .u32 x1 (IntKind.u32.wrap (a0.getD x2.toNat 0)), 0) ⟨rfl, rfl, rfl, rfl, trivial⟩ ⟨HS, H, Nat.le_refl _⟩ ?_)))))))))))
   rintro kq11 ⟨x9, x10⟩ w ⟨HS, H, hk12⟩
   cases kq11 with
   | zero => exact absurd H (by simp [signalmanref1_Long.l1])
   | succ kq11 =>
    simp only [signalmanref1_Long.l1] at H
    refine V.seq (V.seq (V.region (W.mv rfl (W.r (X.cmp (decide (x10 < 8)) rfl rfl rfl rfl) rfl (W.nx ?_)))))
    by_cases c13 : x10 < 8
    ·replace H := ite_t c13 H
     refine V.condT (sb (decide_eq_true c13)) (V.skip (At.next (V.seq (V.block (V.seq (V.region (W.mv rfl (W.r (X.and rfl rfl) rfl (W.as rfl (W.nx (V.seq (V.region (W.mv rfl (W.r (X.shr rfl rfl (by decide)) rfl (W.as rfl (W.nx (V.seq (V.region (W.mv rfl (W.r (X.cmp (decide ((iand .u32 x9 (1)) = 1)) rfl rfl rfl rfl) rfl (W.nx ?_)))))))))))))))))))))
     by_cases c14 : (iand .u32 x9 (1)) = 1
     ·replace H := ite_t c14 H
      refine V.condT (sb (decide_eq_true c14)) (V.region (W.mv rfl (W.r (X.xor rfl rfl) rfl (W.as rfl (W.nil (At.blockEnd (At.next (V.region (W.mv rfl (W.r (X.add rfl rfl) rfl (W.as rfl (W.nil ?_))))))))))))
      exact At.round kq11 (by omega) (ixor .u32 (x9.fdiv (2 ^ (min (1 : Int).toNat IntKind.u32.bits))) (3988292384), w64 (x10 + 1)) ⟨rfl, rfl, rfl, rfl, trivial⟩ ⟨HS, H, by omega⟩
     ·replace H := ite_f c14 H
      refine V.condF (sb (decide_eq_false c14)) (V.skip (At.blockEnd (At.next (V.region (W.mv rfl (W.r (X.add rfl rfl) rfl (W.as rfl (W.nil ?_))))))))
      exact At.round kq11 (by omega) (x9.fdiv (2 ^ (min (1 : Int).toNat IntKind.u32.bits)), w64 (x10 + 1)) ⟨rfl, rfl, rfl, rfl, trivial⟩ ⟨HS, H, by omega⟩
    ·replace H := ite_f c13 H
     refine V.condF (sb (decide_eq_false c13)) (V.exit (At.thenExit (At.thenExit (At.blockExit (At.blockEnd (At.next (V.region (W.mv rfl (W.r (X.add rfl rfl) rfl (W.as rfl (W.nil ?_)))))))))))
     exact At.round kq11 (by omega) (x9, w64 (x2 + 1)) ⟨rfl, rfl, rfl, trivial⟩ ⟨HS, H, by omega⟩
  ·replace H := ite_f c5 H
   refine V.condF (sb (decide_eq_false c5)) (V.exit (At.thenExit (At.thenExit (At.blockExit (At.next (V.seq (V.region (W.mv rfl (W.r (X.com rfl) rfl (W.as rfl (W.nx (V.ret ?_))))))))))))
   cases H
   exact At.ret1 rfl rfl ⟨_, rfl, rfl, HS⟩
def signalmanref1_sum.f (k : Nat) (a0 : List Int) (a1 : Bool) : Option (List Int) := (if a1 = true then ((signalmanref1_Long.f k a0).bind fun t2 => some (([IntKind.u8.wrap (iand .u32 t2 (255)), IntKind.u8.wrap (iand .u32 (t2.fdiv (2 ^ (min (8 : Int).toNat IntKind.u32.bits))) (255)), IntKind.u8.wrap (iand .u32 (t2.fdiv (2 ^ (min (16 : Int).toNat IntKind.u32.bits))) (255)), IntKind.u8.wrap (t2.fdiv (2 ^ (min (24 : Int).toNat IntKind.u32.bits)))] : List Int))) else ((signalmanref1_Short.f k a0).bind fun t7 => some (([IntKind.u8.wrap (iand .u16 t7 (255)), IntKind.u8.wrap (t7.fdiv (2 ^ (min (8 : Int).toNat IntKind.u16.bits)))] : List Int))))
theorem signalmanref1_sum.calls {k : Nat} {a0 : List Int} {a1 : Bool} {R : As} {w0 w : World} {sa0 : Option Addr} {sc0 : Nat} {r : List Int} (H : signalmanref1_sum.f k a0 a1 = some r) (HS : Sep.St [R] w0 w) (hr0 : rdC R 1 (.slice sa0 a0.length sc0) a0.length (a0.map (Value.int .u8))) : Calls Tryz.prog 142 #[Value.slice sa0 a0.length sc0, Value.bool a1] w (Ret fun u w => ∃ (aq0 : Option Addr) (cq0 : Nat), u = Value.slice aq0 r.length cq0 ∧ Sep.St [row 5 1 (.slice aq0 r.length cq0) r.length (r.map (Value.int .u8)), R] w0 w) := by
 unfold signalmanref1_sum.f at H
 refine calls_enter Tryz.func142 rfl rfl ?_
 have H : _ = some r := H
 refine V.seq (V.region (W.as rfl (W.nx (V.seq (V.seq (V.region (W.mv rfl (W.r (X.not rfl) rfl (W.nx ?_)))))))))
 by_cases c1 : a1 = true
 ·replace H := ite_t c1 H
  refine V.condF (sb (n_t c1)) (V.skip (At.next (V.seq (V.region (W.mv rfl ?_)))))
  obtain ⟨t2, A3, H⟩ := bind_s H
  refine W.e (Y.cl Tryz.func201 (signalmanref1_Long.calls A3 HS.j0 (rdC.part 0 hr0 rfl))) rfl ?_
  rintro _ w ⟨rfl, HS⟩
  replace HS := HS.o0
  refine W.as rfl (W.nx (V.seq (V.region (W.mv rfl (W.r (X.and rfl rfl) rfl (W.r (X.conv Tryz.underlying79 Tryz.underlying5 rfl) rfl (W.mv rfl (W.r (X.shr rfl rfl (by decide)) rfl (W.r (X.and rfl rfl) rfl (W.r (X.conv Tryz.underlying79 Tryz.underlying5 rfl) rfl (W.mv rfl (W.r (X.shr rfl rfl (by decide)) rfl (W.r (X.and rfl rfl) rfl (W.r (X.conv Tryz.underlying79 Tryz.underlying5 rfl) rfl (W.mv rfl (W.r (X.shr rfl rfl (by decide)) rfl (W.r (X.conv Tryz.underlying79 Tryz.underlying5 rfl) rfl (W.e (Y.ls (e := 5) (Value.int .u8) ([IntKind.u8.wrap (iand .u32 t2 (255)), IntKind.u8.wrap (iand .u32 (t2.fdiv (2 ^ (min (8 : Int).toNat IntKind.u32.bits))) (255)), IntKind.u8.wrap (iand .u32 (t2.fdiv (2 ^ (min (16 : Int).toNat IntKind.u32.bits))) (255)), IntKind.u8.wrap (t2.fdiv (2 ^ (min (24 : Int).toNat IntKind.u32.bits)))] : List Int) HS rfl rfl (fun _ => by kernel_rfl)) rfl ?_))))))))))))))))))
  rintro _ w ⟨lb6, rfl, HS⟩
  refine W.as rfl (W.nx (V.ret ?_))
  cases H
  exact At.ret1 rfl rfl ⟨_, rfl, (some ⟨lb6, 0, none⟩), 4, rfl, HS⟩
 ·replace H := ite_f c1 H
  refine V.condT (sb (n_f (b_f c1))) (V.seq (V.region (W.mv rfl ?_)))
  obtain ⟨t7, A8, H⟩ := bind_s H
  refine W.e (Y.cl Tryz.func200 (signalmanref1_Short.calls A8 HS.j0 (rdC.part 0 hr0 rfl))) rfl ?_
  rintro _ w ⟨rfl, HS⟩
  replace HS := HS.o0
  refine W.as rfl (W.nx (V.seq (V.region (W.mv rfl (W.r (X.and rfl rfl) rfl (W.r (X.conv Tryz.underlying210 Tryz.underlying5 rfl) rfl (W.mv rfl (W.r (X.shr rfl rfl (by decide)) rfl (W.r (X.conv Tryz.underlying210 Tryz.underlying5 rfl) rfl (W.e (Y.ls (e := 5) (Value.int .u8) ([IntKind.u8.wrap (iand .u16 t7 (255)), IntKind.u8.wrap (t7.fdiv (2 ^ (min (8 : Int).toNat IntKind.u16.bits)))] : List Int) HS rfl rfl (fun _ => by kernel_rfl)) rfl ?_))))))))))
  rintro _ w ⟨lb11, rfl, HS⟩
  refine W.as rfl (W.nx (V.ret (At.thenRet ?_)))
  cases H
  exact At.ret1 rfl rfl ⟨_, rfl, (some ⟨lb11, 0, none⟩), 2, rfl, HS⟩
def signalmanref1_Sum.f (k : Nat) (a0 : List Int) (a1 : Bool) : Option (List Int) := (if (([] : List Int).length : Int) + a0.length ≤ 1099511627776 then ((signalmanref1_sum.f k a0 a1).bind fun t4 => (if ((([] : List Int) ++ a0).length : Int) + t4.length ≤ 1099511627776 then some ((([] : List Int) ++ a0) ++ t4) else none)) else none)
theorem signalmanref1_Sum.calls {k : Nat} {a0 : List Int} {a1 : Bool} {R : As} {w0 w : World} {sa0 : Option Addr} {sc0 : Nat} {r : List Int} (H : signalmanref1_Sum.f k a0 a1 = some r) (HS : Sep.St [R] w0 w) (hr0 : rdC R 1 (.slice sa0 a0.length sc0) a0.length (a0.map (Value.int .u8))) : Calls Tryz.prog 68 #[Value.slice sa0 a0.length sc0, Value.bool a1] w (Ret fun u w => ∃ (aq0 : Option Addr) (cq0 : Nat), u = Value.slice aq0 r.length cq0 ∧ Sep.St [row 5 1 (.slice aq0 r.length cq0) r.length (r.map (Value.int .u8)), R] w0 w) := by
 unfold signalmanref1_Sum.f at H
 refine calls_enter Tryz.func68 rfl rfl ?_
 have H : _ = some r := H
 refine V.seq (V.region (W.as rfl (W.nx (V.seq (V.region (W.mv rfl ?_))))))
 obtain ⟨c1, H⟩ := ite_n H
 replace HS := row_nilF (Value.int .u8) 5 1 HS
 have HS : Sep.St [row 5 1 (.slice none ([] : List Int).length 0) ([] : List Int).length (([] : List Int).map (Value.int .u8)), R] w0 w := HS
 refine W.e (Y.appF (Value.int .u8) (fun _ => rfl) 0 Tryz.underlying32 ap5 rfl HS rfl rfl rfl (rdC.at 1 hr0 HS rfl) (by omega) (by omega)) rfl ?_
 rintro _ w ⟨ra2, rc3, rfl, HS⟩
 refine W.mv rfl (W.mv rfl ?_)
 obtain ⟨t4, A5, H⟩ := bind_s H
 refine W.e (Y.cl Tryz.func142 (signalmanref1_sum.calls A5 HS.j0 (rdC.part 1 hr0 rfl))) rfl ?_
 rintro _ w ⟨at4_0, ct4_0, rfl, HS⟩
 replace HS := HS.o1
 obtain ⟨c6, H⟩ := ite_n H
 refine W.e (Y.appF (Value.int .u8) (fun _ => rfl) 1 Tryz.underlying32 ap5 rfl HS rfl rfl rfl (rdC.at 0 row_rd HS rfl) (by omega) (by omega)) rfl ?_
 rintro _ w ⟨ra7, rc8, rfl, HS⟩
 refine W.as rfl (W.nx (V.ret ?_))
 replace HS := HS.pk [1, 2] [0]
 cases H
 exact At.ret1 rfl rfl ⟨_, rfl, ra7, rc8, rfl, HS⟩
mutual
def signalmanref1_Stuff.l0 : Nat → (List Int) → Int → (List Int) → Option (List Int)
 | 0, _, _, _ => none
 | k + 1, a0, x2, x5 => (if x2 < (a0.length : Int) then (if 0 ≤ x2 ∧ x2 < (a0.length : Int) then (if (a0.getD x2.toNat 0) = 126 then (if (x5.length : Int) + (([125, ixor .u8 (a0.getD x2.toNat 0) (32)] : List Int)).length ≤ 1099511627776 then (signalmanref1_Stuff.l0 k a0 (w64 (x2 + 1)) (x5 ++ ([125, ixor .u8 (a0.getD x2.toNat 0) (32)] : List Int))) else none) else (if (a0.getD x2.toNat 0) = 125 then (if (x5.length : Int) + (([125, ixor .u8 (a0.getD x2.toNat 0) (32)] : List Int)).length ≤ 1099511627776 then (signalmanref1_Stuff.l0 k a0 (w64 (x2 + 1)) (x5 ++ ([125, ixor .u8 (a0.getD x2.toNat 0) (32)] : List Int))) else none) else (if (x5.length : Int) + ([a0.getD x2.toNat 0] : List Int).length ≤ 1099511627776 then (signalmanref1_Stuff.l0 k a0 (w64 (x2 + 1)) (x5 ++ ([a0.getD x2.toNat 0] : List Int))) else none))) else none) else some x5)
end
def signalmanref1_Stuff.f (k : Nat) (a0 : List Int) : Option (List Int) := (signalmanref1_Stuff.l0 k a0 0 ([] : List Int))
theorem signalmanref1_Stuff.calls {k : Nat} {a0 : List Int} {R : As} {w0 w : World} {sa0 : Option Addr} {sc0 : Nat} {r : List Int} (H : signalmanref1_Stuff.f k a0 = some r) (HS : Sep.St [R] w0 w) (hr0 : rdC R 1 (.slice sa0 a0.length sc0) a0.length (a0.map (Value.int .u8))) : Calls Tryz.prog 67 #[Value.slice sa0 a0.length sc0] w (Ret fun u w => ∃ (aq0 : Option Addr) (cq0 : Nat), u = Value.slice aq0 r.length cq0 ∧ Sep.St [row 5 1 (.slice aq0 r.length cq0) r.length (r.map (Value.int .u8)), R] w0 w) := by
 unfold signalmanref1_Stuff.f at H
 refine calls_enter Tryz.func67 rfl rfl ?_
 have H : _ = some r := H
 refine V.seq (V.region (W.as rfl (W.nx (V.seq (V.region (W.as rfl (W.nx (V.seq (V.seq (V.region (W.as rfl (W.nx (V.block ?_)))))))))))))
 replace HS := row_nilF (Value.int .u8) 5 1 HS
 refine V.loop (σ := Int × Option Addr × Nat × List Int) (fun kq (st : Int × Option Addr × Nat × List Int) w => match st with | (x2, ra3, rc4, x5) => Sep.St [row 5 1 (.slice ra3 x5.length rc4) x5.length (x5.map (Value.int .u8)), R] w0 w ∧ signalmanref1_Stuff.l0 kq a0 x2 x5 = some r ∧ kq ≤ k) (fun st => match st with | (x2, ra3, rc4, x5) => [(0, Value.slice sa0 a0.length sc0), (3, Value.slice ra3 x5.length rc4), (4, Value.int .i64 x2)]) k (0, none, 0, ([] : List Int)) ⟨rfl, rfl, rfl, trivial⟩ ⟨HS, H, Nat.le_refl _⟩ ?_
 rintro kq6 ⟨x2, ra3, rc4, x5⟩ w ⟨HS, H, hk7⟩
 cases kq6 with
 | zero => exact absurd H (by simp [signalmanref1_Stuff.l0])
 | succ kq6 =>
  simp only [signalmanref1_Stuff.l0] at H
  refine V.seq (V.seq (V.region (W.mv rfl (W.mv rfl (W.r (X.lenSl Tryz.underlying32 rfl) rfl (W.r (X.cmp (decide (x2 < (a0.length : Int))) rfl rfl rfl rfl) rfl (W.nx ?_)))))))
  by_cases c8 : x2 < (a0.length : Int)
  ·replace H := ite_t c8 H
   refine V.condT (sb (decide_eq_true c8)) (V.skip (At.next (V.seq (V.block (V.seq (V.region (W.mv rfl (W.mv rfl ?_))))))))
   obtain ⟨c9, H⟩ := ite_n H
   obtain ⟨eb10, eo11, hh⟩ := (rdC.at 1 hr0 HS rfl).some (by decide) c9.1 c9.2; subst hh
   refine W.r (X.indexSl Tryz.underlying32 inf5 rfl rfl c9.1 c9.2) rfl (W.r (X.load Tryz.underlying5 rfl rfl ((rdC.at 1 hr0 HS rfl).cellI c9.1 c9.2)) rfl (W.r (X.cmp (decide ((a0.getD x2.toNat 0) = 126)) rfl rfl rfl rfl) rfl (W.mv rfl ?_)))
   by_cases c12 : (a0.getD x2.toNat 0) = 126
   ·replace H := ite_t c12 H
    refine W.pass 16 rfl (sb (decide_eq_true c12)) rfl rfl (W.pass 16 rfl (sb (decide_eq_true c12)) rfl rfl (W.pass 16 rfl (sb (decide_eq_true c12)) rfl rfl (W.pass 16 rfl (sb (decide_eq_true c12)) rfl rfl (W.pass 16 rfl (sb (decide_eq_true c12)) rfl rfl (W.r (X.pickT (sb (decide_eq_true c12)) rfl) rfl (W.nx (V.condT rfl (V.region (W.mv rfl (W.mv rfl (W.mv rfl (W.r (X.indexSl Tryz.underlying32 inf5 rfl rfl c9.1 c9.2) rfl (W.r (X.load Tryz.underlying5 rfl rfl ((rdC.at 1 hr0 HS rfl).cellI c9.1 c9.2)) rfl (W.r (X.xor rfl rfl) rfl (W.e (Y.ls (e := 5) (Value.int .u8) ([125, ixor .u8 (a0.getD x2.toNat 0) (32)] : List Int) HS rfl rfl (fun _ => by kernel_rfl)) rfl ?_)))))))))))))))
    rintro _ w ⟨lb15, rfl, HS⟩
    obtain ⟨c16, H⟩ := ite_n H
    refine W.e (Y.appF (Value.int .u8) (fun _ => rfl) 1 Tryz.underlying32 ap5 rfl HS rfl rfl rfl (rdC.at 0 row_rd HS rfl) (by omega) (by omega)) rfl ?_
    rintro _ w ⟨ra17, rc18, rfl, HS⟩
    refine W.as rfl (W.nil (At.blockEnd (At.next (V.region (W.mv rfl (W.r (X.add rfl rfl) rfl (W.as rfl (W.nil ?_))))))))
    replace HS := HS.pk [1, 2] [0]
    exact At.round kq6 (by omega) (w64 (x2 + 1), ra17, rc18, x5 ++ ([125, ixor .u8 (a0.getD x2.toNat 0) (32)] : List Int)) ⟨rfl, rfl, rfl, trivial⟩ ⟨HS, H, by omega⟩
   ·replace H := ite_f c12 H
    refine W.want 16 rfl (sb (decide_eq_false c12)) (W.mv rfl (W.want 16 rfl (sb (decide_eq_false c12)) (W.mv rfl (W.want 16 rfl (sb (decide_eq_false c12)) (W.r (X.indexSl Tryz.underlying32 inf5 rfl rfl c9.1 c9.2) rfl (W.want 16 rfl (sb (decide_eq_false c12)) (W.r (X.load Tryz.underlying5 rfl rfl ((rdC.at 1 hr0 HS rfl).cellI c9.1 c9.2)) rfl (W.want 16 rfl (sb (decide_eq_false c12)) (W.r (X.cmp (decide ((a0.getD x2.toNat 0) = 125)) rfl rfl rfl rfl) rfl (W.r (X.pickF (sb (decide_eq_false c12)) rfl) rfl (W.nx ?_)))))))))))
    by_cases c19 : (a0.getD x2.toNat 0) = 125
    ·replace H := ite_t c19 H
     refine V.condT (sb (decide_eq_true c19)) (V.region (W.mv rfl (W.mv rfl (W.mv rfl (W.r (X.indexSl Tryz.underlying32 inf5 rfl rfl c9.1 c9.2) rfl (W.r (X.load Tryz.underlying5 rfl rfl ((rdC.at 1 hr0 HS rfl).cellI c9.1 c9.2)) rfl (W.r (X.xor rfl rfl) rfl (W.e (Y.ls (e := 5) (Value.int .u8) ([125, ixor .u8 (a0.getD x2.toNat 0) (32)] : List Int) HS rfl rfl (fun _ => by kernel_rfl)) rfl ?_))))))))
     rintro _ w ⟨lb22, rfl, HS⟩
     obtain ⟨c23, H⟩ := ite_n H
     refine W.e (Y.appF (Value.int .u8) (fun _ => rfl) 1 Tryz.underlying32 ap5 rfl HS rfl rfl rfl (rdC.at 0 row_rd HS rfl) (by omega) (by omega)) rfl ?_
     rintro _ w ⟨ra24, rc25, rfl, HS⟩
     refine W.as rfl (W.nil (At.blockEnd (At.next (V.region (W.mv rfl (W.r (X.add rfl rfl) rfl (W.as rfl (W.nil ?_))))))))
     replace HS := HS.pk [1, 2] [0]
     exact At.round kq6 (by omega) (w64 (x2 + 1), ra24, rc25, x5 ++ ([125, ixor .u8 (a0.getD x2.toNat 0) (32)] : List Int)) ⟨rfl, rfl, rfl, trivial⟩ ⟨HS, H, by omega⟩
    ·replace H := ite_f c19 H
     refine V.condF (sb (decide_eq_false c19)) (V.region (W.mv rfl (W.mv rfl (W.mv rfl (W.r (X.indexSl Tryz.underlying32 inf5 rfl rfl c9.1 c9.2) rfl (W.r (X.load Tryz.underlying5 rfl rfl ((rdC.at 1 hr0 HS rfl).cellI c9.1 c9.2)) rfl (W.e (Y.ls (e := 5) (Value.int .u8) ([a0.getD x2.toNat 0] : List Int) HS rfl rfl (fun _ => by kernel_rfl)) rfl ?_)))))))
     rintro _ w ⟨lb28, rfl, HS⟩
     obtain ⟨c29, H⟩ := ite_n H
     refine W.e (Y.appF (Value.int .u8) (fun _ => rfl) 1 Tryz.underlying32 ap5 rfl HS rfl rfl rfl (rdC.at 0 row_rd HS rfl) (by omega) (by omega)) rfl ?_
     rintro _ w ⟨ra30, rc31, rfl, HS⟩
     refine W.as rfl (W.nil (At.blockEnd (At.next (V.region (W.mv rfl (W.r (X.add rfl rfl) rfl (W.as rfl (W.nil ?_))))))))
     replace HS := HS.pk [1, 2] [0]
     exact At.round kq6 (by omega) (w64 (x2 + 1), ra30, rc31, x5 ++ ([a0.getD x2.toNat 0] : List Int)) ⟨rfl, rfl, rfl, trivial⟩ ⟨HS, H, by omega⟩
  ·replace H := ite_f c8 H
   refine V.condF (sb (decide_eq_false c8)) (V.exit (At.thenExit (At.thenExit (At.blockExit (At.next (V.seq (V.region (W.mv rfl (W.as rfl (W.nx (V.ret ?_)))))))))))
   cases H
   exact At.ret1 rfl rfl ⟨_, rfl, ra3, rc4, rfl, HS⟩
def signalmanref1_Frame.f (k : Nat) (a0 : List Int) (a1 : Bool) : Option (List Int) := ((signalmanref1_Sum.f k a0 a1).bind fun t4 => ((signalmanref1_Stuff.f k t4).bind fun t6 => (if (([126] : List Int).length : Int) + t6.length ≤ 1099511627776 then (if ((([126] : List Int) ++ t6).length : Int) + ([126] : List Int).length ≤ 1099511627776 then some ((([126] : List Int) ++ t6) ++ ([126] : List Int)) else none) else none)))
theorem signalmanref1_Frame.calls {k : Nat} {a0 : List Int} {a1 : Bool} {R : As} {w0 w : World} {sa0 : Option Addr} {sc0 : Nat} {r : List Int} (H : signalmanref1_Frame.f k a0 a1 = some r) (HS : Sep.St [R] w0 w) (hr0 : rdC R 1 (.slice sa0 a0.length sc0) a0.length (a0.map (Value.int .u8))) : Calls Tryz.prog 17 #[Value.slice sa0 a0.length sc0, Value.bool a1] w (Ret fun u w => ∃ (aq0 : Option Addr) (cq0 : Nat), u = Value.slice aq0 r.length cq0 ∧ Sep.St [row 5 1 (.slice aq0 r.length cq0) r.length (r.map (Value.int .u8)), R] w0 w) := by
 unfold signalmanref1_Frame.f at H
 refine calls_enter Tryz.func17 rfl rfl ?_
 have H : _ = some r := H
 refine V.seq (V.region (W.as rfl (W.nx (V.seq (V.region (W.e (Y.ls (e := 5) (Value.int .u8) ([126] : List Int) HS rfl rfl (fun _ => by kernel_rfl)) rfl ?_))))))
 rintro _ w ⟨lb3, rfl, HS⟩
 refine W.mv rfl (W.mv rfl ?_)
 obtain ⟨t4, A5, H⟩ := bind_s H
 refine W.e (Y.cl Tryz.func68 (signalmanref1_Sum.calls A5 HS.j0 (rdC.part 1 hr0 rfl))) rfl ?_
 rintro _ w ⟨at4_0, ct4_0, rfl, HS⟩
 replace HS := HS.o1
 obtain ⟨t6, A7, H⟩ := bind_s H
 refine W.e (Y.cl Tryz.func67 (signalmanref1_Stuff.calls A7 HS.j0 (rdC.part 0 row_rd rfl))) rfl ?_
 rintro _ w ⟨at6_0, ct6_0, rfl, HS⟩
 replace HS := HS.o1
 obtain ⟨c8, H⟩ := ite_n H
 refine W.e (Y.appF (Value.int .u8) (fun _ => rfl) 2 Tryz.underlying32 ap5 rfl HS rfl rfl rfl (rdC.at 0 row_rd HS rfl) (by omega) (by omega)) rfl ?_
 rintro _ w ⟨ra9, rc10, rfl, HS⟩
 refine W.e (Y.ls (e := 5) (Value.int .u8) ([126] : List Int) HS rfl rfl (fun _ => by kernel_rfl)) rfl ?_
 rintro _ w ⟨lb13, rfl, HS⟩
 obtain ⟨c14, H⟩ := ite_n H
 refine W.e (Y.appF (Value.int .u8) (fun _ => rfl) 3 Tryz.underlying32 ap5 rfl HS rfl rfl rfl (rdC.at 0 row_rd HS rfl) (by omega) (by omega)) rfl ?_
 rintro _ w ⟨ra15, rc16, rfl, HS⟩
 refine W.as rfl (W.nx (V.ret ?_))
 replace HS := HS.pk [3, 4] [0, 1, 2]
 cases H
 exact At.ret1 rfl rfl ⟨_, rfl, ra15, rc16, rfl, HS⟩
mutual
def slices_Equal_Sbytebyte.l0 : Nat → (List Int) → (List Int) → Int → Option Bool
 | 0, _, _, _ => none
 | k + 1, a0, a1, x2 => (if x2 < (a0.length : Int) then (if 0 ≤ x2 ∧ x2 < (a0.length : Int) then (if 0 ≤ x2 ∧ x2 < (a1.length : Int) then (if (a0.getD x2.toNat 0) = (a1.getD x2.toNat 0) then (slices_Equal_Sbytebyte.l0 k a0 a1 (w64 (x2 + 1))) else some false) else none) else none) else some true)
end
def slices_Equal_Sbytebyte.f (k : Nat) (a0 : List Int) (a1 : List Int) : Option Bool := (if (a0.length : Int) = (a1.length : Int) then (slices_Equal_Sbytebyte.l0 k a0 a1 0) else some false)
theorem slices_Equal_Sbytebyte.calls {k : Nat} {a0 : List Int} {a1 : List Int} {R : As} {w0 w : World} {sa0 : Option Addr} {sc0 : Nat} {sa1 : Option Addr} {sc1 : Nat} {r : Bool} (H : slices_Equal_Sbytebyte.f k a0 a1 = some r) (HS : Sep.St [R] w0 w) (hr0 : rdC R 1 (.slice sa0 a0.length sc0) a0.length (a0.map (Value.int .u8))) (hr1 : rdC R 1 (.slice sa1 a1.length sc1) a1.length (a1.map (Value.int .u8))) : Calls Tryz.prog 253 #[Value.slice sa0 a0.length sc0, Value.slice sa1 a1.length sc1] w (Ret fun u w => u = Value.bool r ∧ Sep.St [R] w0 w) := by
 unfold slices_Equal_Sbytebyte.f at H
 refine calls_enter Tryz.func253 rfl rfl ?_
 have H : _ = some r := H
 refine V.seq (V.region (W.as rfl (W.nx (V.seq (V.seq (V.region (W.mv rfl (W.r (X.lenSl Tryz.underlying32 rfl) rfl (W.mv rfl (W.r (X.lenSl Tryz.underlying32 rfl) rfl (W.r (X.cmp (!(decide ((a0.length : Int) = (a1.length : Int)))) rfl rfl rfl rfl) rfl (W.nx ?_))))))))))))
 by_cases c1 : (a0.length : Int) = (a1.length : Int)
 ·replace H := ite_t c1 H
  refine V.condF (sb (n_t (decide_eq_true c1))) (V.skip (At.next (V.seq (V.seq (V.region (W.mv rfl (W.r (X.lenSl Tryz.underlying32 rfl) rfl (W.mv rfl (W.nx (V.block (V.loop (σ := Int) (fun kq (st : Int) w => match st with | x2 => Sep.St [R] w0 w ∧ slices_Equal_Sbytebyte.l0 kq a0 a1 x2 = some r ∧ kq ≤ k) (fun st => match st with | x2 => [(0, Value.slice sa0 a0.length sc0), (1, Value.slice sa1 a1.length sc1), (12, Value.int .i64 (a0.length : Int)), (13, Value.int .i64 x2)]) k (0) ⟨rfl, rfl, rfl, rfl, trivial⟩ ⟨HS, H, Nat.le_refl _⟩ ?_)))))))))))
  rintro kq3 x2 w ⟨HS, H, hk4⟩
  cases kq3 with
  | zero => exact absurd H (by simp [slices_Equal_Sbytebyte.l0])
  | succ kq3 =>
   simp only [slices_Equal_Sbytebyte.l0] at H
   refine V.seq (V.region (W.r (X.cmp (decide (x2 < (a0.length : Int))) rfl rfl rfl rfl) rfl (W.nx (V.seq ?_))))
   by_cases c5 : x2 < (a0.length : Int)
   ·replace H := ite_t c5 H
    refine V.condT (sb (decide_eq_true c5)) (V.skip (At.next (V.seq (V.block (V.seq (V.region (W.mv rfl (W.as rfl (W.nx (V.seq ?_))))))))))
    obtain ⟨c6, H⟩ := ite_n H
    obtain ⟨eb7, eo8, hh⟩ := (rdC.at 0 hr0 HS rfl).some (by decide) c6.1 c6.2; subst hh
    obtain ⟨c9, H⟩ := ite_n H
    obtain ⟨eb10, eo11, hh⟩ := (rdC.at 0 hr1 HS rfl).some (by decide) c9.1 c9.2; subst hh
    refine V.dr [] [] [(16, Value.slice (some ⟨eb7, eo8, none⟩) a0.length sc0), (17, Value.int .i64 x2), (18, Value.pointer (some ⟨eb7, eo8 + x2.toNat * 1, none⟩)), (19, Value.int .u8 (a0.getD x2.toNat 0)), (20, Value.slice (some ⟨eb10, eo11, none⟩) a1.length sc1), (21, Value.int .i64 x2), (22, Value.pointer (some ⟨eb10, eo11 + x2.toNat * 1, none⟩)), (23, Value.int .u8 (a1.getD x2.toNat 0)), (24, Value.bool (!(decide ((a0.getD x2.toNat 0) = (a1.getD x2.toNat 0)))))] mo HS ?_
    refine T.fn [(0, _), (1, _), (12, _), (13, _), (24, _)] ⟨rfl, rfl, rfl, rfl, rfl, trivial⟩ ⟨.mv 0, .mv 5, .n2 16 17 rfl rfl rfl (fun w HS => X.indexSl Tryz.underlying32 inf5 rfl rfl c6.1 c6.2), .n1 18 rfl rfl (fun w HS => X.load Tryz.underlying5 rfl rfl ((rdC.at 0 hr0 HS rfl).cellI c6.1 c6.2)), .mv 1, .mv 5, .n2 20 21 rfl rfl rfl (fun w HS => X.indexSl Tryz.underlying32 inf5 rfl rfl c9.1 c9.2), .n1 22 rfl rfl (fun w HS => X.load Tryz.underlying5 rfl rfl ((rdC.at 0 hr1 HS rfl).cellI c9.1 c9.2)), .n2 19 23 rfl rfl rfl (fun w HS => X.cmp (!(decide ((a0.getD x2.toNat 0) = (a1.getD x2.toNat 0)))) rfl rfl rfl rfl), trivial⟩ (fun w HS => ?_)
    refine At.next ?_
    by_cases c12 : (a0.getD x2.toNat 0) = (a1.getD x2.toNat 0)
    ·replace H := ite_t c12 H
     refine V.condF (sb (n_t (decide_eq_true c12))) (V.skip (At.blockEnd (At.next (V.region (W.r (X.add rfl rfl) rfl (W.mv rfl (W.nil ?_)))))))
     exact At.round kq3 (by omega) (w64 (x2 + 1)) ⟨rfl, rfl, rfl, rfl, trivial⟩ ⟨HS, H, by omega⟩
    ·replace H := ite_f c12 H
     refine V.condT (sb (n_f (decide_eq_false c12))) (V.seq (V.region (W.as rfl (W.nx (V.ret (At.blockRet (At.thenRet (At.thenRet (At.blockRet (At.thenRet ?_))))))))))
     cases H
     exact At.ret1 rfl rfl ⟨_, rfl, rfl, HS⟩
   ·replace H := ite_f c5 H
    refine V.condF (sb (decide_eq_false c5)) (V.exit (At.thenExit (At.thenExit (At.blockExit (At.next (V.seq (V.region (W.as rfl (W.nx (V.ret ?_))))))))))
    cases H
    exact At.ret1 rfl rfl ⟨_, rfl, rfl, HS⟩
 ·replace H := ite_f c1 H
  refine V.condT (sb (n_f (decide_eq_false c1))) (V.seq (V.region (W.as rfl (W.nx (V.ret (At.thenRet ?_))))))
  cases H
  exact At.ret1 rfl rfl ⟨_, rfl, rfl, HS⟩
def fcs_Check.f (k : Nat) (a0 : List Int) (a1 : Bool) : Option (List Int × Int) := ((fcs_tail.f k [] a1).bind fun t1 => (if (w64 ((a0.length : Int) - (t1.length : Int))) < 0 then some (([] : List Int), 3) else (if 0 ≤ (0 : Int) ∧ (0 : Int) ≤ w64 ((a0.length : Int) - (t1.length : Int)) ∧ w64 ((a0.length : Int) - (t1.length : Int)) ≤ (a0.length : Int) then (if 0 ≤ w64 ((a0.length : Int) - (t1.length : Int)) ∧ w64 ((a0.length : Int) - (t1.length : Int)) ≤ (a0.length : Int) ∧ (a0.length : Int) ≤ (a0.length : Int) then ((fcs_tail.f k (cut a0 (0 : Int) (w64 ((a0.length : Int) - (t1.length : Int)))) a1).bind fun t7 => ((slices_Equal_Sbytebyte.f k t7 (cut a0 (w64 ((a0.length : Int) - (t1.length : Int))) (a0.length : Int))).bind fun t9 => (if t9 = true then ((slices_Clone_Sbytebyte.f (cut a0 (0 : Int) (w64 ((a0.length : Int) - (t1.length : Int))))).bind fun t12 => some (t12, 0)) else some (([] : List Int), 2)))) else none) else none)))
theorem fcs_Check.calls {k : Nat} {a0 : List Int} {a1 : Bool} {R : As} {w0 w : World} {sa0 : Option Addr} {sc0 : Nat} {r : List Int × Int} (H : fcs_Check.f k a0 a1 = some r) (HS : Sep.St [R] w0 w) (hr0 : rdC R 1 (.slice sa0 a0.length sc0) a0.length (a0.map (Value.int .u8))) : Calls Tryz.prog 227 #[Value.slice sa0 a0.length sc0, Value.bool a1] w (Ret fun u w => ∃ (aq0 : Option Addr) (cq0 : Nat), u = Value.tuple #[Value.slice aq0 r.1.length cq0, Value.int .i64 r.2] ∧ Sep.St [row 5 1 (.slice aq0 r.1.length cq0) r.1.length (r.1.map (Value.int .u8)), R] w0 w) := by
 unfold fcs_Check.f at H
 refine calls_enter Tryz.func227 rfl rfl ?_
 have H : _ = some r := H
 refine V.seq (V.region (W.as rfl (W.as rfl (W.nx (V.seq (V.region (W.mv rfl (W.r (X.lenSl Tryz.underlying32 rfl) rfl (W.mv rfl ?_)))))))))
 obtain ⟨t1, A2, H⟩ := bind_s H
 refine W.e (Y.cl Tryz.func224 (fcs_tail.calls A2 HS.j0 (rdC.nil rfl))) rfl ?_
 rintro _ w ⟨at1_0, ct1_0, rfl, HS⟩
 replace HS := HS.o1
 refine W.r (X.lenSl Tryz.underlying32 rfl) rfl (W.r (X.sub rfl rfl) rfl (W.as rfl (W.nx (V.seq (V.seq (V.region (W.mv rfl (W.r (X.cmp (decide ((w64 ((a0.length : Int) - (t1.length : Int))) < 0)) rfl rfl rfl rfl) rfl (W.nx ?_)))))))))
 by_cases c4 : (w64 ((a0.length : Int) - (t1.length : Int))) < 0
 ·replace H := ite_t c4 H
  refine V.condT (sb (decide_eq_true c4)) (V.seq (V.region (W.as rfl (W.as rfl (W.nx (V.ret (At.thenRet ?_)))))))
  replace HS := row_nilF (Value.int .u8) 5 1 HS
  replace HS := HS.pk [0, 2] [1]
  cases H
  exact At.ret2 rfl rfl rfl ⟨_, rfl, none, 0, rfl, HS⟩
 ·replace H := ite_f c4 H
  refine V.condF (sb (decide_eq_false c4)) (V.skip (At.next (V.seq (V.seq ?_))))
  obtain ⟨c5, H⟩ := ite_n H
  obtain ⟨c6, H⟩ := ite_n H
  refine V.dr [4, 8] [9] [(15, Value.slice sa0 a0.length sc0), (16, Value.int .i64 (w64 ((a0.length : Int) - (t1.length : Int)))), (17, Value.slice (vaddr sa0 sc0 (0 : Int).toNat 1) (cut a0 (0 : Int) (w64 ((a0.length : Int) - (t1.length : Int)))).length (sc0 - (0 : Int).toNat)), (18, Value.bool a1), (20, Value.slice sa0 a0.length sc0), (21, Value.int .i64 (w64 ((a0.length : Int) - (t1.length : Int)))), (22, Value.slice (vaddr sa0 sc0 (w64 ((a0.length : Int) - (t1.length : Int))).toNat 1) (cut a0 (w64 ((a0.length : Int) - (t1.length : Int))) (a0.length : Int)).length (sc0 - (w64 ((a0.length : Int) - (t1.length : Int))).toNat))] mo HS ?_
  refine T.ev [(17, _), (18, _)] [9] [0, 1, 2, 3] ⟨rfl, rfl, trivial⟩ ⟨.mv 0, .mv 6, .n2 15 16 rfl rfl rfl (fun w HS => X.slH Tryz.underlying32 inf5 rfl rfl c5 (rdC.at 1 hr0 HS rfl).cap), .mv 1, .mv 0, .mv 6, .n2 20 21 rfl rfl rfl (fun w HS => X.slL Tryz.underlying32 inf5 rfl rfl c6), trivial⟩ rfl (fun w HS => ?_)
  obtain ⟨t7, A8, H⟩ := bind_s H
  refine ⟨_, Y.cl Tryz.func224 (fcs_tail.calls A8 HS.j0 (rdC.part 1 (rdC.subM hr0 c5) rfl)), ?_⟩
  rintro _ w ⟨at7_0, ct7_0, rfl, HS⟩
  replace HS := HS.o1
  refine T.nw HS ?_
  refine T.ev [(19, _), (22, _)] [] [5, 6, 7] ⟨rfl, rfl, trivial⟩ ⟨.mv 0, .mv 6, .n2 20 21 rfl rfl rfl (fun w HS => X.slL Tryz.underlying32 inf5 rfl rfl c6), trivial⟩ rfl (fun w HS => ?_)
  obtain ⟨t9, A10, H⟩ := bind_s H
  refine ⟨_, Y.cl Tryz.func253 (slices_Equal_Sbytebyte.calls A10 HS.j0 (rdC.part 0 row_rd rfl) (rdC.part 2 (rdC.subM hr0 c6) rfl)), ?_⟩
  rintro _ w ⟨rfl, HS⟩
  replace HS := HS.o0
  refine T.nm [(23, Value.bool t9), (24, Value.bool (!t9))] HS ⟨.inl ⟨rfl, rfl⟩, ⟨.inr ⟨by decide, rfl⟩, trivial⟩⟩ ?_
  refine T.fn [(0, _), (6, _), (24, _)] ⟨rfl, rfl, rfl, trivial⟩ ⟨.n1 23 rfl rfl (fun w HS => X.not rfl), trivial⟩ (fun w HS => ?_)
  refine At.next ?_
  by_cases c11 : t9 = true
  ·replace H := ite_t c11 H
   refine V.condF (sb (n_t c11)) (V.skip (At.next (V.seq (V.region (W.mv rfl (W.mv rfl (W.r (X.slH Tryz.underlying32 inf5 rfl rfl c5 (rdC.at 2 hr0 HS rfl).cap) rfl ?_)))))))
   obtain ⟨t12, A13, H⟩ := bind_s H
   refine W.e (Y.cl Tryz.func130 (slices_Clone_Sbytebyte.calls A13 HS.j0 (rdC.part 2 (rdC.subM hr0 c5) rfl))) rfl ?_
   rintro _ w ⟨at12_0, ct12_0, rfl, HS⟩
   replace HS := HS.o1
   refine W.as rfl (W.as rfl (W.nx (V.ret ?_)))
   replace HS := HS.pk [0, 3] [1, 2]
   cases H
   exact At.ret2 rfl rfl rfl ⟨_, rfl, at12_0, ct12_0, rfl, HS⟩
  ·replace H := ite_f c11 H
   refine V.condT (sb (n_f (b_f c11))) (V.seq (V.region (W.as rfl (W.as rfl (W.nx (V.ret (At.thenRet ?_)))))))
   replace HS := row_nilF (Value.int .u8) 5 1 HS
   replace HS := HS.pk [0, 3] [1, 2]
   cases H
   exact At.ret2 rfl rfl rfl ⟨_, rfl, none, 0, rfl, HS⟩
def frame_Reader_ends.f (k : Nat) (a0 : frame_Reader) : Option (Int × List Int) := ((frame_size.f k a0.wide).bind fun t3 => (if (a0.b.length : Int) ≤ t3 then some (2, ([] : List Int)) else ((fcs_Check.f k a0.b a0.wide).bind fun t6 => (if t6.2 = 0 then some (1, t6.1) else some (4, ([] : List Int))))))
theorem frame_Reader_ends.calls {k : Nat} {a0 : frame_Reader} {R : As} {w0 w : World} {b0 : Nat} {a3_p0 : Option Addr} {c3_p0 : Nat} {r : Int × List Int} (H : frame_Reader_ends.f k a0 = some r) (HS : Sep.St [blk b0 (#[Value.bool a0.wide, Value.int .i64 a0.most, Value.int .i64 a0.state, Value.slice a3_p0 a0.b.length c3_p0]) 143, row 5 1 (.slice a3_p0 a0.b.length c3_p0) a0.b.length (a0.b.map (Value.int .u8)), R] w0 w)  : Calls Tryz.prog 189 #[Value.pointer (some ⟨b0, 0, none⟩)] w (Ret fun u w => ∃ (aq1 : Option Addr) (cq1 : Nat), u = Value.tuple #[Value.int .i64 r.1, Value.slice aq1 r.2.length cq1] ∧ Sep.St [row 5 1 (.slice aq1 r.2.length cq1) r.2.length (r.2.map (Value.int .u8)), blk b0 (#[Value.bool a0.wide, Value.int .i64 a0.most, Value.int .i64 a0.state, Value.slice a3_p0 a0.b.length c3_p0]) 143, row 5 1 (.slice a3_p0 a0.b.length c3_p0) a0.b.length (a0.b.map (Value.int .u8)), R] w0 w) := by
 unfold frame_Reader_ends.f at H
 refine calls_enter Tryz.func189 rfl rfl ?_
 have H : _ = some r := H
 refine V.seq (V.region (W.as rfl (W.as rfl (W.nx (V.seq (V.seq (V.dr [9] [10] [(6, Value.pointer (some ⟨b0, 0, none⟩)), (7, Value.pointer (some ⟨b0, 0, none⟩)), (8, Value.pointer (some ⟨b0, 0 + 3, none⟩)), (9, Value.slice a3_p0 a0.b.length c3_p0), (10, Value.int .i64 (a0.b.length : Int)), (11, Value.pointer (some ⟨b0, 0, none⟩)), (12, Value.pointer (some ⟨b0, 0, none⟩)), (13, Value.pointer (some ⟨b0, 0 + 0, none⟩)), (14, Value.bool a0.wide)] mo HS ?_)))))))
 refine T.ev [(14, _)] [] [5, 6, 7, 8] ⟨rfl, trivial⟩ ⟨.mv 0, .nc 6, .fa 7 fo143_3, .ld 8 0 Tryz.underlying32, .n1 9 rfl rfl (fun w HS => X.lenSl Tryz.underlying32 rfl), .mv 0, .nc 11, .fa 12 fo143_0, .ld 13 0 Tryz.underlying4, trivial⟩ rfl (fun w HS => ?_)
 obtain ⟨t3, A4, H⟩ := bind_s H
 refine ⟨_, Y.cl Tryz.func115 (frame_size.calls A4 HS.j0), ?_⟩
 rintro _ w ⟨rfl, HS⟩
 replace HS := HS.o0
 refine T.nm [(15, Value.int .i64 t3), (16, Value.bool (decide ((a0.b.length : Int) ≤ t3)))] HS ⟨.inl ⟨rfl, rfl⟩, ⟨.inr ⟨by decide, rfl⟩, trivial⟩⟩ ?_
 refine T.fn [(0, _), (16, _)] ⟨rfl, rfl, trivial⟩ ⟨.mv 0, .nc 6, .fa 7 fo143_3, .ld 8 0 Tryz.underlying32, .n1 9 rfl rfl (fun w HS => X.lenSl Tryz.underlying32 rfl), .n2 10 15 rfl rfl rfl (fun w HS => X.cmp (decide ((a0.b.length : Int) ≤ t3)) rfl rfl rfl rfl), trivial⟩ (fun w HS => ?_)
 refine At.next ?_
 by_cases c5 : (a0.b.length : Int) ≤ t3
 ·replace H := ite_t c5 H
  refine V.condT (sb (decide_eq_true c5)) (V.seq (V.region (W.as rfl (W.as rfl (W.nx (V.ret (At.thenRet ?_)))))))
  replace HS := row_nilF (Value.int .u8) 5 1 HS
  cases H
  exact At.ret2 rfl rfl rfl ⟨_, rfl, none, 0, rfl, HS⟩
 ·replace H := ite_f c5 H
  refine V.condF (sb (decide_eq_false c5)) (V.skip (At.next (V.seq (V.dr [8] [9, 10, 11, 12, 13] [(18, Value.pointer (some ⟨b0, 0, none⟩)), (19, Value.pointer (some ⟨b0, 0, none⟩)), (20, Value.pointer (some ⟨b0, 0 + 3, none⟩)), (21, Value.slice a3_p0 a0.b.length c3_p0), (22, Value.pointer (some ⟨b0, 0, none⟩)), (23, Value.pointer (some ⟨b0, 0, none⟩)), (24, Value.pointer (some ⟨b0, 0 + 0, none⟩)), (25, Value.bool a0.wide)] mo HS ?_))))
  refine T.ev [(21, _), (25, _)] [] [0, 1, 2, 3, 4, 5, 6, 7] ⟨rfl, rfl, trivial⟩ ⟨.mv 0, .nc 18, .fa 19 fo143_3, .ld 20 0 Tryz.underlying32, .mv 0, .nc 22, .fa 23 fo143_0, .ld 24 0 Tryz.underlying4, trivial⟩ rfl (fun w HS => ?_)
  obtain ⟨t6, A7, H⟩ := bind_s H
  refine ⟨_, Y.cl Tryz.func227 (fcs_Check.calls A7 HS.j0 (rdC.part 1 row_rd rfl)), ?_⟩
  rintro _ w ⟨at6_0, ct6_0, rfl, HS⟩
  replace HS := HS.o1
  refine T.nm [(26, Value.tuple #[Value.slice at6_0 t6.1.length ct6_0, Value.int .i64 t6.2]), (17, Value.tuple #[Value.slice at6_0 t6.1.length ct6_0, Value.int .i64 t6.2]), (27, Value.slice at6_0 t6.1.length ct6_0), (28, Value.int .i64 t6.2), (4, Value.slice at6_0 t6.1.length ct6_0), (5, Value.int .i64 t6.2)] HS ⟨.inl ⟨rfl, rfl⟩, ⟨.inr ⟨by decide, rfl⟩, ⟨.inr ⟨by decide, rfl⟩, ⟨.inr ⟨by decide, rfl⟩, ⟨.inr ⟨by decide, rfl⟩, ⟨.inr ⟨by decide, rfl⟩, trivial⟩⟩⟩⟩⟩⟩ ?_
  refine T.fn [(4, _), (5, _)] ⟨rfl, rfl, trivial⟩ ⟨.mv 26, .n1 17 rfl rfl (fun w HS => X.extract rfl rfl), .n1 17 rfl rfl (fun w HS => X.extract rfl rfl), .as 27, .as 28, trivial⟩ (fun w HS => ?_)
  refine At.next (V.seq (V.seq (V.region (W.mv rfl (W.r (X.cmp (!(decide (t6.2 = 0))) rfl rfl rfl rfl) rfl (W.nx ?_))))))
  by_cases c8 : t6.2 = 0
  ·replace H := ite_t c8 H
   refine V.condF (sb (n_t (decide_eq_true c8))) (V.skip (At.next (V.seq (V.region (W.mv rfl (W.as rfl (W.as rfl (W.nx (V.ret ?_)))))))))
   cases H
   exact At.ret2 rfl rfl rfl ⟨_, rfl, at6_0, ct6_0, rfl, HS⟩
  ·replace H := ite_f c8 H
   refine V.condT (sb (n_f (decide_eq_false c8))) (V.seq (V.region (W.as rfl (W.as rfl (W.nx (V.ret (At.thenRet ?_)))))))
   replace HS := row_nilF (Value.int .u8) 5 1 HS
   replace HS := HS.pk [0, 2, 3, 4] [1]
   cases H
   exact At.ret2 rfl rfl rfl ⟨_, rfl, none, 0, rfl, HS⟩
def frame_Reader_flag.f (k : Nat) (a0 : frame_Reader) : Option (Int × List Int × frame_Reader) := (if a0.state = 2 then ((frame_Reader_ends.f k a0).bind fun t4 => some (t4.1, t4.2, ({ a0 with state := 1, b := ([] : List Int) } : frame_Reader))) else (if a0.state = 3 then some (5, ([] : List Int), ({ a0 with state := 1, b := ([] : List Int) } : frame_Reader)) else (if a0.state = 4 then some (3, ([] : List Int), ({ a0 with state := 1, b := ([] : List Int) } : frame_Reader)) else some (0, ([] : List Int), ({ a0 with state := 1, b := ([] : List Int) } : frame_Reader)))))
theorem frame_Reader_flag.calls {k : Nat} {a0 : frame_Reader} {R : As} {w0 w : World} {b0 : Nat} {r : Int × List Int × frame_Reader} (H : frame_Reader_flag.f k a0 = some r) (HS : Sep.St [frame_Reader.at b0 a0, R] w0 w)  : Calls Tryz.prog 132 #[Value.pointer (some ⟨b0, 0, none⟩)] w (Ret fun u w => ∃ (aq1 : Option Addr) (cq1 : Nat), u = Value.tuple #[Value.int .i64 r.1, Value.slice aq1 r.2.1.length cq1] ∧ Sep.St [row 5 1 (.slice aq1 r.2.1.length cq1) r.2.1.length (r.2.1.map (Value.int .u8)), frame_Reader.at b0 r.2.2, R] w0 w) := by
 unfold frame_Reader_flag.f at H
 refine calls_enter Tryz.func132 rfl rfl ?_
 have H : _ = some r := H
 refine V.seq (V.region (W.as rfl (W.as rfl (W.nx (V.seq (V.region (W.as rfl (W.as rfl (W.nx (V.seq (V.seq (V.region (W.mv rfl (W.nc rfl ?_))))))))))))))
 obtain ⟨a3_1, c3_1, hi2, HS⟩ := frame_Reader.open HS
 refine W.fa fo143_2 rfl (W.ld 0 HS Tryz.underlying3 rfl rfl rfl rfl (W.nx (V.block (V.seq (V.region (W.r (X.cmp (decide (a0.state = 2)) rfl rfl rfl rfl) rfl (W.as rfl (W.nx ?_))))))))
 by_cases c3 : a0.state = 2
 ·replace H := ite_t c3 H
  refine V.condT (sb (decide_eq_true c3)) (V.region (W.mv rfl ?_))
  obtain ⟨t4, A5, H⟩ := bind_s H
  refine W.e (Y.cl Tryz.func189 (frame_Reader_ends.calls A5 HS.j2)) rfl ?_
  rintro _ w ⟨at4_1, ct4_1, rfl, HS⟩
  replace HS := HS.o3
  refine W.mv rfl (W.r (X.extract rfl rfl) rfl (W.r (X.extract rfl rfl) rfl (W.as rfl (W.as rfl (W.nil (At.blockEnd (At.next (V.seq (V.region (W.mv rfl (W.mv rfl (W.nc rfl (W.fa fo143_2 rfl (W.st 1 2 HS inf3 rfl rfl rfl rfl rfl rfl fun w HS => ?_))))))))))))))
  refine W.nc rfl (W.fa fo143_3 rfl (W.st 1 3 HS inf32 rfl rfl rfl rfl rfl rfl fun w HS => ?_))
  refine W.nx (V.seq (V.region (W.mv rfl (W.mv rfl (W.as rfl (W.as rfl (W.nx (V.ret ?_))))))))
  replace HS := row_nilF (Value.int .u8) 5 1 HS
  replace HS := HS.pm [2, 0, 1, 3, 4]
  replace HS := frame_Reader.close (l3 := ([] : List Int)) trivial HS
  replace HS := HS.pk [1, 0, 3] [2]
  cases H
  exact At.ret2 rfl rfl rfl ⟨_, rfl, at4_1, ct4_1, rfl, HS⟩
 ·replace H := ite_f c3 H
  refine V.condF (sb (decide_eq_false c3)) (V.seq (V.region (W.r (X.cmp (decide (a0.state = 3)) rfl rfl rfl rfl) rfl (W.as rfl (W.nx ?_)))))
  by_cases c6 : a0.state = 3
  ·replace H := ite_t c6 H
   refine V.condT (sb (decide_eq_true c6)) (V.region (W.as rfl (W.nil (At.blockEnd (At.next (V.seq (V.region (W.mv rfl (W.mv rfl (W.nc rfl (W.fa fo143_2 rfl (W.st 0 2 HS inf3 rfl rfl rfl rfl rfl rfl fun w HS => ?_))))))))))))
   refine W.nc rfl (W.fa fo143_3 rfl (W.st 0 3 HS inf32 rfl rfl rfl rfl rfl rfl fun w HS => ?_))
   refine W.nx (V.seq (V.region (W.mv rfl (W.mv rfl (W.as rfl (W.as rfl (W.nx (V.ret ?_))))))))
   replace HS := row_nilF (Value.int .u8) 5 1 HS
   replace HS := row_nilF (Value.int .u8) 5 1 HS
   replace HS := HS.pm [2, 0, 1, 3, 4]
   replace HS := frame_Reader.close (l3 := ([] : List Int)) trivial HS
   replace HS := HS.pk [1, 0, 3] [2]
   cases H
   exact At.ret2 rfl rfl rfl ⟨_, rfl, none, 0, rfl, HS⟩
  ·replace H := ite_f c6 H
   refine V.condF (sb (decide_eq_false c6)) (V.seq (V.region (W.r (X.cmp (decide (a0.state = 4)) rfl rfl rfl rfl) rfl (W.as rfl (W.nx ?_)))))
   by_cases c7 : a0.state = 4
   ·replace H := ite_t c7 H
    refine V.condT (sb (decide_eq_true c7)) (V.region (W.as rfl (W.nil (At.blockEnd (At.next (V.seq (V.region (W.mv rfl (W.mv rfl (W.nc rfl (W.fa fo143_2 rfl (W.st 0 2 HS inf3 rfl rfl rfl rfl rfl rfl fun w HS => ?_))))))))))))
    refine W.nc rfl (W.fa fo143_3 rfl (W.st 0 3 HS inf32 rfl rfl rfl rfl rfl rfl fun w HS => ?_))
    refine W.nx (V.seq (V.region (W.mv rfl (W.mv rfl (W.as rfl (W.as rfl (W.nx (V.ret ?_))))))))
    replace HS := row_nilF (Value.int .u8) 5 1 HS
    replace HS := row_nilF (Value.int .u8) 5 1 HS
    replace HS := HS.pm [2, 0, 1, 3, 4]
    replace HS := frame_Reader.close (l3 := ([] : List Int)) trivial HS
    replace HS := HS.pk [1, 0, 3] [2]
    cases H
    exact At.ret2 rfl rfl rfl ⟨_, rfl, none, 0, rfl, HS⟩
   ·replace H := ite_f c7 H
    refine V.condF (sb (decide_eq_false c7)) (V.skip (At.blockEnd (At.next (V.seq (V.region (W.mv rfl (W.mv rfl (W.nc rfl (W.fa fo143_2 rfl (W.st 0 2 HS inf3 rfl rfl rfl rfl rfl rfl fun w HS => ?_))))))))))
    refine W.nc rfl (W.fa fo143_3 rfl (W.st 0 3 HS inf32 rfl rfl rfl rfl rfl rfl fun w HS => ?_))
    refine W.nx (V.seq (V.region (W.mv rfl (W.mv rfl (W.as rfl (W.as rfl (W.nx (V.ret ?_))))))))
    replace HS := row_nilF (Value.int .u8) 5 1 HS
    replace HS := row_nilF (Value.int .u8) 5 1 HS
    replace HS := HS.pm [2, 0, 1, 3, 4]
    replace HS := frame_Reader.close (l3 := ([] : List Int)) trivial HS
    replace HS := HS.pk [1, 0, 3] [2]
    cases H
    exact At.ret2 rfl rfl rfl ⟨_, rfl, none, 0, rfl, HS⟩
def frame_Reader_take.f (a0 : frame_Reader) (a1 : Int) : Option frame_Reader := (if (a0.b.length : Int) + ([a1] : List Int).length ≤ 1099511627776 then (if ((a0.b ++ ([a1] : List Int)).length : Int) > a0.most then some (({ a0 with state := 4, b := a0.b ++ ([a1] : List Int) } : frame_Reader)) else some (({ a0 with state := 2, b := a0.b ++ ([a1] : List Int) } : frame_Reader))) else none)
theorem frame_Reader_take.calls {a0 : frame_Reader} {a1 : Int} {R : As} {w0 w : World} {b0 : Nat} {r : frame_Reader} (H : frame_Reader_take.f a0 a1 = some r) (HS : Sep.St [frame_Reader.at b0 a0, R] w0 w)  : Calls Tryz.prog 133 #[Value.pointer (some ⟨b0, 0, none⟩), Value.int .u8 a1] w (Ret fun u w => u = Value.tuple #[] ∧ Sep.St [frame_Reader.at b0 r, R] w0 w) := by
 unfold frame_Reader_take.f at H
 refine calls_enter Tryz.func133 rfl rfl ?_
 have H : _ = some r := H
 refine V.seq (V.region (W.mv rfl (W.mv rfl (W.nc rfl ?_))))
 obtain ⟨a3_1, c3_1, hi2, HS⟩ := frame_Reader.open HS
 refine W.fa fo143_3 rfl (W.ld 0 HS Tryz.underlying32 rfl rfl rfl rfl (W.mv rfl (W.e (Y.ls (e := 5) (Value.int .u8) ([a1] : List Int) HS rfl rfl (fun _ => by kernel_rfl)) rfl ?_)))
 rintro _ w ⟨lb5, rfl, HS⟩
 obtain ⟨c6, H⟩ := ite_n H
 refine W.e (Y.appF (Value.int .u8) (fun _ => rfl) 2 Tryz.underlying32 ap5 rfl HS rfl rfl rfl (rdC.at 0 row_rd HS rfl) (by omega) (by omega)) rfl ?_
 rintro _ w ⟨ra7, rc8, rfl, HS⟩
 refine W.nc rfl (W.fa fo143_3 rfl (W.st 1 3 HS inf32 rfl rfl rfl rfl rfl rfl fun w HS => ?_))
 refine W.nx (V.seq (V.region (W.mv rfl (W.nc rfl (W.fa fo143_2 rfl (W.st 1 2 HS inf3 rfl rfl rfl rfl rfl rfl fun w HS => ?_))))))
 refine W.nx (V.seq (V.dr [] [] [(17, Value.pointer (some ⟨b0, 0, none⟩)), (18, Value.pointer (some ⟨b0, 0, none⟩)), (19, Value.pointer (some ⟨b0, 0 + 3, none⟩)), (20, Value.slice ra7 (a0.b ++ ([a1] : List Int)).length rc8), (21, Value.int .i64 (((a0.b ++ ([a1] : List Int)).length : Int))), (22, Value.pointer (some ⟨b0, 0, none⟩)), (23, Value.pointer (some ⟨b0, 0, none⟩)), (24, Value.pointer (some ⟨b0, 0 + 1, none⟩)), (25, Value.int .i64 a0.most), (26, Value.bool (decide (((a0.b ++ ([a1] : List Int)).length : Int) > a0.most)))] mo HS ?_))
 refine T.fn [(0, _), (26, _)] ⟨rfl, rfl, trivial⟩ ⟨.mv 0, .nc 17, .fa 18 fo143_3, .ld 19 1 Tryz.underlying32, .n1 20 rfl rfl (fun w HS => X.lenSl Tryz.underlying32 rfl), .mv 0, .nc 22, .fa 23 fo143_1, .ld 24 1 Tryz.underlying3, .n2 21 25 rfl rfl rfl (fun w HS => X.cmp (decide (((a0.b ++ ([a1] : List Int)).length : Int) > a0.most)) rfl rfl rfl rfl), trivial⟩ (fun w HS => ?_)
 refine At.next ?_
 by_cases c9 : ((a0.b ++ ([a1] : List Int)).length : Int) > a0.most
 ·replace H := ite_t c9 H
  refine V.condT (sb (decide_eq_true c9)) (V.region (W.mv rfl (W.nc rfl (W.fa fo143_2 rfl (W.st 1 2 HS inf3 rfl rfl rfl rfl rfl rfl fun w HS => ?_)))))
  refine W.nil ?_
  replace HS := HS.pm [1, 2, 0, 3]
  replace HS := frame_Reader.close trivial HS
  replace HS := HS.pk [0, 2] [1]
  cases H
  exact At.end0 rfl ⟨_, rfl, rfl, HS⟩
 ·replace H := ite_f c9 H
  refine V.condF (sb (decide_eq_false c9)) (V.skip ?_)
  replace HS := HS.pm [1, 2, 0, 3]
  replace HS := frame_Reader.close trivial HS
  replace HS := HS.pk [0, 2] [1]
  cases H
  exact At.end0 rfl ⟨_, rfl, rfl, HS⟩
mutual
def frame_Reader_Push.j0 (a0 : frame_Reader) (a1 : Int) (x8 : Bool) : Option (Int × List Int × frame_Reader) := (if x8 = true then some (0, ([] : List Int), a0) else (if a0.state = 3 then ((frame_Reader_take.f a0 (ixor .u8 a1 (32))).bind fun t12 => some (0, ([] : List Int), t12)) else (if a1 = 125 then some (0, ([] : List Int), ({ a0 with state := 3 } : frame_Reader)) else ((frame_Reader_take.f a0 a1).bind fun t17 => some (0, ([] : List Int), t17)))))
end
def frame_Reader_Push.f (k : Nat) (a0 : frame_Reader) (a1 : Int) : Option (Int × List Int × frame_Reader) := (if a1 = 126 then ((frame_Reader_flag.f k a0).bind fun t3 => some (t3.1, t3.2.1, t3.2.2)) else (if a0.state = 0 then (frame_Reader_Push.j0 a0 a1 (decide (a0.state = 0))) else (frame_Reader_Push.j0 a0 a1 (decide (a0.state = 4)))))
theorem frame_Reader_Push.calls {k : Nat} {a0 : frame_Reader} {a1 : Int} {R : As} {w0 w : World} {b0 : Nat} {r : Int × List Int × frame_Reader} (H : frame_Reader_Push.f k a0 a1 = some r) (HS : Sep.St [frame_Reader.at b0 a0, R] w0 w)  : Calls Tryz.prog 62 #[Value.pointer (some ⟨b0, 0, none⟩), Value.int .u8 a1] w (Ret fun u w => ∃ (aq1 : Option Addr) (cq1 : Nat), u = Value.tuple #[Value.int .i64 r.1, Value.slice aq1 r.2.1.length cq1] ∧ Sep.St [row 5 1 (.slice aq1 r.2.1.length cq1) r.2.1.length (r.2.1.map (Value.int .u8)), frame_Reader.at b0 r.2.2, R] w0 w) := by
 unfold frame_Reader_Push.f at H
 refine calls_enter Tryz.func62 rfl rfl ?_
 have H : _ = some r := H
 refine V.seq (V.region (W.as rfl (W.as rfl (W.nx (V.scope 1 (V.seq (V.seq (V.region (W.mv rfl (W.r (X.cmp (decide (a1 = 126)) rfl rfl rfl rfl) rfl (W.nx ?_)))))))))))
 by_cases c2 : a1 = 126
 ·replace H := ite_t c2 H
  refine V.condT (sb (decide_eq_true c2)) (V.seq (V.region (W.mv rfl ?_)))
  obtain ⟨t3, A4, H⟩ := bind_s H
  refine W.e (Y.cl Tryz.func132 (frame_Reader_flag.calls A4 HS.j1)) rfl ?_
  rintro _ w ⟨at3_1, ct3_1, rfl, HS⟩
  replace HS := HS.o2
  refine W.r (X.extract rfl rfl) rfl (W.r (X.extract rfl rfl) rfl (W.as rfl (W.as rfl (W.nx (V.ret (At.thenRet (At.scopeRet ?_)))))))
  cases H
  exact At.ret2 rfl rfl rfl ⟨_, rfl, at3_1, ct3_1, rfl, HS⟩
 ·replace H := ite_f c2 H
  refine V.condF (sb (decide_eq_false c2)) (V.skip (At.next (V.seq (V.seq (V.region (W.mv rfl (W.nc rfl ?_)))))))
  obtain ⟨a3_5, c3_5, hi6, HS⟩ := frame_Reader.open HS
  refine W.fa fo143_2 rfl (W.ld 0 HS Tryz.underlying3 rfl rfl rfl rfl (W.nx (V.block (V.meet (σ := Bool) (fun st w => match st with | x8 => Sep.St [frame_Reader.at b0 a0, R] w0 w ∧ frame_Reader_Push.j0 a0 a1 x8 = some r) (fun st => match st with | x8 => [(0, Value.pointer (some ⟨b0, 0, none⟩)), (1, Value.int .u8 a1), (15, Value.int .i64 a0.state), (16, Value.bool x8)]) ?_ ?_))))
  ·refine V.seq (V.region (W.r (X.cmp (decide (a0.state = 0)) rfl rfl rfl rfl) rfl (W.as rfl (W.nx ?_))))
   by_cases c19 : a0.state = 0
   ·replace H := ite_t c19 H
    refine V.condT (sb (decide_eq_true c19)) (V.skip ?_)
    replace HS := frame_Reader.close trivial HS
    exact At.meet (decide (a0.state = 0)) ⟨rfl, rfl, rfl, rfl, trivial⟩ ⟨HS, H⟩
   ·replace H := ite_f c19 H
    refine V.condF (sb (decide_eq_false c19)) (V.region (W.r (X.cmp (decide (a0.state = 4)) rfl rfl rfl rfl) rfl (W.as rfl (W.nil ?_))))
    replace HS := frame_Reader.close trivial HS
    exact At.meet (decide (a0.state = 4)) ⟨rfl, rfl, rfl, rfl, trivial⟩ ⟨HS, H⟩
  ·rintro x8 w ⟨HS, H⟩
   unfold frame_Reader_Push.j0 at H
   by_cases c10 : x8 = true
   ·replace H := ite_t c10 H
    refine V.condT (sb c10) (V.goto (At.blockGoto (At.thenGoto (At.jump rfl ?_))))
    refine V.seq (V.skip (At.next (V.seq (V.region (W.as rfl (W.as rfl (W.nx (V.ret (At.scopeRet ?_)))))))))
    replace HS := row_nilF (Value.int .u8) 5 1 HS
    cases H
    exact At.ret2 rfl rfl rfl ⟨_, rfl, none, 0, rfl, HS⟩
   ·replace H := ite_f c10 H
    refine V.condF (sb (b_f c10)) (V.seq (V.region (W.r (X.cmp (decide (a0.state = 3)) rfl rfl rfl rfl) rfl (W.as rfl (W.nx ?_)))))
    by_cases c11 : a0.state = 3
    ·replace H := ite_t c11 H
     refine V.condT (sb (decide_eq_true c11)) (V.seq (V.region (W.mv rfl (W.r (X.xor rfl rfl) rfl (W.as rfl (W.nx (V.goto (At.blockGoto (At.thenGoto (At.jump rfl ?_))))))))))
     refine V.seq (V.skip (At.next (V.seq (V.region (W.mv rfl (W.mv rfl ?_))))))
     obtain ⟨t12, A13, H⟩ := bind_s H
     refine W.e (Y.cl Tryz.func133 (frame_Reader_take.calls A13 HS.j1)) rfl ?_
     rintro _ w ⟨rfl, HS⟩
     replace HS := HS.o1
     refine W.nx (V.seq (V.label (At.next (V.seq (V.region (W.as rfl (W.as rfl (W.nx (V.ret (At.scopeRet ?_))))))))))
     replace HS := row_nilF (Value.int .u8) 5 1 HS
     cases H
     exact At.ret2 rfl rfl rfl ⟨_, rfl, none, 0, rfl, HS⟩
    ·replace H := ite_f c11 H
     refine V.condF (sb (decide_eq_false c11)) (V.skip (At.blockEnd (At.next (V.seq (V.seq (V.region (W.mv rfl (W.r (X.cmp (decide (a1 = 125)) rfl rfl rfl rfl) rfl (W.nx ?_)))))))))
     by_cases c14 : a1 = 125
     ·replace H := ite_t c14 H
      refine V.condT (sb (decide_eq_true c14)) (V.seq (V.region (W.mv rfl (W.nc rfl ?_))))
      obtain ⟨a3_15, c3_15, hi16, HS⟩ := frame_Reader.open HS
      refine W.fa fo143_2 rfl (W.st 0 2 HS inf3 rfl rfl rfl rfl rfl rfl fun w HS => ?_)
      refine W.nx (V.goto (At.thenGoto (At.jump rfl ?_)))
      refine V.seq (V.skip (At.next (V.seq (V.region (W.as rfl (W.as rfl (W.nx (V.ret (At.scopeRet ?_)))))))))
      replace HS := row_nilF (Value.int .u8) 5 1 HS
      replace HS := HS.pm [1, 2, 0, 3]
      replace HS := frame_Reader.close trivial HS
      replace HS := HS.pk [1, 0, 2] []
      cases H
      exact At.ret2 rfl rfl rfl ⟨_, rfl, none, 0, rfl, HS⟩
     ·replace H := ite_f c14 H
      refine V.condF (sb (decide_eq_false c14)) (V.skip (At.next (V.seq (V.label (At.next (V.seq (V.region (W.mv rfl (W.mv rfl ?_)))))))))
      obtain ⟨t17, A18, H⟩ := bind_s H
      refine W.e (Y.cl Tryz.func133 (frame_Reader_take.calls A18 HS.j1)) rfl ?_
      rintro _ w ⟨rfl, HS⟩
      replace HS := HS.o1
      refine W.nx (V.seq (V.label (At.next (V.seq (V.region (W.as rfl (W.as rfl (W.nx (V.ret (At.scopeRet ?_))))))))))
      replace HS := row_nilF (Value.int .u8) 5 1 HS
      cases H
      exact At.ret2 rfl rfl rfl ⟨_, rfl, none, 0, rfl, HS⟩
def station_one.f (a0 : Int) : Int := imin (w64 (a0 + 1)) (4294967295)
theorem station_one.cell {L : List As} {w0 w : World} (j z : Nat) {b o : Nat} {c c' : Array Value} {e : TypeId} {v : Int} {L' : List As} (HS : Sep.St L w0 w) (hL : L[j]? = some (blk b c e)) (hc : c[z]? = some (Value.int .i64 v)) (ho : o = z)
  [q : SetA c z (Value.int .i64 (station_one.f v)) c'] [r : SetL L j (blk b c' e) L'] : Calls Tryz.prog 63 #[Value.pointer (some ⟨b, o, none⟩)] w (Ret fun u w => u = Value.tuple #[] ∧ Sep.St L' w0 w) := by
 subst ho
 refine calls_enter Tryz.func63 rfl rfl ?_
 exact V.region (W.rd (X.move rfl) rfl rfl rfl (W.rd (X.move rfl) rfl rfl rfl (W.rd (X.nilCheck rfl) rfl rfl rfl (W.rd (X.loadAt j HS hL Tryz.underlying3 rfl rfl hc) rfl rfl rfl (W.rd (X.add rfl rfl) rfl rfl rfl (W.rd (X.min2 rfl rfl) rfl rfl rfl (W.rd (X.nilCheck rfl) rfl rfl rfl (W.ev_none (Y.storeAt j HS hL inf3 rfl rfl rfl hc q.h r.h) rfl rfl fun _ w HS => W.nil (At.end0 rfl ⟨_, rfl, rfl, HS⟩)))))))))
def tally_one.f (a0 : Bool) : Option (Nat × Nat) := (if a0 = true then some (((4607182418800017408, 0) : Nat × Nat)) else some (((0, 4607182418800017408) : Nat × Nat)))
theorem tally_one.calls {a0 : Bool} {R : As} {w0 w : World}  {r : (Nat × Nat)} (H : tally_one.f a0 = some r) (HS : Sep.St [R] w0 w)  : Calls Tryz.prog 190 #[Value.bool a0] w (Ret fun u w => u = Value.complex .f64 r.1 r.2 ∧ Sep.St [R] w0 w) := by
 unfold tally_one.f at H
 refine calls_enter Tryz.func190 rfl rfl ?_
 have H : _ = some r := H
 refine V.seq (V.region (W.as rfl (W.nx (V.seq (V.seq (V.region (W.mv rfl (W.nx ?_))))))))
 by_cases c1 : a0 = true
 ·replace H := ite_t c1 H
  refine V.condT (sb c1) (V.seq (V.region (W.as rfl (W.nx (V.ret (At.thenRet ?_))))))
  cases H
  exact At.ret1 rfl rfl ⟨_, rfl, rfl, HS⟩
 ·replace H := ite_f c1 H
  refine V.condF (sb (b_f c1)) (V.skip (At.next (V.seq (V.region (W.as rfl (W.nx (V.ret ?_)))))))
  cases H
  exact At.ret1 rfl rfl ⟨_, rfl, rfl, HS⟩
mutual
def tally_Window_Note.j0 (a1 : Bool) (x2 : tally_Window) : Option tally_Window := (if 0 ≤ x2.at_ ∧ x2.at_ < (x2.l.length : Int) then ((tally_one.f a1).bind fun t9 => ((cxop .add x2.sum t9).bind fun t11 => (if ¬ (((x2.l.set x2.at_.toNat a1).length : Int) = 0) then some (({ l := x2.l.set x2.at_.toNat a1, at_ := (w64 (x2.at_ + 1)).tmod (((x2.l.set x2.at_.toNat a1).length : Int)), kept := x2.kept, sum := t11 } : tally_Window)) else none))) else none)
end
def tally_Window_Note.f (a0 : tally_Window) (a1 : Bool) : Option tally_Window := (if a0.kept = (a0.l.length : Int) then (if 0 ≤ a0.at_ ∧ a0.at_ < (a0.l.length : Int) then ((tally_one.f (a0.l.getD a0.at_.toNat false)).bind fun t20 => ((cxop .sub a0.sum t20).bind fun t22 => (tally_Window_Note.j0 a1 ({ a0 with sum := t22 } : tally_Window)))) else none) else (tally_Window_Note.j0 a1 ({ a0 with kept := w64 (a0.kept + 1) } : tally_Window)))
theorem tally_Window_Note.calls {a0 : tally_Window} {a1 : Bool} {R : As} {w0 w : World} {b0 : Nat} {r : tally_Window} (H : tally_Window_Note.f a0 a1 = some r) (HS : Sep.St [tally_Window.at b0 a0, R] w0 w)  : Calls Tryz.prog 134 #[Value.pointer (some ⟨b0, 0, none⟩), Value.bool a1] w (Ret fun u w => u = Value.tuple #[] ∧ Sep.St [tally_Window.at b0 r, R] w0 w) := by
 unfold tally_Window_Note.f at H
 refine calls_enter Tryz.func134 rfl rfl ?_
 have H : _ = some r := H
 refine V.meet (σ := tally_Window) (fun st w => match st with | x2 => Sep.St [tally_Window.at b0 x2, R] w0 w ∧ tally_Window_Note.j0 a1 x2 = some r) (fun st => match st with | x2 => [(0, Value.pointer (some ⟨b0, 0, none⟩)), (1, Value.bool a1)]) ?_ ?_
 ·refine V.seq ?_
  obtain ⟨a0_14, c0_14, hi15, HS⟩ := tally_Window.open HS
  refine V.dr [] [] [(4, Value.pointer (some ⟨b0, 0, none⟩)), (5, Value.pointer (some ⟨b0, 0, none⟩)), (6, Value.pointer (some ⟨b0, 0 + 2, none⟩)), (7, Value.int .i64 a0.kept), (8, Value.pointer (some ⟨b0, 0, none⟩)), (9, Value.pointer (some ⟨b0, 0, none⟩)), (10, Value.pointer (some ⟨b0, 0 + 0, none⟩)), (11, Value.slice a0_14 a0.l.length c0_14), (12, Value.int .i64 (a0.l.length : Int)), (13, Value.bool (decide (a0.kept = (a0.l.length : Int))))] mo HS ?_
  refine T.fn [(0, _), (1, _), (13, _)] ⟨rfl, rfl, rfl, trivial⟩ ⟨.mv 0, .nc 4, .fa 5 fo202_2, .ld 6 0 Tryz.underlying3, .mv 0, .nc 8, .fa 9 fo202_0, .ld 10 0 Tryz.underlying139, .n1 11 rfl rfl (fun w HS => X.lenSl Tryz.underlying139 rfl), .n2 7 12 rfl rfl rfl (fun w HS => X.cmp (decide (a0.kept = (a0.l.length : Int))) rfl rfl rfl rfl), trivial⟩ (fun w HS => ?_)
  refine At.next ?_
  by_cases c16 : a0.kept = (a0.l.length : Int)
  ·replace H := ite_t c16 H
   refine V.condT (sb (decide_eq_true c16)) ?_
   obtain ⟨c17, H⟩ := ite_n H
   obtain ⟨eb18, eo19, hh⟩ := (rdC.at 1 row_rd HS rfl).some (by decide) c17.1 c17.2; subst hh
   refine V.dr [14, 18] [15, 16, 17] [(14, Value.pointer (some ⟨b0, 0, none⟩)), (15, Value.pointer (some ⟨b0, 0, none⟩)), (16, Value.pointer (some ⟨b0, 0 + 3, none⟩)), (17, Value.complex .f64 a0.sum.1 a0.sum.2), (18, Value.pointer (some ⟨b0, 0, none⟩)), (19, Value.pointer (some ⟨b0, 0, none⟩)), (20, Value.pointer (some ⟨b0, 0 + 0, none⟩)), (21, Value.slice (some ⟨eb18, eo19, none⟩) a0.l.length c0_14), (22, Value.pointer (some ⟨b0, 0, none⟩)), (23, Value.pointer (some ⟨b0, 0, none⟩)), (24, Value.pointer (some ⟨b0, 0 + 1, none⟩)), (25, Value.int .i64 a0.at_), (26, Value.pointer (some ⟨eb18, eo19 + a0.at_.toNat * 1, none⟩)), (27, Value.bool (a0.l.getD a0.at_.toNat false))] mo HS ?_
   refine T.ev [(27, _)] [] [4, 5, 6, 7, 8, 9, 10, 11, 12, 13] ⟨rfl, trivial⟩ ⟨.mv 0, .nc 14, .fa 15 fo202_3, .ld 16 0 Tryz.underlying160, .mv 0, .nc 18, .fa 19 fo202_0, .ld 20 0 Tryz.underlying139, .mv 0, .nc 22, .fa 23 fo202_1, .ld 24 0 Tryz.underlying3, .n2 21 25 rfl rfl rfl (fun w HS => X.indexSl Tryz.underlying139 inf4 rfl rfl c17.1 c17.2), .n1 26 rfl rfl (fun w HS => X.load Tryz.underlying4 rfl rfl ((rdC.at 1 row_rd HS rfl).cellB c17.1 c17.2)), trivial⟩ rfl (fun w HS => ?_)
   obtain ⟨t20, A21, H⟩ := bind_s H
   refine ⟨_, Y.cl Tryz.func190 (tally_one.calls A21 HS.j0), ?_⟩
   rintro _ w ⟨rfl, HS⟩
   replace HS := HS.o0
   obtain ⟨t22, A23, H⟩ := bind_s H
   refine T.nm [(28, Value.complex .f64 t20.1 t20.2), (29, Value.complex .f64 t22.1 t22.2), (30, Value.pointer (some ⟨b0, 0, none⟩)), (31, Value.pointer (some ⟨b0, 0 + 3, none⟩))] HS ⟨.inl ⟨rfl, rfl⟩, ⟨.inr ⟨by decide, rfl⟩, ⟨.inr ⟨by decide, rfl⟩, ⟨.inr ⟨by decide, rfl⟩, trivial⟩⟩⟩⟩ ?_
   refine T.ev [(29, _), (31, _)] [] [0, 1, 2, 3, 15, 16, 17] ⟨rfl, rfl, trivial⟩ ⟨.mv 0, .nc 14, .fa 15 fo202_3, .ld 16 0 Tryz.underlying160, .n2 17 28 rfl rfl rfl (fun w HS => X.cxop A23 rfl rfl), .nc 14, .fa 30 fo202_3, trivial⟩ rfl (fun w HS => ?_)
   refine ⟨_, Y.sto 0 3 HS inf160 rfl rfl rfl rfl rfl rfl, ?_⟩
   rintro _ w HS
   refine T.nn HS ?_
   refine T.fn [(0, _), (1, _)] ⟨rfl, rfl, trivial⟩ trivial (fun w HS => ?_)
   replace HS := tally_Window.close trivial HS
   exact At.meet ({ a0 with sum := t22 } : tally_Window) ⟨rfl, rfl, trivial⟩ ⟨HS, H⟩
  ·replace H := ite_f c16 H
   refine V.condF (sb (decide_eq_false c16)) (V.region (W.mv rfl (W.nc rfl (W.fa fo202_2 rfl (W.ld 0 HS Tryz.underlying3 rfl rfl rfl rfl (W.r (X.add rfl rfl) rfl (W.nc rfl (W.fa fo202_2 rfl (W.st 0 2 HS inf3 rfl rfl rfl rfl rfl rfl fun w HS => ?_)))))))))
   refine W.nil ?_
   replace HS := tally_Window.close trivial HS
   exact At.meet (({ a0 with kept := w64 (a0.kept + 1) } : tally_Window)) ⟨rfl, rfl, trivial⟩ ⟨HS, H⟩
 ·rintro x2 w ⟨HS, H⟩
  unfold tally_Window_Note.j0 at H
  refine V.seq ?_
  obtain ⟨a0_4, c0_4, hi5, HS⟩ := tally_Window.open HS
  obtain ⟨c6, H⟩ := ite_n H
  obtain ⟨eb7, eo8, hh⟩ := (rdC.at 1 row_rd HS rfl).some (by decide) c6.1 c6.2; subst hh
  refine V.dr [10] [] [(39, Value.pointer (some ⟨b0, 0, none⟩)), (40, Value.pointer (some ⟨b0, 0, none⟩)), (41, Value.pointer (some ⟨b0, 0 + 0, none⟩)), (42, Value.slice (some ⟨eb7, eo8, none⟩) x2.l.length c0_4), (43, Value.pointer (some ⟨b0, 0, none⟩)), (44, Value.pointer (some ⟨b0, 0, none⟩)), (45, Value.pointer (some ⟨b0, 0 + 1, none⟩)), (46, Value.int .i64 x2.at_), (47, Value.bool a1), (48, Value.pointer (some ⟨eb7, eo8 + x2.at_.toNat * 1, none⟩))] mo HS ?_
  refine T.ev [(47, _), (48, _)] [] [0, 1, 2, 3, 4, 5, 6, 7, 8, 9] ⟨rfl, rfl, trivial⟩ ⟨.mv 0, .nc 39, .fa 40 fo202_0, .ld 41 0 Tryz.underlying139, .mv 0, .nc 43, .fa 44 fo202_1, .ld 45 0 Tryz.underlying3, .mv 1, .n2 42 46 rfl rfl rfl (fun w HS => X.indexSl Tryz.underlying139 inf4 rfl rfl c6.1 c6.2), trivial⟩ rfl (fun w HS => ?_)
  refine ⟨_, Y.storeRowN Value.bool (fun _ => rfl) 1 HS rfl inf4 rfl rfl c6.1 c6.2, ?_⟩
  rintro _ w HS
  refine T.nn HS ?_
  refine T.fn [(0, _), (1, _)] ⟨rfl, rfl, trivial⟩ trivial (fun w HS => ?_)
  have HS : Sep.St [blk b0 (#[Value.slice (some ⟨eb7, eo8, none⟩) (x2.l.set x2.at_.toNat a1).length c0_4, Value.int .i64 x2.at_, Value.int .i64 x2.kept, Value.complex .f64 x2.sum.1 x2.sum.2]) 202, row 4 1 (.slice (some ⟨eb7, eo8, none⟩) (x2.l.set x2.at_.toNat a1).length c0_4) (x2.l.set x2.at_.toNat a1).length ((x2.l.set x2.at_.toNat a1).map Value.bool), R] w0 w := by simpa only [List.length_set, List.set_cons_succ, List.set_cons_zero] using HS
  refine At.next (V.seq (V.dr [5, 9] [6, 7, 8] [(49, Value.pointer (some ⟨b0, 0, none⟩)), (50, Value.pointer (some ⟨b0, 0, none⟩)), (51, Value.pointer (some ⟨b0, 0 + 3, none⟩)), (52, Value.complex .f64 x2.sum.1 x2.sum.2), (53, Value.bool a1)] mo HS ?_))
  refine T.ev [(53, _)] [] [4] ⟨rfl, trivial⟩ ⟨.mv 0, .nc 49, .fa 50 fo202_3, .ld 51 0 Tryz.underlying160, .mv 1, trivial⟩ rfl (fun w HS => ?_)
  obtain ⟨t9, A10, H⟩ := bind_s H
  refine ⟨_, Y.cl Tryz.func190 (tally_one.calls A10 HS.j0), ?_⟩
  rintro _ w ⟨rfl, HS⟩
  replace HS := HS.o0
  obtain ⟨t11, A12, H⟩ := bind_s H
  refine T.nm [(54, Value.complex .f64 t9.1 t9.2), (55, Value.complex .f64 t11.1 t11.2), (56, Value.pointer (some ⟨b0, 0, none⟩)), (57, Value.pointer (some ⟨b0, 0 + 3, none⟩))] HS ⟨.inl ⟨rfl, rfl⟩, ⟨.inr ⟨by decide, rfl⟩, ⟨.inr ⟨by decide, rfl⟩, ⟨.inr ⟨by decide, rfl⟩, trivial⟩⟩⟩⟩ ?_
  refine T.ev [(55, _), (57, _)] [] [0, 1, 2, 3, 6, 7, 8] ⟨rfl, rfl, trivial⟩ ⟨.mv 0, .nc 49, .fa 50 fo202_3, .ld 51 0 Tryz.underlying160, .n2 52 54 rfl rfl rfl (fun w HS => X.cxop A12 rfl rfl), .nc 49, .fa 56 fo202_3, trivial⟩ rfl (fun w HS => ?_)
  refine ⟨_, Y.sto 0 3 HS inf160 rfl rfl rfl rfl rfl rfl, ?_⟩
  rintro _ w HS
  refine T.nn HS ?_
  refine T.fn [(0, _)] ⟨rfl, trivial⟩ trivial (fun w HS => ?_)
  refine At.next ?_
  obtain ⟨c13, H⟩ := ite_n H
  refine V.dr [14] [] [(58, Value.pointer (some ⟨b0, 0, none⟩)), (59, Value.pointer (some ⟨b0, 0, none⟩)), (60, Value.pointer (some ⟨b0, 0, none⟩)), (61, Value.pointer (some ⟨b0, 0 + 1, none⟩)), (62, Value.int .i64 x2.at_), (63, Value.int .i64 (w64 (x2.at_ + 1))), (64, Value.pointer (some ⟨b0, 0, none⟩)), (65, Value.pointer (some ⟨b0, 0, none⟩)), (66, Value.pointer (some ⟨b0, 0 + 0, none⟩)), (67, Value.slice (some ⟨eb7, eo8, none⟩) (x2.l.set x2.at_.toNat a1).length c0_4), (68, Value.int .i64 (((x2.l.set x2.at_.toNat a1).length : Int))), (69, Value.int .i64 ((w64 (x2.at_ + 1)).tmod (((x2.l.set x2.at_.toNat a1).length : Int)))), (70, Value.pointer (some ⟨b0, 0, none⟩)), (71, Value.pointer (some ⟨b0, 0 + 1, none⟩))] mo HS ?_
  refine T.ev [(69, _), (71, _)] [] [0, 1, 2, 3, 4, 5, 6, 7, 8, 9, 10, 11, 12, 13] ⟨rfl, rfl, trivial⟩ ⟨.mv 0, .mv 0, .nc 59, .fa 60 fo202_1, .ld 61 0 Tryz.underlying3, .n1 62 rfl rfl (fun w HS => X.add rfl rfl), .mv 0, .nc 64, .fa 65 fo202_0, .ld 66 0 Tryz.underlying139, .n1 67 rfl rfl (fun w HS => X.lenSl Tryz.underlying139 rfl), .n2 63 68 rfl rfl rfl (fun w HS => X.rem rfl rfl c13), .nc 58, .fa 70 fo202_1, trivial⟩ rfl (fun w HS => ?_)
  refine ⟨_, Y.sto 0 1 HS inf3 rfl rfl rfl rfl rfl rfl, ?_⟩
  rintro _ w HS
  refine T.nn HS ?_
  refine T.fn [] trivial trivial (fun w HS => ?_)
  replace HS := tally_Window.close trivial HS
  cases H
  exact At.end0 rfl ⟨_, rfl, rfl, HS⟩
def tally_Window_Sum.f (a0 : tally_Window) : Option (Nat × Nat) := some a0.sum
theorem tally_Window_Sum.calls {a0 : tally_Window} {R : As} {w0 w : World} {b0 : Nat} {a0_p0 : Option Addr} {c0_p0 : Nat} {r : (Nat × Nat)} (H : tally_Window_Sum.f a0 = some r) (HS : Sep.St [blk b0 (#[Value.slice a0_p0 a0.l.length c0_p0, Value.int .i64 a0.at_, Value.int .i64 a0.kept, Value.complex .f64 a0.sum.1 a0.sum.2]) 202, row 4 1 (.slice a0_p0 a0.l.length c0_p0) a0.l.length (a0.l.map Value.bool), R] w0 w)  : Calls Tryz.prog 136 #[Value.pointer (some ⟨b0, 0, none⟩)] w (Ret fun u w => u = Value.complex .f64 r.1 r.2 ∧ Sep.St [blk b0 (#[Value.slice a0_p0 a0.l.length c0_p0, Value.int .i64 a0.at_, Value.int .i64 a0.kept, Value.complex .f64 a0.sum.1 a0.sum.2]) 202, row 4 1 (.slice a0_p0 a0.l.length c0_p0) a0.l.length (a0.l.map Value.bool), R] w0 w) := by
 unfold tally_Window_Sum.f at H
 refine calls_enter Tryz.func136 rfl rfl ?_
 have H : _ = some r := H
 refine V.seq (V.region (W.as rfl (W.nx (V.seq (V.region (W.mv rfl (W.nc rfl (W.fa fo202_3 rfl (W.ld 0 HS Tryz.underlying160 rfl rfl rfl rfl (W.as rfl (W.nx (V.ret ?_))))))))))))
 cases H
 exact At.ret1 rfl rfl ⟨_, rfl, rfl, HS⟩
mutual
def tally_count.j0 (a0 : Nat) (x1 : Bool) : Option (Int × Bool) := (if x1 = true then some (0, false) else ((f2i .i64 a0).bind fun t4 => some (t4, fcmp .eql (FloatKind.f64.nearest t4) a0)))
end
def tally_count.f (a0 : Nat) : Option (Int × Bool) := (if fcmp .geq a0 (0 : Nat) = true then (tally_count.j0 a0 (!(fcmp .leq a0 (4751297606873776128 : Nat)))) else (tally_count.j0 a0 true))
theorem tally_count.calls {a0 : Nat} {R : As} {w0 w : World}  {r : Int × Bool} (H : tally_count.f a0 = some r) (HS : Sep.St [R] w0 w)  : Calls Tryz.prog 191 #[Value.float .f64 a0] w (Ret fun u w => u = Value.tuple #[Value.int .i64 r.1, Value.bool r.2] ∧ Sep.St [R] w0 w) := by
 unfold tally_count.f at H
 refine calls_enter Tryz.func191 rfl rfl ?_
 have H : _ = some r := H
 refine V.seq (V.region (W.as rfl (W.as rfl (W.nx (V.seq (V.meet (σ := Bool) (fun st w => match st with | x1 => Sep.St [R] w0 w ∧ tally_count.j0 a0 x1 = some r) (fun st => match st with | x1 => [(0, Value.float .f64 a0), (11, Value.bool x1)]) ?_ ?_))))))
 ·refine V.region (W.mv rfl (W.r (X.fcmp (fcmp .geq a0 (0 : Nat)) rfl (by decide) rfl rfl) rfl (W.mv rfl ?_)))
  by_cases c6 : fcmp .geq a0 (0 : Nat) = true
  ·replace H := ite_t c6 H
   refine W.want 7 rfl (sb c6) (W.mv rfl (W.want 7 rfl (sb c6) (W.r (X.fcmp (fcmp .leq a0 (4751297606873776128 : Nat)) rfl (by decide) rfl rfl) rfl (W.r (X.pickT (sb c6) rfl) rfl (W.r (X.not rfl) rfl (W.nil ?_))))))
   exact At.meet (!(fcmp .leq a0 (4751297606873776128 : Nat))) ⟨rfl, rfl, trivial⟩ ⟨HS, H⟩
  ·replace H := ite_f c6 H
   refine W.pass 7 rfl (sb (b_f c6)) rfl rfl (W.pass 7 rfl (sb (b_f c6)) rfl rfl (W.r (X.pickF (sb (b_f c6)) rfl) rfl (W.r (X.not rfl) rfl (W.nil ?_))))
   exact At.meet true ⟨rfl, rfl, trivial⟩ ⟨HS, H⟩
 ·rintro x1 w ⟨HS, H⟩
  unfold tally_count.j0 at H
  by_cases c3 : x1 = true
  ·replace H := ite_t c3 H
   refine V.condT (sb c3) (V.seq (V.region (W.as rfl (W.as rfl (W.nx (V.ret (At.thenRet ?_)))))))
   cases H
   exact At.ret2 rfl rfl rfl ⟨_, rfl, rfl, HS⟩
  ·replace H := ite_f c3 H
   refine V.condF (sb (b_f c3)) (V.skip (At.next (V.seq (V.region (W.mv rfl ?_)))))
   obtain ⟨t4, A5, H⟩ := bind_s H
   refine W.r (X.f2i A5 Tryz.underlying206 Tryz.underlying3 rfl) rfl (W.as rfl (W.nx (V.seq (V.region (W.mv rfl (W.mv rfl (W.r (X.i2f Tryz.underlying3 Tryz.underlying206 rfl) rfl (W.mv rfl (W.r (X.fcmp (fcmp .eql (FloatKind.f64.nearest t4) a0) rfl (by decide) rfl rfl) rfl (W.as rfl (W.as rfl (W.nx (V.ret ?_)))))))))))))
   cases H
   exact At.ret2 rfl rfl rfl ⟨_, rfl, rfl, HS⟩
mutual
def tally_Parts.j0 (t1 : Int × Bool) (t3 : Int × Bool) (x5 : Bool) : Option (Int × Int × Bool) := (if x5 = true then some (0, 0, false) else some (t1.1, t3.1, true))
end
def tally_Parts.f (a0 : (Nat × Nat)) : Option (Int × Int × Bool) := ((tally_count.f a0.1).bind fun t1 => ((tally_count.f a0.2).bind fun t3 => (if t1.2 = true then (tally_Parts.j0 t1 t3 (!t3.2)) else (tally_Parts.j0 t1 t3 true))))
theorem tally_Parts.calls {a0 : (Nat × Nat)} {R : As} {w0 w : World}  {r : Int × Int × Bool} (H : tally_Parts.f a0 = some r) (HS : Sep.St [R] w0 w)  : Calls Tryz.prog 135 #[Value.complex .f64 a0.1 a0.2] w (Ret fun u w => u = Value.tuple #[Value.int .i64 r.1, Value.int .i64 r.2.1, Value.bool r.2.2] ∧ Sep.St [R] w0 w) := by
 unfold tally_Parts.f at H
 refine calls_enter Tryz.func135 rfl rfl ?_
 have H : _ = some r := H
 refine V.seq (V.region (W.as rfl (W.as rfl (W.as rfl (W.nx (V.seq (V.region (W.mv rfl (W.r (X.real rfl) rfl ?_)))))))))
 obtain ⟨t1, A2, H⟩ := bind_s H
 refine W.e (Y.cl Tryz.func191 (tally_count.calls A2 HS.j0)) rfl ?_
 rintro _ w ⟨rfl, HS⟩
 replace HS := HS.o0
 refine W.mv rfl (W.r (X.extract rfl rfl) rfl (W.r (X.extract rfl rfl) rfl (W.as rfl (W.as rfl (W.nx (V.seq (V.region (W.mv rfl (W.r (X.imag rfl) rfl ?_)))))))))
 obtain ⟨t3, A4, H⟩ := bind_s H
 refine W.e (Y.cl Tryz.func191 (tally_count.calls A4 HS.j0)) rfl ?_
 rintro _ w ⟨rfl, HS⟩
 replace HS := HS.o0
 refine W.mv rfl (W.r (X.extract rfl rfl) rfl (W.r (X.extract rfl rfl) rfl (W.as rfl (W.as rfl (W.nx (V.seq (V.meet (σ := Bool) (fun st w => match st with | x5 => Sep.St [R] w0 w ∧ tally_Parts.j0 t1 t3 x5 = some r) (fun st => match st with | x5 => [(5, Value.int .i64 t1.1), (7, Value.int .i64 t3.1), (26, Value.bool x5)]) ?_ ?_)))))))
 ·refine V.region (W.mv rfl (W.r (X.not rfl) rfl (W.mv rfl ?_)))
  by_cases c8 : t1.2 = true
  ·replace H := ite_t c8 H
   refine W.want 23 rfl (sb (n_t c8)) (W.mv rfl (W.want 23 rfl (sb (n_t c8)) (W.r (X.not rfl) rfl (W.r (X.pickF (sb (n_t c8)) rfl) rfl (W.nil ?_)))))
   exact At.meet (!t3.2) ⟨rfl, rfl, rfl, trivial⟩ ⟨HS, H⟩
  ·replace H := ite_f c8 H
   refine W.pass 23 rfl (sb (n_f (b_f c8))) rfl rfl (W.pass 23 rfl (sb (n_f (b_f c8))) rfl rfl (W.r (X.pickT (sb (n_f (b_f c8))) rfl) rfl (W.nil ?_)))
   exact At.meet true ⟨rfl, rfl, rfl, trivial⟩ ⟨HS, H⟩
 ·rintro x5 w ⟨HS, H⟩
  unfold tally_Parts.j0 at H
  by_cases c7 : x5 = true
  ·replace H := ite_t c7 H
   refine V.condT (sb c7) (V.seq (V.region (W.as rfl (W.as rfl (W.as rfl (W.nx (V.ret (At.thenRet ?_))))))))
   cases H
   exact At.ret3 rfl rfl rfl rfl ⟨_, rfl, rfl, HS⟩
  ·replace H := ite_f c7 H
   refine V.condF (sb (b_f c7)) (V.skip (At.next (V.seq (V.region (W.mv rfl (W.mv rfl (W.as rfl (W.as rfl (W.as rfl (W.nx (V.ret ?_)))))))))))
   cases H
   exact At.ret3 rfl rfl rfl rfl ⟨_, rfl, rfl, HS⟩
def tally_Window_Clear.f (a0 : tally_Window) : Option tally_Window := some (({ l := a0.l, at_ := 0, kept := 0, sum := ((0, 0) : Nat × Nat) } : tally_Window))
theorem tally_Window_Clear.calls {a0 : tally_Window} {R : As} {w0 w : World} {b0 : Nat} {r : tally_Window} (H : tally_Window_Clear.f a0 = some r) (HS : Sep.St [tally_Window.at b0 a0, R] w0 w)  : Calls Tryz.prog 137 #[Value.pointer (some ⟨b0, 0, none⟩)] w (Ret fun u w => u = Value.tuple #[] ∧ Sep.St [tally_Window.at b0 r, R] w0 w) := by
 unfold tally_Window_Clear.f at H
 refine calls_enter Tryz.func137 rfl rfl ?_
 have H : _ = some r := H
 refine V.region (W.mv rfl (W.mv rfl (W.nc rfl ?_)))
 obtain ⟨a0_1, c0_1, hi2, HS⟩ := tally_Window.open HS
 refine W.fa fo202_0 rfl (W.ld 0 HS Tryz.underlying139 rfl rfl rfl rfl (W.r (X.bd (Value.agg #[Value.slice a0_1 a0.l.length c0_1, Value.int .i64 (0), Value.int .i64 (0), Value.complex .f64 (((0, 0) : Nat × Nat)).1 (((0, 0) : Nat × Nat)).2]) rfl (fun _ => by kernel_rfl)) rfl (W.nc rfl (W.en (Y.storeSt (c' := #[Value.slice a0_1 a0.l.length c0_1, Value.int .i64 (0), Value.int .i64 (0), Value.complex .f64 (((0, 0) : Nat × Nat)).1 (((0, 0) : Nat × Nat)).2]) 0 [Value.slice a0_1 a0.l.length c0_1, Value.int .i64 (0), Value.int .i64 (0), Value.complex .f64 (((0, 0) : Nat × Nat)).1 (((0, 0) : Nat × Nat)).2] HS rfl inf202 rfl rfl rfl rfl rfl rfl) rfl ?_))))
 rintro _ w HS
 refine W.nil ?_
 replace HS := tally_Window.close trivial HS
 cases H
 exact At.end0 rfl ⟨_, rfl, rfl, HS⟩
end Go.Proofs.YtodbopebbmplaaaGreat

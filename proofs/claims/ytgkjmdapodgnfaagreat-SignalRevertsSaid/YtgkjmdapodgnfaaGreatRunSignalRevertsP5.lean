/- SignalReverts: the functions that its law reaches, as plain functions, and that the machine's calls come to what these say. Conditions: those that stand at each. -/
import Derived.Test.YtgkjmdapodgnfaaGreatRunSignalRevertsP4
set_option linter.all false
set_option maxRecDepth 100000
set_option maxHeartbeats 4000000
set_option synthInstance.maxSize 100000
set_option synthInstance.maxHeartbeats 1000000
namespace Go.Proofs.YtgkjmdapodgnfaaGreat
open Go.RowKit Go.Proofs.YtgkjmdapodgnfaaGreat.Sep Go.Proofs.YtgkjmdapodgnfaaGreat.Walk Go.Proofs.Tryz
attribute [local irreducible] V W At T Code.rounds RdO RdOk
set_option autoImplicit true
set_option relaxedAutoImplicit true
def station_Station_Push.f (k : Nat) (a0 : station_Station) (a1 : Int) (a2 : Int) : Option (Int × List Int × station_Station) := ((station_has.f a1).bind fun t2 => (if t2 = true then (if 0 ≤ a1 ∧ a1 < 2 then (if a1 = 0 then ((frame_Reader_Push.f k a0.sides.1.reader a2).bind fun t9 => (if t9.1 = 1 then ((monitor_Monitor_Note.f a0.sides.1.monitor true).bind fun t12 => ((station_Station_came.f k ({ a0 with sides := (({ reader := t9.2.2, monitor := t12.2, ring := a0.sides.1.ring, counts := ({ a0.sides.1.counts with Good := station_one.f a0.sides.1.counts.Good } : api_Counts) } : station_side), a0.sides.2) } : station_Station) a1 t9.2.1).bind fun t14 => some (t9.1, t9.2.1, t14))) else (if t9.1 = 2 then some (t9.1, t9.2.1, ({ a0 with sides := (({ a0.sides.1 with reader := t9.2.2, counts := ({ a0.sides.1.counts with Runts := station_one.f a0.sides.1.counts.Runts } : api_Counts) } : station_side), a0.sides.2) } : station_Station)) else (if t9.1 = 4 then ((monitor_Monitor_Note.f a0.sides.1.monitor false).bind fun t18 => some (t9.1, t9.2.1, ({ a0 with sides := (({ reader := t9.2.2, monitor := t18.2, ring := a0.sides.1.ring, counts := ({ a0.sides.1.counts with Bad := station_one.f a0.sides.1.counts.Bad } : api_Counts) } : station_side), a0.sides.2) } : station_Station))) else (if t9.1 = 3 then ((monitor_Monitor_Note.f a0.sides.1.monitor false).bind fun t21 => some (t9.1, t9.2.1, ({ a0 with sides := (({ reader := t9.2.2, monitor := t21.2, ring := a0.sides.1.ring, counts := ({ a0.sides.1.counts with Giants := station_one.f a0.sides.1.counts.Giants } : api_Counts) } : station_side), a0.sides.2) } : station_Station))) else (if t9.1 = 5 then ((monitor_Monitor_Note.f a0.sides.1.monitor false).bind fun t24 => some (t9.1, t9.2.1, ({ a0 with sides := (({ reader := t9.2.2, monitor := t24.2, ring := a0.sides.1.ring, counts := ({ a0.sides.1.counts with Aborts := station_one.f a0.sides.1.counts.Aborts } : api_Counts) } : station_side), a0.sides.2) } : station_Station))) else some (t9.1, t9.2.1, ({ a0 with sides := (({ a0.sides.1 with reader := t9.2.2 } : station_side), a0.sides.2) } : station_Station)))))))) else ((frame_Reader_Push.f k a0.sides.2.reader a2).bind fun t27 => (if t27.1 = 1 then ((monitor_Monitor_Note.f a0.sides.2.monitor true).bind fun t30 => ((station_Station_came.f k ({ a0 with sides := (a0.sides.1, ({ reader := t27.2.2, monitor := t30.2, ring := a0.sides.2.ring, counts := ({ a0.sides.2.counts with Good := station_one.f a0.sides.2.counts.Good } : api_Counts) } : station_side)) } : station_Station) a1 t27.2.1).bind fun t32 => some (t27.1, t27.2.1, t32))) else (if t27.1 = 2 then some (t27.1, t27.2.1, ({ a0 with sides := (a0.sides.1, ({ a0.sides.2 with reader := t27.2.2, counts := ({ a0.sides.2.counts with Runts := station_one.f a0.sides.2.counts.Runts } : api_Counts) } : station_side)) } : station_Station)) else (if t27.1 = 4 then ((monitor_Monitor_Note.f a0.sides.2.monitor false).bind fun t36 => some (t27.1, t27.2.1, ({ a0 with sides := (a0.sides.1, ({ reader := t27.2.2, monitor := t36.2, ring := a0.sides.2.ring, counts := ({ a0.sides.2.counts with Bad := station_one.f a0.sides.2.counts.Bad } : api_Counts) } : station_side)) } : station_Station))) else (if t27.1 = 3 then ((monitor_Monitor_Note.f a0.sides.2.monitor false).bind fun t39 => some (t27.1, t27.2.1, ({ a0 with sides := (a0.sides.1, ({ reader := t27.2.2, monitor := t39.2, ring := a0.sides.2.ring, counts := ({ a0.sides.2.counts with Giants := station_one.f a0.sides.2.counts.Giants } : api_Counts) } : station_side)) } : station_Station))) else (if t27.1 = 5 then ((monitor_Monitor_Note.f a0.sides.2.monitor false).bind fun t42 => some (t27.1, t27.2.1, ({ a0 with sides := (a0.sides.1, ({ reader := t27.2.2, monitor := t42.2, ring := a0.sides.2.ring, counts := ({ a0.sides.2.counts with Aborts := station_one.f a0.sides.2.counts.Aborts } : api_Counts) } : station_side)) } : station_Station))) else some (t27.1, t27.2.1, ({ a0 with sides := (a0.sides.1, ({ a0.sides.2 with reader := t27.2.2 } : station_side)) } : station_Station))))))))) else none) else some (0, ([] : List Int), a0)))
theorem station_Station_Push.calls (H : station_Station_Push.f k a0 a1 a2 = some r) (HS : St [station_Station.at b0 a0, R] w0 w) : Calls Tryz.prog 188 #[pt b0, vi a1, Value.int .u8 a2] w (Ret fun u w => ∃ aq1 cq1, u = Value.tuple #[vi r.1, vs aq1 r.2.1.length cq1] ∧ St [rB aq1 cq1 r.2.1, station_Station.at b0 r.2.2, R] w0 w) := by
 refine calls_enter func188 rfl rfl (go ?_)
 refine W.kl H func185 (fun _ h => station_has.calls h HS.j0) ?_
 rintro _ _ w H ⟨rfl, HS⟩
 have HS := HS.o0
 refine go ?_
 refine V.cx H rfl (fun _ H => go ?_) (fun _ H => go ?_)
 ·obtain ⟨_, _, _, _, _, _, _, _, _, _, HS⟩ := station_Station.open HS
  refine go ?_
  obtain ⟨c7, H⟩ := ite_n H
  refine ite_c H (fun c8 H => ?_) (fun _ H => ?_)
  ·refine W.r (X.indexArK 0 c8 underlying126 inf125 rfl rfl c7.1 c7.2) rfl (go ?_)
   have HS := HS.b [4]
   refine W.kl H func230 (fun _ h => frame_Reader_Push.calls h HS.j1) ?_
   rintro _ _ w H ⟨_, _, rfl, HS⟩
   have HS := HS.o2
   refine go ?_
   refine V.cd H rfl (fun _ H => go ?_) (fun _ H => go ?_)
   ·refine W.e (Y.cl func231 (station_one.cell 2 25 HS rfl rfl rfl)) rfl ?_
    rintro _ w ⟨rfl, HS⟩
    refine go ?_
    have HS := HS.b [6]
    refine W.kl H func232 (fun _ h => monitor_Monitor_Note.calls h HS.j1) ?_
    rintro _ _ w H ⟨rfl, HS⟩
    have HS := HS.o1
    refine go ?_
    have HS := station_Station.close tv (HS.b [3, 3, 3, 3, 2, 0, 1, 1, 1, 1])
    refine W.kl H func233 (fun _ h => station_Station_came.calls h HS.j1 (rdC.part 0 row_rd rfl)) ?_
    rintro _ _ w H ⟨rfl, HS⟩
    have HS := HS.o1
    refine go ?_
    have HS := HS.b [1]
    exact rt
   ·refine V.cd H rfl (fun _ H => go ?_) (fun _ H => go ?_)
    ·refine W.e (Y.cl func231 (station_one.cell 2 28 HS rfl rfl rfl)) rfl ?_
     rintro _ w ⟨rfl, HS⟩
     refine go ?_
     have HS := (station_Station.close tv (HS.b [2, 2, 2, 2, 1, 1, 1, 1, 1, 1])).b [1]
     exact rt
    ·refine V.cd H rfl (fun _ H => go ?_) (fun _ H => go ?_)
     ·refine W.e (Y.cl func231 (station_one.cell 2 26 HS rfl rfl rfl)) rfl ?_
      rintro _ w ⟨rfl, HS⟩
      refine go ?_
      have HS := HS.b [6]
      refine W.kl H func232 (fun _ h => monitor_Monitor_Note.calls h HS.j1) ?_
      rintro _ _ w H ⟨rfl, HS⟩
      have HS := HS.o1
      refine go ?_
      have HS := (station_Station.close tv (HS.b [3, 3, 3, 3, 2, 0, 1, 1, 1, 1])).b [1]
      exact rt
     ·refine V.cd H rfl (fun _ H => go ?_) (fun _ H => go ?_)
      ·refine W.e (Y.cl func231 (station_one.cell 2 29 HS rfl rfl rfl)) rfl ?_
       rintro _ w ⟨rfl, HS⟩
       refine go ?_
       have HS := HS.b [6]
       refine W.kl H func232 (fun _ h => monitor_Monitor_Note.calls h HS.j1) ?_
       rintro _ _ w H ⟨rfl, HS⟩
       have HS := HS.o1
       refine go ?_
       have HS := (station_Station.close tv (HS.b [3, 3, 3, 3, 2, 0, 1, 1, 1, 1])).b [1]
       exact rt
      ·refine V.cd H rfl (fun _ H => go ?_) (fun _ H => go ?_)
       ·refine W.e (Y.cl func231 (station_one.cell 2 27 HS rfl rfl rfl)) rfl ?_
        rintro _ w ⟨rfl, HS⟩
        refine go ?_
        have HS := HS.b [6]
        refine W.kl H func232 (fun _ h => monitor_Monitor_Note.calls h HS.j1) ?_
        rintro _ _ w H ⟨rfl, HS⟩
        have HS := HS.o1
        refine go ?_
        have HS := (station_Station.close tv (HS.b [3, 3, 3, 3, 2, 0, 1, 1, 1, 1])).b [1]
        exact rt
       ·have HS := (station_Station.close tv (HS.b [2, 2, 2, 2, 1, 1, 1, 1, 1, 1])).b [1]
        exact rt
  ·have hk26 : a1 = 1 := by omega
   refine W.r (X.indexArK 1 hk26 underlying126 inf125 rfl rfl c7.1 c7.2) rfl (go ?_)
   have HS := HS.b [7]
   refine W.kl H func230 (fun _ h => frame_Reader_Push.calls h HS.j1) ?_
   rintro _ _ w H ⟨_, _, rfl, HS⟩
   have HS := HS.o2
   refine go ?_
   refine V.cd H rfl (fun _ H => go ?_) (fun _ H => go ?_)
   ·refine W.e (Y.cl func231 (station_one.cell 2 35 HS rfl rfl rfl)) rfl ?_
    rintro _ w ⟨rfl, HS⟩
    refine go ?_
    have HS := HS.b [9]
    refine W.kl H func232 (fun _ h => monitor_Monitor_Note.calls h HS.j1) ?_
    rintro _ _ w H ⟨rfl, HS⟩
    have HS := HS.o1
    refine go ?_
    have HS := station_Station.close tv (HS.b [3, 3, 3, 3, 3, 3, 3, 2, 0, 1])
    refine W.kl H func233 (fun _ h => station_Station_came.calls h HS.j1 (rdC.part 0 row_rd rfl)) ?_
    rintro _ _ w H ⟨rfl, HS⟩
    have HS := HS.o1
    refine go ?_
    have HS := HS.b [1]
    exact rt
   ·refine V.cd H rfl (fun _ H => go ?_) (fun _ H => go ?_)
    ·refine W.e (Y.cl func231 (station_one.cell 2 38 HS rfl rfl rfl)) rfl ?_
     rintro _ w ⟨rfl, HS⟩
     refine go ?_
     have HS := (station_Station.close tv (HS.b [2, 2, 2, 2, 2, 2, 2, 1, 1, 1])).b [1]
     exact rt
    ·refine V.cd H rfl (fun _ H => go ?_) (fun _ H => go ?_)
     ·refine W.e (Y.cl func231 (station_one.cell 2 36 HS rfl rfl rfl)) rfl ?_
      rintro _ w ⟨rfl, HS⟩
      refine go ?_
      have HS := HS.b [9]
      refine W.kl H func232 (fun _ h => monitor_Monitor_Note.calls h HS.j1) ?_
      rintro _ _ w H ⟨rfl, HS⟩
      have HS := HS.o1
      refine go ?_
      have HS := (station_Station.close tv (HS.b [3, 3, 3, 3, 3, 3, 3, 2, 0, 1])).b [1]
      exact rt
     ·refine V.cd H rfl (fun _ H => go ?_) (fun _ H => go ?_)
      ·refine W.e (Y.cl func231 (station_one.cell 2 39 HS rfl rfl rfl)) rfl ?_
       rintro _ w ⟨rfl, HS⟩
       refine go ?_
       have HS := HS.b [9]
       refine W.kl H func232 (fun _ h => monitor_Monitor_Note.calls h HS.j1) ?_
       rintro _ _ w H ⟨rfl, HS⟩
       have HS := HS.o1
       refine go ?_
       have HS := (station_Station.close tv (HS.b [3, 3, 3, 3, 3, 3, 3, 2, 0, 1])).b [1]
       exact rt
      ·refine V.cd H rfl (fun _ H => go ?_) (fun _ H => go ?_)
       ·refine W.e (Y.cl func231 (station_one.cell 2 37 HS rfl rfl rfl)) rfl ?_
        rintro _ w ⟨rfl, HS⟩
        refine go ?_
        have HS := HS.b [9]
        refine W.kl H func232 (fun _ h => monitor_Monitor_Note.calls h HS.j1) ?_
        rintro _ _ w H ⟨rfl, HS⟩
        have HS := HS.o1
        refine go ?_
        have HS := (station_Station.close tv (HS.b [3, 3, 3, 3, 3, 3, 3, 2, 0, 1])).b [1]
        exact rt
       ·have HS := (station_Station.close tv (HS.b [2, 2, 2, 2, 2, 2, 2, 1, 1, 1])).b [1]
        exact rt
 ·have HS := row_nilF (Value.int .u8) 5 1 HS
  exact rt
mutual
def world_World_Step.l4 : Nat → (List Int × pipe_Pipe) → Int → world_World → Option world_World
 | 0, _, _, _ => none
 | k + 1, t75, x79, x80 => (if x79 < (t75.1.length : Int) then (if 0 ≤ x79 ∧ x79 < (t75.1.length : Int) then ((station_Station_Push.f k x80.stations.2 0 (t75.1.getD x79.toNat 0)).bind fun t89 => (if t89.1 = 1 then (if (x80.ways.1.1.got.length : Int) + (([t89.2.1] : List (List Int))).length ≤ 1099511627776 then (world_World_Step.l4 k t75 (w64 (x79 + 1)) ({ x80 with stations := (x80.stations.1, t89.2.2), ways := ((({ x80.ways.1.1 with got := x80.ways.1.1.got ++ ([t89.2.1] : List (List Int)) } : world_way), x80.ways.1.2), x80.ways.2) } : world_World)) else none) else (world_World_Step.l4 k t75 (w64 (x79 + 1)) ({ x80 with stations := (x80.stations.1, t89.2.2) } : world_World)))) else none) else ((pipe_Pipe_Take.f x80.ways.1.2.pipe x80.c.Rate).bind fun t100 => (world_World_Step.l5 k t100 0 ({ x80 with ways := ((x80.ways.1.1, ({ x80.ways.1.2 with pipe := t100.2 } : world_way)), x80.ways.2) } : world_World))))
def world_World_Step.l5 : Nat → (List Int × pipe_Pipe) → Int → world_World → Option world_World
 | 0, _, _, _ => none
 | k + 1, t100, x125, x126 => (if x125 < (t100.1.length : Int) then (if 0 ≤ x125 ∧ x125 < (t100.1.length : Int) then ((station_Station_Push.f k x126.stations.1 0 (t100.1.getD x125.toNat 0)).bind fun t135 => (if t135.1 = 1 then (if (x126.ways.1.2.got.length : Int) + (([t135.2.1] : List (List Int))).length ≤ 1099511627776 then (world_World_Step.l5 k t100 (w64 (x125 + 1)) ({ x126 with stations := (t135.2.2, x126.stations.2), ways := ((x126.ways.1.1, ({ x126.ways.1.2 with got := x126.ways.1.2.got ++ ([t135.2.1] : List (List Int)) } : world_way)), x126.ways.2) } : world_World)) else none) else (world_World_Step.l5 k t100 (w64 (x125 + 1)) ({ x126 with stations := (t135.2.2, x126.stations.2) } : world_World)))) else none) else ((pipe_Pipe_Take.f x126.ways.2.1.pipe x126.c.Rate).bind fun t146 => (world_World_Step.l6 k t146 0 ({ x126 with ways := (x126.ways.1, (({ x126.ways.2.1 with pipe := t146.2 } : world_way), x126.ways.2.2)) } : world_World))))
def world_World_Step.l6 : Nat → (List Int × pipe_Pipe) → Int → world_World → Option world_World
 | 0, _, _, _ => none
 | k + 1, t146, x171, x172 => (if x171 < (t146.1.length : Int) then (if 0 ≤ x171 ∧ x171 < (t146.1.length : Int) then ((station_Station_Push.f k x172.stations.2 1 (t146.1.getD x171.toNat 0)).bind fun t181 => (if t181.1 = 1 then (if (x172.ways.2.1.got.length : Int) + (([t181.2.1] : List (List Int))).length ≤ 1099511627776 then (world_World_Step.l6 k t146 (w64 (x171 + 1)) ({ x172 with stations := (x172.stations.1, t181.2.2), ways := (x172.ways.1, (({ x172.ways.2.1 with got := x172.ways.2.1.got ++ ([t181.2.1] : List (List Int)) } : world_way), x172.ways.2.2)) } : world_World)) else none) else (world_World_Step.l6 k t146 (w64 (x171 + 1)) ({ x172 with stations := (x172.stations.1, t181.2.2) } : world_World)))) else none) else ((pipe_Pipe_Take.f x172.ways.2.2.pipe x172.c.Rate).bind fun t192 => (world_World_Step.l7 k t192 0 ({ x172 with ways := (x172.ways.1, (x172.ways.2.1, ({ x172.ways.2.2 with pipe := t192.2 } : world_way))) } : world_World))))
def world_World_Step.l7 : Nat → (List Int × pipe_Pipe) → Int → world_World → Option world_World
 | 0, _, _, _ => none
 | k + 1, t192, x217, x218 => (if x217 < (t192.1.length : Int) then (if 0 ≤ x217 ∧ x217 < (t192.1.length : Int) then ((station_Station_Push.f k x218.stations.1 1 (t192.1.getD x217.toNat 0)).bind fun t227 => (if t227.1 = 1 then (if (x218.ways.2.2.got.length : Int) + (([t227.2.1] : List (List Int))).length ≤ 1099511627776 then (world_World_Step.l7 k t192 (w64 (x217 + 1)) ({ x218 with stations := (t227.2.2, x218.stations.2), ways := (x218.ways.1, (x218.ways.2.1, ({ x218.ways.2.2 with got := x218.ways.2.2.got ++ ([t227.2.1] : List (List Int)) } : world_way))) } : world_World)) else none) else (world_World_Step.l7 k t192 (w64 (x217 + 1)) ({ x218 with stations := (t227.2.2, x218.stations.2) } : world_World)))) else none) else some (({ x218 with now := w64 (x218.now + 1) } : world_World)))
def world_World_Step.j3 (k : Nat) (a0 : world_World) (t28 : (List (List Int) × List (List Int)) × station_Station) (t40 : (List (List Int) × List (List Int)) × station_Station) (t55 : Int × pipe_Pipe) (t59 : List Int × station_Station) (t61 : Int × pipe_Pipe) (t65 : List Int × station_Station) (t67 : Int × pipe_Pipe) (x70 : Int) : Option world_World := ((station_Station_Take.f k t59.2 1 x70).bind fun t71 => ((pipe_Pipe_Put.f a0.ways.2.2.pipe t71.1).bind fun t73 => ((pipe_Pipe_Take.f t55.2 a0.c.Rate).bind fun t75 => (world_World_Step.l4 k t75 0 ({ a0 with stations := (t65.2, t71.2), ways := ((({ pipe := t75.2, sent := a0.ways.1.1.sent ++ t28.1.1, got := a0.ways.1.1.got } : world_way), ({ pipe := t61.2, sent := a0.ways.1.2.sent ++ t40.1.1, got := a0.ways.1.2.got } : world_way)), (({ pipe := t67.2, sent := a0.ways.2.1.sent ++ t28.1.2, got := a0.ways.2.1.got } : world_way), ({ pipe := t73.2, sent := a0.ways.2.2.sent ++ t40.1.2, got := a0.ways.2.2.got } : world_way))) } : world_World)))))
def world_World_Step.j2 (k : Nat) (a0 : world_World) (t28 : (List (List Int) × List (List Int)) × station_Station) (t40 : (List (List Int) × List (List Int)) × station_Station) (t53 : List Int × station_Station) (t55 : Int × pipe_Pipe) (t59 : List Int × station_Station) (t61 : Int × pipe_Pipe) (x64 : Int) : Option world_World := ((station_Station_Take.f k t53.2 1 x64).bind fun t65 => ((pipe_Pipe_Put.f a0.ways.2.1.pipe t65.1).bind fun t67 => ((pipe_Pipe_Cut.f a0.ways.2.2.pipe).bind fun t240 => (if t240 = true then (world_World_Step.j3 k a0 t28 t40 t55 t59 t61 t65 t67 a0.c.Rate) else ((pipe_Pipe_Room.f a0.ways.2.2.pipe).bind fun t243 => (world_World_Step.j3 k a0 t28 t40 t55 t59 t61 t65 t67 (imin a0.c.Rate t243)))))))
def world_World_Step.j1 (k : Nat) (a0 : world_World) (t28 : (List (List Int) × List (List Int)) × station_Station) (t40 : (List (List Int) × List (List Int)) × station_Station) (t53 : List Int × station_Station) (t55 : Int × pipe_Pipe) (x58 : Int) : Option world_World := ((station_Station_Take.f k t40.2 0 x58).bind fun t59 => ((pipe_Pipe_Put.f a0.ways.1.2.pipe t59.1).bind fun t61 => ((pipe_Pipe_Cut.f a0.ways.2.1.pipe).bind fun t247 => (if t247 = true then (world_World_Step.j2 k a0 t28 t40 t53 t55 t59 t61 a0.c.Rate) else ((pipe_Pipe_Room.f a0.ways.2.1.pipe).bind fun t250 => (world_World_Step.j2 k a0 t28 t40 t53 t55 t59 t61 (imin a0.c.Rate t250)))))))
def world_World_Step.j0 (k : Nat) (a0 : world_World) (t28 : (List (List Int) × List (List Int)) × station_Station) (t40 : (List (List Int) × List (List Int)) × station_Station) (x52 : Int) : Option world_World := ((station_Station_Take.f k t28.2 0 x52).bind fun t53 => ((pipe_Pipe_Put.f a0.ways.1.1.pipe t53.1).bind fun t55 => ((pipe_Pipe_Cut.f a0.ways.1.2.pipe).bind fun t254 => (if t254 = true then (world_World_Step.j1 k a0 t28 t40 t53 t55 a0.c.Rate) else ((pipe_Pipe_Room.f a0.ways.1.2.pipe).bind fun t257 => (world_World_Step.j1 k a0 t28 t40 t53 t55 (imin a0.c.Rate t257)))))))
end
def world_World_Step.f (k : Nat) (a0 : world_World) : Option world_World := ((station_Station_Step.f k a0.stations.1).bind fun t28 => (if (a0.ways.1.1.sent.length : Int) + t28.1.1.length ≤ 1099511627776 then (if (a0.ways.2.1.sent.length : Int) + t28.1.2.length ≤ 1099511627776 then ((station_Station_Step.f k a0.stations.2).bind fun t40 => (if (a0.ways.1.2.sent.length : Int) + t40.1.1.length ≤ 1099511627776 then (if (a0.ways.2.2.sent.length : Int) + t40.1.2.length ≤ 1099511627776 then ((pipe_Pipe_Cut.f a0.ways.1.1.pipe).bind fun t261 => (if t261 = true then (world_World_Step.j0 k a0 t28 t40 a0.c.Rate) else ((pipe_Pipe_Room.f a0.ways.1.1.pipe).bind fun t264 => (world_World_Step.j0 k a0 t28 t40 (imin a0.c.Rate t264))))) else none) else none)) else none) else none))
theorem world_World_Step.calls (H : world_World_Step.f k a0 = some r) (HS : St [world_World.at b0 a0, R] w0 w) : Calls Tryz.prog 94 #[pt b0] w (Ret fun u w => u = Value.tuple #[] ∧ St [world_World.at b0 r, R] w0 w) := by
 refine calls_enter func94 rfl rfl (go ?_)
 refine W.e (Y.box HS rfl) rfl ?_
 rintro _ w ⟨nb1, rfl, HS⟩
 refine go ?_
 have HS := HS.fr 1
 obtain ⟨b16_4, b17_4, b18_4, _, _, d19_4, a20_4, c20_4, d20_4, b21_4, _, _, d22_4, a23_4, c23_4, d23_4, b24_4, _, _, d25_4, a26_4, c26_4, d26_4, b27_4, _, _, d28_4, a29_4, c29_4, d29_4, _, HS⟩ := world_World.open HS
 refine go ?_
 refine V.rs 2 [(1, pt nb1), (9, Value.agg #[pt b16_4, pt b17_4]), (10, vi (0))] (go ?_)
 refine W.r (X.ixK (pt b16_4) rfl rfl (fun _ => by kernel_rfl)) rfl (go ?_)
 have HS := HS.b [1]
 refine W.kl H func133 (fun _ h => station_Station_Step.calls h HS.j1) ?_
 rintro t28 _ w H ⟨at28_0_0, ct28_0_0, dt28_0_0, at28_0_1, ct28_0_1, dt28_0_1, rfl, HS⟩
 have HS := HS.o5
 refine go ?_
 refine V.rs 2 [(1, pt nb1), (2, vi (0)), (9, Value.agg #[pt b16_4, pt b17_4]), (10, vi (0)), (15, Value.agg #[vs at28_0_0 t28.1.1.length ct28_0_0, vs at28_0_1 t28.1.2.length ct28_0_1]), (16, vi (0))] (go ?_)
 refine W.r (X.ixK (vs at28_0_0 t28.1.1.length ct28_0_0) rfl rfl (fun _ => by kernel_rfl)) rfl (go ?_)
 apply V.da [13, 19] [17, 18] [(20, _), (21, _), (22, _), (23, _), (24, _), (25, _), (26, _), (27, _), (28, _), (29, _), (30, _), (31, _), (32, _), (34, _), (35, _), (36, _)] mo HS
 rfl
 refine T.e [31, 32] [] [3, 4, 5, 6, 7, 8, 9, 10, 11, 12] fun w HS => ?_
 obtain ⟨_, H⟩ := ite_n H
 refine ⟨_, Y.app (xs := a0.ways.1.1.sent) (ys := t28.1.1) 8 underlying53 ap27 rfl (by decide) HS rfl rfl rfl (rdC.at 0 row_rd HS rfl) (St.tie_one 1 HS rfl) (by omega) (by omega), ?_⟩
 rintro _ w ⟨ra35, rc36, rfl, HS⟩
 have HS := St.tie_app 2 (HS.fr 9) rfl
 apply T.na [(33, _), (37, _), (38, _)] HS
 exact nmk
 refine T.e [33, 38] [] [0, 1, 2, 14, 15, 16, 17, 18] fun w HS => ?_
 refine Y.sr 19 HS rfl rfl rfl fun _ w HS => ?_
 refine T.nn HS ?_
 refine T.ff [1, 2, 9, 10, 15, 16] fun w HS => ?_
 refine go ?_
 refine At.ow [(1, pt nb1), (2, vi (0)), (9, Value.agg #[pt b16_4, pt b17_4]), (10, vi (0)), (15, Value.agg #[vs at28_0_0 t28.1.1.length ct28_0_0, vs at28_0_1 t28.1.2.length ct28_0_1]), (16, vi (1))] (go ?_)
 refine W.r (X.ixK (vs at28_0_1 t28.1.2.length ct28_0_1) rfl rfl (fun _ => by kernel_rfl)) rfl (go ?_)
 apply V.da [13, 19] [17, 18] [(20, _), (21, _), (22, _), (23, _), (24, _), (25, _), (26, _), (27, _), (28, _), (29, _), (30, _), (31, _), (32, _), (34, _), (35, _), (36, _)] mo HS
 rfl
 refine T.e [31, 32] [] [3, 4, 5, 6, 7, 8, 9, 10, 11, 12] fun w HS => ?_
 obtain ⟨_, H⟩ := ite_n H
 refine ⟨_, Y.app (xs := a0.ways.2.1.sent) (ys := t28.1.2) 18 underlying53 ap27 rfl (by decide) HS rfl rfl rfl (rdC.at 3 row_rd HS rfl) (St.tie_one 4 HS rfl) (by omega) (by omega), ?_⟩
 rintro _ w ⟨ra38, rc39, rfl, HS⟩
 have HS := St.tie_app 5 (HS.fr 19) rfl
 apply T.na [(33, _), (37, _), (38, _)] HS
 exact nmk
 refine T.e [33, 38] [] [0, 1, 2, 14, 15, 16, 17, 18] fun w HS => ?_
 refine Y.sr 25 HS rfl rfl rfl fun _ w HS => ?_
 refine T.nn HS ?_
 refine T.ff [1, 2, 9, 10, 15, 16] fun w HS => ?_
 refine go ?_
 refine At.ow [(1, pt nb1), (2, vi (0)), (9, Value.agg #[pt b16_4, pt b17_4]), (10, vi (0)), (15, Value.agg #[vs at28_0_0 t28.1.1.length ct28_0_0, vs at28_0_1 t28.1.2.length ct28_0_1]), (16, vi (2))] (go ?_)
 refine At.ow [(1, pt nb1), (9, Value.agg #[pt b16_4, pt b17_4]), (10, vi (1))] (go ?_)
 refine W.r (X.ixK (pt b17_4) rfl rfl (fun _ => by kernel_rfl)) rfl (go ?_)
 have HS := HS.b [8]
 refine W.kl H func133 (fun _ h => station_Station_Step.calls h HS.j1) ?_
 rintro t40 _ w H ⟨at40_0_0, ct40_0_0, dt40_0_0, at40_0_1, ct40_0_1, dt40_0_1, rfl, HS⟩
 have HS := HS.o5
 refine go ?_
 refine V.rs 2 [(1, pt nb1), (2, vi (1)), (9, Value.agg #[pt b16_4, pt b17_4]), (10, vi (1)), (15, Value.agg #[vs at40_0_0 t40.1.1.length ct40_0_0, vs at40_0_1 t40.1.2.length ct40_0_1]), (16, vi (0))] (go ?_)
 refine W.r (X.ixK (vs at40_0_0 t40.1.1.length ct40_0_0) rfl rfl (fun _ => by kernel_rfl)) rfl (go ?_)
 apply V.da [13, 19] [17, 18] [(20, _), (21, _), (22, _), (23, _), (24, _), (25, _), (26, _), (27, _), (28, _), (29, _), (30, _), (31, _), (32, _), (34, _), (35, _), (36, _)] mo HS
 rfl
 refine T.e [31, 32] [] [3, 4, 5, 6, 7, 8, 9, 10, 11, 12] fun w HS => ?_
 obtain ⟨_, H⟩ := ite_n H
 refine ⟨_, Y.app (xs := a0.ways.1.2.sent) (ys := t40.1.1) 18 underlying53 ap27 rfl (by decide) HS rfl rfl rfl (rdC.at 0 row_rd HS rfl) (St.tie_one 1 HS rfl) (by omega) (by omega), ?_⟩
 rintro _ w ⟨ra47, rc48, rfl, HS⟩
 have HS := St.tie_app 2 (HS.fr 19) rfl
 apply T.na [(33, _), (37, _), (38, _)] HS
 exact nmk
 refine T.e [33, 38] [] [0, 1, 2, 14, 15, 16, 17, 18] fun w HS => ?_
 refine Y.sr 22 HS rfl rfl rfl fun _ w HS => ?_
 refine T.nn HS ?_
 refine T.ff [1, 2, 9, 10, 15, 16] fun w HS => ?_
 refine go ?_
 refine At.ow [(1, pt nb1), (2, vi (1)), (9, Value.agg #[pt b16_4, pt b17_4]), (10, vi (1)), (15, Value.agg #[vs at40_0_0 t40.1.1.length ct40_0_0, vs at40_0_1 t40.1.2.length ct40_0_1]), (16, vi (1))] (go ?_)
 refine W.r (X.ixK (vs at40_0_1 t40.1.2.length ct40_0_1) rfl rfl (fun _ => by kernel_rfl)) rfl (go ?_)
 apply V.da [13, 19] [17, 18] [(20, _), (21, _), (22, _), (23, _), (24, _), (25, _), (26, _), (27, _), (28, _), (29, _), (30, _), (31, _), (32, _), (34, _), (35, _), (36, _)] mo HS
 rfl
 refine T.e [31, 32] [] [3, 4, 5, 6, 7, 8, 9, 10, 11, 12] fun w HS => ?_
 obtain ⟨_, H⟩ := ite_n H
 refine ⟨_, Y.app (xs := a0.ways.2.2.sent) (ys := t40.1.2) 27 underlying53 ap27 rfl (by decide) HS rfl rfl rfl (rdC.at 3 row_rd HS rfl) (St.tie_one 4 HS rfl) (by omega) (by omega), ?_⟩
 rintro _ w ⟨ra50, rc51, rfl, HS⟩
 have HS := St.tie_app 5 (HS.fr 28) rfl
 apply T.na [(33, _), (37, _), (38, _)] HS
 exact nmk
 refine T.e [33, 38] [] [0, 1, 2, 14, 15, 16, 17, 18] fun w HS => ?_
 refine Y.sr 28 HS rfl rfl rfl fun _ w HS => ?_
 refine T.nn HS ?_
 refine T.ff [1, 2, 9, 10, 15, 16] fun w HS => ?_
 refine go ?_
 refine At.ow [(1, pt nb1), (2, vi (1)), (9, Value.agg #[pt b16_4, pt b17_4]), (10, vi (1)), (15, Value.agg #[vs at40_0_0 t40.1.1.length ct40_0_0, vs at40_0_1 t40.1.2.length ct40_0_1]), (16, vi (2))] (go ?_)
 refine At.ow [(1, pt nb1), (9, Value.agg #[pt b16_4, pt b17_4]), (10, vi (2))] (go ?_)
 refine W.r (X.mkFunc rfl) rfl ?_
 refine W.inl (Y.cl (vs := [pt b0, Value.func (.func 135) #[] #[pt nb1]]) func134 (calls_enter func134 rfl rfl ?_)) rfl rfl rfl
 refine go ?_
 refine V.rs 2 [(0, pt b0), (1, Value.func (.func 135) #[] #[pt nb1]), (6, vi (0))] (go ?_)
 refine V.rs 2 [(0, pt b0), (1, Value.func (.func 135) #[] #[pt nb1]), (4, vi (0)), (6, vi (0)), (9, vi (0))] (go ?_)
 refine W.inl (Y.callV (vs := [vi (0), vi (0), po b0 (0 + 18 + 0 * 6 + 0 * 3)]) (cs := [pt nb1]) rfl func135 (by kernel_rfl) rfl rfl (calls_enter func135 rfl rfl ?_)) rfl rfl rfl
 apply V.da [13, 14, 15] [] [(7, _), (8, _), (9, _), (10, _), (11, _), (12, _), (13, _), (14, _), (15, _), (16, _), (17, _), (18, _), (19, _)] mo HS
 rfl
 refine T.e [18, 19] [] [11, 12] fun w HS => ?_
 refine ⟨(fun u w => ∃ z : Int, u = vi z ∧ Sep.St [tie (El.sl (El.int .u8)) (d28_4 ++ dt40_0_1) (a0.ways.2.2.sent ++ t40.1.2), tie (El.sl (El.int .u8)) (d22_4 ++ dt40_0_0) (a0.ways.1.2.sent ++ t40.1.1), row 27 1 (.slice at40_0_0 t40.1.1.length ct40_0_0) t40.1.1.length dt40_0_0, tie (El.sl (El.int .u8)) dt40_0_0 t40.1.1, row 27 1 (.slice at40_0_1 t40.1.2.length ct40_0_1) t40.1.2.length dt40_0_1, tie (El.sl (El.int .u8)) dt40_0_1 t40.1.2, station_Station.at b17_4 t40.2, tie (El.sl (El.int .u8)) (d25_4 ++ dt28_0_1) (a0.ways.2.1.sent ++ t28.1.2), tie (El.sl (El.int .u8)) (d19_4 ++ dt28_0_0) (a0.ways.1.1.sent ++ t28.1.1), row 27 1 (.slice at28_0_0 t28.1.1.length ct28_0_0) t28.1.1.length dt28_0_0, tie (El.sl (El.int .u8)) dt28_0_0 t28.1.1, row 27 1 (.slice at28_0_1 t28.1.2.length ct28_0_1) t28.1.2.length dt28_0_1, tie (El.sl (El.int .u8)) dt28_0_1 t28.1.2, station_Station.at b16_4 t28.2, blk b0 (#[vi a0.c.Mode, vi a0.c.Modulus, vi a0.c.Window, vi a0.c.T1, vi a0.c.N2, vi a0.c.Hold, vi a0.c.Wait, vi a0.c.Keep, vi a0.c.Queue, vi a0.c.Size, vi a0.c.Ring, vi a0.c.Rate, vi a0.c.Bad, vi a0.c.Good, vb a0.c.Revert, vb a0.c.Wide, pt b16_4, pt b17_4, pt b18_4, vs ra35 (a0.ways.1.1.sent ++ t28.1.1).length rc36, vs a20_4 a0.ways.1.1.got.length c20_4, pt b21_4, vs ra47 (a0.ways.1.2.sent ++ t40.1.1).length rc48, vs a23_4 a0.ways.1.2.got.length c23_4, pt b24_4, vs ra38 (a0.ways.2.1.sent ++ t28.1.2).length rc39, vs a26_4 a0.ways.2.1.got.length c26_4, pt b27_4, vs ra50 (a0.ways.2.2.sent ++ t40.1.2).length rc51, vs a29_4 a0.ways.2.2.got.length c29_4, vi a0.now]) 117, pipe_Pipe.at b18_4 a0.ways.1.1.pipe, row 27 1 (.slice ra35 (a0.ways.1.1.sent ++ t28.1.1).length rc36) (a0.ways.1.1.sent ++ t28.1.1).length (d19_4 ++ dt28_0_0), row 27 1 (.slice a20_4 a0.ways.1.1.got.length c20_4) a0.ways.1.1.got.length d20_4, tie (El.sl (El.int .u8)) d20_4 a0.ways.1.1.got, pipe_Pipe.at b21_4 a0.ways.1.2.pipe, row 27 1 (.slice ra47 (a0.ways.1.2.sent ++ t40.1.1).length rc48) (a0.ways.1.2.sent ++ t40.1.1).length (d22_4 ++ dt40_0_0), row 27 1 (.slice a23_4 a0.ways.1.2.got.length c23_4) a0.ways.1.2.got.length d23_4, tie (El.sl (El.int .u8)) d23_4 a0.ways.1.2.got, pipe_Pipe.at b24_4 a0.ways.2.1.pipe, row 27 1 (.slice ra38 (a0.ways.2.1.sent ++ t28.1.2).length rc39) (a0.ways.2.1.sent ++ t28.1.2).length (d25_4 ++ dt28_0_1), row 27 1 (.slice a26_4 a0.ways.2.1.got.length c26_4) a0.ways.2.1.got.length d26_4, tie (El.sl (El.int .u8)) d26_4 a0.ways.2.1.got, pipe_Pipe.at b27_4 a0.ways.2.2.pipe, row 27 1 (.slice ra50 (a0.ways.2.2.sent ++ t40.1.2).length rc51) (a0.ways.2.2.sent ++ t40.1.2).length (d28_4 ++ dt40_0_1), row 27 1 (.slice a29_4 a0.ways.2.2.got.length c29_4) a0.ways.2.2.got.length d29_4, tie (El.sl (El.int .u8)) d29_4 a0.ways.2.2.got, blk nb1 (#[pt b0]) 70, R] w0 w ∧ world_World_Step.j0 k a0 t28 t40 z = some r), Y.cl (vs := [pt b0, po b0 (0 + 18 + 0 * 6 + 0 * 3)]) func138 (calls_enter func138 rfl rfl ?_), ?_⟩
 ·refine go ?_
  have HS := HS.fr 15
  obtain ⟨_, _, _, HS⟩ := pipe_Pipe.open HS
  refine W.kl H func187 (fun _ h => pipe_Pipe_Cut.calls h HS.j2) ?_
  rintro _ _ w H ⟨rfl, HS⟩
  have HS := HS.o2
  refine go ?_
  refine V.cv H rfl (fun _ H => go ?_) (fun _ H => go ?_)
  ·refine At.ret1 rfl rfl ⟨_, rfl, ?_⟩
   have HS := (pipe_Pipe.close tv HS).b [1, 1, 1, 1, 1, 1, 1, 1, 1, 1, 1, 1, 1, 1, 1]
   exact ⟨a0.c.Rate, rfl, HS, H⟩
  ·apply V.da [9] [10, 11] [(15, _), (16, _), (17, _), (18, _), (19, _), (20, _), (21, _), (22, _), (23, _)] mo HS
   rfl
   refine T.e [23] [] [5, 6, 7, 8] fun w HS => ?_
   refine Y.kl H func143 (fun _ h => pipe_Pipe_Room.calls h HS.j2) ?_
   rintro t264 _ w H ⟨rfl, HS⟩
   have HS := HS.o2
   apply T.na [(24, _), (25, _), (4, _)] HS
   exact nmk
   refine T.ff [4] (fun w HS => ?_) ⟨rd, rd, rd, rd, rd, .n2 19 24 rfl rfl rfl (fun w HS => X.min2 rfl rfl), rds⟩
   refine go ?_
   refine At.ret1 rfl rfl ⟨_, rfl, ?_⟩
   have HS := (pipe_Pipe.close tv HS).b [1, 1, 1, 1, 1, 1, 1, 1, 1, 1, 1, 1, 1, 1, 1]
   exact ⟨imin a0.c.Rate t264, rfl, HS, H⟩
 ·rintro _ w ⟨_, rfl, HS, H⟩
  refine T.nw HS ?_
  refine T.e [16, 17, 20] [] [4, 5, 6, 7, 8, 9, 10] fun w HS => ?_
  have HS := HS.b [13]
  refine Y.kl H func137 (fun _ h => station_Station_Take.calls h HS.j1) ?_
  rintro t53 _ w H ⟨at53_0, ct53_0, rfl, HS⟩
  have HS := HS.o2
  refine T.nw HS ?_
  refine T.e [10, 21] [] [0, 1, 2, 3] fun w HS => ?_
  have HS := HS.b [16]
  refine Y.kl H func136 (fun _ h => pipe_Pipe_Put.calls h HS.j1 (rdC.part 0 row_rd rfl)) ?_
  rintro t55 _ w H ⟨rfl, HS⟩
  have HS := HS.o1
  refine T.nw HS ?_
  refine T.ff [] fun w HS => ?_
  refine At.end0 rfl ⟨_, rfl, ?_⟩
  refine go ?_
  refine At.ow [(0, pt b0), (1, Value.func (.func 135) #[] #[pt nb1]), (4, vi (0)), (6, vi (0)), (9, vi (1))] (go ?_)
  refine W.inl (Y.callV (vs := [vi (0), vi (1), po b0 (0 + 18 + 0 * 6 + 1 * 3)]) (cs := [pt nb1]) rfl func135 (by kernel_rfl) rfl rfl (calls_enter func135 rfl rfl ?_)) rfl rfl rfl
  apply V.da [13, 14, 15] [] [(7, _), (8, _), (9, _), (10, _), (11, _), (12, _), (13, _), (14, _), (15, _), (16, _), (17, _), (18, _), (19, _)] mo HS
  rfl
  refine T.e [18, 19] [] [11, 12] fun w HS => ?_
  refine ⟨(fun u w => ∃ z : Int, u = vi z ∧ Sep.St [pipe_Pipe.at b18_4 t55.2, row 5 1 (.slice at53_0 t53.1.length ct53_0) t53.1.length (t53.1.map (Value.int .u8)), station_Station.at b16_4 t53.2, tie (El.sl (El.int .u8)) (d28_4 ++ dt40_0_1) (a0.ways.2.2.sent ++ t40.1.2), tie (El.sl (El.int .u8)) (d22_4 ++ dt40_0_0) (a0.ways.1.2.sent ++ t40.1.1), row 27 1 (.slice at40_0_0 t40.1.1.length ct40_0_0) t40.1.1.length dt40_0_0, tie (El.sl (El.int .u8)) dt40_0_0 t40.1.1, row 27 1 (.slice at40_0_1 t40.1.2.length ct40_0_1) t40.1.2.length dt40_0_1, tie (El.sl (El.int .u8)) dt40_0_1 t40.1.2, station_Station.at b17_4 t40.2, tie (El.sl (El.int .u8)) (d25_4 ++ dt28_0_1) (a0.ways.2.1.sent ++ t28.1.2), tie (El.sl (El.int .u8)) (d19_4 ++ dt28_0_0) (a0.ways.1.1.sent ++ t28.1.1), row 27 1 (.slice at28_0_0 t28.1.1.length ct28_0_0) t28.1.1.length dt28_0_0, tie (El.sl (El.int .u8)) dt28_0_0 t28.1.1, row 27 1 (.slice at28_0_1 t28.1.2.length ct28_0_1) t28.1.2.length dt28_0_1, tie (El.sl (El.int .u8)) dt28_0_1 t28.1.2, blk b0 (#[vi a0.c.Mode, vi a0.c.Modulus, vi a0.c.Window, vi a0.c.T1, vi a0.c.N2, vi a0.c.Hold, vi a0.c.Wait, vi a0.c.Keep, vi a0.c.Queue, vi a0.c.Size, vi a0.c.Ring, vi a0.c.Rate, vi a0.c.Bad, vi a0.c.Good, vb a0.c.Revert, vb a0.c.Wide, pt b16_4, pt b17_4, pt b18_4, vs ra35 (a0.ways.1.1.sent ++ t28.1.1).length rc36, vs a20_4 a0.ways.1.1.got.length c20_4, pt b21_4, vs ra47 (a0.ways.1.2.sent ++ t40.1.1).length rc48, vs a23_4 a0.ways.1.2.got.length c23_4, pt b24_4, vs ra38 (a0.ways.2.1.sent ++ t28.1.2).length rc39, vs a26_4 a0.ways.2.1.got.length c26_4, pt b27_4, vs ra50 (a0.ways.2.2.sent ++ t40.1.2).length rc51, vs a29_4 a0.ways.2.2.got.length c29_4, vi a0.now]) 117, row 27 1 (.slice ra35 (a0.ways.1.1.sent ++ t28.1.1).length rc36) (a0.ways.1.1.sent ++ t28.1.1).length (d19_4 ++ dt28_0_0), row 27 1 (.slice a20_4 a0.ways.1.1.got.length c20_4) a0.ways.1.1.got.length d20_4, tie (El.sl (El.int .u8)) d20_4 a0.ways.1.1.got, pipe_Pipe.at b21_4 a0.ways.1.2.pipe, row 27 1 (.slice ra47 (a0.ways.1.2.sent ++ t40.1.1).length rc48) (a0.ways.1.2.sent ++ t40.1.1).length (d22_4 ++ dt40_0_0), row 27 1 (.slice a23_4 a0.ways.1.2.got.length c23_4) a0.ways.1.2.got.length d23_4, tie (El.sl (El.int .u8)) d23_4 a0.ways.1.2.got, pipe_Pipe.at b24_4 a0.ways.2.1.pipe, row 27 1 (.slice ra38 (a0.ways.2.1.sent ++ t28.1.2).length rc39) (a0.ways.2.1.sent ++ t28.1.2).length (d25_4 ++ dt28_0_1), row 27 1 (.slice a26_4 a0.ways.2.1.got.length c26_4) a0.ways.2.1.got.length d26_4, tie (El.sl (El.int .u8)) d26_4 a0.ways.2.1.got, pipe_Pipe.at b27_4 a0.ways.2.2.pipe, row 27 1 (.slice ra50 (a0.ways.2.2.sent ++ t40.1.2).length rc51) (a0.ways.2.2.sent ++ t40.1.2).length (d28_4 ++ dt40_0_1), row 27 1 (.slice a29_4 a0.ways.2.2.got.length c29_4) a0.ways.2.2.got.length d29_4, tie (El.sl (El.int .u8)) d29_4 a0.ways.2.2.got, blk nb1 (#[pt b0]) 70, R] w0 w ∧ world_World_Step.j1 k a0 t28 t40 t53 t55 z = some r), Y.cl (vs := [pt b0, po b0 (0 + 18 + 0 * 6 + 1 * 3)]) func138 (calls_enter func138 rfl rfl ?_), ?_⟩
  ·refine go ?_
   have HS := HS.fr 20
   obtain ⟨_, _, _, HS⟩ := pipe_Pipe.open HS
   refine W.kl H func187 (fun _ h => pipe_Pipe_Cut.calls h HS.j2) ?_
   rintro _ _ w H ⟨rfl, HS⟩
   have HS := HS.o2
   refine go ?_
   refine V.cv H rfl (fun _ H => go ?_) (fun _ H => go ?_)
   ·refine At.ret1 rfl rfl ⟨_, rfl, ?_⟩
    have HS := (pipe_Pipe.close tv HS).b [1, 1, 1, 1, 1, 1, 1, 1, 1, 1, 1, 1, 1, 1, 1, 1, 1, 1, 1, 1]
    exact ⟨a0.c.Rate, rfl, HS, H⟩
   ·apply V.da [9] [10, 11] [(15, _), (16, _), (17, _), (18, _), (19, _), (20, _), (21, _), (22, _), (23, _)] mo HS
    rfl
    refine T.e [23] [] [5, 6, 7, 8] fun w HS => ?_
    refine Y.kl H func143 (fun _ h => pipe_Pipe_Room.calls h HS.j2) ?_
    rintro t257 _ w H ⟨rfl, HS⟩
    have HS := HS.o2
    apply T.na [(24, _), (25, _), (4, _)] HS
    exact nmk
    refine T.ff [4] (fun w HS => ?_) ⟨rd, rd, rd, rd, rd, .n2 19 24 rfl rfl rfl (fun w HS => X.min2 rfl rfl), rds⟩
    refine go ?_
    refine At.ret1 rfl rfl ⟨_, rfl, ?_⟩
    have HS := (pipe_Pipe.close tv HS).b [1, 1, 1, 1, 1, 1, 1, 1, 1, 1, 1, 1, 1, 1, 1, 1, 1, 1, 1, 1]
    exact ⟨imin a0.c.Rate t257, rfl, HS, H⟩
  ·rintro _ w ⟨_, rfl, HS, H⟩
   refine T.nw HS ?_
   refine T.e [16, 17, 20] [] [4, 5, 6, 7, 8, 9, 10] fun w HS => ?_
   have HS := HS.b [9]
   refine Y.kl H func137 (fun _ h => station_Station_Take.calls h HS.j1) ?_
   rintro t59 _ w H ⟨at59_0, ct59_0, rfl, HS⟩
   have HS := HS.o2
   refine T.nw HS ?_
   refine T.e [10, 21] [] [0, 1, 2, 3] fun w HS => ?_
   have HS := HS.b [21]
   refine Y.kl H func136 (fun _ h => pipe_Pipe_Put.calls h HS.j1 (rdC.part 0 row_rd rfl)) ?_
   rintro t61 _ w H ⟨rfl, HS⟩
   have HS := HS.o1
   refine T.nw HS ?_
   refine T.ff [] fun w HS => ?_
   refine At.end0 rfl ⟨_, rfl, ?_⟩
   refine go ?_
   refine At.ow [(0, pt b0), (1, Value.func (.func 135) #[] #[pt nb1]), (4, vi (0)), (6, vi (0)), (9, vi (2))] (go ?_)
   refine At.ow [(0, pt b0), (1, Value.func (.func 135) #[] #[pt nb1]), (6, vi (1))] (go ?_)
   refine V.rs 2 [(0, pt b0), (1, Value.func (.func 135) #[] #[pt nb1]), (4, vi (1)), (6, vi (1)), (9, vi (0))] (go ?_)
   refine W.inl (Y.callV (vs := [vi (1), vi (0), po b0 (0 + 18 + 1 * 6 + 0 * 3)]) (cs := [pt nb1]) rfl func135 (by kernel_rfl) rfl rfl (calls_enter func135 rfl rfl ?_)) rfl rfl rfl
   apply V.da [13, 14, 15] [] [(7, _), (8, _), (9, _), (10, _), (11, _), (12, _), (13, _), (14, _), (15, _), (16, _), (17, _), (18, _), (19, _)] mo HS
   rfl
   refine T.e [18, 19] [] [11, 12] fun w HS => ?_
   refine ⟨(fun u w => ∃ z : Int, u = vi z ∧ Sep.St [pipe_Pipe.at b21_4 t61.2, row 5 1 (.slice at59_0 t59.1.length ct59_0) t59.1.length (t59.1.map (Value.int .u8)), station_Station.at b17_4 t59.2, pipe_Pipe.at b18_4 t55.2, row 5 1 (.slice at53_0 t53.1.length ct53_0) t53.1.length (t53.1.map (Value.int .u8)), station_Station.at b16_4 t53.2, tie (El.sl (El.int .u8)) (d28_4 ++ dt40_0_1) (a0.ways.2.2.sent ++ t40.1.2), tie (El.sl (El.int .u8)) (d22_4 ++ dt40_0_0) (a0.ways.1.2.sent ++ t40.1.1), row 27 1 (.slice at40_0_0 t40.1.1.length ct40_0_0) t40.1.1.length dt40_0_0, tie (El.sl (El.int .u8)) dt40_0_0 t40.1.1, row 27 1 (.slice at40_0_1 t40.1.2.length ct40_0_1) t40.1.2.length dt40_0_1, tie (El.sl (El.int .u8)) dt40_0_1 t40.1.2, tie (El.sl (El.int .u8)) (d25_4 ++ dt28_0_1) (a0.ways.2.1.sent ++ t28.1.2), tie (El.sl (El.int .u8)) (d19_4 ++ dt28_0_0) (a0.ways.1.1.sent ++ t28.1.1), row 27 1 (.slice at28_0_0 t28.1.1.length ct28_0_0) t28.1.1.length dt28_0_0, tie (El.sl (El.int .u8)) dt28_0_0 t28.1.1, row 27 1 (.slice at28_0_1 t28.1.2.length ct28_0_1) t28.1.2.length dt28_0_1, tie (El.sl (El.int .u8)) dt28_0_1 t28.1.2, blk b0 (#[vi a0.c.Mode, vi a0.c.Modulus, vi a0.c.Window, vi a0.c.T1, vi a0.c.N2, vi a0.c.Hold, vi a0.c.Wait, vi a0.c.Keep, vi a0.c.Queue, vi a0.c.Size, vi a0.c.Ring, vi a0.c.Rate, vi a0.c.Bad, vi a0.c.Good, vb a0.c.Revert, vb a0.c.Wide, pt b16_4, pt b17_4, pt b18_4, vs ra35 (a0.ways.1.1.sent ++ t28.1.1).length rc36, vs a20_4 a0.ways.1.1.got.length c20_4, pt b21_4, vs ra47 (a0.ways.1.2.sent ++ t40.1.1).length rc48, vs a23_4 a0.ways.1.2.got.length c23_4, pt b24_4, vs ra38 (a0.ways.2.1.sent ++ t28.1.2).length rc39, vs a26_4 a0.ways.2.1.got.length c26_4, pt b27_4, vs ra50 (a0.ways.2.2.sent ++ t40.1.2).length rc51, vs a29_4 a0.ways.2.2.got.length c29_4, vi a0.now]) 117, row 27 1 (.slice ra35 (a0.ways.1.1.sent ++ t28.1.1).length rc36) (a0.ways.1.1.sent ++ t28.1.1).length (d19_4 ++ dt28_0_0), row 27 1 (.slice a20_4 a0.ways.1.1.got.length c20_4) a0.ways.1.1.got.length d20_4, tie (El.sl (El.int .u8)) d20_4 a0.ways.1.1.got, row 27 1 (.slice ra47 (a0.ways.1.2.sent ++ t40.1.1).length rc48) (a0.ways.1.2.sent ++ t40.1.1).length (d22_4 ++ dt40_0_0), row 27 1 (.slice a23_4 a0.ways.1.2.got.length c23_4) a0.ways.1.2.got.length d23_4, tie (El.sl (El.int .u8)) d23_4 a0.ways.1.2.got, pipe_Pipe.at b24_4 a0.ways.2.1.pipe, row 27 1 (.slice ra38 (a0.ways.2.1.sent ++ t28.1.2).length rc39) (a0.ways.2.1.sent ++ t28.1.2).length (d25_4 ++ dt28_0_1), row 27 1 (.slice a26_4 a0.ways.2.1.got.length c26_4) a0.ways.2.1.got.length d26_4, tie (El.sl (El.int .u8)) d26_4 a0.ways.2.1.got, pipe_Pipe.at b27_4 a0.ways.2.2.pipe, row 27 1 (.slice ra50 (a0.ways.2.2.sent ++ t40.1.2).length rc51) (a0.ways.2.2.sent ++ t40.1.2).length (d28_4 ++ dt40_0_1), row 27 1 (.slice a29_4 a0.ways.2.2.got.length c29_4) a0.ways.2.2.got.length d29_4, tie (El.sl (El.int .u8)) d29_4 a0.ways.2.2.got, blk nb1 (#[pt b0]) 70, R] w0 w ∧ world_World_Step.j2 k a0 t28 t40 t53 t55 t59 t61 z = some r), Y.cl (vs := [pt b0, po b0 (0 + 18 + 1 * 6 + 0 * 3)]) func138 (calls_enter func138 rfl rfl ?_), ?_⟩
   ·refine go ?_
    have HS := HS.fr 25
    obtain ⟨_, _, _, HS⟩ := pipe_Pipe.open HS
    refine W.kl H func187 (fun _ h => pipe_Pipe_Cut.calls h HS.j2) ?_
    rintro _ _ w H ⟨rfl, HS⟩
    have HS := HS.o2
    refine go ?_
    refine V.cv H rfl (fun _ H => go ?_) (fun _ H => go ?_)
    ·refine At.ret1 rfl rfl ⟨_, rfl, ?_⟩
     have HS := (pipe_Pipe.close tv HS).b [1, 1, 1, 1, 1, 1, 1, 1, 1, 1, 1, 1, 1, 1, 1, 1, 1, 1, 1, 1, 1, 1, 1, 1, 1]
     exact ⟨a0.c.Rate, rfl, HS, H⟩
    ·apply V.da [9] [10, 11] [(15, _), (16, _), (17, _), (18, _), (19, _), (20, _), (21, _), (22, _), (23, _)] mo HS
     rfl
     refine T.e [23] [] [5, 6, 7, 8] fun w HS => ?_
     refine Y.kl H func143 (fun _ h => pipe_Pipe_Room.calls h HS.j2) ?_
     rintro t250 _ w H ⟨rfl, HS⟩
     have HS := HS.o2
     apply T.na [(24, _), (25, _), (4, _)] HS
     exact nmk
     refine T.ff [4] (fun w HS => ?_) ⟨rd, rd, rd, rd, rd, .n2 19 24 rfl rfl rfl (fun w HS => X.min2 rfl rfl), rds⟩
     refine go ?_
     refine At.ret1 rfl rfl ⟨_, rfl, ?_⟩
     have HS := (pipe_Pipe.close tv HS).b [1, 1, 1, 1, 1, 1, 1, 1, 1, 1, 1, 1, 1, 1, 1, 1, 1, 1, 1, 1, 1, 1, 1, 1, 1]
     exact ⟨imin a0.c.Rate t250, rfl, HS, H⟩
   ·rintro _ w ⟨_, rfl, HS, H⟩
    refine T.nw HS ?_
    refine T.e [16, 17, 20] [] [4, 5, 6, 7, 8, 9, 10] fun w HS => ?_
    have HS := HS.b [5]
    refine Y.kl H func137 (fun _ h => station_Station_Take.calls h HS.j1) ?_
    rintro t65 _ w H ⟨at65_0, ct65_0, rfl, HS⟩
    have HS := HS.o2
    refine T.nw HS ?_
    refine T.e [10, 21] [] [0, 1, 2, 3] fun w HS => ?_
    have HS := HS.b [26]
    refine Y.kl H func136 (fun _ h => pipe_Pipe_Put.calls h HS.j1 (rdC.part 0 row_rd rfl)) ?_
    rintro t67 _ w H ⟨rfl, HS⟩
    have HS := HS.o1
    refine T.nw HS ?_
    refine T.ff [] fun w HS => ?_
    refine At.end0 rfl ⟨_, rfl, ?_⟩
    refine go ?_
    refine At.ow [(0, pt b0), (1, Value.func (.func 135) #[] #[pt nb1]), (4, vi (1)), (6, vi (1)), (9, vi (1))] (go ?_)
    refine W.inl (Y.callV (vs := [vi (1), vi (1), po b0 (0 + 18 + 1 * 6 + 1 * 3)]) (cs := [pt nb1]) rfl func135 (by kernel_rfl) rfl rfl (calls_enter func135 rfl rfl ?_)) rfl rfl rfl
    apply V.da [13, 14, 15] [] [(7, _), (8, _), (9, _), (10, _), (11, _), (12, _), (13, _), (14, _), (15, _), (16, _), (17, _), (18, _), (19, _)] mo HS
    rfl
    refine T.e [18, 19] [] [11, 12] fun w HS => ?_
    refine ⟨(fun u w => ∃ z : Int, u = vi z ∧ Sep.St [pipe_Pipe.at b24_4 t67.2, row 5 1 (.slice at65_0 t65.1.length ct65_0) t65.1.length (t65.1.map (Value.int .u8)), station_Station.at b16_4 t65.2, pipe_Pipe.at b21_4 t61.2, row 5 1 (.slice at59_0 t59.1.length ct59_0) t59.1.length (t59.1.map (Value.int .u8)), station_Station.at b17_4 t59.2, pipe_Pipe.at b18_4 t55.2, row 5 1 (.slice at53_0 t53.1.length ct53_0) t53.1.length (t53.1.map (Value.int .u8)), tie (El.sl (El.int .u8)) (d28_4 ++ dt40_0_1) (a0.ways.2.2.sent ++ t40.1.2), tie (El.sl (El.int .u8)) (d22_4 ++ dt40_0_0) (a0.ways.1.2.sent ++ t40.1.1), row 27 1 (.slice at40_0_0 t40.1.1.length ct40_0_0) t40.1.1.length dt40_0_0, tie (El.sl (El.int .u8)) dt40_0_0 t40.1.1, row 27 1 (.slice at40_0_1 t40.1.2.length ct40_0_1) t40.1.2.length dt40_0_1, tie (El.sl (El.int .u8)) dt40_0_1 t40.1.2, tie (El.sl (El.int .u8)) (d25_4 ++ dt28_0_1) (a0.ways.2.1.sent ++ t28.1.2), tie (El.sl (El.int .u8)) (d19_4 ++ dt28_0_0) (a0.ways.1.1.sent ++ t28.1.1), row 27 1 (.slice at28_0_0 t28.1.1.length ct28_0_0) t28.1.1.length dt28_0_0, tie (El.sl (El.int .u8)) dt28_0_0 t28.1.1, row 27 1 (.slice at28_0_1 t28.1.2.length ct28_0_1) t28.1.2.length dt28_0_1, tie (El.sl (El.int .u8)) dt28_0_1 t28.1.2, blk b0 (#[vi a0.c.Mode, vi a0.c.Modulus, vi a0.c.Window, vi a0.c.T1, vi a0.c.N2, vi a0.c.Hold, vi a0.c.Wait, vi a0.c.Keep, vi a0.c.Queue, vi a0.c.Size, vi a0.c.Ring, vi a0.c.Rate, vi a0.c.Bad, vi a0.c.Good, vb a0.c.Revert, vb a0.c.Wide, pt b16_4, pt b17_4, pt b18_4, vs ra35 (a0.ways.1.1.sent ++ t28.1.1).length rc36, vs a20_4 a0.ways.1.1.got.length c20_4, pt b21_4, vs ra47 (a0.ways.1.2.sent ++ t40.1.1).length rc48, vs a23_4 a0.ways.1.2.got.length c23_4, pt b24_4, vs ra38 (a0.ways.2.1.sent ++ t28.1.2).length rc39, vs a26_4 a0.ways.2.1.got.length c26_4, pt b27_4, vs ra50 (a0.ways.2.2.sent ++ t40.1.2).length rc51, vs a29_4 a0.ways.2.2.got.length c29_4, vi a0.now]) 117, row 27 1 (.slice ra35 (a0.ways.1.1.sent ++ t28.1.1).length rc36) (a0.ways.1.1.sent ++ t28.1.1).length (d19_4 ++ dt28_0_0), row 27 1 (.slice a20_4 a0.ways.1.1.got.length c20_4) a0.ways.1.1.got.length d20_4, tie (El.sl (El.int .u8)) d20_4 a0.ways.1.1.got, row 27 1 (.slice ra47 (a0.ways.1.2.sent ++ t40.1.1).length rc48) (a0.ways.1.2.sent ++ t40.1.1).length (d22_4 ++ dt40_0_0), row 27 1 (.slice a23_4 a0.ways.1.2.got.length c23_4) a0.ways.1.2.got.length d23_4, tie (El.sl (El.int .u8)) d23_4 a0.ways.1.2.got, row 27 1 (.slice ra38 (a0.ways.2.1.sent ++ t28.1.2).length rc39) (a0.ways.2.1.sent ++ t28.1.2).length (d25_4 ++ dt28_0_1), row 27 1 (.slice a26_4 a0.ways.2.1.got.length c26_4) a0.ways.2.1.got.length d26_4, tie (El.sl (El.int .u8)) d26_4 a0.ways.2.1.got, pipe_Pipe.at b27_4 a0.ways.2.2.pipe, row 27 1 (.slice ra50 (a0.ways.2.2.sent ++ t40.1.2).length rc51) (a0.ways.2.2.sent ++ t40.1.2).length (d28_4 ++ dt40_0_1), row 27 1 (.slice a29_4 a0.ways.2.2.got.length c29_4) a0.ways.2.2.got.length d29_4, tie (El.sl (El.int .u8)) d29_4 a0.ways.2.2.got, blk nb1 (#[pt b0]) 70, R] w0 w ∧ world_World_Step.j3 k a0 t28 t40 t55 t59 t61 t65 t67 z = some r), Y.cl (vs := [pt b0, po b0 (0 + 18 + 1 * 6 + 1 * 3)]) func138 (calls_enter func138 rfl rfl ?_), ?_⟩
    ·refine go ?_
     have HS := HS.fr 30
     obtain ⟨_, _, _, HS⟩ := pipe_Pipe.open HS
     refine W.kl H func187 (fun _ h => pipe_Pipe_Cut.calls h HS.j2) ?_
     rintro _ _ w H ⟨rfl, HS⟩
     have HS := HS.o2
     refine go ?_
     refine V.cv H rfl (fun _ H => go ?_) (fun _ H => go ?_)
     ·refine At.ret1 rfl rfl ⟨_, rfl, ?_⟩
      have HS := (pipe_Pipe.close tv HS).b [1, 1, 1, 1, 1, 1, 1, 1, 1, 1, 1, 1, 1, 1, 1, 1, 1, 1, 1, 1, 1, 1, 1, 1, 1, 1, 1, 1, 1, 1]
      exact ⟨a0.c.Rate, rfl, HS, H⟩
     ·apply V.da [9] [10, 11] [(15, _), (16, _), (17, _), (18, _), (19, _), (20, _), (21, _), (22, _), (23, _)] mo HS
      rfl
      refine T.e [23] [] [5, 6, 7, 8] fun w HS => ?_
      refine Y.kl H func143 (fun _ h => pipe_Pipe_Room.calls h HS.j2) ?_
      rintro t243 _ w H ⟨rfl, HS⟩
      have HS := HS.o2
      apply T.na [(24, _), (25, _), (4, _)] HS
      exact nmk
      refine T.ff [4] (fun w HS => ?_) ⟨rd, rd, rd, rd, rd, .n2 19 24 rfl rfl rfl (fun w HS => X.min2 rfl rfl), rds⟩
      refine go ?_
      refine At.ret1 rfl rfl ⟨_, rfl, ?_⟩
      have HS := (pipe_Pipe.close tv HS).b [1, 1, 1, 1, 1, 1, 1, 1, 1, 1, 1, 1, 1, 1, 1, 1, 1, 1, 1, 1, 1, 1, 1, 1, 1, 1, 1, 1, 1, 1]
      exact ⟨imin a0.c.Rate t243, rfl, HS, H⟩
    ·rintro _ w ⟨_, rfl, HS, H⟩
     refine T.nw HS ?_
     refine T.e [16, 17, 20] [] [4, 5, 6, 7, 8, 9, 10] fun w HS => ?_
     have HS := HS.b [5]
     refine Y.kl H func137 (fun _ h => station_Station_Take.calls h HS.j1) ?_
     rintro t71 _ w H ⟨at71_0, ct71_0, rfl, HS⟩
     have HS := HS.o2
     refine T.nw HS ?_
     refine T.e [10, 21] [] [0, 1, 2, 3] fun w HS => ?_
     have HS := HS.b [31]
     refine Y.kl H func136 (fun _ h => pipe_Pipe_Put.calls h HS.j1 (rdC.part 0 row_rd rfl)) ?_
     rintro _ _ w H ⟨rfl, HS⟩
     have HS := HS.o1
     refine T.nw HS ?_
     refine T.ff [] fun w HS => ?_
     refine At.end0 rfl ⟨_, rfl, ?_⟩
     refine go ?_
     refine At.ow [(0, pt b0), (1, Value.func (.func 135) #[] #[pt nb1]), (4, vi (1)), (6, vi (1)), (9, vi (2))] (go ?_)
     refine At.ow [(0, pt b0), (1, Value.func (.func 135) #[] #[pt nb1]), (6, vi (2))] (go ?_)
     refine At.end0 rfl ⟨_, rfl, ?_⟩
     refine go ?_
     refine W.r (X.mkFunc rfl) rfl ?_
     refine W.inl (Y.cl (vs := [pt b0, Value.func (.func 139) #[] #[pt nb1]]) func134 (calls_enter func134 rfl rfl ?_)) rfl rfl rfl
     refine go ?_
     refine V.rs 2 [(0, pt b0), (1, Value.func (.func 139) #[] #[pt nb1]), (6, vi (0))] (go ?_)
     refine V.rs 2 [(0, pt b0), (1, Value.func (.func 139) #[] #[pt nb1]), (4, vi (0)), (6, vi (0)), (9, vi (0))] (go ?_)
     refine W.inl (Y.callV (vs := [vi (0), vi (0), po b0 (0 + 18 + 0 * 6 + 0 * 3)]) (cs := [pt nb1]) rfl func139 (by kernel_rfl) rfl rfl (calls_enter func139 rfl rfl ?_)) rfl rfl rfl
     refine go ?_
     apply V.da [9] [10] [(9, _), (10, _), (11, _), (12, _), (13, _), (14, _), (15, _), (16, _), (17, _), (20, _)] mo HS
     rfl
     refine T.e [12, 17] [] [0, 1, 2, 3, 4, 5, 6, 7, 8] fun w HS => ?_
     have HS := HS.b [8]
     refine Y.kl H func140 (fun _ h => pipe_Pipe_Take.calls h HS.j1) ?_
     rintro t75 _ w H ⟨at75_0, ct75_0, rfl, HS⟩
     have HS := HS.o2
     apply T.na [(18, _), (19, _)] HS
     exact nmk
     refine T.ff [0, 1, 2, 3, 18, 19, 20] fun w HS => ?_
     refine go ?_
     have HS := world_World.close tv (HS.b [23, 7, 4, 1, 20, 15, 19, 19, 5, 18, 8, 17, 17, 3, 16, 11, 15, 15, 1, 14, 5, 13, 13])
     refine V.lj (σ := Int × world_World) [0, 1, 2, 3, 18, 19] (fun kq (x79, x80) w => St [world_World.at b0 x80, rB at75_0 ct75_0 t75.1, rB at71_0 ct71_0 t71.1, rB at65_0 ct65_0 t65.1, rB at59_0 ct59_0 t59.1, rB at53_0 ct53_0 t53.1, row 27 1 (.slice at40_0_0 t40.1.1.length ct40_0_0) t40.1.1.length dt40_0_0, tie (El.sl (El.int .u8)) dt40_0_0 t40.1.1, row 27 1 (.slice at40_0_1 t40.1.2.length ct40_0_1) t40.1.2.length dt40_0_1, tie (El.sl (El.int .u8)) dt40_0_1 t40.1.2, row 27 1 (.slice at28_0_0 t28.1.1.length ct28_0_0) t28.1.1.length dt28_0_0, tie (El.sl (El.int .u8)) dt28_0_0 t28.1.1, row 27 1 (.slice at28_0_1 t28.1.2.length ct28_0_1) t28.1.2.length dt28_0_1, tie (El.sl (El.int .u8)) dt28_0_1 t28.1.2, blk nb1 (#[pt b0]) 70, R] w0 w ∧ world_World_Step.l4 kq t75 x79 x80 = some r ∧ kq ≤ k) (fun (x79, x80) => [(20, vi x79)]) (_, _) ⟨HS, H, Nat.le_refl _⟩ ?_
     rintro kq81 ⟨x79, x80⟩ w ⟨HS, H, _⟩
     cases kq81 with
     | zero => exact absurd H (by simp [world_World_Step.l4])
     | succ kq81 =>
      simp only [world_World_Step.l4] at H
      refine go ?_
      refine V.cd H rfl (fun _ H => go ?_) (fun _ H => go ?_)
      ·obtain ⟨c84, H⟩ := ite_n H
       obtain ⟨_, _, hh⟩ := (rdC.at 1 row_rd HS rfl).some (by decide) c84.1 c84.2; subst hh
       refine go ?_
       refine W.r (X.load underlying5 rfl rfl ((rdC.at 1 row_rd HS rfl).cellI c84.1 c84.2)) rfl (go ?_)
       refine W.inl (Y.cl (vs := [pt b0, vi (0), vi (0), po b0 (0 + 18 + 0 * 6 + 0 * 3), Value.int .u8 (t75.1.getD x79.toNat 0)]) func141 (calls_enter func141 rfl rfl ?_)) rfl rfl rfl
       refine go ?_
       obtain ⟨_, _, _, _, _, _, _, _, _, _, _, _, _, _, _, _, _, _, _, _, _, _, _, _, _, _, _, _, _, _, _, HS⟩ := world_World.open HS
       refine go ?_
       have HS := HS.b [2]
       refine W.kl H func188 (fun _ h => station_Station_Push.calls h HS.j1) ?_
       rintro t89 _ w H ⟨at89_1, ct89_1, rfl, HS⟩
       have HS := HS.o2
       refine go ?_
       refine V.cd H rfl (fun _ H => go ?_) (fun _ H => go ?_)
       ·have HS := St.row_freeze HS
        refine W.e (Y.lc (e := 27) (sz := 1) [vs at89_1 t89.2.1.length ct89_1] HS rfl rfl (fun _ => by kernel_rfl)) rfl ?_
        rintro _ w ⟨_, rfl, HS⟩
        have HS := St.tie_cons (((St.sl_close (E := (El.int .u8)) (St.swap (St.put (A := tie (El.int .u8) (t89.2.1.map (Value.int .u8)) t89.2.1) (fun _ => int_tie) ((St.put (A := tie (El.sl (El.int .u8)) ([]) (([] : List (List Int)))) (fun _ => tie.nil) HS).more 2 rfl (fun _ t => t) fsl.pers)))).fr 1).fr 1)
        obtain ⟨_, H⟩ := ite_n H
        refine W.e (Y.app (xs := x80.ways.1.1.got) (ys := ([t89.2.1] : List (List Int))) 9 underlying53 ap27 rfl (by decide) HS rfl rfl rfl (rdC.at 1 row_rd HS rfl) (St.tie_one 0 HS rfl) (by omega) (by omega)) rfl ?_
        rintro _ w ⟨_, _, rfl, HS⟩
        have HS := St.tie_app 1 (HS.fr 10) rfl
        refine go ?_
        refine W.sr 20 HS rfl rfl rfl fun w HS => go ?_
        refine At.end0 rfl ⟨_, rfl, ?_⟩
        refine go ?_
        have HS := (world_World.close tv (HS.b [5, 5, 4, 4, 4, 4, 4, 0, 3, 3, 3, 3, 3, 3, 3, 3, 3, 3, 3, 3, 3, 3, 3])).ke [0, 3, 3, 3, 3, 3, 3, 3, 3, 3, 3, 3, 3, 3, 3, 3]
        exact At.rn (_, _) ⟨HS, H, by omega⟩
       ·refine At.end0 rfl ⟨_, rfl, ?_⟩
        refine go ?_
        have HS := (world_World.close tv (HS.b [2, 2, 1, 1, 1, 1, 1, 1, 1, 1, 1, 1, 1, 1, 1, 1, 1, 1, 1, 1, 1, 1, 1])).ke [0, 1, 1, 1, 1, 1, 1, 1, 1, 1, 1, 1, 1, 1, 1, 1]
        exact At.rn (_, _) ⟨HS, H, by omega⟩
      ·refine At.end0 rfl ⟨_, rfl, ?_⟩
       refine go ?_
       refine At.ow [(0, pt b0), (1, Value.func (.func 139) #[] #[pt nb1]), (4, vi (0)), (6, vi (0)), (9, vi (1))] (go ?_)
       obtain ⟨_, _, _, _, _, _, _, _, _, _, _, _, _, _, _, _, _, _, _, _, _, _, _, _, _, _, _, _, _, _, _, HS⟩ := world_World.open HS
       refine go ?_
       refine W.inl (Y.callV (vs := [vi (0), vi (1), po b0 (0 + 18 + 0 * 6 + 1 * 3)]) (cs := [pt nb1]) rfl func139 (by kernel_rfl) rfl rfl (calls_enter func139 rfl rfl ?_)) rfl rfl rfl
       refine go ?_
       apply V.da [9] [10] [(9, _), (10, _), (11, _), (12, _), (13, _), (14, _), (15, _), (16, _), (17, _), (20, _)] mo HS
       rfl
       refine T.e [12, 17] [] [0, 1, 2, 3, 4, 5, 6, 7, 8] fun w HS => ?_
       have HS := HS.b [8]
       refine Y.kl H func140 (fun _ h => pipe_Pipe_Take.calls h HS.j1) ?_
       rintro t100 _ w H ⟨at100_0, ct100_0, rfl, HS⟩
       have HS := HS.o2
       apply T.na [(18, _), (19, _)] HS
       exact nmk
       refine T.ff [0, 1, 2, 3, 18, 19, 20] fun w HS => ?_
       refine go ?_
       have HS := world_World.close tv (HS.b [2, 2, 2, 2, 2, 2, 2, 2, 1, 1, 1, 1, 1, 1, 1, 1, 1, 1, 1, 1, 1, 1, 1])
       refine V.lj (σ := Int × world_World) [0, 1, 2, 3, 18, 19] (fun kq (x125, x126) w => St [world_World.at b0 x126, rB at100_0 ct100_0 t100.1, rB at75_0 ct75_0 t75.1, rB at71_0 ct71_0 t71.1, rB at65_0 ct65_0 t65.1, rB at59_0 ct59_0 t59.1, rB at53_0 ct53_0 t53.1, row 27 1 (.slice at40_0_0 t40.1.1.length ct40_0_0) t40.1.1.length dt40_0_0, tie (El.sl (El.int .u8)) dt40_0_0 t40.1.1, row 27 1 (.slice at40_0_1 t40.1.2.length ct40_0_1) t40.1.2.length dt40_0_1, tie (El.sl (El.int .u8)) dt40_0_1 t40.1.2, row 27 1 (.slice at28_0_0 t28.1.1.length ct28_0_0) t28.1.1.length dt28_0_0, tie (El.sl (El.int .u8)) dt28_0_0 t28.1.1, row 27 1 (.slice at28_0_1 t28.1.2.length ct28_0_1) t28.1.2.length dt28_0_1, tie (El.sl (El.int .u8)) dt28_0_1 t28.1.2, blk nb1 (#[pt b0]) 70, R] w0 w ∧ world_World_Step.l5 kq t100 x125 x126 = some r ∧ kq ≤ kq81) (fun (x125, x126) => [(20, vi x125)]) (_, _) ⟨HS, H, Nat.le_refl _⟩ ?_
       rintro kq127 ⟨x125, x126⟩ w ⟨HS, H, _⟩
       cases kq127 with
       | zero => exact absurd H (by simp [world_World_Step.l5])
       | succ kq127 =>
        simp only [world_World_Step.l5] at H
        refine go ?_
        refine V.cd H rfl (fun _ H => go ?_) (fun _ H => go ?_)
        ·obtain ⟨c130, H⟩ := ite_n H
         obtain ⟨_, _, hh⟩ := (rdC.at 1 row_rd HS rfl).some (by decide) c130.1 c130.2; subst hh
         refine go ?_
         refine W.r (X.load underlying5 rfl rfl ((rdC.at 1 row_rd HS rfl).cellI c130.1 c130.2)) rfl (go ?_)
         refine W.inl (Y.cl (vs := [pt b0, vi (0), vi (1), po b0 (0 + 18 + 0 * 6 + 1 * 3), Value.int .u8 (t100.1.getD x125.toNat 0)]) func141 (calls_enter func141 rfl rfl ?_)) rfl rfl rfl
         refine go ?_
         obtain ⟨_, _, _, _, _, _, _, _, _, _, _, _, _, _, _, _, _, _, _, _, _, _, _, _, _, _, _, _, _, _, _, HS⟩ := world_World.open HS
         refine go ?_
         have HS := HS.b [1]
         refine W.kl H func188 (fun _ h => station_Station_Push.calls h HS.j1) ?_
         rintro t135 _ w H ⟨at135_1, ct135_1, rfl, HS⟩
         have HS := HS.o2
         refine go ?_
         refine V.cd H rfl (fun _ H => go ?_) (fun _ H => go ?_)
         ·have HS := St.row_freeze HS
          refine W.e (Y.lc (e := 27) (sz := 1) [vs at135_1 t135.2.1.length ct135_1] HS rfl rfl (fun _ => by kernel_rfl)) rfl ?_
          rintro _ w ⟨_, rfl, HS⟩
          have HS := St.tie_cons (((St.sl_close (E := (El.int .u8)) (St.swap (St.put (A := tie (El.int .u8) (t135.2.1.map (Value.int .u8)) t135.2.1) (fun _ => int_tie) ((St.put (A := tie (El.sl (El.int .u8)) ([]) (([] : List (List Int)))) (fun _ => tie.nil) HS).more 2 rfl (fun _ t => t) fsl.pers)))).fr 1).fr 1)
          obtain ⟨_, H⟩ := ite_n H
          refine W.e (Y.app (xs := x126.ways.1.2.got) (ys := ([t135.2.1] : List (List Int))) 14 underlying53 ap27 rfl (by decide) HS rfl rfl rfl (rdC.at 1 row_rd HS rfl) (St.tie_one 0 HS rfl) (by omega) (by omega)) rfl ?_
          rintro _ w ⟨_, _, rfl, HS⟩
          have HS := St.tie_app 1 (HS.fr 15) rfl
          refine go ?_
          refine W.sr 23 HS rfl rfl rfl fun w HS => go ?_
          refine At.end0 rfl ⟨_, rfl, ?_⟩
          refine go ?_
          have HS := (world_World.close tv (HS.b [5, 4, 4, 4, 4, 4, 4, 4, 4, 4, 4, 4, 0, 3, 3, 3, 3, 3, 3, 3, 3, 3, 3])).ke [0, 3, 3, 3, 3, 3, 3, 3, 3, 3, 3, 3, 3, 3, 3, 3, 3]
          exact At.rn (_, _) ⟨HS, H, by omega⟩
         ·refine At.end0 rfl ⟨_, rfl, ?_⟩
          refine go ?_
          have HS := (world_World.close tv (HS.b [2, 1, 1, 1, 1, 1, 1, 1, 1, 1, 1, 1, 1, 1, 1, 1, 1, 1, 1, 1, 1, 1, 1])).ke [0, 1, 1, 1, 1, 1, 1, 1, 1, 1, 1, 1, 1, 1, 1, 1, 1]
          exact At.rn (_, _) ⟨HS, H, by omega⟩
        ·refine At.end0 rfl ⟨_, rfl, ?_⟩
         refine go ?_
         refine At.ow [(0, pt b0), (1, Value.func (.func 139) #[] #[pt nb1]), (4, vi (0)), (6, vi (0)), (9, vi (2))] (go ?_)
         refine At.ow [(0, pt b0), (1, Value.func (.func 139) #[] #[pt nb1]), (6, vi (1))] (go ?_)
         refine V.rs 2 [(0, pt b0), (1, Value.func (.func 139) #[] #[pt nb1]), (4, vi (1)), (6, vi (1)), (9, vi (0))] (go ?_)
         obtain ⟨_, _, _, _, _, _, _, _, _, _, _, _, _, _, _, _, _, _, _, _, _, _, _, _, _, _, _, _, _, _, _, HS⟩ := world_World.open HS
         refine go ?_
         refine W.inl (Y.callV (vs := [vi (1), vi (0), po b0 (0 + 18 + 1 * 6 + 0 * 3)]) (cs := [pt nb1]) rfl func139 (by kernel_rfl) rfl rfl (calls_enter func139 rfl rfl ?_)) rfl rfl rfl
         refine go ?_
         apply V.da [9] [10] [(9, _), (10, _), (11, _), (12, _), (13, _), (14, _), (15, _), (16, _), (17, _), (20, _)] mo HS
         rfl
         refine T.e [12, 17] [] [0, 1, 2, 3, 4, 5, 6, 7, 8] fun w HS => ?_
         have HS := HS.b [13]
         refine Y.kl H func140 (fun _ h => pipe_Pipe_Take.calls h HS.j1) ?_
         rintro t146 _ w H ⟨at146_0, ct146_0, rfl, HS⟩
         have HS := HS.o2
         apply T.na [(18, _), (19, _)] HS
         exact nmk
         refine T.ff [0, 1, 2, 3, 18, 19, 20] fun w HS => ?_
         refine go ?_
         have HS := world_World.close tv (HS.b [2, 2, 2, 2, 2, 2, 2, 2, 2, 2, 2, 2, 2, 1, 1, 1, 1, 1, 1, 1, 1, 1, 1])
         refine V.lj (σ := Int × world_World) [0, 1, 2, 3, 18, 19] (fun kq (x171, x172) w => St [world_World.at b0 x172, rB at146_0 ct146_0 t146.1, rB at100_0 ct100_0 t100.1, rB at75_0 ct75_0 t75.1, rB at71_0 ct71_0 t71.1, rB at65_0 ct65_0 t65.1, rB at59_0 ct59_0 t59.1, rB at53_0 ct53_0 t53.1, row 27 1 (.slice at40_0_0 t40.1.1.length ct40_0_0) t40.1.1.length dt40_0_0, tie (El.sl (El.int .u8)) dt40_0_0 t40.1.1, row 27 1 (.slice at40_0_1 t40.1.2.length ct40_0_1) t40.1.2.length dt40_0_1, tie (El.sl (El.int .u8)) dt40_0_1 t40.1.2, row 27 1 (.slice at28_0_0 t28.1.1.length ct28_0_0) t28.1.1.length dt28_0_0, tie (El.sl (El.int .u8)) dt28_0_0 t28.1.1, row 27 1 (.slice at28_0_1 t28.1.2.length ct28_0_1) t28.1.2.length dt28_0_1, tie (El.sl (El.int .u8)) dt28_0_1 t28.1.2, blk nb1 (#[pt b0]) 70, R] w0 w ∧ world_World_Step.l6 kq t146 x171 x172 = some r ∧ kq ≤ kq127) (fun (x171, x172) => [(20, vi x171)]) (_, _) ⟨HS, H, Nat.le_refl _⟩ ?_
         rintro kq173 ⟨x171, x172⟩ w ⟨HS, H, _⟩
         cases kq173 with
         | zero => exact absurd H (by simp [world_World_Step.l6])
         | succ kq173 =>
          simp only [world_World_Step.l6] at H
          refine go ?_
          refine V.cd H rfl (fun _ H => go ?_) (fun _ H => go ?_)
          ·obtain ⟨c176, H⟩ := ite_n H
           obtain ⟨_, _, hh⟩ := (rdC.at 1 row_rd HS rfl).some (by decide) c176.1 c176.2; subst hh
           refine go ?_
           refine W.r (X.load underlying5 rfl rfl ((rdC.at 1 row_rd HS rfl).cellI c176.1 c176.2)) rfl (go ?_)
           refine W.inl (Y.cl (vs := [pt b0, vi (1), vi (0), po b0 (0 + 18 + 1 * 6 + 0 * 3), Value.int .u8 (t146.1.getD x171.toNat 0)]) func141 (calls_enter func141 rfl rfl ?_)) rfl rfl rfl
           refine go ?_
           obtain ⟨_, _, _, _, _, _, _, _, _, _, _, _, _, _, _, _, _, _, _, _, _, _, _, _, _, _, _, _, _, _, _, HS⟩ := world_World.open HS
           refine go ?_
           have HS := HS.b [2]
           refine W.kl H func188 (fun _ h => station_Station_Push.calls h HS.j1) ?_
           rintro t181 _ w H ⟨at181_1, ct181_1, rfl, HS⟩
           have HS := HS.o2
           refine go ?_
           refine V.cd H rfl (fun _ H => go ?_) (fun _ H => go ?_)
           ·have HS := St.row_freeze HS
            refine W.e (Y.lc (e := 27) (sz := 1) [vs at181_1 t181.2.1.length ct181_1] HS rfl rfl (fun _ => by kernel_rfl)) rfl ?_
            rintro _ w ⟨_, rfl, HS⟩
            have HS := St.tie_cons (((St.sl_close (E := (El.int .u8)) (St.swap (St.put (A := tie (El.int .u8) (t181.2.1.map (Value.int .u8)) t181.2.1) (fun _ => int_tie) ((St.put (A := tie (El.sl (El.int .u8)) ([]) (([] : List (List Int)))) (fun _ => tie.nil) HS).more 2 rfl (fun _ t => t) fsl.pers)))).fr 1).fr 1)
            obtain ⟨_, H⟩ := ite_n H
            refine W.e (Y.app (xs := x172.ways.2.1.got) (ys := ([t181.2.1] : List (List Int))) 19 underlying53 ap27 rfl (by decide) HS rfl rfl rfl (rdC.at 1 row_rd HS rfl) (St.tie_one 0 HS rfl) (by omega) (by omega)) rfl ?_
            rintro _ w ⟨_, _, rfl, HS⟩
            have HS := St.tie_app 1 (HS.fr 20) rfl
            refine go ?_
            refine W.sr 26 HS rfl rfl rfl fun w HS => go ?_
            refine At.end0 rfl ⟨_, rfl, ?_⟩
            refine go ?_
            have HS := (world_World.close tv (HS.b [5, 5, 4, 4, 4, 4, 4, 4, 4, 4, 4, 4, 4, 4, 4, 4, 4, 0, 3, 3, 3, 3, 3])).ke [0, 3, 3, 3, 3, 3, 3, 3, 3, 3, 3, 3, 3, 3, 3, 3, 3, 3]
            exact At.rn (_, _) ⟨HS, H, by omega⟩
           ·refine At.end0 rfl ⟨_, rfl, ?_⟩
            refine go ?_
            have HS := (world_World.close tv (HS.b [2, 2, 1, 1, 1, 1, 1, 1, 1, 1, 1, 1, 1, 1, 1, 1, 1, 1, 1, 1, 1, 1, 1])).ke [0, 1, 1, 1, 1, 1, 1, 1, 1, 1, 1, 1, 1, 1, 1, 1, 1, 1]
            exact At.rn (_, _) ⟨HS, H, by omega⟩
          ·refine At.end0 rfl ⟨_, rfl, ?_⟩
           refine go ?_
           refine At.ow [(0, pt b0), (1, Value.func (.func 139) #[] #[pt nb1]), (4, vi (1)), (6, vi (1)), (9, vi (1))] (go ?_)
           obtain ⟨_, _, _, _, _, _, _, _, _, _, _, _, _, _, _, _, _, _, _, _, _, _, _, _, _, _, _, _, _, _, _, HS⟩ := world_World.open HS
           refine go ?_
           refine W.inl (Y.callV (vs := [vi (1), vi (1), po b0 (0 + 18 + 1 * 6 + 1 * 3)]) (cs := [pt nb1]) rfl func139 (by kernel_rfl) rfl rfl (calls_enter func139 rfl rfl ?_)) rfl rfl rfl
           refine go ?_
           apply V.da [9] [10] [(9, _), (10, _), (11, _), (12, _), (13, _), (14, _), (15, _), (16, _), (17, _), (20, _)] mo HS
           rfl
           refine T.e [12, 17] [] [0, 1, 2, 3, 4, 5, 6, 7, 8] fun w HS => ?_
           have HS := HS.b [18]
           refine Y.kl H func140 (fun _ h => pipe_Pipe_Take.calls h HS.j1) ?_
           rintro t192 _ w H ⟨at192_0, ct192_0, rfl, HS⟩
           have HS := HS.o2
           apply T.na [(18, _), (19, _)] HS
           exact nmk
           refine T.ff [0, 1, 2, 3, 18, 19, 20] fun w HS => ?_
           refine go ?_
           have HS := world_World.close tv (HS.b [2, 2, 2, 2, 2, 2, 2, 2, 2, 2, 2, 2, 2, 2, 2, 2, 2, 2, 1, 1, 1, 1, 1])
           refine V.lj (σ := Int × world_World) [0, 1, 2, 3, 18, 19] (fun kq (x217, x218) w => St [world_World.at b0 x218, rB at192_0 ct192_0 t192.1, rB at146_0 ct146_0 t146.1, rB at100_0 ct100_0 t100.1, rB at75_0 ct75_0 t75.1, rB at71_0 ct71_0 t71.1, rB at65_0 ct65_0 t65.1, rB at59_0 ct59_0 t59.1, rB at53_0 ct53_0 t53.1, row 27 1 (.slice at40_0_0 t40.1.1.length ct40_0_0) t40.1.1.length dt40_0_0, tie (El.sl (El.int .u8)) dt40_0_0 t40.1.1, row 27 1 (.slice at40_0_1 t40.1.2.length ct40_0_1) t40.1.2.length dt40_0_1, tie (El.sl (El.int .u8)) dt40_0_1 t40.1.2, row 27 1 (.slice at28_0_0 t28.1.1.length ct28_0_0) t28.1.1.length dt28_0_0, tie (El.sl (El.int .u8)) dt28_0_0 t28.1.1, row 27 1 (.slice at28_0_1 t28.1.2.length ct28_0_1) t28.1.2.length dt28_0_1, tie (El.sl (El.int .u8)) dt28_0_1 t28.1.2, blk nb1 (#[pt b0]) 70, R] w0 w ∧ world_World_Step.l7 kq t192 x217 x218 = some r ∧ kq ≤ kq173) (fun (x217, x218) => [(20, vi x217)]) (_, _) ⟨HS, H, Nat.le_refl _⟩ ?_
           rintro kq219 ⟨x217, x218⟩ w ⟨HS, H, _⟩
           cases kq219 with
           | zero => exact absurd H (by simp [world_World_Step.l7])
           | succ kq219 =>
            simp only [world_World_Step.l7] at H
            refine go ?_
            refine V.cd H rfl (fun _ H => go ?_) (fun _ H => go ?_)
            ·obtain ⟨c222, H⟩ := ite_n H
             obtain ⟨_, _, hh⟩ := (rdC.at 1 row_rd HS rfl).some (by decide) c222.1 c222.2; subst hh
             refine go ?_
             refine W.r (X.load underlying5 rfl rfl ((rdC.at 1 row_rd HS rfl).cellI c222.1 c222.2)) rfl (go ?_)
             refine W.inl (Y.cl (vs := [pt b0, vi (1), vi (1), po b0 (0 + 18 + 1 * 6 + 1 * 3), Value.int .u8 (t192.1.getD x217.toNat 0)]) func141 (calls_enter func141 rfl rfl ?_)) rfl rfl rfl
             refine go ?_
             obtain ⟨_, _, _, _, _, _, _, _, _, _, _, _, _, _, _, _, _, _, _, _, _, _, _, _, _, _, _, _, _, _, _, HS⟩ := world_World.open HS
             refine go ?_
             have HS := HS.b [1]
             refine W.kl H func188 (fun _ h => station_Station_Push.calls h HS.j1) ?_
             rintro t227 _ w H ⟨at227_1, ct227_1, rfl, HS⟩
             have HS := HS.o2
             refine go ?_
             refine V.cd H rfl (fun _ H => go ?_) (fun _ H => go ?_)
             ·have HS := St.row_freeze HS
              refine W.e (Y.lc (e := 27) (sz := 1) [vs at227_1 t227.2.1.length ct227_1] HS rfl rfl (fun _ => by kernel_rfl)) rfl ?_
              rintro _ w ⟨_, rfl, HS⟩
              have HS := St.tie_cons (((St.sl_close (E := (El.int .u8)) (St.swap (St.put (A := tie (El.int .u8) (t227.2.1.map (Value.int .u8)) t227.2.1) (fun _ => int_tie) ((St.put (A := tie (El.sl (El.int .u8)) ([]) (([] : List (List Int)))) (fun _ => tie.nil) HS).more 2 rfl (fun _ t => t) fsl.pers)))).fr 1).fr 1)
              obtain ⟨_, H⟩ := ite_n H
              refine W.e (Y.app (xs := x218.ways.2.2.got) (ys := ([t227.2.1] : List (List Int))) 24 underlying53 ap27 rfl (by decide) HS rfl rfl rfl (rdC.at 1 row_rd HS rfl) (St.tie_one 0 HS rfl) (by omega) (by omega)) rfl ?_
              rintro _ w ⟨_, _, rfl, HS⟩
              have HS := St.tie_app 1 (HS.fr 25) rfl
              refine go ?_
              refine W.sr 29 HS rfl rfl rfl fun w HS => go ?_
              refine At.end0 rfl ⟨_, rfl, ?_⟩
              refine go ?_
              have HS := (world_World.close tv (HS.b [5, 4, 4, 4, 4, 4, 4, 4, 4, 4, 4, 4, 4, 4, 4, 4, 4, 4, 4, 4, 4, 4])).ke [0, 3, 3, 3, 3, 3, 3, 3, 3, 3, 3, 3, 3, 3, 3, 3, 3, 3, 3]
              exact At.rn (_, _) ⟨HS, H, by omega⟩
             ·refine At.end0 rfl ⟨_, rfl, ?_⟩
              refine go ?_
              have HS := (world_World.close tv (HS.b [2, 1, 1, 1, 1, 1, 1, 1, 1, 1, 1, 1, 1, 1, 1, 1, 1, 1, 1, 1, 1, 1, 1])).ke [0, 1, 1, 1, 1, 1, 1, 1, 1, 1, 1, 1, 1, 1, 1, 1, 1, 1, 1]
              exact At.rn (_, _) ⟨HS, H, by omega⟩
            ·refine At.end0 rfl ⟨_, rfl, ?_⟩
             refine go ?_
             refine At.ow [(0, pt b0), (1, Value.func (.func 139) #[] #[pt nb1]), (4, vi (1)), (6, vi (1)), (9, vi (2))] (go ?_)
             refine At.ow [(0, pt b0), (1, Value.func (.func 139) #[] #[pt nb1]), (6, vi (2))] (go ?_)
             refine At.end0 rfl ⟨_, rfl, ?_⟩
             refine go ?_
             obtain ⟨_, _, _, _, _, _, _, _, _, _, _, _, _, _, _, _, _, _, _, _, _, _, _, _, _, _, _, _, _, _, _, HS⟩ := world_World.open HS
             refine go ?_
             refine W.sr 30 HS rfl rfl rfl fun w HS => go ?_
             have HS := (world_World.close tv HS).ke [0, 17]
             exact rt
def arq_Arq_Inds.f (a0 : arq_Arq) : Option (List Int × arq_Arq) := some (a0.inds, ({ a0 with inds := ([] : List Int) } : arq_Arq))
theorem arq_Arq_Inds.calls (H : arq_Arq_Inds.f a0 = some r) (HS : St [arq_Arq.at b0 a0, R] w0 w) : Calls Tryz.prog 102 #[pt b0] w (Ret fun u w => ∃ aq0 cq0, u = vs aq0 r.1.length cq0 ∧ St [row 3 1 (.slice aq0 r.1.length cq0) r.1.length (r.1.map (Value.int .i64)), arq_Arq.at b0 r.2, R] w0 w) := by
 refine calls_enter func102 rfl rfl (go ?_)
 obtain ⟨_, _, _, _, _, _, _, _, _, HS⟩ := arq_Arq.open HS
 refine go ?_
 refine W.sr 12 HS rfl rfl rfl fun w HS => go ?_
 have HS := (arq_Arq.close (l12 := ([] : List Int)) tv ((row_nilF (Value.int .i64) 3 1 HS).b [1, 1, 1, 1, 1, 1])).b [1]
 exact rt
def station_Station_Inds.f (a0 : station_Station) : Option (List Int × station_Station) := ((arq_Arq_Inds.f a0.arq).bind fun t3 => some (t3.1, ({ a0 with arq := t3.2 } : station_Station)))
theorem station_Station_Inds.calls (H : station_Station_Inds.f a0 = some r) (HS : St [station_Station.at b0 a0, R] w0 w) : Calls Tryz.prog 66 #[pt b0] w (Ret fun u w => ∃ aq0 cq0, u = vs aq0 r.1.length cq0 ∧ St [row 3 1 (.slice aq0 r.1.length cq0) r.1.length (r.1.map (Value.int .i64)), station_Station.at b0 r.2, R] w0 w) := by
 refine calls_enter func66 rfl rfl (go ?_)
 obtain ⟨_, _, _, _, _, _, _, _, _, _, HS⟩ := station_Station.open HS
 refine go ?_
 have HS := HS.b [1]
 refine W.kl H func102 (fun _ h => arq_Arq_Inds.calls h HS.j1) ?_
 rintro _ _ w H ⟨_, _, rfl, HS⟩
 have HS := HS.o2
 refine go ?_
 have HS := (station_Station.close tv (HS.b [2, 1, 1, 1, 1, 1, 1, 1, 1, 1])).b [1]
 exact rt
def world_World_Now.f (a0 : world_World) : Option Int := some a0.now
theorem world_World_Now.calls (H : world_World_Now.f a0 = some r) (HS : St [blk b0 (#[vi a0.c.Mode, vi a0.c.Modulus, vi a0.c.Window, vi a0.c.T1, vi a0.c.N2, vi a0.c.Hold, vi a0.c.Wait, vi a0.c.Keep, vi a0.c.Queue, vi a0.c.Size, vi a0.c.Ring, vi a0.c.Rate, vi a0.c.Bad, vi a0.c.Good, vb a0.c.Revert, vb a0.c.Wide, pt b16_p0, pt b17_p0, pt b18_p0, vs a19_p0 a0.ways.1.1.sent.length c19_p0, vs a20_p0 a0.ways.1.1.got.length c20_p0, pt b21_p0, vs a22_p0 a0.ways.1.2.sent.length c22_p0, vs a23_p0 a0.ways.1.2.got.length c23_p0, pt b24_p0, vs a25_p0 a0.ways.2.1.sent.length c25_p0, vs a26_p0 a0.ways.2.1.got.length c26_p0, pt b27_p0, vs a28_p0 a0.ways.2.2.sent.length c28_p0, vs a29_p0 a0.ways.2.2.got.length c29_p0, vi a0.now]) 117, station_Station.at b16_p0 a0.stations.1, station_Station.at b17_p0 a0.stations.2, pipe_Pipe.at b18_p0 a0.ways.1.1.pipe, row 27 1 (.slice a19_p0 a0.ways.1.1.sent.length c19_p0) a0.ways.1.1.sent.length d19_p0, tie (El.sl (El.int .u8)) d19_p0 a0.ways.1.1.sent, row 27 1 (.slice a20_p0 a0.ways.1.1.got.length c20_p0) a0.ways.1.1.got.length d20_p0, tie (El.sl (El.int .u8)) d20_p0 a0.ways.1.1.got, pipe_Pipe.at b21_p0 a0.ways.1.2.pipe, row 27 1 (.slice a22_p0 a0.ways.1.2.sent.length c22_p0) a0.ways.1.2.sent.length d22_p0, tie (El.sl (El.int .u8)) d22_p0 a0.ways.1.2.sent, row 27 1 (.slice a23_p0 a0.ways.1.2.got.length c23_p0) a0.ways.1.2.got.length d23_p0, tie (El.sl (El.int .u8)) d23_p0 a0.ways.1.2.got, pipe_Pipe.at b24_p0 a0.ways.2.1.pipe, row 27 1 (.slice a25_p0 a0.ways.2.1.sent.length c25_p0) a0.ways.2.1.sent.length d25_p0, tie (El.sl (El.int .u8)) d25_p0 a0.ways.2.1.sent, row 27 1 (.slice a26_p0 a0.ways.2.1.got.length c26_p0) a0.ways.2.1.got.length d26_p0, tie (El.sl (El.int .u8)) d26_p0 a0.ways.2.1.got, pipe_Pipe.at b27_p0 a0.ways.2.2.pipe, row 27 1 (.slice a28_p0 a0.ways.2.2.sent.length c28_p0) a0.ways.2.2.sent.length d28_p0, tie (El.sl (El.int .u8)) d28_p0 a0.ways.2.2.sent, row 27 1 (.slice a29_p0 a0.ways.2.2.got.length c29_p0) a0.ways.2.2.got.length d29_p0, tie (El.sl (El.int .u8)) d29_p0 a0.ways.2.2.got, R] w0 w) : Calls Tryz.prog 67 #[pt b0] w (Ret fun u w => u = vi r ∧ St [blk b0 (#[vi a0.c.Mode, vi a0.c.Modulus, vi a0.c.Window, vi a0.c.T1, vi a0.c.N2, vi a0.c.Hold, vi a0.c.Wait, vi a0.c.Keep, vi a0.c.Queue, vi a0.c.Size, vi a0.c.Ring, vi a0.c.Rate, vi a0.c.Bad, vi a0.c.Good, vb a0.c.Revert, vb a0.c.Wide, pt b16_p0, pt b17_p0, pt b18_p0, vs a19_p0 a0.ways.1.1.sent.length c19_p0, vs a20_p0 a0.ways.1.1.got.length c20_p0, pt b21_p0, vs a22_p0 a0.ways.1.2.sent.length c22_p0, vs a23_p0 a0.ways.1.2.got.length c23_p0, pt b24_p0, vs a25_p0 a0.ways.2.1.sent.length c25_p0, vs a26_p0 a0.ways.2.1.got.length c26_p0, pt b27_p0, vs a28_p0 a0.ways.2.2.sent.length c28_p0, vs a29_p0 a0.ways.2.2.got.length c29_p0, vi a0.now]) 117, station_Station.at b16_p0 a0.stations.1, station_Station.at b17_p0 a0.stations.2, pipe_Pipe.at b18_p0 a0.ways.1.1.pipe, row 27 1 (.slice a19_p0 a0.ways.1.1.sent.length c19_p0) a0.ways.1.1.sent.length d19_p0, tie (El.sl (El.int .u8)) d19_p0 a0.ways.1.1.sent, row 27 1 (.slice a20_p0 a0.ways.1.1.got.length c20_p0) a0.ways.1.1.got.length d20_p0, tie (El.sl (El.int .u8)) d20_p0 a0.ways.1.1.got, pipe_Pipe.at b21_p0 a0.ways.1.2.pipe, row 27 1 (.slice a22_p0 a0.ways.1.2.sent.length c22_p0) a0.ways.1.2.sent.length d22_p0, tie (El.sl (El.int .u8)) d22_p0 a0.ways.1.2.sent, row 27 1 (.slice a23_p0 a0.ways.1.2.got.length c23_p0) a0.ways.1.2.got.length d23_p0, tie (El.sl (El.int .u8)) d23_p0 a0.ways.1.2.got, pipe_Pipe.at b24_p0 a0.ways.2.1.pipe, row 27 1 (.slice a25_p0 a0.ways.2.1.sent.length c25_p0) a0.ways.2.1.sent.length d25_p0, tie (El.sl (El.int .u8)) d25_p0 a0.ways.2.1.sent, row 27 1 (.slice a26_p0 a0.ways.2.1.got.length c26_p0) a0.ways.2.1.got.length d26_p0, tie (El.sl (El.int .u8)) d26_p0 a0.ways.2.1.got, pipe_Pipe.at b27_p0 a0.ways.2.2.pipe, row 27 1 (.slice a28_p0 a0.ways.2.2.sent.length c28_p0) a0.ways.2.2.sent.length d28_p0, tie (El.sl (El.int .u8)) d28_p0 a0.ways.2.2.sent, row 27 1 (.slice a29_p0 a0.ways.2.2.got.length c29_p0) a0.ways.2.2.got.length d29_p0, tie (El.sl (El.int .u8)) d29_p0 a0.ways.2.2.got, R] w0 w) := by
 refine calls_enter func67 rfl rfl (go ?_)
 exact rt
structure api_Event where
 Step : Int
 At : Int
 Ind : Int
 B : List Int
deriving DecidableEq, Inhabited
structure signalman_player where
 w : world_World
 out : List api_Event
deriving DecidableEq, Inhabited
def api_Event.El : El api_Event := El.iso (El.prod (El.int .i64) (El.prod (El.int .i64) (El.prod (El.int .i64) (El.prod (El.sl (El.int .u8)) El.unit)))) (fun x => (x.Step, (x.At, (x.Ind, (x.B, ())))))
theorem api_Event.unpack {c : List Value} {x : api_Event} {L : List As} {w0 w : World} (hs : Sep.St (api_Event.El.p c x :: L) w0 w) : ∃ a3 : Option Addr, ∃ m3 : Nat, c = [vi x.Step, vi x.At, vi x.Ind, vs a3 x.B.length m3] ∧ Sep.St (fsl 1 (.slice a3 x.B.length m3) x.B.length (x.B.map (Value.int .u8)) :: L) w0 w := by
 have hs : Sep.St ((El.prod (El.int .i64) (El.prod (El.int .i64) (El.prod (El.int .i64) (El.prod (El.sl (El.int .u8)) El.unit)))).p c (x.Step, (x.At, (x.Ind, (x.B, ())))) :: L) w0 w := hs
 obtain ⟨c0, r0, e0, hs⟩ := St.prod_open hs
 have hs : Sep.St ((El.int .i64).p c0 x.Step :: (El.prod (El.int .i64) (El.prod (El.int .i64) (El.prod (El.sl (El.int .u8)) El.unit))).p r0 (x.At, (x.Ind, (x.B, ()))) :: L) w0 w := hs
 obtain ⟨q0, hs⟩ := St.int_open hs
 have hs : Sep.St ((El.prod (El.int .i64) (El.prod (El.int .i64) (El.prod (El.sl (El.int .u8)) El.unit))).p r0 (x.At, (x.Ind, (x.B, ()))) :: L) w0 w := hs
 obtain ⟨c1, r1, e1, hs⟩ := St.prod_open hs
 have hs : Sep.St ((El.int .i64).p c1 x.At :: (El.prod (El.int .i64) (El.prod (El.sl (El.int .u8)) El.unit)).p r1 (x.Ind, (x.B, ())) :: L) w0 w := hs
 obtain ⟨q1, hs⟩ := St.int_open hs
 have hs : Sep.St ((El.prod (El.int .i64) (El.prod (El.sl (El.int .u8)) El.unit)).p r1 (x.Ind, (x.B, ())) :: L) w0 w := hs
 obtain ⟨c2, r2, e2, hs⟩ := St.prod_open hs
 have hs : Sep.St ((El.int .i64).p c2 x.Ind :: (El.prod (El.sl (El.int .u8)) El.unit).p r2 (x.B, ()) :: L) w0 w := hs
 obtain ⟨q2, hs⟩ := St.int_open hs
 have hs : Sep.St ((El.prod (El.sl (El.int .u8)) El.unit).p r2 (x.B, ()) :: L) w0 w := hs
 obtain ⟨c3, r3, e3, hs⟩ := St.prod_open hs
 have hs : Sep.St ((El.sl (El.int .u8)).p c3 x.B :: El.unit.p r3 () :: L) w0 w := hs
 obtain ⟨a3, m3, q3, hs⟩ := St.sl_openF (Value.int .u8) (fun t => tie_int t) hs
 have hs : Sep.St (fsl 1 (.slice a3 x.B.length m3) x.B.length (x.B.map (Value.int .u8)) :: El.unit.p r3 () :: L) w0 w := hs
 replace hs := hs.front 1 rfl
 have hs : Sep.St (El.unit.p r3 () :: fsl 1 (.slice a3 x.B.length m3) x.B.length (x.B.map (Value.int .u8)) :: L) w0 w := hs
 obtain ⟨qu, hs⟩ := St.unit_open hs
 exact ⟨a3, m3, by rw [e0, q0, e1, q1, e2, q2, e3, q3, qu]; rfl, hs⟩
theorem api_Event.pack {a3 : Option Addr} {m3 : Nat} {x : api_Event} {L : List As} {w0 w : World} (hs : Sep.St (fsl 1 (.slice a3 x.B.length m3) x.B.length (x.B.map (Value.int .u8)) :: L) w0 w) : Sep.St (api_Event.El.p [vi x.Step, vi x.At, vi x.Ind, vs a3 x.B.length m3] x :: L) w0 w := by
 have h1 := St.join (m := [fsl 1 (.slice a3 x.B.length m3) x.B.length (x.B.map (Value.int .u8))]) hs
 exact h1.mono fun h hh => ⟨[vi x.Step], [vi x.At, vi x.Ind, vs a3 x.B.length m3], rfl, rfl, ⟨[vi x.At], [vi x.Ind, vs a3 x.B.length m3], rfl, rfl, ⟨[vi x.Ind], [vs a3 x.B.length m3], rfl, rfl, ⟨[vs a3 x.B.length m3], [], rfl, ⟨_, _, rfl, Sp.fsl 0 hh rfl, int_tie⟩, rfl⟩⟩⟩⟩
abbrev signalman_player.Q (b : Nat) (l0 : world_World) (l1 : List api_Event) (b0 : Nat) (a1 : Option Addr) (c1 : Nat) (d1 : List Value) (L : List As) : List As := blk b (#[pt b0, vs a1 l1.length c1]) 72 :: world_World.at b0 l0 :: row 56 4 (.slice a1 l1.length c1) l1.length d1 :: tie api_Event.El d1 l1 :: L
abbrev signalman_player.P (b : Nat) (x : signalman_player) (b0 : Nat) (a1 : Option Addr) (c1 : Nat) (d1 : List Value) (L : List As) : List As := signalman_player.Q b x.w x.out b0 a1 c1 d1 L
def signalman_player.at (b : Nat) (x : signalman_player) : As := fun h => True ∧ ∃ b0 : Nat, ∃ a1 : Option Addr, ∃ c1 : Nat, ∃ d1 : List Value, Sp (signalman_player.P b x b0 a1 c1 d1 []) h
theorem signalman_player.open {b : Nat} {x : signalman_player} {L : List As} {w0 w : World} (hs : Sep.St (signalman_player.at b x :: L) w0 w) : ∃ b0 : Nat, ∃ a1 : Option Addr, ∃ c1 : Nat, ∃ d1 : List Value, True ∧ Sep.St (signalman_player.P b x b0 a1 c1 d1 L) w0 w := by
 obtain ⟨ho, ht, hu, h, hon, h1, h2, hd, e1, e2, ⟨hi, b0, a1, c1, d1, hA⟩, hl⟩ := hs
 exact ⟨b0, a1, c1, d1, hi, St.open (m := signalman_player.P b x b0 a1 c1 d1 []) ⟨ho, ht, hu, h, hon, h1, h2, hd, e1, e2, hA, hl⟩⟩
theorem signalman_player.close {b : Nat} {l0 : world_World} {l1 : List api_Event} {b0 : Nat} {a1 : Option Addr} {c1 : Nat} {d1 : List Value} {L : List As} {w0 w : World} (hi : True) (hs : Sep.St (signalman_player.Q b l0 l1 b0 a1 c1 d1 L) w0 w) : Sep.St (signalman_player.at b ({ w := l0, out := l1 } : signalman_player) :: L) w0 w := by
 have h2 := St.join (m := signalman_player.Q b l0 l1 b0 a1 c1 d1 []) hs
 exact h2.mono fun h hh => ⟨hi, _, _, _, _, hh⟩
mutual
def signalman_player_inds.l0 : Nat → (List Int × station_Station) → Int → signalman_player → Option signalman_player
 | 0, _, _, _ => none
 | k + 1, t6, x34, x35 => (if x34 < (t6.1.length : Int) then (if 0 ≤ x34 ∧ x34 < (t6.1.length : Int) then ((world_World_Now.f x35.w).bind fun t46 => (if (x35.out.length : Int) + (([({ Step := t46, At := 0, Ind := t6.1.getD x34.toNat 0, B := ([] : List Int) } : api_Event)] : List api_Event)).length ≤ 1099511627776 then (signalman_player_inds.l0 k t6 (w64 (x34 + 1)) ({ w := x35.w, out := x35.out ++ ([({ Step := t46, At := 0, Ind := t6.1.getD x34.toNat 0, B := ([] : List Int) } : api_Event)] : List api_Event) } : signalman_player)) else none)) else none) else ((station_Station_Inds.f x35.w.stations.2).bind fun t58 => (signalman_player_inds.l1 k t58 0 ({ w := ({ x35.w with stations := (x35.w.stations.1, t58.2), ways := x35.w.ways } : world_World), out := x35.out } : signalman_player))))
def signalman_player_inds.l1 : Nat → (List Int × station_Station) → Int → signalman_player → Option signalman_player
 | 0, _, _, _ => none
 | k + 1, t58, x86, x87 => (if x86 < (t58.1.length : Int) then (if 0 ≤ x86 ∧ x86 < (t58.1.length : Int) then ((world_World_Now.f x87.w).bind fun t98 => (if (x87.out.length : Int) + (([({ Step := t98, At := 1, Ind := t58.1.getD x86.toNat 0, B := ([] : List Int) } : api_Event)] : List api_Event)).length ≤ 1099511627776 then (signalman_player_inds.l1 k t58 (w64 (x86 + 1)) ({ w := x87.w, out := x87.out ++ ([({ Step := t98, At := 1, Ind := t58.1.getD x86.toNat 0, B := ([] : List Int) } : api_Event)] : List api_Event) } : signalman_player)) else none)) else none) else some x87)
end
def signalman_player_inds.f (k : Nat) (a0 : signalman_player) : Option signalman_player := ((station_Station_Inds.f a0.w.stations.1).bind fun t6 => (signalman_player_inds.l0 k t6 0 ({ w := ({ a0.w with stations := (t6.2, a0.w.stations.2), ways := a0.w.ways } : world_World), out := a0.out } : signalman_player)))
theorem signalman_player_inds.calls (H : signalman_player_inds.f k a0 = some r) (HS : St [signalman_player.at b0 a0, R] w0 w) : Calls Tryz.prog 44 #[pt b0] w (Ret fun u w => u = Value.tuple #[] ∧ St [signalman_player.at b0 r, R] w0 w) := by
 refine calls_enter func44 rfl rfl (go ?_)
 refine V.rs 2 [(0, pt b0), (5, vi (0))] (go ?_)
 obtain ⟨b0_2, _, _, _, _, HS⟩ := signalman_player.open HS
 refine go ?_
 refine W.inl (Y.cl (vs := [pt b0_2, vi (0)]) func30 (calls_enter func30 rfl rfl ?_)) rfl rfl rfl
 refine go ?_
 refine W.inl (Y.cl (vs := [vi (0)]) func45 (calls_enter func45 rfl rfl ?_)) rfl rfl rfl
 refine go ?_
 refine At.ret1 rfl rfl ⟨_, rfl, ?_⟩
 refine go ?_
 have HS := HS.fr 1
 obtain ⟨_, _, _, _, _, _, _, _, _, _, _, _, _, _, _, _, _, _, _, _, _, _, _, _, _, _, _, _, _, _, _, HS⟩ := world_World.open HS
 refine go ?_
 refine At.ret1 rfl rfl ⟨_, rfl, ?_⟩
 have HS := HS.b [1]
 refine W.kl H func66 (fun _ h => station_Station_Inds.calls h HS.j1) ?_
 rintro t6 _ w H ⟨at6_0, ct6_0, rfl, HS⟩
 have HS := HS.o2
 refine go ?_
 have HS := signalman_player.close tv ((world_World.close tv (HS.b [2, 1, 1, 1, 1, 1, 1, 1, 1, 1, 1, 1, 1, 1, 1, 1, 1, 1, 1, 1, 1, 1, 1])).b [2, 0, 1, 1])
 refine V.lj (σ := Int × signalman_player) [0, 2, 5, 14, 15] (fun kq (x34, x35) w => St [signalman_player.at b0 x35, row 3 1 (.slice at6_0 t6.1.length ct6_0) t6.1.length (t6.1.map (Value.int .i64)), R] w0 w ∧ signalman_player_inds.l0 kq t6 x34 x35 = some r ∧ kq ≤ k) (fun (x34, x35) => [(16, vi x34)]) (_, _) ⟨HS, H, Nat.le_refl _⟩ ?_
 rintro kq36 ⟨x34, x35⟩ w ⟨HS, H, _⟩
 cases kq36 with
 | zero => exact absurd H (by simp [signalman_player_inds.l0])
 | succ kq36 =>
  simp only [signalman_player_inds.l0] at H
  refine go ?_
  refine V.cd H rfl (fun _ H => go ?_) (fun _ H => go ?_)
  ·obtain ⟨c39, H⟩ := ite_n H
   obtain ⟨_, _, hh⟩ := (rdC.at 1 row_rd HS rfl).some (by decide) c39.1 c39.2; subst hh
   refine go ?_
   refine W.r (X.load underlying3 rfl rfl ((rdC.at 1 row_rd HS rfl).cellI c39.1 c39.2)) rfl (go ?_)
   obtain ⟨_, _, _, _, _, HS⟩ := signalman_player.open HS
   apply V.da [9, 13, 14, 17] [12, 15, 16] [(20, _), (21, _), (22, _), (23, _), (24, _), (25, _), (26, _), (27, _), (28, _), (30, _), (31, _)] mo HS
   rfl
   refine T.e [28] [15, 16] [5, 6, 7, 8] fun w HS => ?_
   have HS := HS.fr 1
   obtain ⟨_, _, _, _, _, _, _, _, _, _, _, _, _, _, _, _, _, _, _, _, _, _, _, _, _, _, _, _, _, _, _, HS⟩ := world_World.open HS
   refine Y.kl H func67 (fun _ h => world_World_Now.calls h HS.j23) ?_
   rintro t46 _ w H ⟨rfl, HS⟩
   have HS := HS.o23
   apply T.na [(29, _), (32, _)] HS
   exact nmk
   refine T.e [32] [15, 16] [10, 11, 12] (fun w HS => ?_) ⟨rd, rd, rd, rd, rd, rd, rd, .ns [(29, _), (30, _), (31, _)] ⟨rfl, rfl, rfl, tv⟩ rfl (fun w HS => X.bd (Value.agg #[vi t46, vi (0), vi (t6.1.getD x34.toNat 0), vs none 0 0]) rfl (fun _ => by kernel_rfl)), rds⟩
   have HS := St.row_freeze (row_nilF (Value.int .u8) 5 1 HS)
   refine ⟨_, Y.lc (e := 56) (sz := 4) [vi t46, vi (0), vi (t6.1.getD x34.toNat 0), vs none ([] : List Int).length 0] HS rfl rfl (fun _ => by kernel_rfl), ?_⟩
   rintro _ w ⟨_, rfl, HS⟩
   have HS := St.tie_cons (((api_Event.pack (x := ({ Step := t46, At := 0, Ind := t6.1.getD x34.toNat 0, B := ([] : List Int) } : api_Event)) ((St.put (A := tie api_Event.El ([]) ([] : List api_Event)) (fun _ => tie.nil) HS).more 2 rfl (fun _ t => t) fsl.pers)).fr 1).fr 1)
   refine T.nw HS ?_
   refine T.e [24, 33] [] [1, 2, 3, 4] fun w HS => ?_
   obtain ⟨_, H⟩ := ite_n H
   refine ⟨_, Y.app (xs := x35.out) (ys := ([({ Step := t46, At := 0, Ind := t6.1.getD x34.toNat 0, B := ([] : List Int) } : api_Event)] : List api_Event)) 27 underlying39 ap56 rfl (by decide) HS rfl rfl rfl (rdC.at 1 row_rd HS rfl) (St.tie_one 0 HS rfl) (by omega) (by omega), ?_⟩
   rintro _ w ⟨_, _, rfl, HS⟩
   have HS := St.tie_app 1 (HS.fr 28) rfl
   apply T.na [(34, _), (35, _), (36, _)] HS
   exact nmk
   refine T.e [34, 36] [] [0, 15, 16] fun w HS => ?_
   refine Y.sr 1 HS rfl rfl rfl fun _ w HS => ?_
   refine T.nn HS ?_
   refine T.ff [0, 2, 5, 14, 15, 16] fun w HS => ?_
   refine go ?_
   have HS := (signalman_player.close tv ((world_World.close tv (HS.b [4, 4, 4, 4, 4, 4, 4, 4, 4, 4, 4, 4, 4, 4, 4, 4, 4, 4, 4, 4, 4, 4, 4])).b [5, 0, 4])).ke [0, 3, 3]
   exact At.rn (_, _) ⟨HS, H, by omega⟩
  ·refine At.ow [(0, pt b0), (5, vi (1))] (go ?_)
   obtain ⟨b0_54, _, _, _, _, HS⟩ := signalman_player.open HS
   refine go ?_
   refine W.inl (Y.cl (vs := [pt b0_54, vi (1)]) func30 (calls_enter func30 rfl rfl ?_)) rfl rfl rfl
   refine go ?_
   refine W.inl (Y.cl (vs := [vi (1)]) func45 (calls_enter func45 rfl rfl ?_)) rfl rfl rfl
   refine go ?_
   refine At.ret1 rfl rfl ⟨_, rfl, ?_⟩
   refine go ?_
   have HS := HS.fr 1
   obtain ⟨_, _, _, _, _, _, _, _, _, _, _, _, _, _, _, _, _, _, _, _, _, _, _, _, _, _, _, _, _, _, _, HS⟩ := world_World.open HS
   refine go ?_
   refine At.ret1 rfl rfl ⟨_, rfl, ?_⟩
   have HS := HS.b [2]
   refine W.kl H func66 (fun _ h => station_Station_Inds.calls h HS.j1) ?_
   rintro t58 _ w H ⟨at58_0, ct58_0, rfl, HS⟩
   have HS := HS.o2
   refine go ?_
   have HS := signalman_player.close tv ((world_World.close tv (HS.b [2, 2, 1, 1, 1, 1, 1, 1, 1, 1, 1, 1, 1, 1, 1, 1, 1, 1, 1, 1, 1, 1, 1])).b [2, 0, 1, 1])
   refine V.lj (σ := Int × signalman_player) [0, 2, 5, 14, 15] (fun kq (x86, x87) w => St [signalman_player.at b0 x87, row 3 1 (.slice at58_0 t58.1.length ct58_0) t58.1.length (t58.1.map (Value.int .i64)), row 3 1 (.slice at6_0 t6.1.length ct6_0) t6.1.length (t6.1.map (Value.int .i64)), R] w0 w ∧ signalman_player_inds.l1 kq t58 x86 x87 = some r ∧ kq ≤ kq36) (fun (x86, x87) => [(16, vi x86)]) (_, _) ⟨HS, H, Nat.le_refl _⟩ ?_
   rintro kq88 ⟨x86, x87⟩ w ⟨HS, H, _⟩
   cases kq88 with
   | zero => exact absurd H (by simp [signalman_player_inds.l1])
   | succ kq88 =>
    simp only [signalman_player_inds.l1] at H
    refine go ?_
    refine V.cd H rfl (fun _ H => go ?_) (fun _ H => go ?_)
    ·obtain ⟨c91, H⟩ := ite_n H
     obtain ⟨_, _, hh⟩ := (rdC.at 1 row_rd HS rfl).some (by decide) c91.1 c91.2; subst hh
     refine go ?_
     refine W.r (X.load underlying3 rfl rfl ((rdC.at 1 row_rd HS rfl).cellI c91.1 c91.2)) rfl (go ?_)
     obtain ⟨_, _, _, _, _, HS⟩ := signalman_player.open HS
     apply V.da [9, 13, 14, 17] [12, 15, 16] [(20, _), (21, _), (22, _), (23, _), (24, _), (25, _), (26, _), (27, _), (28, _), (30, _), (31, _)] mo HS
     rfl
     refine T.e [28] [15, 16] [5, 6, 7, 8] fun w HS => ?_
     have HS := HS.fr 1
     obtain ⟨_, _, _, _, _, _, _, _, _, _, _, _, _, _, _, _, _, _, _, _, _, _, _, _, _, _, _, _, _, _, _, HS⟩ := world_World.open HS
     refine Y.kl H func67 (fun _ h => world_World_Now.calls h HS.j23) ?_
     rintro t98 _ w H ⟨rfl, HS⟩
     have HS := HS.o23
     apply T.na [(29, _), (32, _)] HS
     exact nmk
     refine T.e [32] [15, 16] [10, 11, 12] (fun w HS => ?_) ⟨rd, rd, rd, rd, rd, rd, rd, .ns [(29, _), (30, _), (31, _)] ⟨rfl, rfl, rfl, tv⟩ rfl (fun w HS => X.bd (Value.agg #[vi t98, vi (1), vi (t58.1.getD x86.toNat 0), vs none 0 0]) rfl (fun _ => by kernel_rfl)), rds⟩
     have HS := St.row_freeze (row_nilF (Value.int .u8) 5 1 HS)
     refine ⟨_, Y.lc (e := 56) (sz := 4) [vi t98, vi (1), vi (t58.1.getD x86.toNat 0), vs none ([] : List Int).length 0] HS rfl rfl (fun _ => by kernel_rfl), ?_⟩
     rintro _ w ⟨_, rfl, HS⟩
     have HS := St.tie_cons (((api_Event.pack (x := ({ Step := t98, At := 1, Ind := t58.1.getD x86.toNat 0, B := ([] : List Int) } : api_Event)) ((St.put (A := tie api_Event.El ([]) ([] : List api_Event)) (fun _ => tie.nil) HS).more 2 rfl (fun _ t => t) fsl.pers)).fr 1).fr 1)
     refine T.nw HS ?_
     refine T.e [24, 33] [] [1, 2, 3, 4] fun w HS => ?_
     obtain ⟨_, H⟩ := ite_n H
     refine ⟨_, Y.app (xs := x87.out) (ys := ([({ Step := t98, At := 1, Ind := t58.1.getD x86.toNat 0, B := ([] : List Int) } : api_Event)] : List api_Event)) 27 underlying39 ap56 rfl (by decide) HS rfl rfl rfl (rdC.at 1 row_rd HS rfl) (St.tie_one 0 HS rfl) (by omega) (by omega), ?_⟩
     rintro _ w ⟨_, _, rfl, HS⟩
     have HS := St.tie_app 1 (HS.fr 28) rfl
     apply T.na [(34, _), (35, _), (36, _)] HS
     exact nmk
     refine T.e [34, 36] [] [0, 15, 16] fun w HS => ?_
     refine Y.sr 1 HS rfl rfl rfl fun _ w HS => ?_
     refine T.nn HS ?_
     refine T.ff [0, 2, 5, 14, 15, 16] fun w HS => ?_
     refine go ?_
     have HS := (signalman_player.close tv ((world_World.close tv (HS.b [4, 4, 4, 4, 4, 4, 4, 4, 4, 4, 4, 4, 4, 4, 4, 4, 4, 4, 4, 4, 4, 4, 4])).b [5, 0, 4])).ke [0, 3, 3, 3]
     exact At.rn (_, _) ⟨HS, H, by omega⟩
    ·refine At.ow [(0, pt b0), (5, vi (2))] (go ?_)
     have HS := HS.ke [0, 2]
     exact rt
mutual
def signalman_player_steps.l0 : Nat → Int → Int → signalman_player → Option signalman_player
 | 0, _, _, _ => none
 | k + 1, a1, x2, x3 => (if x2 < (imin a1 (100000)) then ((world_World_Step.f k x3.w).bind fun t9 => ((signalman_player_inds.f k ({ w := t9, out := x3.out } : signalman_player)).bind fun t11 => (signalman_player_steps.l0 k a1 (w64 (x2 + 1)) t11))) else some x3)
end
def signalman_player_steps.f (k : Nat) (a0 : signalman_player) (a1 : Int) : Option signalman_player := (signalman_player_steps.l0 k a1 0 a0)
theorem signalman_player_steps.calls (H : signalman_player_steps.f k a0 a1 = some r) (HS : St [signalman_player.at b0 a0, R] w0 w) : Calls Tryz.prog 61 #[pt b0, vi a1] w (Ret fun u w => u = Value.tuple #[] ∧ St [signalman_player.at b0 r, R] w0 w) := by
 refine calls_enter func61 rfl rfl (go ?_)
 refine V.lj (σ := Int × signalman_player) [0, 5] (fun kq (x2, x3) w => St [signalman_player.at b0 x3, R] w0 w ∧ signalman_player_steps.l0 kq a1 x2 x3 = some r ∧ kq ≤ k) (fun (x2, x3) => [(6, vi x2)]) (_, _) ⟨HS, H, Nat.le_refl _⟩ ?_
 rintro kq4 ⟨x2, x3⟩ w ⟨HS, H, _⟩
 cases kq4 with
 | zero => exact absurd H (by simp [signalman_player_steps.l0])
 | succ kq4 =>
  simp only [signalman_player_steps.l0] at H
  refine go ?_
  refine V.cd H rfl (fun _ H => go ?_) (fun _ H => go ?_)
  ·obtain ⟨_, _, _, _, _, HS⟩ := signalman_player.open HS
   refine go ?_
   have HS := HS.b [1]
   refine W.kl H func94 (fun _ h => world_World_Step.calls h HS.j1) ?_
   rintro _ _ w H ⟨rfl, HS⟩
   have HS := HS.o1
   refine go ?_
   have HS := signalman_player.close tv (HS.b [1])
   refine W.kl H func44 (fun _ h => signalman_player_inds.calls h HS.j1) ?_
   rintro _ _ w H ⟨rfl, HS⟩
   have HS := HS.o1
   refine go ?_
   exact At.rn (_, _) ⟨HS, H, by omega⟩
  ·exact rt
def signalman_wrong.f (a0 : Bool) : Option Int := (if a0 = true then some (1) else some (0))
theorem signalman_wrong.calls (H : signalman_wrong.f a0 = some r) (HS : St [R] w0 w) : Calls Tryz.prog 62 #[vb a0] w (Ret fun u w => u = vi r ∧ St [R] w0 w) := by
 refine calls_enter func62 rfl rfl (go ?_)
 refine V.cv H rfl (fun _ H => go ?_) (fun _ H => go ?_)
 ·exact rt
 ·exact rt
def signalman_first.f (a0 : List Int) : Option Int := (if (a0.length : Int) = 0 then some (0) else (if 0 ≤ (0 : Int) ∧ (0 : Int) < (a0.length : Int) then some (a0.getD (0 : Int).toNat 0) else none))
theorem signalman_first.calls (H : signalman_first.f a0 = some r) (HS : St [R] w0 w) (hr0 : dB R sa0 sc0 a0) : Calls Tryz.prog 64 #[vs sa0 a0.length sc0] w (Ret fun u w => u = Value.int .u8 r ∧ St [R] w0 w) := by
 refine calls_enter func64 rfl rfl (go ?_)
 refine V.cd H rfl (fun _ H => go ?_) (fun _ H => go ?_)
 ·exact rt
 ·obtain ⟨c2, H⟩ := ite_n H
  obtain ⟨_, _, hh⟩ := (rdC.at 0 hr0 HS rfl).some (by decide) c2.1 c2.2; subst hh
  refine go ?_
  refine W.r (X.load underlying5 rfl rfl ((rdC.at 0 hr0 HS rfl).cellI c2.1 c2.2)) rfl (go ?_)
  exact rt
def slices_Insert_Sbytebyte.f (a0 : List Int) (a1 : Int) (a2 : List Int) : Option (List Int) := (if 0 ≤ a1 ∧ a1 ≤ (a0.length : Int) ∧ (a0.length : Int) ≤ (a0.length : Int) then (if (a2.length : Int) = 0 then some a0 else (if a1 = (a0.length : Int) then (if (a0.length : Int) + a2.length ≤ 1099511627776 then some (a0 ++ a2) else none) else (if (a0.length : Int) + a2.length ≤ 1099511627776 then some ((a0.take a1.toNat ++ a2) ++ a0.drop a1.toNat) else none))) else none)
theorem slices_Insert_Sbytebyte.calls (H : slices_Insert_Sbytebyte.f a0 a1 a2 = some r) (HS : St [rB sa0 sc0 a0, rB sa2 sc2 a2, R] w0 w) : Calls Tryz.prog 144 #[vs sa0 a0.length sc0, vi a1, vs sa2 a2.length sc2] w (Ret fun u w => ∃ aq0 cq0, u = vs aq0 r.length cq0 ∧ St [rB aq0 cq0 r, R] w0 w) := by
 refine calls_enter func144 rfl rfl (go ?_)
 obtain ⟨c1, H⟩ := ite_n H
 refine W.r (X.slL underlying27 inf5 rfl rfl c1) rfl (go ?_)
 refine V.cd H rfl (fun _ H => go ?_) (fun _ H => go ?_)
 ·have HS := HS.ke [0, 1]
  exact rt
 ·refine V.cd H rfl (fun _ H => go ?_) (fun _ H => go ?_)
  ·obtain ⟨_, H⟩ := ite_n H
   refine W.e (Y.appF (Value.int .u8) (fun _ => rfl) 0 underlying27 ap5 rfl HS rfl rfl rfl (rdC.at 1 row_rd HS rfl) (by omega) (by omega)) rfl ?_
   rintro _ w ⟨_, _, rfl, HS⟩
   refine go ?_
   have HS := HS.ke [0, 1]
   exact rt
  ·obtain ⟨_, H⟩ := ite_n H
   obtain ⟨ig10, io11, _, rfl, _, _, _, h416, HN⟩ := HS.row_open (by omega); clear HS; have HS := HN
   have HS := HS.fr 1
   obtain ⟨_, _, _, rfl, _, _, _, h423, HN⟩ := HS.row_open (by omega); clear HS; have HS := HN
   have hne24 := St.blk_ne HS
   have hwa : w64 ((a0.length : Int) + (a2.length : Int)) = (a0.length : Int) + (a2.length : Int) := w64_in ⟨by omega, by omega⟩
   have hwb : w64 (a1 + (a2.length : Int)) = a1 + (a2.length : Int) := w64_in ⟨by omega, by omega⟩
   have hwc : w64 (w64 ((a0.length : Int) + (a2.length : Int)) - a1) = (a0.length : Int) + (a2.length : Int) - a1 := by rw [hwa]; exact w64_in ⟨by omega, by omega⟩
   refine W.r (X.cap underlying27 rfl) rfl (go ?_)
   by_cases c25 : (w64 ((a0.length : Int) + (a2.length : Int))) > (sc0 : Int)
   ·skip
    refine V.condT (sb (dT c25)) (go ?_)
    refine W.r (X.rawH (j := a1) underlying27 inf5 rfl rfl ⟨(by omega), (by omega)⟩) rfl (go ?_)
    refine W.e (Y.appZ (kk := a0.length + a2.length - a1.toNat) (kI := w64 ((w64 ((a0.length : Int) + (a2.length : Int))) - a1)) 1 underlying27 underlying3 ap5 rfl HS rfl rfl rfl (by omega) (by omega) (by omega) (by omega) (by omega) (by decide)) rfl ?_
    rintro _ w ⟨ig26, ic27, _, rfl, _, _, _, h432, HS⟩
    refine go ?_
    refine W.r (X.rawL (i := a1) underlying27 inf5 rfl rfl ⟨(by omega), (by omega)⟩ (by omega)) rfl (go ?_)
    refine W.e (Y.copyB (ds := (a2.map (Value.int .u8))) 0 underlying27 inf5 HS rfl rfl rfl (fun j u hu => readO0 1 HS rfl h423 (by omega) j u hu) (oneM (fun _ => rfl)) (by simp only [size_setMany, List.length_drop, List.length_map, true_and, true_or, or_true] <;> omega) (by simp only [size_setMany, List.length_drop, List.length_map, true_and, true_or, or_true] <;> omega)) rfl ?_
    rintro _ w ⟨rfl, HS⟩
    refine go ?_
    apply V.da [8] [] [(46, _), (47, _), (48, _), (49, _), (50, _), (51, _), (52, _), (53, _)] mo HS
    rfl
    refine T.e [50, 53] [] [0, 1, 2, 3, 4, 5, 6, 7] (fun w HS => ?_) ⟨rd, rd, rd, rd, .n2 46 49 rfl rfl rfl (fun w HS => X.rawL (i := w64 (a1 + (a2.length : Int))) underlying27 inf5 rfl rfl ⟨(by omega), (by omega)⟩ (by omega)), rd, rd, .n2 51 52 rfl rfl rfl (fun w HS => X.rawL (i := a1) underlying27 inf5 rfl rfl ⟨(by omega), (by omega)⟩ (by omega)), rds⟩
    refine ⟨_, Y.copyB (ds := ((a0.map (Value.int .u8)).drop a1.toNat)) 0 underlying27 inf5 HS rfl rfl rfl (fun j u hu => readO 2 HS rfl h416 (by omega) (by omega) j u hu) (fun u hu => oneM (fun _ => rfl) u (List.mem_of_mem_drop hu)) (by simp only [size_setMany, List.length_drop, List.length_map, true_and, true_or, or_true] <;> omega) (by simp only [size_setMany, List.length_drop, List.length_map, true_and, true_or, or_true] <;> omega), ?_⟩
    rintro _ w ⟨rfl, HS⟩
    refine T.nw HS ?_
    refine T.ff [9] fun w HS => ?_
    refine go ?_
    have he35 : ((a0.take a1.toNat ++ a2) ++ a0.drop a1.toNat).length = a1.toNat + (a0.length + a2.length - a1.toNat) := by simp only [List.length_append, List.length_take, List.length_drop]; omega
    refine At.again 6 (v := vs (some ⟨ig26, 0, none⟩) ((a0.take a1.toNat ++ a2) ++ a0.drop a1.toNat).length ic27) (by rw [he35]; rfl) ?_
    have hl36 := ins_new (i := a1.toNat) (n := a0.length) (m := a2.length) (xs := a0) (vs := a2) (g := (Value.int .u8)) (o1 := 0 + a1.toNat) (o2 := 0 + (w64 (a1 + (a2.length : Int))).toNat) (t := ((a0.take a1.toNat ++ a2) ++ a0.drop a1.toNat).length) (by rw [h432, ← h416, List.take_take, show min a1.toNat a0.length = a1.toNat by omega]) rfl rfl (by omega) (by omega) (by omega) (by omega) (by omega)
    have HS := (HS.row_shut (m := ((a0.take a1.toNat ++ a2) ++ a0.drop a1.toNat).length) (c := ic27) (cs := ((a0.take a1.toNat ++ a2) ++ a0.drop a1.toNat).map (Value.int .u8)) (by omega) (by omega) (by simp only [size_setMany]; omega) hl36 (by rw [List.length_map])).ke [0, 2]
    exact rt
   ·skip
    refine V.condF (sb (dF c25)) (go ?_)
    refine W.r (X.rawH (j := w64 ((a0.length : Int) + (a2.length : Int))) underlying27 inf5 rfl rfl ⟨(by omega), (by omega)⟩) rfl (go ?_)
    refine W.r (X.rawL (i := w64 (a1 + (a2.length : Int))) underlying27 inf5 rfl rfl ⟨(by omega), (by omega)⟩ (by omega)) rfl ?_
    refine W.r (X.overlaps (tR := 4) 0 1 func191 (by kernel_rfl) (by kernel_rfl) (by kernel_rfl) (by kernel_rfl) underlying27 inf5 HS rfl rfl hne24 (by omega) rfl rfl) rfl (go ?_)
    apply V.da [8] [] [(69, _), (70, _), (71, _), (72, _), (73, _), (74, _), (75, _), (76, _)] mo HS
    rfl
    refine T.e [73, 76] [] [0, 1, 2, 3, 4, 5, 6, 7] (fun w HS => ?_) ⟨rd, rd, rd, rd, .n2 69 72 rfl rfl rfl (fun w HS => X.rawL (i := w64 (a1 + (a2.length : Int))) underlying27 inf5 rfl rfl ⟨(by omega), (by omega)⟩ (by omega)), rd, rd, .n2 74 75 rfl rfl rfl (fun w HS => X.rawL (i := a1) underlying27 inf5 rfl rfl ⟨(by omega), (by omega)⟩ (by omega)), rds⟩
    refine ⟨_, Y.copyB (ds := ((a0.map (Value.int .u8)).drop a1.toNat)) 1 underlying27 inf5 HS rfl rfl rfl (fun j u hu => readO 1 HS rfl h416 (by omega) (by omega) j u hu) (fun u hu => oneM (fun _ => rfl) u (List.mem_of_mem_drop hu)) (by simp only [size_setMany, List.length_drop, List.length_map, true_and, true_or, or_true] <;> omega) (by simp only [size_setMany, List.length_drop, List.length_map, true_and, true_or, or_true] <;> omega), ?_⟩
    rintro _ w ⟨rfl, HS⟩
    refine T.nw HS ?_
    refine T.ff [0, 1, 2] fun w HS => ?_
    refine go ?_
    refine W.r (X.rawL (i := a1) underlying27 inf5 rfl rfl ⟨(by omega), (by omega)⟩ (by omega)) rfl (go ?_)
    refine W.e (Y.copyB (ds := (a2.map (Value.int .u8))) 1 underlying27 inf5 HS rfl rfl rfl (fun j u hu => readO0 0 HS rfl h423 (by omega) j u hu) (oneM (fun _ => rfl)) (by simp only [size_setMany, List.length_drop, List.length_map, true_and, true_or, or_true] <;> omega) (by simp only [size_setMany, List.length_drop, List.length_map, true_and, true_or, or_true] <;> omega)) rfl ?_
    rintro _ w ⟨rfl, HS⟩
    refine go ?_
    have he41 : ((a0.take a1.toNat ++ a2) ++ a0.drop a1.toNat).length = (w64 ((a0.length : Int) + (a2.length : Int))).toNat := by simp only [List.length_append, List.length_take, List.length_drop]; omega
    refine At.again 6 (v := vs (some ⟨ig10, io11, none⟩) ((a0.take a1.toNat ++ a2) ++ a0.drop a1.toNat).length sc0) (by rw [he41]; rfl) ?_
    have HS := HS.fr 1
    have hl42 := ins_here (i := a1.toNat) (n := a0.length) (m := a2.length) (xs := a0) (vs := a2) (g := (Value.int .u8)) (o1 := io11 + (w64 (a1 + (a2.length : Int))).toNat) (o2 := io11 + a1.toNat) (t := ((a0.take a1.toNat ++ a2) ++ a0.drop a1.toNat).length) h416 rfl rfl (by omega) (by omega) (by omega) rfl (by omega)
    have HS := (HS.row_shut (m := ((a0.take a1.toNat ++ a2) ++ a0.drop a1.toNat).length) (c := sc0) (cs := ((a0.take a1.toNat ++ a2) ++ a0.drop a1.toNat).map (Value.int .u8)) (by omega) (by omega) (by simp only [size_setMany]; omega) hl42 (by rw [List.length_map])).ke [0, 1]
    exact rt
end Go.Proofs.YtgkjmdapodgnfaaGreat

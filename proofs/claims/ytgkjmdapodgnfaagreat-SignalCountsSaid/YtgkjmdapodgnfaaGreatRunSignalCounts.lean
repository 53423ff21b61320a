/- SignalCounts: the functions that its law reaches, as plain functions, and that the machine's calls come to what these say. Conditions: those that stand at each. -/
import Derived.Test.YtgkjmdapodgnfaaGreatRunSignalCountsP7
set_option linter.all false
set_option maxRecDepth 100000
set_option maxHeartbeats 4000000
set_option synthInstance.maxSize 100000
set_option synthInstance.maxHeartbeats 1000000
namespace Go.Proofs.YtgkjmdapodgnfaaGreat
open Go.RowKit Go.Proofs.YtgkjmdapodgnfaaGreat.Sep Go.Proofs.YtgkjmdapodgnfaaGreat.Walk Go.Proofs.Tryz
attribute [local irreducible] V W At T Code.rounds RdO RdOk
mutual
def station_Station_Status.j1 (a0 : station_Station) (x17 : api_Status) : Option api_Status := ((arq_Arq_Counts.f a0.arq).bind fun t21 => ((monitor_Monitor_State.f a0.sides.1.monitor).bind fun t34 => ((monitor_Monitor_State.f a0.sides.2.monitor).bind fun t41 => some (({ x17 with Lines := (t34, t41), Sent := t21.1, Acked := t21.2.1, Lost := t21.2.2 } : api_Status)))))
def station_Station_Status.j0 (a0 : station_Station) (x14 : api_Status) : Option api_Status := ((station_Station_twice.f a0).bind fun t48 => (if t48 = true then (station_Station_Status.j1 a0 ({ x14 with Line := 0 } : api_Status)) else (station_Station_Status.j1 a0 x14)))
end
def station_Station_Status.f (a0 : station_Station) : Option api_Status := ((arq_Arq_State.f a0.arq).bind fun t55 => ((aps_Aps_Line.f a0.aps).bind fun t60 => (station_Station_Status.j0 a0 ({ State := t55, Line := t60, Lines := (0, 0), Sent := 0, Acked := 0, Lost := 0 } : api_Status))))
theorem station_Station_Status.calls {a0 : station_Station} {R : As} {w0 w : World} {b0 : Nat} {b16_p0 : Nat} {b17_p0 : Nat} {b18_p0 : Nat} {b22_p0 : Nat} {b23_p0 : Nat} {b24_p0 : Nat} {b32_p0 : Nat} {b33_p0 : Nat} {b34_p0 : Nat} {r : api_Status} (H : station_Station_Status.f a0 = some r) (HS : Sep.St [blk b0 (#[vi a0.c.Mode, vi a0.c.Modulus, vi a0.c.Window, vi a0.c.T1, vi a0.c.N2, vi a0.c.Hold, vi a0.c.Wait, vi a0.c.Keep, vi a0.c.Queue, vi a0.c.Size, vi a0.c.Ring, vi a0.c.Rate, vi a0.c.Bad, vi a0.c.Good, vb a0.c.Revert, vb a0.c.Wide, pt b16_p0, pt b17_p0, pt b18_p0, Value.int .u32 a0.number, vi a0.steps, vi a0.line, pt b22_p0, pt b23_p0, pt b24_p0, vi a0.sides.1.counts.Good, vi a0.sides.1.counts.Bad, vi a0.sides.1.counts.Aborts, vi a0.sides.1.counts.Runts, vi a0.sides.1.counts.Giants, vi a0.sides.1.counts.Dropped, vi a0.sides.1.counts.Twins, pt b32_p0, pt b33_p0, pt b34_p0, vi a0.sides.2.counts.Good, vi a0.sides.2.counts.Bad, vi a0.sides.2.counts.Aborts, vi a0.sides.2.counts.Runts, vi a0.sides.2.counts.Giants, vi a0.sides.2.counts.Dropped, vi a0.sides.2.counts.Twins]) 128, arq_Arq.at b16_p0 a0.arq, aps_Aps.at b17_p0 a0.aps, twins_Table.at b18_p0 a0.twins, frame_Reader.at b22_p0 a0.sides.1.reader, monitor_Monitor.at b23_p0 a0.sides.1.monitor, ring_Ring.at b24_p0 a0.sides.1.ring, frame_Reader.at b32_p0 a0.sides.2.reader, monitor_Monitor.at b33_p0 a0.sides.2.monitor, ring_Ring.at b34_p0 a0.sides.2.ring, R] w0 w)  : Calls Tryz.prog 31 #[pt b0] w (Ret fun u w => u = Value.agg #[vi r.State, vi r.Line, vi r.Lines.1, vi r.Lines.2, vi r.Sent, vi r.Acked, vi r.Lost] ∧ Sep.St [blk b0 (#[vi a0.c.Mode, vi a0.c.Modulus, vi a0.c.Window, vi a0.c.T1, vi a0.c.N2, vi a0.c.Hold, vi a0.c.Wait, vi a0.c.Keep, vi a0.c.Queue, vi a0.c.Size, vi a0.c.Ring, vi a0.c.Rate, vi a0.c.Bad, vi a0.c.Good, vb a0.c.Revert, vb a0.c.Wide, pt b16_p0, pt b17_p0, pt b18_p0, Value.int .u32 a0.number, vi a0.steps, vi a0.line, pt b22_p0, pt b23_p0, pt b24_p0, vi a0.sides.1.counts.Good, vi a0.sides.1.counts.Bad, vi a0.sides.1.counts.Aborts, vi a0.sides.1.counts.Runts, vi a0.sides.1.counts.Giants, vi a0.sides.1.counts.Dropped, vi a0.sides.1.counts.Twins, pt b32_p0, pt b33_p0, pt b34_p0, vi a0.sides.2.counts.Good, vi a0.sides.2.counts.Bad, vi a0.sides.2.counts.Aborts, vi a0.sides.2.counts.Runts, vi a0.sides.2.counts.Giants, vi a0.sides.2.counts.Dropped, vi a0.sides.2.counts.Twins]) 128, arq_Arq.at b16_p0 a0.arq, aps_Aps.at b17_p0 a0.aps, twins_Table.at b18_p0 a0.twins, frame_Reader.at b22_p0 a0.sides.1.reader, monitor_Monitor.at b23_p0 a0.sides.1.monitor, ring_Ring.at b24_p0 a0.sides.1.ring, frame_Reader.at b32_p0 a0.sides.2.reader, monitor_Monitor.at b33_p0 a0.sides.2.monitor, ring_Ring.at b34_p0 a0.sides.2.ring, R] w0 w) := by
 refine calls_enter func31 rfl rfl ?_
 refine go ?_
 refine W.e (Y.alloc (z := Value.agg (#[vi (0), vi (0), vi (0), vi (0), vi (0), vi (0), vi (0)])) HS ze33) rfl ?_
 rintro _ w ⟨nb1, rfl, HS⟩
 refine gs ?_
 refine V.meet (σ := Nat × api_Status) (fun (nb13, x14) w => Sep.St [api_Status.at nb13 x14, api_Status.at nb1 (({ State := 0, Line := 0, Lines := (0, 0), Sent := 0, Acked := 0, Lost := 0 } : api_Status)), blk b0 (#[vi a0.c.Mode, vi a0.c.Modulus, vi a0.c.Window, vi a0.c.T1, vi a0.c.N2, vi a0.c.Hold, vi a0.c.Wait, vi a0.c.Keep, vi a0.c.Queue, vi a0.c.Size, vi a0.c.Ring, vi a0.c.Rate, vi a0.c.Bad, vi a0.c.Good, vb a0.c.Revert, vb a0.c.Wide, pt b16_p0, pt b17_p0, pt b18_p0, Value.int .u32 a0.number, vi a0.steps, vi a0.line, pt b22_p0, pt b23_p0, pt b24_p0, vi a0.sides.1.counts.Good, vi a0.sides.1.counts.Bad, vi a0.sides.1.counts.Aborts, vi a0.sides.1.counts.Runts, vi a0.sides.1.counts.Giants, vi a0.sides.1.counts.Dropped, vi a0.sides.1.counts.Twins, pt b32_p0, pt b33_p0, pt b34_p0, vi a0.sides.2.counts.Good, vi a0.sides.2.counts.Bad, vi a0.sides.2.counts.Aborts, vi a0.sides.2.counts.Runts, vi a0.sides.2.counts.Giants, vi a0.sides.2.counts.Dropped, vi a0.sides.2.counts.Twins]) 128, arq_Arq.at b16_p0 a0.arq, aps_Aps.at b17_p0 a0.aps, twins_Table.at b18_p0 a0.twins, frame_Reader.at b22_p0 a0.sides.1.reader, monitor_Monitor.at b23_p0 a0.sides.1.monitor, ring_Ring.at b24_p0 a0.sides.1.ring, frame_Reader.at b32_p0 a0.sides.2.reader, monitor_Monitor.at b33_p0 a0.sides.2.monitor, ring_Ring.at b34_p0 a0.sides.2.ring, R] w0 w ∧ station_Station_Status.j0 a0 x14 = some r) (fun (nb13, x14) => [(0, pt b0), (2, pt nb1), (3, pt nb13)]) ?_ ?_
 ·apply V.da [4, 9, 11, 12] [10] [(6, _), (7, _), (8, _), (9, _), (11, _), (12, _), (13, _), (14, _)] mo HS
  rfl
  refine T.pm (es' := [4, 11, 9, 12]) rfl ?_
  refine T.two rfl rfl ⟨.mv 0, .nc 6, .fa 7 fo128_1, .ld 8 1 underlying118, .mv 0, .nc 11, .fa 12 fo128_2, .ld 13 1 underlying119, tv⟩ (T.step (es := [11, 9, 12]) _ [(9, pt b16_p0)] rfl ⟨.inr ⟨rfl, rfl⟩, tv⟩ (Or.inl rfl) (by intro d hd; cases hd; exact ⟨by decide, rfl, rfl⟩) [10] [0, 1, 2, 3] rfl rfl rfl rfl rfl (fun w HS => ?_)) (T.step (es := [4, 9, 12]) _ [] rfl tv (Or.inl rfl) (by intro d hd; cases hd; exact ⟨by decide, rfl, rfl⟩) [10] [] rfl rfl rfl rfl rfl (fun w HS => ?_))
  ·have HS : Sep.St _ w0 w := HS
   have HS := HS.fr 2
   obtain ⟨_, _, _, _, _, _, _, _, _, HS⟩ := arq_Arq.open HS
   refine Y.kl H func46 (fun _ h => arq_Arq_State.calls h HS.j7) ?_
   rintro t55 _ w H ⟨rfl, HS⟩
   have HS := HS.o7
   refine T.nw HS ?_
   refine T.two rfl rfl ⟨.mv 0, .nc 11, .fa 12 fo128_2, .ld 13 8 underlying119, tv⟩ (T.step (es := [9, 12]) _ [] rfl tv (Or.inl rfl) (by intro d hd; cases hd; exact ⟨by decide, rfl, rfl⟩) [10] [] rfl rfl rfl rfl rfl (fun w HS => ?_)) (T.step (es := [11, 12]) _ [(14, pt b17_p0)] rfl ⟨.inr ⟨rfl, rfl⟩, tv⟩ (Or.inl rfl) (by intro d hd; cases hd; exact ⟨by decide, rfl, rfl⟩) [] [5, 6, 7, 8] rfl rfl rfl rfl rfl (fun w HS => ?_))
   ·have HS : Sep.St _ w0 w := HS
    refine ⟨_, Y.alloc (z := Value.agg (#[vi (0), vi (0), vi (0), vi (0), vi (0), vi (0), vi (0)])) HS ze33, ?_⟩
    rintro _ w ⟨_, rfl, HS⟩
    refine T.nw HS ?_
    refine T.e [14] [] [5, 6, 7, 8] fun w HS => ?_
    have HS := HS.fr 10
    obtain ⟨_, HS⟩ := aps_Aps.open HS
    refine Y.kl H func47 (fun _ h => aps_Aps_Line.calls h HS.j1) ?_
    rintro t60 _ w H ⟨rfl, HS⟩
    have HS := HS.o1
    apply T.na [(15, _), (16, _)] HS
    exact nmk
    refine T.e [3, 16] [] [10] (fun w HS => ?_) ⟨.n2 10 15 rfl rfl rfl (fun w HS => X.bd (Value.agg #[vi t55, vi t60, vi (0), vi (0), vi (0), vi (0), vi (0)]) rfl (fun _ => by kernel_rfl)), rds⟩
    refine ⟨_, Y.storeSt (c' := #[vi t55, vi t60, vi (0), vi (0), vi (0), vi (0), vi (0)]) 1 [vi t55, vi t60, vi (0), vi (0), vi (0), vi (0), vi (0)] HS rfl inf33 rfl rfl rfl rfl rfl rfl, ?_⟩
    rintro _ w HS
    refine T.nn HS ?_
    refine T.ff [0, 2, 3] fun w HS => ?_
    have HS := (aps_Aps.close tv ((arq_Arq.close tv ((api_Status.close tv ((api_Status.close tv (HS.b [1])).b [9])).b [3, 3, 3, 3, 3, 3, 3])).b [3])).b [3, 2, 2, 1]
    exact At.mt (_, _) ⟨HS, H⟩
   ·have HS : Sep.St _ w0 w := HS
    have HS := HS.fr 9
    obtain ⟨_, HS⟩ := aps_Aps.open HS
    refine Y.kl H func47 (fun _ h => aps_Aps_Line.calls h HS.j1) ?_
    rintro t64 _ w H ⟨rfl, HS⟩
    have HS := HS.o1
    apply T.na [(15, _), (16, _)] HS
    exact nmk
    refine T.e [] [] [] (fun w HS => ?_) ⟨.n2 10 15 rfl rfl rfl (fun w HS => X.bd (Value.agg #[vi t55, vi t64, vi (0), vi (0), vi (0), vi (0), vi (0)]) rfl (fun _ => by kernel_rfl)), rds⟩
    refine ⟨_, Y.alloc (z := Value.agg (#[vi (0), vi (0), vi (0), vi (0), vi (0), vi (0), vi (0)])) HS ze33, ?_⟩
    rintro _ w ⟨_, rfl, HS⟩
    refine T.nw HS ?_
    refine T.e [3, 16] [] [10] (fun w HS => ?_) ⟨.n2 10 15 rfl rfl rfl (fun w HS => X.bd (Value.agg #[vi t55, vi t64, vi (0), vi (0), vi (0), vi (0), vi (0)]) rfl (fun _ => by kernel_rfl)), rds⟩
    refine ⟨_, Y.storeSt (c' := #[vi t55, vi t64, vi (0), vi (0), vi (0), vi (0), vi (0)]) 0 [vi t55, vi t64, vi (0), vi (0), vi (0), vi (0), vi (0)] HS rfl inf33 rfl rfl rfl rfl rfl rfl, ?_⟩
    rintro _ w HS
    refine T.nn HS ?_
    refine T.ff [0, 2, 3] fun w HS => ?_
    have HS := (aps_Aps.close tv ((arq_Arq.close tv ((api_Status.close tv ((api_Status.close tv HS).b [9])).b [3, 3, 3, 3, 3, 3, 3])).b [3])).b [3, 2, 2, 1]
    exact At.mt (_, _) ⟨HS, H⟩
  ·have HS : Sep.St _ w0 w := HS
   refine ⟨_, Y.alloc (z := Value.agg (#[vi (0), vi (0), vi (0), vi (0), vi (0), vi (0), vi (0)])) HS ze33, ?_⟩
   rintro _ w ⟨_, rfl, HS⟩
   refine T.nw HS ?_
   refine T.e [9] [10] [0, 1, 2, 3] fun w HS => ?_
   have HS := HS.fr 3
   obtain ⟨_, _, _, _, _, _, _, _, _, HS⟩ := arq_Arq.open HS
   refine Y.kl H func46 (fun _ h => arq_Arq_State.calls h HS.j7) ?_
   rintro t70 _ w H ⟨rfl, HS⟩
   have HS := HS.o7
   refine T.nw HS ?_
   refine T.e [14] [] [5, 6, 7, 8] fun w HS => ?_
   have HS := HS.fr 10
   obtain ⟨_, HS⟩ := aps_Aps.open HS
   refine Y.kl H func47 (fun _ h => aps_Aps_Line.calls h HS.j1) ?_
   rintro t74 _ w H ⟨rfl, HS⟩
   have HS := HS.o1
   apply T.na [(15, _), (16, _)] HS
   exact nmk
   refine T.e [3, 16] [] [10] (fun w HS => ?_) ⟨.n2 10 15 rfl rfl rfl (fun w HS => X.bd (Value.agg #[vi t70, vi t74, vi (0), vi (0), vi (0), vi (0), vi (0)]) rfl (fun _ => by kernel_rfl)), rds⟩
   refine ⟨_, Y.storeSt (c' := #[vi t70, vi t74, vi (0), vi (0), vi (0), vi (0), vi (0)]) 8 [vi t70, vi t74, vi (0), vi (0), vi (0), vi (0), vi (0)] HS rfl inf33 rfl rfl rfl rfl rfl rfl, ?_⟩
   rintro _ w HS
   refine T.nn HS ?_
   refine T.ff [0, 2, 3] fun w HS => ?_
   have HS := (aps_Aps.close tv ((arq_Arq.close tv ((api_Status.close tv ((api_Status.close tv (HS.b [8])).b [9])).b [3, 3, 3, 3, 3, 3, 3])).b [3])).b [3, 2, 2, 1]
   exact At.mt (_, _) ⟨HS, H⟩
 ·rintro ⟨nb13, x14⟩ w ⟨HS, H⟩
  refine V.meet (σ := api_Status) (fun x17 w => Sep.St [api_Status.at nb13 x17, api_Status.at nb1 (({ State := 0, Line := 0, Lines := (0, 0), Sent := 0, Acked := 0, Lost := 0 } : api_Status)), blk b0 (#[vi a0.c.Mode, vi a0.c.Modulus, vi a0.c.Window, vi a0.c.T1, vi a0.c.N2, vi a0.c.Hold, vi a0.c.Wait, vi a0.c.Keep, vi a0.c.Queue, vi a0.c.Size, vi a0.c.Ring, vi a0.c.Rate, vi a0.c.Bad, vi a0.c.Good, vb a0.c.Revert, vb a0.c.Wide, pt b16_p0, pt b17_p0, pt b18_p0, Value.int .u32 a0.number, vi a0.steps, vi a0.line, pt b22_p0, pt b23_p0, pt b24_p0, vi a0.sides.1.counts.Good, vi a0.sides.1.counts.Bad, vi a0.sides.1.counts.Aborts, vi a0.sides.1.counts.Runts, vi a0.sides.1.counts.Giants, vi a0.sides.1.counts.Dropped, vi a0.sides.1.counts.Twins, pt b32_p0, pt b33_p0, pt b34_p0, vi a0.sides.2.counts.Good, vi a0.sides.2.counts.Bad, vi a0.sides.2.counts.Aborts, vi a0.sides.2.counts.Runts, vi a0.sides.2.counts.Giants, vi a0.sides.2.counts.Dropped, vi a0.sides.2.counts.Twins]) 128, arq_Arq.at b16_p0 a0.arq, aps_Aps.at b17_p0 a0.aps, twins_Table.at b18_p0 a0.twins, frame_Reader.at b22_p0 a0.sides.1.reader, monitor_Monitor.at b23_p0 a0.sides.1.monitor, ring_Ring.at b24_p0 a0.sides.1.ring, frame_Reader.at b32_p0 a0.sides.2.reader, monitor_Monitor.at b33_p0 a0.sides.2.monitor, ring_Ring.at b34_p0 a0.sides.2.ring, R] w0 w ∧ station_Station_Status.j1 a0 x17 = some r) (fun x17 => [(0, pt b0), (2, pt nb1), (3, pt nb13)]) ?_ ?_
  ·refine go ?_
   have HS := HS.b [2, 2, 2, 2, 2, 2, 2, 2, 2, 2]
   refine W.kl H func48 (fun _ h => station_Station_twice.calls h HS.j10) ?_
   rintro _ _ w H ⟨rfl, HS⟩
   have HS := HS.o10
   refine go ?_
   refine V.cv H rfl (fun _ H => ?_) (fun _ H => ?_)
   ·refine go ?_
    have HS := HS.fr 10
    obtain ⟨_, HS⟩ := api_Status.open HS
    refine go ?_
    refine W.sr 1 HS rfl rfl rfl fun w HS => ?_
    refine go ?_
    have HS := (api_Status.close tv HS).b [0, 10]
    exact At.mt _ ⟨HS, H⟩
   ·refine go ?_
    have HS := HS.b [10, 10]
    exact At.mt _ ⟨HS, H⟩
  ·rintro x17 w ⟨HS, H⟩
   refine go ?_
   have HS := HS.fr 3
   obtain ⟨_, _, _, _, _, _, _, _, _, HS⟩ := arq_Arq.open HS
   refine W.kl H func49 (fun _ h => arq_Arq_Counts.calls h HS.j7) ?_
   rintro t21 _ w H ⟨rfl, HS⟩
   have HS := HS.o7
   refine go ?_
   have HS := HS.fr 7
   obtain ⟨_, HS⟩ := api_Status.open HS
   refine go ?_
   refine W.sr 4 HS rfl rfl rfl fun w HS => ?_
   refine go ?_
   refine W.sr 5 HS rfl rfl rfl fun w HS => ?_
   refine go ?_
   refine W.sr 6 HS rfl rfl rfl fun w HS => ?_
   refine go ?_
   refine V.rs 2 [(2, pt nb1), (3, pt nb13), (35, Value.agg #[pt b22_p0, pt b23_p0, pt b24_p0, vi a0.sides.1.counts.Good, vi a0.sides.1.counts.Bad, vi a0.sides.1.counts.Aborts, vi a0.sides.1.counts.Runts, vi a0.sides.1.counts.Giants, vi a0.sides.1.counts.Dropped, vi a0.sides.1.counts.Twins, pt b32_p0, pt b33_p0, pt b34_p0, vi a0.sides.2.counts.Good, vi a0.sides.2.counts.Bad, vi a0.sides.2.counts.Aborts, vi a0.sides.2.counts.Runts, vi a0.sides.2.counts.Giants, vi a0.sides.2.counts.Dropped, vi a0.sides.2.counts.Twins]), (36, vi (0))] ?_
   refine go ?_
   refine W.r (X.ixK (Value.agg #[pt b22_p0, pt b23_p0, pt b24_p0, vi a0.sides.1.counts.Good, vi a0.sides.1.counts.Bad, vi a0.sides.1.counts.Aborts, vi a0.sides.1.counts.Runts, vi a0.sides.1.counts.Giants, vi a0.sides.1.counts.Dropped, vi a0.sides.1.counts.Twins]) rfl rfl (fun _ => by kernel_rfl)) rfl ?_
   refine W.e (Y.alloc (z := Value.agg (#[Value.pointer none, Value.pointer none, Value.pointer none, vi (0), vi (0), vi (0), vi (0), vi (0), vi (0), vi (0)])) HS ze125) rfl ?_
   rintro _ w ⟨_, rfl, HS⟩
   refine go ?_
   refine W.en (Y.storeSt (c' := #[pt b22_p0, pt b23_p0, pt b24_p0, vi a0.sides.1.counts.Good, vi a0.sides.1.counts.Bad, vi a0.sides.1.counts.Aborts, vi a0.sides.1.counts.Runts, vi a0.sides.1.counts.Giants, vi a0.sides.1.counts.Dropped, vi a0.sides.1.counts.Twins]) 0 [pt b22_p0, pt b23_p0, pt b24_p0, vi a0.sides.1.counts.Good, vi a0.sides.1.counts.Bad, vi a0.sides.1.counts.Aborts, vi a0.sides.1.counts.Runts, vi a0.sides.1.counts.Giants, vi a0.sides.1.counts.Dropped, vi a0.sides.1.counts.Twins] HS rfl inf125 rfl rfl rfl rfl rfl rfl) rfl ?_
   rintro _ w HS
   refine go ?_
   have HS := HS.fr 14
   obtain ⟨_, _, HS⟩ := monitor_Monitor.open HS
   refine W.kl H func50 (fun _ h => monitor_Monitor_State.calls h HS.j2) ?_
   rintro t34 _ w H ⟨rfl, HS⟩
   have HS := HS.o2
   refine go ?_
   refine W.sr 2 HS rfl rfl rfl fun w HS => ?_
   refine go ?_
   refine At.ow [(2, pt nb1), (3, pt nb13), (35, Value.agg #[pt b22_p0, pt b23_p0, pt b24_p0, vi a0.sides.1.counts.Good, vi a0.sides.1.counts.Bad, vi a0.sides.1.counts.Aborts, vi a0.sides.1.counts.Runts, vi a0.sides.1.counts.Giants, vi a0.sides.1.counts.Dropped, vi a0.sides.1.counts.Twins, pt b32_p0, pt b33_p0, pt b34_p0, vi a0.sides.2.counts.Good, vi a0.sides.2.counts.Bad, vi a0.sides.2.counts.Aborts, vi a0.sides.2.counts.Runts, vi a0.sides.2.counts.Giants, vi a0.sides.2.counts.Dropped, vi a0.sides.2.counts.Twins]), (36, vi (1))] ?_
   refine go ?_
   refine W.r (X.ixK (Value.agg #[pt b32_p0, pt b33_p0, pt b34_p0, vi a0.sides.2.counts.Good, vi a0.sides.2.counts.Bad, vi a0.sides.2.counts.Aborts, vi a0.sides.2.counts.Runts, vi a0.sides.2.counts.Giants, vi a0.sides.2.counts.Dropped, vi a0.sides.2.counts.Twins]) rfl rfl (fun _ => by kernel_rfl)) rfl ?_
   refine W.e (Y.alloc (z := Value.agg (#[Value.pointer none, Value.pointer none, Value.pointer none, vi (0), vi (0), vi (0), vi (0), vi (0), vi (0), vi (0)])) HS ze125) rfl ?_
   rintro _ w ⟨_, rfl, HS⟩
   refine go ?_
   refine W.en (Y.storeSt (c' := #[pt b32_p0, pt b33_p0, pt b34_p0, vi a0.sides.2.counts.Good, vi a0.sides.2.counts.Bad, vi a0.sides.2.counts.Aborts, vi a0.sides.2.counts.Runts, vi a0.sides.2.counts.Giants, vi a0.sides.2.counts.Dropped, vi a0.sides.2.counts.Twins]) 0 [pt b32_p0, pt b33_p0, pt b34_p0, vi a0.sides.2.counts.Good, vi a0.sides.2.counts.Bad, vi a0.sides.2.counts.Aborts, vi a0.sides.2.counts.Runts, vi a0.sides.2.counts.Giants, vi a0.sides.2.counts.Dropped, vi a0.sides.2.counts.Twins] HS rfl inf125 rfl rfl rfl rfl rfl rfl) rfl ?_
   rintro _ w HS
   refine go ?_
   have HS := HS.fr 19
   obtain ⟨_, _, HS⟩ := monitor_Monitor.open HS
   refine W.kl H func50 (fun _ h => monitor_Monitor_State.calls h HS.j2) ?_
   rintro t41 _ w H ⟨rfl, HS⟩
   have HS := HS.o2
   refine go ?_
   refine W.sr 3 HS rfl rfl rfl fun w HS => ?_
   refine go ?_
   refine At.ow [(2, pt nb1), (3, pt nb13), (35, Value.agg #[pt b22_p0, pt b23_p0, pt b24_p0, vi a0.sides.1.counts.Good, vi a0.sides.1.counts.Bad, vi a0.sides.1.counts.Aborts, vi a0.sides.1.counts.Runts, vi a0.sides.1.counts.Giants, vi a0.sides.1.counts.Dropped, vi a0.sides.1.counts.Twins, pt b32_p0, pt b33_p0, pt b34_p0, vi a0.sides.2.counts.Good, vi a0.sides.2.counts.Bad, vi a0.sides.2.counts.Aborts, vi a0.sides.2.counts.Runts, vi a0.sides.2.counts.Giants, vi a0.sides.2.counts.Dropped, vi a0.sides.2.counts.Twins]), (36, vi (2))] ?_
   refine go ?_
   have HS := HS.fr 14
   obtain ⟨_, HS⟩ := api_Status.open HS
   refine W.en (Y.storeSt (c' := #[vi x17.State, vi x17.Line, vi t34, vi t41, vi t21.1, vi t21.2.1, vi t21.2.2]) 0 [vi x17.State, vi x17.Line, vi t34, vi t41, vi t21.1, vi t21.2.1, vi t21.2.2] HS rfl inf33 rfl rfl rfl rfl rfl rfl) rfl ?_
   rintro _ w HS
   refine go ?_
   have hv47 := run_loadSt (P := Tryz.prog) (p := 0) 0 [vi x17.State, vi x17.Line, vi t34, vi t41, vi t21.1, vi t21.2.1, vi t21.2.2] HS rfl underlying33 rfl inf33 rfl
   have HS := (monitor_Monitor.close tv ((monitor_Monitor.close tv ((arq_Arq.close tv (HS.b [8, 8, 8, 8, 8, 8, 8])).b [5, 5])).b [3, 3])).ke [7, 2, 6, 6, 6, 1, 5, 5, 0, 4, 4]
   cases H
   exact At.retv1 rfl ⟨_, rfl, hv47⟩ ⟨_, rfl, rfl, HS⟩
def V34.at (b : Nat) (x : (api_Status × api_Status)) : As := fun h => True ∧ Sp [blk b (#[vi x.1.State, vi x.1.Line, vi x.1.Lines.1, vi x.1.Lines.2, vi x.1.Sent, vi x.1.Acked, vi x.1.Lost, vi x.2.State, vi x.2.Line, vi x.2.Lines.1, vi x.2.Lines.2, vi x.2.Sent, vi x.2.Acked, vi x.2.Lost]) 34] h
theorem V34.open {b : Nat} {x : (api_Status × api_Status)} {L : List As} {w0 w : World} (hs : Sep.St (V34.at b x :: L) w0 w) : True ∧ Sep.St (blk b (#[vi x.1.State, vi x.1.Line, vi x.1.Lines.1, vi x.1.Lines.2, vi x.1.Sent, vi x.1.Acked, vi x.1.Lost, vi x.2.State, vi x.2.Line, vi x.2.Lines.1, vi x.2.Lines.2, vi x.2.Sent, vi x.2.Acked, vi x.2.Lost]) 34 :: L) w0 w := by
 obtain ⟨ho, ht, hu, h, hon, h1, h2, hd, e1, e2, ⟨hi, hA⟩, hl⟩ := hs
 exact ⟨hi, St.open (m := [blk b (#[vi x.1.State, vi x.1.Line, vi x.1.Lines.1, vi x.1.Lines.2, vi x.1.Sent, vi x.1.Acked, vi x.1.Lost, vi x.2.State, vi x.2.Line, vi x.2.Lines.1, vi x.2.Lines.2, vi x.2.Sent, vi x.2.Acked, vi x.2.Lost]) 34]) ⟨ho, ht, hu, h, hon, h1, h2, hd, e1, e2, hA, hl⟩⟩
theorem V34.close {b : Nat} {l0 : Int} {l1 : Int} {l2 : Int} {l3 : Int} {l4 : Int} {l5 : Int} {l6 : Int} {l7 : Int} {l8 : Int} {l9 : Int} {l10 : Int} {l11 : Int} {l12 : Int} {l13 : Int}  {L : List As} {w0 w : World} (hi : True) (hs : Sep.St (blk b (#[vi l0, vi l1, vi l2, vi l3, vi l4, vi l5, vi l6, vi l7, vi l8, vi l9, vi l10, vi l11, vi l12, vi l13]) 34 :: L) w0 w) : Sep.St (V34.at b (({ State := l0, Line := l1, Lines := (l2, l3), Sent := l4, Acked := l5, Lost := l6 } : api_Status), ({ State := l7, Line := l8, Lines := (l9, l10), Sent := l11, Acked := l12, Lost := l13 } : api_Status)) :: L) w0 w := by
 have h2 := St.join (m := [blk b (#[vi l0, vi l1, vi l2, vi l3, vi l4, vi l5, vi l6, vi l7, vi l8, vi l9, vi l10, vi l11, vi l12, vi l13]) 34]) hs
 exact h2.mono fun h hh => ⟨hi, hh⟩
def signalman_After.f (k : Nat) (a0 : api_Config) (a1 : List api_Op) : Option ((api_Status × api_Status) × Bool) := ((signalman_play.f k a0 a1).bind fun t3 => (if t3.1.isNone = true then some ((({ State := 0, Line := 0, Lines := (0, 0), Sent := 0, Acked := 0, Lost := 0 } : api_Status), ({ State := 0, Line := 0, Lines := (0, 0), Sent := 0, Acked := 0, Lost := 0 } : api_Status)), false) else ((station_Station_Status.f (((t3.1.getD default).w).stations.1)).bind fun t26 => ((station_Station_Status.f (((t3.1.getD default).w).stations.2)).bind fun t30 => some (((t26 : api_Status), (t30 : api_Status)), true)))))
theorem signalman_After.calls {k : Nat} {a0 : api_Config} {a1 : List api_Op} {R : As} {w0 w : World} {sa1 : Option Addr} {sc1 : Nat} {sd1 : List Value} {r : (api_Status × api_Status) × Bool} (H : signalman_After.f k a0 a1 = some r) (HS : Sep.St [R] w0 w) (hr1 : rdC R 6 (.slice sa1 a1.length sc1) a1.length sd1) (ht1 : ∀ h, R h → tie api_Op.El sd1 a1 h) : Calls Tryz.prog 15 #[Value.agg #[vi a0.Mode, vi a0.Modulus, vi a0.Window, vi a0.T1, vi a0.N2, vi a0.Hold, vi a0.Wait, vi a0.Keep, vi a0.Queue, vi a0.Size, vi a0.Ring, vi a0.Rate, vi a0.Bad, vi a0.Good, vb a0.Revert, vb a0.Wide], vs sa1 a1.length sc1] w (Ret fun u w => u = Value.tuple #[Value.agg #[vi r.1.1.State, vi r.1.1.Line, vi r.1.1.Lines.1, vi r.1.1.Lines.2, vi r.1.1.Sent, vi r.1.1.Acked, vi r.1.1.Lost, vi r.1.2.State, vi r.1.2.Line, vi r.1.2.Lines.1, vi r.1.2.Lines.2, vi r.1.2.Sent, vi r.1.2.Acked, vi r.1.2.Lost], vb r.2] ∧ Sep.St [R] w0 w) := by
 refine calls_enter func15 rfl rfl ?_
 have HS := St.more 0 HS rfl ht1 tie.pers
 refine go ?_
 refine W.e (Y.box HS rfl) rfl ?_
 rintro _ w ⟨_, rfl, HS⟩
 refine W.e (Y.alloc (z := Value.agg (#[vi (0), vi (0), vi (0), vi (0), vi (0), vi (0), vi (0), vi (0), vi (0), vi (0), vi (0), vi (0), vi (0), vi (0)])) HS ze34) rfl ?_
 rintro _ w ⟨_, rfl, HS⟩
 refine go ?_
 obtain ⟨_, A4, H⟩ := bind_s H
 refine ite_c H (fun c5 H => ?_) (fun c5 H => ?_)
 ·refine W.e (Y.cl func29 (signalman_play.calls A4 HS.j0 (rdC.part 3 hr1 rfl) (fun h hh => let ⟨_, l, t⟩ := Sp.has 2 hh rfl; tie.mono t l))) rfl ?_
  rintro _ w ⟨bt3_0, at3_1, ct3_1, rfl, HS⟩
  have HS := St.optN c5 HS.o2
  rw [optv_n c5]
  refine go ?_
  refine W.r (X.eqP underlying66 rfl rfl) rfl ?_
  refine go ?_
  refine W.r (X.bd (Value.agg #[vi (0), vi (0), vi (0), vi (0), vi (0), vi (0), vi (0), vi (0), vi (0), vi (0), vi (0), vi (0), vi (0), vi (0)]) rfl (fun _ => by kernel_rfl)) rfl ?_
  refine W.en (Y.storeSt (c' := #[vi (0), vi (0), vi (0), vi (0), vi (0), vi (0), vi (0), vi (0), vi (0), vi (0), vi (0), vi (0), vi (0), vi (0)]) 1 [vi (0), vi (0), vi (0), vi (0), vi (0), vi (0), vi (0), vi (0), vi (0), vi (0), vi (0), vi (0), vi (0), vi (0)] HS rfl inf34 rfl rfl rfl rfl rfl rfl) rfl ?_
  rintro _ w HS
  refine go ?_
  have hv12 := run_loadSt (P := Tryz.prog) (p := 0) 1 [vi (0), vi (0), vi (0), vi (0), vi (0), vi (0), vi (0), vi (0), vi (0), vi (0), vi (0), vi (0), vi (0), vi (0)] HS rfl underlying34 rfl inf34 rfl
  have HS := HS.ke [4]
  cases H
  exact At.retv2 rfl ⟨_, rfl, hv12⟩ rfl ⟨_, rfl, rfl, HS⟩
 ·refine W.e (Y.cl func29 (signalman_play.calls A4 HS.j0 (rdC.part 3 hr1 rfl) (fun h hh => let ⟨_, l, t⟩ := Sp.has 2 hh rfl; tie.mono t l))) rfl ?_
  rintro _ w ⟨bt3_0, at3_1, ct3_1, rfl, HS⟩
  have HS := St.optS default c5 HS.o2
  rw [optv_s c5]
  refine go ?_
  refine W.r (X.eqP underlying66 rfl rfl) rfl ?_
  refine go ?_
  obtain ⟨b0_20, _, _, _, _, HS⟩ := signalman_player.open HS
  apply V.da [4, 5, 10, 11, 13] [12, 14] [(17, _), (18, _), (19, _), (20, _), (23, _), (24, _), (25, _), (26, _)] mo HS
  rfl
  refine T.e [20] [12, 14] [0, 1, 2, 3] fun w HS => ?_
  refine ⟨_, Y.cl (vs := [pt b0_20, vi (0)]) func30 (calls_enter func30 rfl rfl ?_), fun _ _ h => h⟩
  refine go ?_
  refine W.inl (Y.cl (vs := [vi (0)]) func45 (calls_enter func45 rfl rfl ?_)) rfl rfl rfl
  refine go ?_
  refine At.ret1 rfl rfl ⟨_, rfl, ?_⟩
  refine go ?_
  have HS := HS.fr 1
  obtain ⟨_, _, _, _, _, _, _, _, _, _, _, _, _, _, _, _, _, _, _, _, _, _, _, _, _, _, _, _, _, _, _, HS⟩ := world_World.open HS
  refine go ?_
  refine At.ret1 rfl rfl ⟨_, rfl, ?_⟩
  refine T.nw HS ?_
  refine T.e [21] [12, 14] [] fun w HS => ?_
  have HS := HS.fr 1
  obtain ⟨_, _, _, _, _, _, _, _, _, _, HS⟩ := station_Station.open HS
  refine Y.kl H func31 (fun _ h => station_Station_Status.calls h HS.j10) ?_
  rintro t26 _ w H ⟨rfl, HS⟩
  have HS := HS.o10
  refine T.nw HS ?_
  refine T.e [26] [12, 14] [6, 7, 8, 9] fun w HS => ?_
  refine ⟨_, Y.cl (vs := [pt b0_20, vi (1)]) func30 (calls_enter func30 rfl rfl ?_), fun _ _ h => h⟩
  refine go ?_
  refine W.inl (Y.cl (vs := [vi (1)]) func45 (calls_enter func45 rfl rfl ?_)) rfl rfl rfl
  refine go ?_
  refine At.ret1 rfl rfl ⟨_, rfl, ?_⟩
  refine go ?_
  refine At.ret1 rfl rfl ⟨_, rfl, ?_⟩
  refine T.nw HS ?_
  refine T.e [27] [14] [] fun w HS => ?_
  have HS := HS.fr 11
  obtain ⟨_, _, _, _, _, _, _, _, _, _, HS⟩ := station_Station.open HS
  refine Y.kl H func31 (fun _ h => station_Station_Status.calls h HS.j10) ?_
  rintro t30 _ w H ⟨rfl, HS⟩
  have HS := HS.o10
  apply T.na [(28, _), (29, _)] HS
  exact nmk
  refine T.e [4, 29] [] [12] (fun w HS => ?_) ⟨.n2 22 28 rfl rfl rfl (fun w HS => X.bd (Value.agg #[vi t26.State, vi t26.Line, vi t26.Lines.1, vi t26.Lines.2, vi t26.Sent, vi t26.Acked, vi t26.Lost, vi t30.State, vi t30.Line, vi t30.Lines.1, vi t30.Lines.2, vi t30.Sent, vi t30.Acked, vi t30.Lost]) rfl (fun _ => by kernel_rfl)), rds⟩
  refine ⟨_, Y.storeSt (c' := #[vi t26.State, vi t26.Line, vi t26.Lines.1, vi t26.Lines.2, vi t26.Sent, vi t26.Acked, vi t26.Lost, vi t30.State, vi t30.Line, vi t30.Lines.1, vi t30.Lines.2, vi t30.Sent, vi t30.Acked, vi t30.Lost]) 45 [vi t26.State, vi t26.Line, vi t26.Lines.1, vi t26.Lines.2, vi t26.Sent, vi t26.Acked, vi t26.Lost, vi t30.State, vi t30.Line, vi t30.Lines.1, vi t30.Lines.2, vi t30.Sent, vi t30.Acked, vi t30.Lost] HS rfl inf34 rfl rfl rfl rfl rfl rfl, ?_⟩
  rintro _ w HS
  apply T.na [(5, _)] HS
  exact nmk
  refine T.ff [4, 5] fun w HS => ?_
  refine go ?_
  have hv32 := run_loadSt (P := Tryz.prog) (p := 0) 45 [vi t26.State, vi t26.Line, vi t26.Lines.1, vi t26.Lines.2, vi t26.Sent, vi t26.Acked, vi t26.Lost, vi t30.State, vi t30.Line, vi t30.Lines.1, vi t30.Lines.2, vi t30.Sent, vi t30.Acked, vi t30.Lost] HS rfl underlying34 rfl inf34 rfl
  have HS := HS.ke [48]
  cases H
  exact At.retv2 rfl ⟨_, rfl, hv32⟩ rfl ⟨_, rfl, rfl, HS⟩
def api_Status.beq (x y : api_Status) : Bool := ((x.State == y.State) && ((x.Line == y.Line) && (((x.Lines.1 == y.Lines.1) && ((x.Lines.2 == y.Lines.2) && true)) && ((x.Sent == y.Sent) && ((x.Acked == y.Acked) && ((x.Lost == y.Lost) && true))))))
def V31.at (b : Nat) (x : (Int × Int)) : As := fun h => True ∧ Sp [blk b (#[vi x.1, vi x.2]) 31] h
theorem V31.open {b : Nat} {x : (Int × Int)} {L : List As} {w0 w : World} (hs : Sep.St (V31.at b x :: L) w0 w) : True ∧ Sep.St (blk b (#[vi x.1, vi x.2]) 31 :: L) w0 w := by
 obtain ⟨ho, ht, hu, h, hon, h1, h2, hd, e1, e2, ⟨hi, hA⟩, hl⟩ := hs
 exact ⟨hi, St.open (m := [blk b (#[vi x.1, vi x.2]) 31]) ⟨ho, ht, hu, h, hon, h1, h2, hd, e1, e2, hA, hl⟩⟩
theorem V31.close {b : Nat} {l0 : Int} {l1 : Int}  {L : List As} {w0 w : World} (hi : True) (hs : Sep.St (blk b (#[vi l0, vi l1]) 31 :: L) w0 w) : Sep.St (V31.at b (l0, l1) :: L) w0 w := by
 have h2 := St.join (m := [blk b (#[vi l0, vi l1]) 31]) hs
 exact h2.mono fun h hh => ⟨hi, hh⟩
mutual
def signalmanlaw25_SignalCounts.l1 : Nat → (List api_Op) → ((api_Status × api_Status) × Bool) → (List api_Event × List Int) → Int → (Int × Int) → Option Bool
 | 0, _, _, _, _, _ => none
 | k + 1, a1, t11, t14, x23, x24 => (if x23 < (a1.length : Int) then (signalmanlaw25_SignalCounts.j2 k a1 t11 t14 x23 x24 (signalmanlaw25_SignalCounts.l1 k a1 t11 t14) (decide (x23 < (t14.2.length : Int)))) else (signalmanlaw25_SignalCounts.j2 k a1 t11 t14 x23 x24 (signalmanlaw25_SignalCounts.l1 k a1 t11 t14) false))
def signalmanlaw25_SignalCounts.l3 : Nat → ((api_Status × api_Status) × Bool) → (Int × Int) → Int → Option Bool
 | 0, _, _, _ => none
 | k + 1, t11, x24, x52 => (if x52 < 2 then (if 0 ≤ x52 ∧ x52 < 2 then (if x52 = 0 then (if t11.1.1.Sent = x24.1 then (if t11.1.1.Acked < 0 then (signalmanlaw25_SignalCounts.j4 x52 (signalmanlaw25_SignalCounts.l3 k t11 x24) true) else (if t11.1.1.Lost < 0 then (signalmanlaw25_SignalCounts.j4 x52 (signalmanlaw25_SignalCounts.l3 k t11 x24) true) else (if (w64 (t11.1.1.Acked + t11.1.1.Lost)) > t11.1.1.Sent then (signalmanlaw25_SignalCounts.j4 x52 (signalmanlaw25_SignalCounts.l3 k t11 x24) true) else (if t11.1.1.State = 2 then (signalmanlaw25_SignalCounts.j4 x52 (signalmanlaw25_SignalCounts.l3 k t11 x24) false) else (signalmanlaw25_SignalCounts.j4 x52 (signalmanlaw25_SignalCounts.l3 k t11 x24) (!(decide ((w64 (t11.1.1.Acked + t11.1.1.Lost)) = t11.1.1.Sent)))))))) else (signalmanlaw25_SignalCounts.j4 x52 (signalmanlaw25_SignalCounts.l3 k t11 x24) true)) else (if t11.1.2.Sent = x24.2 then (if t11.1.2.Acked < 0 then (signalmanlaw25_SignalCounts.j4 x52 (signalmanlaw25_SignalCounts.l3 k t11 x24) true) else (if t11.1.2.Lost < 0 then (signalmanlaw25_SignalCounts.j4 x52 (signalmanlaw25_SignalCounts.l3 k t11 x24) true) else (if (w64 (t11.1.2.Acked + t11.1.2.Lost)) > t11.1.2.Sent then (signalmanlaw25_SignalCounts.j4 x52 (signalmanlaw25_SignalCounts.l3 k t11 x24) true) else (if t11.1.2.State = 2 then (signalmanlaw25_SignalCounts.j4 x52 (signalmanlaw25_SignalCounts.l3 k t11 x24) false) else (signalmanlaw25_SignalCounts.j4 x52 (signalmanlaw25_SignalCounts.l3 k t11 x24) (!(decide ((w64 (t11.1.2.Acked + t11.1.2.Lost)) = t11.1.2.Sent)))))))) else (signalmanlaw25_SignalCounts.j4 x52 (signalmanlaw25_SignalCounts.l3 k t11 x24) true))) else none) else some true)
def signalmanlaw25_SignalCounts.j4 (x52 : Int) (Lq58 : Int → Option Bool) (x56 : Bool) : Option Bool := (if x56 = true then some false else (Lq58 (w64 (x52 + 1))))
def signalmanlaw25_SignalCounts.j2 (k : Nat) (a1 : List api_Op) (t11 : (api_Status × api_Status) × Bool) (t14 : List api_Event × List Int) (x23 : Int) (x24 : (Int × Int)) (Lq29 : Int → (Int × Int) → Option Bool) (x27 : Bool) : Option Bool := (if x27 = true then (if 0 ≤ x23 ∧ x23 < (a1.length : Int) then (if ((a1.getD x23.toNat default).Kind) = 4 then (if 0 ≤ x23 ∧ x23 < (t14.2.length : Int) then ((signalmanlaw25_num.f (t14.2.getD x23.toNat 0)).bind fun t44 => (if t44 = 0 then (if 0 ≤ iand .i64 ((a1.getD x23.toNat default).At) (1) ∧ iand .i64 ((a1.getD x23.toNat default).At) (1) < 2 then (if iand .i64 ((a1.getD x23.toNat default).At) (1) = 0 then (Lq29 (w64 (x23 + 1)) (w64 (x24.1 + 1), x24.2)) else (Lq29 (w64 (x23 + 1)) (x24.1, w64 (x24.2 + 1)))) else none) else (Lq29 (w64 (x23 + 1)) x24))) else none) else (Lq29 (w64 (x23 + 1)) x24)) else none) else (signalmanlaw25_SignalCounts.l3 k t11 x24 0))
def signalmanlaw25_SignalCounts.j0 (k : Nat) (a0 : api_Config) (a1 : List api_Op) (t2 : Bool) (x6 : Bool) : Option Bool := (if x6 = true then some t2 else ((signalman_After.f k a0 a1).bind fun t11 => ((signalman_Play.f k a0 a1).bind fun t14 => (if t11.2 = true then (signalmanlaw25_SignalCounts.l1 k a1 t11 t14 0 (0, 0)) else some ((api_Status.beq t11.1.1 ((({ State := 0, Line := 0, Lines := (0, 0), Sent := 0, Acked := 0, Lost := 0 } : api_Status), ({ State := 0, Line := 0, Lines := (0, 0), Sent := 0, Acked := 0, Lost := 0 } : api_Status)).1)) && ((api_Status.beq t11.1.2 ((({ State := 0, Line := 0, Lines := (0, 0), Sent := 0, Acked := 0, Lost := 0 } : api_Status), ({ State := 0, Line := 0, Lines := (0, 0), Sent := 0, Acked := 0, Lost := 0 } : api_Status)).2)) && true))))))
end
def signalmanlaw25_SignalCounts.f (k : Nat) (a0 : api_Config) (a1 : List api_Op) : Option Bool := ((signalmanlaw25_alive.f k ).bind fun t2 => (if t2 = true then ((signalmanlaw25_Few.f k a1).bind fun t82 => (signalmanlaw25_SignalCounts.j0 k a0 a1 t2 (!t82))) else (signalmanlaw25_SignalCounts.j0 k a0 a1 t2 true)))
theorem signalmanlaw25_SignalCounts.calls {k : Nat} {a0 : api_Config} {a1 : List api_Op} {R : As} {w0 w : World} {sa1 : Option Addr} {sc1 : Nat} {sd1 : List Value} {r : Bool} (H : signalmanlaw25_SignalCounts.f k a0 a1 = some r) (HS : Sep.St [R] w0 w) (hr1 : rdC R 6 (.slice sa1 a1.length sc1) a1.length sd1) (ht1 : ∀ h, R h → tie api_Op.El sd1 a1 h) : Calls Tryz.prog 4 #[Value.agg #[vi a0.Mode, vi a0.Modulus, vi a0.Window, vi a0.T1, vi a0.N2, vi a0.Hold, vi a0.Wait, vi a0.Keep, vi a0.Queue, vi a0.Size, vi a0.Ring, vi a0.Rate, vi a0.Bad, vi a0.Good, vb a0.Revert, vb a0.Wide], vs sa1 a1.length sc1] w (Ret fun u w => u = vb r ∧ Sep.St [R] w0 w) := by
 refine calls_enter func4 rfl rfl ?_
 have HS := St.more 0 HS rfl ht1 tie.pers
 refine go ?_
 refine W.e (Y.box HS rfl) rfl ?_
 rintro _ w ⟨nb1, rfl, HS⟩
 refine go ?_
 refine W.kl H func12 (fun _ h => signalmanlaw25_alive.calls h HS.j0) ?_
 rintro t2 _ w H ⟨rfl, HS⟩
 have HS := HS.o0
 refine gs ?_
 refine V.seq ?_
 refine V.meet (σ := Bool) (fun x6 w => Sep.St [api_Config.at nb1 a0, tie api_Op.El sd1 a1, R] w0 w ∧ ∃ kf7, kf7 ≤ k ∧ signalmanlaw25_SignalCounts.j0 kf7 a0 a1 t2 x6 = some r) (fun x6 => [(1, vs sa1 a1.length sc1), (2, pt nb1), (5, vb t2), (20, vb x6)]) ?_ ?_
 ·refine go ?_
  refine W.cx 16 H rfl (fun _ H => ?_) (fun _ H => ?_)
  ·refine go ?_
   refine W.kl H func16 (fun _ h => signalmanlaw25_Few.calls h HS.j0 (rdC.part 2 hr1 rfl) (fun h hh => let ⟨_, l, t⟩ := Sp.has 1 hh rfl; tie.mono t l)) ?_
   rintro _ _ w H ⟨rfl, HS⟩
   have HS := HS.o0
   refine go ?_
   have HS := api_Config.close tv HS
   exact At.mt _ ⟨HS, k, by omega, H⟩
  ·refine go ?_
   have HS := api_Config.close tv HS
   exact At.mt _ ⟨HS, k, by omega, H⟩
 ·rintro x6 w ⟨HS, kf7, _, H⟩
  refine V.cv H rfl (fun _ H => ?_) (fun _ H => ?_)
  ·refine go ?_
   have HS := HS.ke [2]
   exact rt
  ·refine go ?_
   obtain ⟨_, HS⟩ := api_Config.open HS
   refine go ?_
   refine W.kl H func15 (fun _ h => signalman_After.calls h HS.j0 (rdC.part 2 hr1 rfl) (fun h hh => let ⟨_, l, t⟩ := Sp.has 1 hh rfl; tie.mono t l)) ?_
   rintro t11 _ w H ⟨rfl, HS⟩
   have HS := HS.o0
   refine go ?_
   refine W.e (Y.alloc (z := Value.agg (#[vi (0), vi (0), vi (0), vi (0), vi (0), vi (0), vi (0), vi (0), vi (0), vi (0), vi (0), vi (0), vi (0), vi (0)])) HS ze34) rfl ?_
   rintro _ w ⟨nb13, rfl, HS⟩
   refine W.en (Y.storeSt (c' := #[vi t11.1.1.State, vi t11.1.1.Line, vi t11.1.1.Lines.1, vi t11.1.1.Lines.2, vi t11.1.1.Sent, vi t11.1.1.Acked, vi t11.1.1.Lost, vi t11.1.2.State, vi t11.1.2.Line, vi t11.1.2.Lines.1, vi t11.1.2.Lines.2, vi t11.1.2.Sent, vi t11.1.2.Acked, vi t11.1.2.Lost]) 0 [vi t11.1.1.State, vi t11.1.1.Line, vi t11.1.1.Lines.1, vi t11.1.1.Lines.2, vi t11.1.1.Sent, vi t11.1.1.Acked, vi t11.1.1.Lost, vi t11.1.2.State, vi t11.1.2.Line, vi t11.1.2.Lines.1, vi t11.1.2.Lines.2, vi t11.1.2.Sent, vi t11.1.2.Acked, vi t11.1.2.Lost] HS rfl inf34 rfl rfl rfl rfl rfl rfl) rfl ?_
   rintro _ w HS
   refine go ?_
   refine W.kl H func17 (fun _ h => signalman_Play.calls h HS.j0 (rdC.part 3 hr1 rfl) (fun h hh => let ⟨_, l, t⟩ := Sp.has 2 hh rfl; tie.mono t l)) ?_
   rintro t14 _ w H ⟨at14_0, ct14_0, dt14_0, at14_1, ct14_1, rfl, HS⟩
   have HS := HS.o3
   refine go ?_
   refine V.cx H rfl (fun _ H => ?_) (fun _ H => ?_)
   ·refine go ?_
    refine W.e (Y.alloc (z := Value.agg (#[vi (0), vi (0)])) HS ze31) rfl ?_
    rintro _ w ⟨nb21, rfl, HS⟩
    refine go ?_
    have HS := api_Config.close tv ((V34.close tv ((V31.close tv HS).b [4])).b [5])
    refine V.lp (σ := Int × (Int × Int)) (fun kq (x23, x24) w => Sep.St [api_Config.at nb1 a0, V34.at nb13 t11.1, V31.at nb21 x24, row 56 4 (.slice at14_0 t14.1.length ct14_0) t14.1.length dt14_0, tie api_Event.El dt14_0 t14.1, row 44 1 (.slice at14_1 t14.2.length ct14_1) t14.2.length (t14.2.map (Value.int .i64)), tie api_Op.El sd1 a1, R] w0 w ∧ signalmanlaw25_SignalCounts.l1 kq a1 t11 t14 x23 x24 = some r ∧ kq ≤ kf7) (fun (x23, x24) => [(1, vs sa1 a1.length sc1), (6, pt nb13), (9, vs at14_1 t14.2.length ct14_1), (10, pt nb21), (11, vi x23)]) (_, _) ⟨HS, H, Nat.le_refl _⟩ ?_
    rintro kq25 ⟨x23, x24⟩ w ⟨HS, H, _⟩
    cases kq25 with
    | zero => exact absurd H (by simp [signalmanlaw25_SignalCounts.l1])
    | succ kq25 =>
     simp only [signalmanlaw25_SignalCounts.l1] at H
     refine V.seq ?_
     refine V.meet (σ := Bool) (fun x27 w => Sep.St [api_Config.at nb1 a0, V34.at nb13 t11.1, V31.at nb21 x24, row 56 4 (.slice at14_0 t14.1.length ct14_0) t14.1.length dt14_0, tie api_Event.El dt14_0 t14.1, row 44 1 (.slice at14_1 t14.2.length ct14_1) t14.2.length (t14.2.map (Value.int .i64)), tie api_Op.El sd1 a1, R] w0 w ∧ ∃ kf28 kl30, kf28 ≤ kq25 ∧ kl30 ≤ kq25 ∧ signalmanlaw25_SignalCounts.j2 kf28 a1 t11 t14 x23 x24 (signalmanlaw25_SignalCounts.l1 kl30 a1 t11 t14) x27 = some r) (fun x27 => [(1, vs sa1 a1.length sc1), (6, pt nb13), (9, vs at14_1 t14.2.length ct14_1), (10, pt nb21), (11, vi x23), (48, vb x27)]) ?_ ?_
     ·refine go ?_
      refine W.cd 43 H rfl (fun _ H => ?_) (fun _ H => ?_)
      ·refine go ?_
       exact At.mt _ ⟨HS, kq25, kq25, by omega, by omega, H⟩
      ·refine go ?_
       exact At.mt _ ⟨HS, kq25, kq25, by omega, by omega, H⟩
     ·rintro x27 w ⟨HS, kf28, kl30, _, _, H⟩
      refine V.cv H rfl (fun _ H => ?_) (fun _ H => ?_)
      ·refine go ?_
       obtain ⟨c32, H⟩ := ite_n H
       obtain ⟨_, _, hh⟩ := (rdC.at 7 hr1 HS rfl).some (by decide) c32.1 c32.2; subst hh
       refine go ?_
       obtain ⟨_, hc36, HS⟩ := St.tie_at 6 HS rfl default c32.1 c32.2
       obtain ⟨_, _, he39, HN⟩ := api_Op.unpack HS; clear HS; subst he39; have HS := HN
       refine W.r (X.load underlying3 rfl rfl ((rdC.at 8 hr1 HS rfl).cellEl (hc36 0 _ rfl))) rfl ?_
       refine go ?_
       refine W.cd 57 H rfl (fun _ H => ?_) (fun _ H => ?_)
       ·refine go ?_
        obtain ⟨c41, H⟩ := ite_n H
        obtain ⟨_, _, hh⟩ := (rdC.at 6 row_rd HS rfl).some (by decide) c41.1 c41.2; subst hh
        refine go ?_
        refine W.r (X.load underlying44 rfl rfl ((rdC.at 6 row_rd HS rfl).cellI c41.1 c41.2)) rfl ?_
        refine go ?_
        refine W.kl H func18 (fun _ h => signalmanlaw25_num.calls h HS.j0) ?_
        rintro _ _ w H ⟨rfl, HS⟩
        have HS := HS.o0
        refine go ?_
        refine V.cd H rfl (fun _ H => ?_) (fun _ H => ?_)
        ·refine go ?_
         refine W.r (X.load underlying3 rfl rfl ((rdC.at 8 hr1 HS rfl).cellEl (hc36 1 _ rfl))) rfl ?_
         refine W.r (X.and rfl rfl) rfl ?_
         obtain ⟨c47, H⟩ := ite_n H
         have HS := HS.fr 3
         obtain ⟨_, HS⟩ := V31.open HS
         refine ite_c H (fun c50 H => ?_) (fun _ H => ?_)
         ·refine W.r (X.indexArK 0 c50 underlying31 inf3 rfl rfl c47.1 c47.2) rfl ?_
          refine W.ld 0 HS underlying3 rfl rfl rfl rfl (W.r (X.add rfl rfl) rfl ?_)
          refine W.r (X.indexArK 0 c50 underlying31 inf3 rfl rfl c47.1 c47.2) rfl ?_
          refine W.sr 0 HS rfl rfl rfl fun w HS => ?_
          refine go ?_
          have HS := (V31.close tv HS).ke [2, 2, 0, 1, 1, 1, 1, 1]
          exact At.rn (_, _) ⟨HS, H, by omega⟩
         ·have hk51 : iand .i64 ((a1.getD x23.toNat default).At) (1) = 1 := by omega
          refine W.r (X.indexArK 1 hk51 underlying31 inf3 rfl rfl c47.1 c47.2) rfl ?_
          refine W.ld 0 HS underlying3 rfl rfl rfl rfl (W.r (X.add rfl rfl) rfl ?_)
          refine W.r (X.indexArK 1 hk51 underlying31 inf3 rfl rfl c47.1 c47.2) rfl ?_
          refine W.sr 1 HS rfl rfl rfl fun w HS => ?_
          refine go ?_
          have HS := (V31.close tv HS).ke [2, 2, 0, 1, 1, 1, 1, 1]
          exact At.rn (_, _) ⟨HS, H, by omega⟩
        ·refine go ?_
         have HS := HS.ke [1, 1, 1, 1, 1, 1, 1, 1]
         exact At.rn (_, _) ⟨HS, H, by omega⟩
       ·refine go ?_
        have HS := HS.ke [1, 1, 1, 1, 1, 1, 1, 1]
        exact At.rn (_, _) ⟨HS, H, by omega⟩
      ·refine go ?_
       refine V.lp (σ := Int) (fun kq x52 w => Sep.St [api_Config.at nb1 a0, V34.at nb13 t11.1, V31.at nb21 x24, row 56 4 (.slice at14_0 t14.1.length ct14_0) t14.1.length dt14_0, tie api_Event.El dt14_0 t14.1, row 44 1 (.slice at14_1 t14.2.length ct14_1) t14.2.length (t14.2.map (Value.int .i64)), tie api_Op.El sd1 a1, R] w0 w ∧ signalmanlaw25_SignalCounts.l3 kq t11 x24 x52 = some r ∧ kq ≤ kf28) (fun x52 => [(6, pt nb13), (10, pt nb21), (12, vi x52)]) _ ⟨HS, H, Nat.le_refl _⟩ ?_
       rintro kq53 x52 w ⟨HS, H, _⟩
       cases kq53 with
       | zero => exact absurd H (by simp [signalmanlaw25_SignalCounts.l3])
       | succ kq53 =>
        simp only [signalmanlaw25_SignalCounts.l3] at H
        refine go ?_
        refine V.cd H rfl (fun _ H => ?_) (fun _ H => ?_)
        ·refine gs ?_
         refine V.seq ?_
         refine gs ?_
         refine V.meet (σ := Bool) (fun x56 w => Sep.St [api_Config.at nb1 a0, V34.at nb13 t11.1, V31.at nb21 x24, row 56 4 (.slice at14_0 t14.1.length ct14_0) t14.1.length dt14_0, tie api_Event.El dt14_0 t14.1, row 44 1 (.slice at14_1 t14.2.length ct14_1) t14.2.length (t14.2.map (Value.int .i64)), tie api_Op.El sd1 a1, R] w0 w ∧ ∃ kl59, kl59 ≤ kq53 ∧ signalmanlaw25_SignalCounts.j4 x52 (signalmanlaw25_SignalCounts.l3 kl59 t11 x24) x56 = some r) (fun x56 => [(6, pt nb13), (10, pt nb21), (12, vi x52), (139, vb x56)]) ?_ ?_
         ·obtain ⟨c61, H⟩ := ite_n H
          have HS := HS.fr 1
          obtain ⟨_, HS⟩ := V34.open HS
          refine ite_c H (fun c64 H => ?_) (fun _ H => ?_)
          ·have HS := HS.fr 2
           obtain ⟨_, HS⟩ := V31.open HS
           refine ite_c H (fun c67 H => ?_) (fun c67 H => ?_)
           ·refine ite_c H (fun c68 H => ?_) (fun c68 H => ?_)
            ·apply V.da [] [] [(79, _), (80, _), (81, _), (82, _), (83, _), (84, _), (85, _), (86, _), (87, _), (88, _), (89, _), (90, _), (91, _), (92, _), (93, _), (94, _), (95, _), (96, _), (97, _), (98, _), (99, _), (100, _), (101, _), (102, _), (103, _), (104, _), (105, _), (106, _), (107, _), (108, _), (109, _), (110, _), (111, _), (112, _), (113, _), (114, _), (115, _), (116, _), (117, _), (118, _), (119, _), (120, _), (121, _), (122, _), (123, _), (124, _), (125, _), (126, _), (127, _), (128, _), (129, _), (130, _), (131, _), (132, _), (133, _), (134, _), (135, _), (136, _), (137, _), (138, _), (139, _)] mo HS
             rfl
             refine T.ff [6, 10, 12, 139] (fun w HS => ?_) ⟨rd, .n2 6 79 rfl rfl rfl (fun w HS => X.indexArK 0 c64 underlying34 inf33 rfl rfl c61.1 c61.2), rd, rd, rd, .n2 10 83 rfl rfl rfl (fun w HS => X.indexArK 0 c64 underlying31 inf3 rfl rfl c61.1 c61.2), rd, rd, rd, rd, .gw [(6, _), (88, _), (87, _)] 8 false 87 ⟨rfl, rfl, rfl, tv⟩ rfl (sb (n_t (dT c67))) (fun w HS => X.indexArK 0 c64 underlying34 inf33 rfl rfl c61.1 c61.2), rds⟩
             have HS := (V31.close tv ((V34.close tv (HS.b [1])).b [1])).b [2, 1]
             exact At.mt _ ⟨HS, kq53, by omega, H⟩
            ·refine ite_c H (fun c69 H => ?_) (fun c69 H => ?_)
             ·apply V.da [] [] [(79, _), (80, _), (81, _), (82, _), (83, _), (84, _), (85, _), (86, _), (87, _), (88, _), (89, _), (90, _), (91, _), (92, _), (93, _), (94, _), (95, _), (96, _), (97, _), (98, _), (99, _), (100, _), (101, _), (102, _), (103, _), (104, _), (105, _), (106, _), (107, _), (108, _), (109, _), (110, _), (111, _), (112, _), (113, _), (114, _), (115, _), (116, _), (117, _), (118, _), (119, _), (120, _), (121, _), (122, _), (123, _), (124, _), (125, _), (126, _), (127, _), (128, _), (129, _), (130, _), (131, _), (132, _), (133, _), (134, _), (135, _), (136, _), (137, _), (138, _), (139, _)] mo HS
              rfl
              refine T.ff [6, 10, 12, 139] (fun w HS => ?_) ⟨rd, .n2 6 79 rfl rfl rfl (fun w HS => X.indexArK 0 c64 underlying34 inf33 rfl rfl c61.1 c61.2), rd, rd, rd, .n2 10 83 rfl rfl rfl (fun w HS => X.indexArK 0 c64 underlying31 inf3 rfl rfl c61.1 c61.2), rd, rd, rd, rd, .gw [(6, _), (88, _), (87, _)] 8 false 87 ⟨rfl, rfl, rfl, tv⟩ rfl (sb (n_t (dT c67))) (fun w HS => X.indexArK 0 c64 underlying34 inf33 rfl rfl c61.1 c61.2), rd, rd, rd, rd, rd, rd, .gw [(6, _), (95, _), (94, _)] 15 false 94 ⟨rfl, rfl, rfl, tv⟩ rfl (sb (dF c68)) (fun w HS => X.indexArK 0 c64 underlying34 inf33 rfl rfl c61.1 c61.2), rds⟩
              have HS := (V31.close tv ((V34.close tv (HS.b [1])).b [1])).b [2, 1]
              exact At.mt _ ⟨HS, kq53, by omega, H⟩
             ·refine ite_c H (fun c70 H => ?_) (fun c70 H => ?_)
              ·apply V.da [] [] [(79, _), (80, _), (81, _), (82, _), (83, _), (84, _), (85, _), (86, _), (87, _), (88, _), (89, _), (90, _), (91, _), (92, _), (93, _), (94, _), (95, _), (96, _), (97, _), (98, _), (99, _), (100, _), (101, _), (102, _), (103, _), (104, _), (105, _), (106, _), (107, _), (108, _), (109, _), (110, _), (111, _), (112, _), (113, _), (114, _), (115, _), (116, _), (117, _), (118, _), (119, _), (120, _), (121, _), (122, _), (123, _), (124, _), (125, _), (126, _), (127, _), (128, _), (129, _), (130, _), (131, _), (132, _), (133, _), (134, _), (135, _), (136, _), (137, _), (138, _), (139, _)] mo HS
               rfl
               refine T.ff [6, 10, 12, 139] (fun w HS => ?_) ⟨rd, .n2 6 79 rfl rfl rfl (fun w HS => X.indexArK 0 c64 underlying34 inf33 rfl rfl c61.1 c61.2), rd, rd, rd, .n2 10 83 rfl rfl rfl (fun w HS => X.indexArK 0 c64 underlying31 inf3 rfl rfl c61.1 c61.2), rd, rd, rd, rd, .gw [(6, _), (88, _), (87, _)] 8 false 87 ⟨rfl, rfl, rfl, tv⟩ rfl (sb (n_t (dT c67))) (fun w HS => X.indexArK 0 c64 underlying34 inf33 rfl rfl c61.1 c61.2), rd, rd, rd, rd, rd, rd, .gw [(6, _), (95, _), (94, _)] 15 false 94 ⟨rfl, rfl, rfl, tv⟩ rfl (sb (dF c68)) (fun w HS => X.indexArK 0 c64 underlying34 inf33 rfl rfl c61.1 c61.2), rd, rd, rd, rd, rd, rd, .gw [(6, _), (102, _), (101, _)] 22 false 101 ⟨rfl, rfl, rfl, tv⟩ rfl (sb (dF c69)) (fun w HS => X.indexArK 0 c64 underlying34 inf33 rfl rfl c61.1 c61.2), rd, rd, rd, .gw [(6, _), (106, _), (101, _)] 22 false 101 ⟨rfl, rfl, rfl, tv⟩ rfl (sb (dF c69)) (fun w HS => X.indexArK 0 c64 underlying34 inf33 rfl rfl c61.1 c61.2), rd, rd, rd, rd, .gw [(6, _), (111, _), (101, _)] 22 false 101 ⟨rfl, rfl, rfl, tv⟩ rfl (sb (dF c69)) (fun w HS => X.indexArK 0 c64 underlying34 inf33 rfl rfl c61.1 c61.2), rds⟩
               have HS := (V31.close tv ((V34.close tv (HS.b [1])).b [1])).b [2, 1]
               exact At.mt _ ⟨HS, kq53, by omega, H⟩
              ·refine ite_c H (fun c71 H => ?_) (fun c71 H => ?_)
               ·apply V.da [] [] [(79, _), (80, _), (81, _), (82, _), (83, _), (84, _), (85, _), (86, _), (87, _), (88, _), (89, _), (90, _), (91, _), (92, _), (93, _), (94, _), (95, _), (96, _), (97, _), (98, _), (99, _), (100, _), (101, _), (102, _), (103, _), (104, _), (105, _), (106, _), (107, _), (108, _), (109, _), (110, _), (111, _), (112, _), (113, _), (114, _), (115, _), (116, _), (117, _), (118, _), (119, _), (120, _), (121, _), (122, _), (123, _), (124, _), (125, _), (126, _), (127, _), (128, _), (129, _), (130, _), (131, _), (132, _), (133, _), (134, _), (135, _), (136, _), (137, _), (138, _), (139, _)] mo HS
                rfl
                refine T.ff [6, 10, 12, 139] (fun w HS => ?_) ⟨rd, .n2 6 79 rfl rfl rfl (fun w HS => X.indexArK 0 c64 underlying34 inf33 rfl rfl c61.1 c61.2), rd, rd, rd, .n2 10 83 rfl rfl rfl (fun w HS => X.indexArK 0 c64 underlying31 inf3 rfl rfl c61.1 c61.2), rd, rd, rd, rd, .gw [(6, _), (88, _), (87, _)] 8 false 87 ⟨rfl, rfl, rfl, tv⟩ rfl (sb (n_t (dT c67))) (fun w HS => X.indexArK 0 c64 underlying34 inf33 rfl rfl c61.1 c61.2), rd, rd, rd, rd, rd, rd, .gw [(6, _), (95, _), (94, _)] 15 false 94 ⟨rfl, rfl, rfl, tv⟩ rfl (sb (dF c68)) (fun w HS => X.indexArK 0 c64 underlying34 inf33 rfl rfl c61.1 c61.2), rd, rd, rd, rd, rd, rd, .gw [(6, _), (102, _), (101, _)] 22 false 101 ⟨rfl, rfl, rfl, tv⟩ rfl (sb (dF c69)) (fun w HS => X.indexArK 0 c64 underlying34 inf33 rfl rfl c61.1 c61.2), rd, rd, rd, .gw [(6, _), (106, _), (101, _)] 22 false 101 ⟨rfl, rfl, rfl, tv⟩ rfl (sb (dF c69)) (fun w HS => X.indexArK 0 c64 underlying34 inf33 rfl rfl c61.1 c61.2), rd, rd, rd, rd, .gw [(6, _), (111, _), (101, _)] 22 false 101 ⟨rfl, rfl, rfl, tv⟩ rfl (sb (dF c69)) (fun w HS => X.indexArK 0 c64 underlying34 inf33 rfl rfl c61.1 c61.2), rd, rd, rd, rd, rd, rd, .gw [(6, _), (118, _), (117, _)] 38 false 117 ⟨rfl, rfl, rfl, tv⟩ rfl (sb (dF c70)) (fun w HS => X.indexArK 0 c64 underlying34 inf33 rfl rfl c61.1 c61.2), rds⟩
                have HS := (V31.close tv ((V34.close tv (HS.b [1])).b [1])).b [2, 1]
                exact At.mt _ ⟨HS, kq53, by omega, H⟩
               ·apply V.da [] [] [(79, _), (80, _), (81, _), (82, _), (83, _), (84, _), (85, _), (86, _), (87, _), (88, _), (89, _), (90, _), (91, _), (92, _), (93, _), (94, _), (95, _), (96, _), (97, _), (98, _), (99, _), (100, _), (101, _), (102, _), (103, _), (104, _), (105, _), (106, _), (107, _), (108, _), (109, _), (110, _), (111, _), (112, _), (113, _), (114, _), (115, _), (116, _), (117, _), (118, _), (119, _), (120, _), (121, _), (122, _), (123, _), (124, _), (125, _), (126, _), (127, _), (128, _), (129, _), (130, _), (131, _), (132, _), (133, _), (134, _), (135, _), (136, _), (137, _), (138, _), (139, _)] mo HS
                rfl
                refine T.ff [6, 10, 12, 139] (fun w HS => ?_) ⟨.mv 12, .n2 6 79 rfl rfl rfl (fun w HS => X.indexArK 0 c64 underlying34 inf33 rfl rfl c61.1 c61.2), .fa 80 fo33_3, .ld 81 1 underlying3, .mv 12, .n2 10 83 rfl rfl rfl (fun w HS => X.indexArK 0 c64 underlying31 inf3 rfl rfl c61.1 c61.2), .ld 84 0 underlying3, .n2 82 85 rfl rfl rfl (fun w HS => X.cmp (!(decide (t11.1.1.Sent = x24.1))) rfl rfl rfl rfl), .mv 86, .gw [(12, _), (87, _)] 8 false 87 ⟨rfl, rfl, tv⟩ rfl (sb (n_t (dT c67))) (fun w HS => X.move rfl), .gw [(6, _), (88, _), (87, _)] 8 false 87 ⟨rfl, rfl, rfl, tv⟩ rfl (sb (n_t (dT c67))) (fun w HS => X.indexArK 0 c64 underlying34 inf33 rfl rfl c61.1 c61.2), .gw [(89, _), (87, _)] 8 false 87 ⟨rfl, rfl, tv⟩ rfl (sb (n_t (dT c67))) (fun w HS => X.fieldAddr 5 fo33_4 rfl), .gw [(90, _), (87, _)] 8 false 87 ⟨rfl, rfl, tv⟩ rfl (sb (n_t (dT c67))) (fun w HS => X.loadAt 1 HS rfl underlying3 rfl rfl rfl), .gw [(91, _), (87, _)] 8 false 87 ⟨rfl, rfl, tv⟩ rfl (sb (n_t (dT c67))) (fun w HS => X.cmp (decide (t11.1.1.Acked < 0)) rfl rfl rfl rfl), .n2 87 92 rfl rfl rfl (fun w HS => X.pickF (sb (n_t (dT c67))) rfl), .mv 93, .gw [(12, _), (94, _)] 15 false 94 ⟨rfl, rfl, tv⟩ rfl (sb (dF c68)) (fun w HS => X.move rfl), .gw [(6, _), (95, _), (94, _)] 15 false 94 ⟨rfl, rfl, rfl, tv⟩ rfl (sb (dF c68)) (fun w HS => X.indexArK 0 c64 underlying34 inf33 rfl rfl c61.1 c61.2), .gw [(96, _), (94, _)] 15 false 94 ⟨rfl, rfl, tv⟩ rfl (sb (dF c68)) (fun w HS => X.fieldAddr 6 fo33_5 rfl), .gw [(97, _), (94, _)] 15 false 94 ⟨rfl, rfl, tv⟩ rfl (sb (dF c68)) (fun w HS => X.loadAt 1 HS rfl underlying3 rfl rfl rfl), .gw [(98, _), (94, _)] 15 false 94 ⟨rfl, rfl, tv⟩ rfl (sb (dF c68)) (fun w HS => X.cmp (decide (t11.1.1.Lost < 0)) rfl rfl rfl rfl), .n2 94 99 rfl rfl rfl (fun w HS => X.pickF (sb (dF c68)) rfl), .mv 100, .gw [(12, _), (101, _)] 22 false 101 ⟨rfl, rfl, tv⟩ rfl (sb (dF c69)) (fun w HS => X.move rfl), .gw [(6, _), (102, _), (101, _)] 22 false 101 ⟨rfl, rfl, rfl, tv⟩ rfl (sb (dF c69)) (fun w HS => X.indexArK 0 c64 underlying34 inf33 rfl rfl c61.1 c61.2), .gw [(103, _), (101, _)] 22 false 101 ⟨rfl, rfl, tv⟩ rfl (sb (dF c69)) (fun w HS => X.fieldAddr 5 fo33_4 rfl), .gw [(104, _), (101, _)] 22 false 101 ⟨rfl, rfl, tv⟩ rfl (sb (dF c69)) (fun w HS => X.loadAt 1 HS rfl underlying3 rfl rfl rfl), .gw [(12, _), (101, _)] 22 false 101 ⟨rfl, rfl, tv⟩ rfl (sb (dF c69)) (fun w HS => X.move rfl), .gw [(6, _), (106, _), (101, _)] 22 false 101 ⟨rfl, rfl, rfl, tv⟩ rfl (sb (dF c69)) (fun w HS => X.indexArK 0 c64 underlying34 inf33 rfl rfl c61.1 c61.2), .gw [(107, _), (101, _)] 22 false 101 ⟨rfl, rfl, tv⟩ rfl (sb (dF c69)) (fun w HS => X.fieldAddr 6 fo33_5 rfl), .gw [(108, _), (101, _)] 22 false 101 ⟨rfl, rfl, tv⟩ rfl (sb (dF c69)) (fun w HS => X.loadAt 1 HS rfl underlying3 rfl rfl rfl), .gw [(105, _), (109, _), (101, _)] 22 false 101 ⟨rfl, rfl, rfl, tv⟩ rfl (sb (dF c69)) (fun w HS => X.add rfl rfl), .gw [(12, _), (101, _)] 22 false 101 ⟨rfl, rfl, tv⟩ rfl (sb (dF c69)) (fun w HS => X.move rfl), .gw [(6, _), (111, _), (101, _)] 22 false 101 ⟨rfl, rfl, rfl, tv⟩ rfl (sb (dF c69)) (fun w HS => X.indexArK 0 c64 underlying34 inf33 rfl rfl c61.1 c61.2), .gw [(112, _), (101, _)] 22 false 101 ⟨rfl, rfl, tv⟩ rfl (sb (dF c69)) (fun w HS => X.fieldAddr 4 fo33_3 rfl), .gw [(113, _), (101, _)] 22 false 101 ⟨rfl, rfl, tv⟩ rfl (sb (dF c69)) (fun w HS => X.loadAt 1 HS rfl underlying3 rfl rfl rfl), .gw [(110, _), (114, _), (101, _)] 22 false 101 ⟨rfl, rfl, rfl, tv⟩ rfl (sb (dF c69)) (fun w HS => X.cmp (decide ((w64 (t11.1.1.Acked + t11.1.1.Lost)) > t11.1.1.Sent)) rfl rfl rfl rfl), .n2 101 115 rfl rfl rfl (fun w HS => X.pickF (sb (dF c69)) rfl), .mv 116, .gw [(12, _), (117, _)] 38 false 117 ⟨rfl, rfl, tv⟩ rfl (sb (dF c70)) (fun w HS => X.move rfl), .gw [(6, _), (118, _), (117, _)] 38 false 117 ⟨rfl, rfl, rfl, tv⟩ rfl (sb (dF c70)) (fun w HS => X.indexArK 0 c64 underlying34 inf33 rfl rfl c61.1 c61.2), .gw [(119, _), (117, _)] 38 false 117 ⟨rfl, rfl, tv⟩ rfl (sb (dF c70)) (fun w HS => X.fieldAddr 0 fo33_0 rfl), .gw [(120, _), (117, _)] 38 false 117 ⟨rfl, rfl, tv⟩ rfl (sb (dF c70)) (fun w HS => X.loadAt 1 HS rfl underlying3 rfl rfl rfl), .gw [(121, _), (117, _)] 38 false 117 ⟨rfl, rfl, tv⟩ rfl (sb (dF c70)) (fun w HS => X.cmp (!(decide (t11.1.1.State = 2))) rfl rfl rfl rfl), .gw [(122, _), (117, _)] 38 false 117 ⟨rfl, rfl, tv⟩ rfl (sb (dF c70)) (fun w HS => X.move rfl), .gw [(12, _), (123, _)] 44 true 123 ⟨rfl, rfl, tv⟩ rfl (sb (n_f (dF c71))) (fun w HS => X.move rfl), .gw [(6, _), (124, _), (123, _)] 44 true 123 ⟨rfl, rfl, rfl, tv⟩ rfl (sb (n_f (dF c71))) (fun w HS => X.indexArK 0 c64 underlying34 inf33 rfl rfl c61.1 c61.2), .gw [(125, _), (123, _)] 44 true 123 ⟨rfl, rfl, tv⟩ rfl (sb (n_f (dF c71))) (fun w HS => X.fieldAddr 5 fo33_4 rfl), .gw [(126, _), (123, _)] 44 true 123 ⟨rfl, rfl, tv⟩ rfl (sb (n_f (dF c71))) (fun w HS => X.loadAt 1 HS rfl underlying3 rfl rfl rfl), .gw [(12, _), (123, _)] 44 true 123 ⟨rfl, rfl, tv⟩ rfl (sb (n_f (dF c71))) (fun w HS => X.move rfl), .gw [(6, _), (128, _), (123, _)] 44 true 123 ⟨rfl, rfl, rfl, tv⟩ rfl (sb (n_f (dF c71))) (fun w HS => X.indexArK 0 c64 underlying34 inf33 rfl rfl c61.1 c61.2), .gw [(129, _), (123, _)] 44 true 123 ⟨rfl, rfl, tv⟩ rfl (sb (n_f (dF c71))) (fun w HS => X.fieldAddr 6 fo33_5 rfl), .gw [(130, _), (123, _)] 44 true 123 ⟨rfl, rfl, tv⟩ rfl (sb (n_f (dF c71))) (fun w HS => X.loadAt 1 HS rfl underlying3 rfl rfl rfl), .gw [(127, _), (131, _), (123, _)] 44 true 123 ⟨rfl, rfl, rfl, tv⟩ rfl (sb (n_f (dF c71))) (fun w HS => X.add rfl rfl), .gw [(12, _), (123, _)] 44 true 123 ⟨rfl, rfl, tv⟩ rfl (sb (n_f (dF c71))) (fun w HS => X.move rfl), .gw [(6, _), (133, _), (123, _)] 44 true 123 ⟨rfl, rfl, rfl, tv⟩ rfl (sb (n_f (dF c71))) (fun w HS => X.indexArK 0 c64 underlying34 inf33 rfl rfl c61.1 c61.2), .gw [(134, _), (123, _)] 44 true 123 ⟨rfl, rfl, tv⟩ rfl (sb (n_f (dF c71))) (fun w HS => X.fieldAddr 4 fo33_3 rfl), .gw [(135, _), (123, _)] 44 true 123 ⟨rfl, rfl, tv⟩ rfl (sb (n_f (dF c71))) (fun w HS => X.loadAt 1 HS rfl underlying3 rfl rfl rfl), .gw [(132, _), (136, _), (123, _)] 44 true 123 ⟨rfl, rfl, rfl, tv⟩ rfl (sb (n_f (dF c71))) (fun w HS => X.cmp (!(decide ((w64 (t11.1.1.Acked + t11.1.1.Lost)) = t11.1.1.Sent))) rfl rfl rfl rfl), .gw [(123, _), (137, _), (117, _)] 38 false 117 ⟨rfl, rfl, rfl, tv⟩ rfl (sb (dF c70)) (fun w HS => X.pickT (sb (n_f (dF c71))) rfl), .n2 117 138 rfl rfl rfl (fun w HS => X.pickF (sb (dF c70)) rfl), tv⟩
                have HS := (V31.close tv ((V34.close tv (HS.b [1])).b [1])).b [2, 1]
                exact At.mt _ ⟨HS, kq53, by omega, H⟩
           ·apply V.da [] [] [(79, _), (80, _), (81, _), (82, _), (83, _), (84, _), (85, _), (86, _), (87, _), (88, _), (89, _), (90, _), (91, _), (92, _), (93, _), (94, _), (95, _), (96, _), (97, _), (98, _), (99, _), (100, _), (101, _), (102, _), (103, _), (104, _), (105, _), (106, _), (107, _), (108, _), (109, _), (110, _), (111, _), (112, _), (113, _), (114, _), (115, _), (116, _), (117, _), (118, _), (119, _), (120, _), (121, _), (122, _), (123, _), (124, _), (125, _), (126, _), (127, _), (128, _), (129, _), (130, _), (131, _), (132, _), (133, _), (134, _), (135, _), (136, _), (137, _), (138, _), (139, _)] mo HS
            rfl
            refine T.ff [6, 10, 12, 139] (fun w HS => ?_) ⟨rd, .n2 6 79 rfl rfl rfl (fun w HS => X.indexArK 0 c64 underlying34 inf33 rfl rfl c61.1 c61.2), rd, rd, rd, .n2 10 83 rfl rfl rfl (fun w HS => X.indexArK 0 c64 underlying31 inf3 rfl rfl c61.1 c61.2), rds⟩
            have HS := (V31.close tv ((V34.close tv (HS.b [1])).b [1])).b [2, 1]
            exact At.mt _ ⟨HS, kq53, by omega, H⟩
          ·have hk72 : x52 = 1 := by omega
           have HS := HS.fr 2
           obtain ⟨_, HS⟩ := V31.open HS
           refine ite_c H (fun c75 H => ?_) (fun c75 H => ?_)
           ·refine ite_c H (fun c76 H => ?_) (fun c76 H => ?_)
            ·apply V.da [] [] [(79, _), (80, _), (81, _), (82, _), (83, _), (84, _), (85, _), (86, _), (87, _), (88, _), (89, _), (90, _), (91, _), (92, _), (93, _), (94, _), (95, _), (96, _), (97, _), (98, _), (99, _), (100, _), (101, _), (102, _), (103, _), (104, _), (105, _), (106, _), (107, _), (108, _), (109, _), (110, _), (111, _), (112, _), (113, _), (114, _), (115, _), (116, _), (117, _), (118, _), (119, _), (120, _), (121, _), (122, _), (123, _), (124, _), (125, _), (126, _), (127, _), (128, _), (129, _), (130, _), (131, _), (132, _), (133, _), (134, _), (135, _), (136, _), (137, _), (138, _), (139, _)] mo HS
             rfl
             refine T.ff [6, 10, 12, 139] (fun w HS => ?_) ⟨rd, .n2 6 79 rfl rfl rfl (fun w HS => X.indexArK 1 hk72 underlying34 inf33 rfl rfl c61.1 c61.2), rd, rd, rd, .n2 10 83 rfl rfl rfl (fun w HS => X.indexArK 1 hk72 underlying31 inf3 rfl rfl c61.1 c61.2), rd, rd, rd, rd, .gw [(6, _), (88, _), (87, _)] 8 false 87 ⟨rfl, rfl, rfl, tv⟩ rfl (sb (n_t (dT c75))) (fun w HS => X.indexArK 1 hk72 underlying34 inf33 rfl rfl c61.1 c61.2), rds⟩
             have HS := (V31.close tv ((V34.close tv (HS.b [1])).b [1])).b [2, 1]
             exact At.mt _ ⟨HS, kq53, by omega, H⟩
            ·refine ite_c H (fun c77 H => ?_) (fun c77 H => ?_)
             ·apply V.da [] [] [(79, _), (80, _), (81, _), (82, _), (83, _), (84, _), (85, _), (86, _), (87, _), (88, _), (89, _), (90, _), (91, _), (92, _), (93, _), (94, _), (95, _), (96, _), (97, _), (98, _), (99, _), (100, _), (101, _), (102, _), (103, _), (104, _), (105, _), (106, _), (107, _), (108, _), (109, _), (110, _), (111, _), (112, _), (113, _), (114, _), (115, _), (116, _), (117, _), (118, _), (119, _), (120, _), (121, _), (122, _), (123, _), (124, _), (125, _), (126, _), (127, _), (128, _), (129, _), (130, _), (131, _), (132, _), (133, _), (134, _), (135, _), (136, _), (137, _), (138, _), (139, _)] mo HS
              rfl
              refine T.ff [6, 10, 12, 139] (fun w HS => ?_) ⟨rd, .n2 6 79 rfl rfl rfl (fun w HS => X.indexArK 1 hk72 underlying34 inf33 rfl rfl c61.1 c61.2), rd, rd, rd, .n2 10 83 rfl rfl rfl (fun w HS => X.indexArK 1 hk72 underlying31 inf3 rfl rfl c61.1 c61.2), rd, rd, rd, rd, .gw [(6, _), (88, _), (87, _)] 8 false 87 ⟨rfl, rfl, rfl, tv⟩ rfl (sb (n_t (dT c75))) (fun w HS => X.indexArK 1 hk72 underlying34 inf33 rfl rfl c61.1 c61.2), rd, rd, rd, rd, rd, rd, .gw [(6, _), (95, _), (94, _)] 15 false 94 ⟨rfl, rfl, rfl, tv⟩ rfl (sb (dF c76)) (fun w HS => X.indexArK 1 hk72 underlying34 inf33 rfl rfl c61.1 c61.2), rds⟩
              have HS := (V31.close tv ((V34.close tv (HS.b [1])).b [1])).b [2, 1]
              exact At.mt _ ⟨HS, kq53, by omega, H⟩
             ·refine ite_c H (fun c78 H => ?_) (fun c78 H => ?_)
              ·apply V.da [] [] [(79, _), (80, _), (81, _), (82, _), (83, _), (84, _), (85, _), (86, _), (87, _), (88, _), (89, _), (90, _), (91, _), (92, _), (93, _), (94, _), (95, _), (96, _), (97, _), (98, _), (99, _), (100, _), (101, _), (102, _), (103, _), (104, _), (105, _), (106, _), (107, _), (108, _), (109, _), (110, _), (111, _), (112, _), (113, _), (114, _), (115, _), (116, _), (117, _), (118, _), (119, _), (120, _), (121, _), (122, _), (123, _), (124, _), (125, _), (126, _), (127, _), (128, _), (129, _), (130, _), (131, _), (132, _), (133, _), (134, _), (135, _), (136, _), (137, _), (138, _), (139, _)] mo HS
               rfl
               refine T.ff [6, 10, 12, 139] (fun w HS => ?_) ⟨rd, .n2 6 79 rfl rfl rfl (fun w HS => X.indexArK 1 hk72 underlying34 inf33 rfl rfl c61.1 c61.2), rd, rd, rd, .n2 10 83 rfl rfl rfl (fun w HS => X.indexArK 1 hk72 underlying31 inf3 rfl rfl c61.1 c61.2), rd, rd, rd, rd, .gw [(6, _), (88, _), (87, _)] 8 false 87 ⟨rfl, rfl, rfl, tv⟩ rfl (sb (n_t (dT c75))) (fun w HS => X.indexArK 1 hk72 underlying34 inf33 rfl rfl c61.1 c61.2), rd, rd, rd, rd, rd, rd, .gw [(6, _), (95, _), (94, _)] 15 false 94 ⟨rfl, rfl, rfl, tv⟩ rfl (sb (dF c76)) (fun w HS => X.indexArK 1 hk72 underlying34 inf33 rfl rfl c61.1 c61.2), rd, rd, rd, rd, rd, rd, .gw [(6, _), (102, _), (101, _)] 22 false 101 ⟨rfl, rfl, rfl, tv⟩ rfl (sb (dF c77)) (fun w HS => X.indexArK 1 hk72 underlying34 inf33 rfl rfl c61.1 c61.2), rd, rd, rd, .gw [(6, _), (106, _), (101, _)] 22 false 101 ⟨rfl, rfl, rfl, tv⟩ rfl (sb (dF c77)) (fun w HS => X.indexArK 1 hk72 underlying34 inf33 rfl rfl c61.1 c61.2), rd, rd, rd, rd, .gw [(6, _), (111, _), (101, _)] 22 false 101 ⟨rfl, rfl, rfl, tv⟩ rfl (sb (dF c77)) (fun w HS => X.indexArK 1 hk72 underlying34 inf33 rfl rfl c61.1 c61.2), rds⟩
               have HS := (V31.close tv ((V34.close tv (HS.b [1])).b [1])).b [2, 1]
               exact At.mt _ ⟨HS, kq53, by omega, H⟩
              ·refine ite_c H (fun c79 H => ?_) (fun c79 H => ?_)
               ·apply V.da [] [] [(79, _), (80, _), (81, _), (82, _), (83, _), (84, _), (85, _), (86, _), (87, _), (88, _), (89, _), (90, _), (91, _), (92, _), (93, _), (94, _), (95, _), (96, _), (97, _), (98, _), (99, _), (100, _), (101, _), (102, _), (103, _), (104, _), (105, _), (106, _), (107, _), (108, _), (109, _), (110, _), (111, _), (112, _), (113, _), (114, _), (115, _), (116, _), (117, _), (118, _), (119, _), (120, _), (121, _), (122, _), (123, _), (124, _), (125, _), (126, _), (127, _), (128, _), (129, _), (130, _), (131, _), (132, _), (133, _), (134, _), (135, _), (136, _), (137, _), (138, _), (139, _)] mo HS
                rfl
                refine T.ff [6, 10, 12, 139] (fun w HS => ?_) ⟨rd, .n2 6 79 rfl rfl rfl (fun w HS => X.indexArK 1 hk72 underlying34 inf33 rfl rfl c61.1 c61.2), rd, rd, rd, .n2 10 83 rfl rfl rfl (fun w HS => X.indexArK 1 hk72 underlying31 inf3 rfl rfl c61.1 c61.2), rd, rd, rd, rd, .gw [(6, _), (88, _), (87, _)] 8 false 87 ⟨rfl, rfl, rfl, tv⟩ rfl (sb (n_t (dT c75))) (fun w HS => X.indexArK 1 hk72 underlying34 inf33 rfl rfl c61.1 c61.2), rd, rd, rd, rd, rd, rd, .gw [(6, _), (95, _), (94, _)] 15 false 94 ⟨rfl, rfl, rfl, tv⟩ rfl (sb (dF c76)) (fun w HS => X.indexArK 1 hk72 underlying34 inf33 rfl rfl c61.1 c61.2), rd, rd, rd, rd, rd, rd, .gw [(6, _), (102, _), (101, _)] 22 false 101 ⟨rfl, rfl, rfl, tv⟩ rfl (sb (dF c77)) (fun w HS => X.indexArK 1 hk72 underlying34 inf33 rfl rfl c61.1 c61.2), rd, rd, rd, .gw [(6, _), (106, _), (101, _)] 22 false 101 ⟨rfl, rfl, rfl, tv⟩ rfl (sb (dF c77)) (fun w HS => X.indexArK 1 hk72 underlying34 inf33 rfl rfl c61.1 c61.2), rd, rd, rd, rd, .gw [(6, _), (111, _), (101, _)] 22 false 101 ⟨rfl, rfl, rfl, tv⟩ rfl (sb (dF c77)) (fun w HS => X.indexArK 1 hk72 underlying34 inf33 rfl rfl c61.1 c61.2), rd, rd, rd, rd, rd, rd, .gw [(6, _), (118, _), (117, _)] 38 false 117 ⟨rfl, rfl, rfl, tv⟩ rfl (sb (dF c78)) (fun w HS => X.indexArK 1 hk72 underlying34 inf33 rfl rfl c61.1 c61.2), rds⟩
                have HS := (V31.close tv ((V34.close tv (HS.b [1])).b [1])).b [2, 1]
                exact At.mt _ ⟨HS, kq53, by omega, H⟩
               ·apply V.da [] [] [(79, _), (80, _), (81, _), (82, _), (83, _), (84, _), (85, _), (86, _), (87, _), (88, _), (89, _), (90, _), (91, _), (92, _), (93, _), (94, _), (95, _), (96, _), (97, _), (98, _), (99, _), (100, _), (101, _), (102, _), (103, _), (104, _), (105, _), (106, _), (107, _), (108, _), (109, _), (110, _), (111, _), (112, _), (113, _), (114, _), (115, _), (116, _), (117, _), (118, _), (119, _), (120, _), (121, _), (122, _), (123, _), (124, _), (125, _), (126, _), (127, _), (128, _), (129, _), (130, _), (131, _), (132, _), (133, _), (134, _), (135, _), (136, _), (137, _), (138, _), (139, _)] mo HS
                rfl
                refine T.ff [6, 10, 12, 139] (fun w HS => ?_) ⟨.mv 12, .n2 6 79 rfl rfl rfl (fun w HS => X.indexArK 1 hk72 underlying34 inf33 rfl rfl c61.1 c61.2), .fa 80 fo33_3, .ld 81 1 underlying3, .mv 12, .n2 10 83 rfl rfl rfl (fun w HS => X.indexArK 1 hk72 underlying31 inf3 rfl rfl c61.1 c61.2), .ld 84 0 underlying3, .n2 82 85 rfl rfl rfl (fun w HS => X.cmp (!(decide (t11.1.2.Sent = x24.2))) rfl rfl rfl rfl), .mv 86, .gw [(12, _), (87, _)] 8 false 87 ⟨rfl, rfl, tv⟩ rfl (sb (n_t (dT c75))) (fun w HS => X.move rfl), .gw [(6, _), (88, _), (87, _)] 8 false 87 ⟨rfl, rfl, rfl, tv⟩ rfl (sb (n_t (dT c75))) (fun w HS => X.indexArK 1 hk72 underlying34 inf33 rfl rfl c61.1 c61.2), .gw [(89, _), (87, _)] 8 false 87 ⟨rfl, rfl, tv⟩ rfl (sb (n_t (dT c75))) (fun w HS => X.fieldAddr 5 fo33_4 rfl), .gw [(90, _), (87, _)] 8 false 87 ⟨rfl, rfl, tv⟩ rfl (sb (n_t (dT c75))) (fun w HS => X.loadAt 1 HS rfl underlying3 rfl rfl rfl), .gw [(91, _), (87, _)] 8 false 87 ⟨rfl, rfl, tv⟩ rfl (sb (n_t (dT c75))) (fun w HS => X.cmp (decide (t11.1.2.Acked < 0)) rfl rfl rfl rfl), .n2 87 92 rfl rfl rfl (fun w HS => X.pickF (sb (n_t (dT c75))) rfl), .mv 93, .gw [(12, _), (94, _)] 15 false 94 ⟨rfl, rfl, tv⟩ rfl (sb (dF c76)) (fun w HS => X.move rfl), .gw [(6, _), (95, _), (94, _)] 15 false 94 ⟨rfl, rfl, rfl, tv⟩ rfl (sb (dF c76)) (fun w HS => X.indexArK 1 hk72 underlying34 inf33 rfl rfl c61.1 c61.2), .gw [(96, _), (94, _)] 15 false 94 ⟨rfl, rfl, tv⟩ rfl (sb (dF c76)) (fun w HS => X.fieldAddr 6 fo33_5 rfl), .gw [(97, _), (94, _)] 15 false 94 ⟨rfl, rfl, tv⟩ rfl (sb (dF c76)) (fun w HS => X.loadAt 1 HS rfl underlying3 rfl rfl rfl), .gw [(98, _), (94, _)] 15 false 94 ⟨rfl, rfl, tv⟩ rfl (sb (dF c76)) (fun w HS => X.cmp (decide (t11.1.2.Lost < 0)) rfl rfl rfl rfl), .n2 94 99 rfl rfl rfl (fun w HS => X.pickF (sb (dF c76)) rfl), .mv 100, .gw [(12, _), (101, _)] 22 false 101 ⟨rfl, rfl, tv⟩ rfl (sb (dF c77)) (fun w HS => X.move rfl), .gw [(6, _), (102, _), (101, _)] 22 false 101 ⟨rfl, rfl, rfl, tv⟩ rfl (sb (dF c77)) (fun w HS => X.indexArK 1 hk72 underlying34 inf33 rfl rfl c61.1 c61.2), .gw [(103, _), (101, _)] 22 false 101 ⟨rfl, rfl, tv⟩ rfl (sb (dF c77)) (fun w HS => X.fieldAddr 5 fo33_4 rfl), .gw [(104, _), (101, _)] 22 false 101 ⟨rfl, rfl, tv⟩ rfl (sb (dF c77)) (fun w HS => X.loadAt 1 HS rfl underlying3 rfl rfl rfl), .gw [(12, _), (101, _)] 22 false 101 ⟨rfl, rfl, tv⟩ rfl (sb (dF c77)) (fun w HS => X.move rfl), .gw [(6, _), (106, _), (101, _)] 22 false 101 ⟨rfl, rfl, rfl, tv⟩ rfl (sb (dF c77)) (fun w HS => X.indexArK 1 hk72 underlying34 inf33 rfl rfl c61.1 c61.2), .gw [(107, _), (101, _)] 22 false 101 ⟨rfl, rfl, tv⟩ rfl (sb (dF c77)) (fun w HS => X.fieldAddr 6 fo33_5 rfl), .gw [(108, _), (101, _)] 22 false 101 ⟨rfl, rfl, tv⟩ rfl (sb (dF c77)) (fun w HS => X.loadAt 1 HS rfl underlying3 rfl rfl rfl), .gw [(105, _), (109, _), (101, _)] 22 false 101 ⟨rfl, rfl, rfl, tv⟩ rfl (sb (dF c77)) (fun w HS => X.add rfl rfl), .gw [(12, _), (101, _)] 22 false 101 ⟨rfl, rfl, tv⟩ rfl (sb (dF c77)) (fun w HS => X.move rfl), .gw [(6, _), (111, _), (101, _)] 22 false 101 ⟨rfl, rfl, rfl, tv⟩ rfl (sb (dF c77)) (fun w HS => X.indexArK 1 hk72 underlying34 inf33 rfl rfl c61.1 c61.2), .gw [(112, _), (101, _)] 22 false 101 ⟨rfl, rfl, tv⟩ rfl (sb (dF c77)) (fun w HS => X.fieldAddr 4 fo33_3 rfl), .gw [(113, _), (101, _)] 22 false 101 ⟨rfl, rfl, tv⟩ rfl (sb (dF c77)) (fun w HS => X.loadAt 1 HS rfl underlying3 rfl rfl rfl), .gw [(110, _), (114, _), (101, _)] 22 false 101 ⟨rfl, rfl, rfl, tv⟩ rfl (sb (dF c77)) (fun w HS => X.cmp (decide ((w64 (t11.1.2.Acked + t11.1.2.Lost)) > t11.1.2.Sent)) rfl rfl rfl rfl), .n2 101 115 rfl rfl rfl (fun w HS => X.pickF (sb (dF c77)) rfl), .mv 116, .gw [(12, _), (117, _)] 38 false 117 ⟨rfl, rfl, tv⟩ rfl (sb (dF c78)) (fun w HS => X.move rfl), .gw [(6, _), (118, _), (117, _)] 38 false 117 ⟨rfl, rfl, rfl, tv⟩ rfl (sb (dF c78)) (fun w HS => X.indexArK 1 hk72 underlying34 inf33 rfl rfl c61.1 c61.2), .gw [(119, _), (117, _)] 38 false 117 ⟨rfl, rfl, tv⟩ rfl (sb (dF c78)) (fun w HS => X.fieldAddr 0 fo33_0 rfl), .gw [(120, _), (117, _)] 38 false 117 ⟨rfl, rfl, tv⟩ rfl (sb (dF c78)) (fun w HS => X.loadAt 1 HS rfl underlying3 rfl rfl rfl), .gw [(121, _), (117, _)] 38 false 117 ⟨rfl, rfl, tv⟩ rfl (sb (dF c78)) (fun w HS => X.cmp (!(decide (t11.1.2.State = 2))) rfl rfl rfl rfl), .gw [(122, _), (117, _)] 38 false 117 ⟨rfl, rfl, tv⟩ rfl (sb (dF c78)) (fun w HS => X.move rfl), .gw [(12, _), (123, _)] 44 true 123 ⟨rfl, rfl, tv⟩ rfl (sb (n_f (dF c79))) (fun w HS => X.move rfl), .gw [(6, _), (124, _), (123, _)] 44 true 123 ⟨rfl, rfl, rfl, tv⟩ rfl (sb (n_f (dF c79))) (fun w HS => X.indexArK 1 hk72 underlying34 inf33 rfl rfl c61.1 c61.2), .gw [(125, _), (123, _)] 44 true 123 ⟨rfl, rfl, tv⟩ rfl (sb (n_f (dF c79))) (fun w HS => X.fieldAddr 5 fo33_4 rfl), .gw [(126, _), (123, _)] 44 true 123 ⟨rfl, rfl, tv⟩ rfl (sb (n_f (dF c79))) (fun w HS => X.loadAt 1 HS rfl underlying3 rfl rfl rfl), .gw [(12, _), (123, _)] 44 true 123 ⟨rfl, rfl, tv⟩ rfl (sb (n_f (dF c79))) (fun w HS => X.move rfl), .gw [(6, _), (128, _), (123, _)] 44 true 123 ⟨rfl, rfl, rfl, tv⟩ rfl (sb (n_f (dF c79))) (fun w HS => X.indexArK 1 hk72 underlying34 inf33 rfl rfl c61.1 c61.2), .gw [(129, _), (123, _)] 44 true 123 ⟨rfl, rfl, tv⟩ rfl (sb (n_f (dF c79))) (fun w HS => X.fieldAddr 6 fo33_5 rfl), .gw [(130, _), (123, _)] 44 true 123 ⟨rfl, rfl, tv⟩ rfl (sb (n_f (dF c79))) (fun w HS => X.loadAt 1 HS rfl underlying3 rfl rfl rfl), .gw [(127, _), (131, _), (123, _)] 44 true 123 ⟨rfl, rfl, rfl, tv⟩ rfl (sb (n_f (dF c79))) (fun w HS => X.add rfl rfl), .gw [(12, _), (123, _)] 44 true 123 ⟨rfl, rfl, tv⟩ rfl (sb (n_f (dF c79))) (fun w HS => X.move rfl), .gw [(6, _), (133, _), (123, _)] 44 true 123 ⟨rfl, rfl, rfl, tv⟩ rfl (sb (n_f (dF c79))) (fun w HS => X.indexArK 1 hk72 underlying34 inf33 rfl rfl c61.1 c61.2), .gw [(134, _), (123, _)] 44 true 123 ⟨rfl, rfl, tv⟩ rfl (sb (n_f (dF c79))) (fun w HS => X.fieldAddr 4 fo33_3 rfl), .gw [(135, _), (123, _)] 44 true 123 ⟨rfl, rfl, tv⟩ rfl (sb (n_f (dF c79))) (fun w HS => X.loadAt 1 HS rfl underlying3 rfl rfl rfl), .gw [(132, _), (136, _), (123, _)] 44 true 123 ⟨rfl, rfl, rfl, tv⟩ rfl (sb (n_f (dF c79))) (fun w HS => X.cmp (!(decide ((w64 (t11.1.2.Acked + t11.1.2.Lost)) = t11.1.2.Sent))) rfl rfl rfl rfl), .gw [(123, _), (137, _), (117, _)] 38 false 117 ⟨rfl, rfl, rfl, tv⟩ rfl (sb (dF c78)) (fun w HS => X.pickT (sb (n_f (dF c79))) rfl), .n2 117 138 rfl rfl rfl (fun w HS => X.pickF (sb (dF c78)) rfl), tv⟩
                have HS := (V31.close tv ((V34.close tv (HS.b [1])).b [1])).b [2, 1]
                exact At.mt _ ⟨HS, kq53, by omega, H⟩
           ·apply V.da [] [] [(79, _), (80, _), (81, _), (82, _), (83, _), (84, _), (85, _), (86, _), (87, _), (88, _), (89, _), (90, _), (91, _), (92, _), (93, _), (94, _), (95, _), (96, _), (97, _), (98, _), (99, _), (100, _), (101, _), (102, _), (103, _), (104, _), (105, _), (106, _), (107, _), (108, _), (109, _), (110, _), (111, _), (112, _), (113, _), (114, _), (115, _), (116, _), (117, _), (118, _), (119, _), (120, _), (121, _), (122, _), (123, _), (124, _), (125, _), (126, _), (127, _), (128, _), (129, _), (130, _), (131, _), (132, _), (133, _), (134, _), (135, _), (136, _), (137, _), (138, _), (139, _)] mo HS
            rfl
            refine T.ff [6, 10, 12, 139] (fun w HS => ?_) ⟨rd, .n2 6 79 rfl rfl rfl (fun w HS => X.indexArK 1 hk72 underlying34 inf33 rfl rfl c61.1 c61.2), rd, rd, rd, .n2 10 83 rfl rfl rfl (fun w HS => X.indexArK 1 hk72 underlying31 inf3 rfl rfl c61.1 c61.2), rds⟩
            have HS := (V31.close tv ((V34.close tv (HS.b [1])).b [1])).b [2, 1]
            exact At.mt _ ⟨HS, kq53, by omega, H⟩
         ·rintro x56 w ⟨HS, kl59, _, H⟩
          refine V.cv H rfl (fun _ H => ?_) (fun _ H => ?_)
          ·refine go ?_
           have HS := HS.ke [7]
           exact rt
          ·refine go ?_
           exact At.rn _ ⟨HS, H, by omega⟩
        ·refine go ?_
         have HS := HS.ke [7]
         exact rt
   ·refine go ?_
    refine W.r (X.bd (Value.agg #[vi (0), vi (0), vi (0), vi (0), vi (0), vi (0), vi (0), vi (0), vi (0), vi (0), vi (0), vi (0), vi (0), vi (0)]) rfl (fun _ => by kernel_rfl)) rfl ?_
    refine W.r (X.eqV (c := (api_Status.beq t11.1.1 ((({ State := 0, Line := 0, Lines := (0, 0), Sent := 0, Acked := 0, Lost := 0 } : api_Status), ({ State := 0, Line := 0, Lines := (0, 0), Sent := 0, Acked := 0, Lost := 0 } : api_Status)).1)) && ((api_Status.beq t11.1.2 ((({ State := 0, Line := 0, Lines := (0, 0), Sent := 0, Acked := 0, Lost := 0 } : api_Status), ({ State := 0, Line := 0, Lines := (0, 0), Sent := 0, Acked := 0, Lost := 0 } : api_Status)).2)) && true)) (by kernel_rfl) Tryz.eqGuardType34 rfl rfl) rfl ?_
    refine go ?_
    have HS := HS.ke [6]
    exact rt
def api_Config.El : El api_Config := El.iso (El.prod (El.int .i64) (El.prod (El.int .i64) (El.prod (El.int .i64) (El.prod (El.int .i64) (El.prod (El.int .i64) (El.prod (El.int .i64) (El.prod (El.int .i64) (El.prod (El.int .i64) (El.prod (El.int .i64) (El.prod (El.int .i64) (El.prod (El.int .i64) (El.prod (El.int .i64) (El.prod (El.int .i64) (El.prod (El.int .i64) (El.prod El.bool (El.prod El.bool El.unit)))))))))))))))) (fun x => (x.Mode, (x.Modulus, (x.Window, (x.T1, (x.N2, (x.Hold, (x.Wait, (x.Keep, (x.Queue, (x.Size, (x.Ring, (x.Rate, (x.Bad, (x.Good, (x.Revert, (x.Wide, ())))))))))))))))))
theorem api_Config.unpack {c : List Value} {x : api_Config} {L : List As} {w0 w : World} (hs : Sep.St (api_Config.El.p c x :: L) w0 w) : c = [vi x.Mode, vi x.Modulus, vi x.Window, vi x.T1, vi x.N2, vi x.Hold, vi x.Wait, vi x.Keep, vi x.Queue, vi x.Size, vi x.Ring, vi x.Rate, vi x.Bad, vi x.Good, vb x.Revert, vb x.Wide] ∧ Sep.St L w0 w := by
 have hs : Sep.St ((El.prod (El.int .i64) (El.prod (El.int .i64) (El.prod (El.int .i64) (El.prod (El.int .i64) (El.prod (El.int .i64) (El.prod (El.int .i64) (El.prod (El.int .i64) (El.prod (El.int .i64) (El.prod (El.int .i64) (El.prod (El.int .i64) (El.prod (El.int .i64) (El.prod (El.int .i64) (El.prod (El.int .i64) (El.prod (El.int .i64) (El.prod El.bool (El.prod El.bool El.unit)))))))))))))))).p c (x.Mode, (x.Modulus, (x.Window, (x.T1, (x.N2, (x.Hold, (x.Wait, (x.Keep, (x.Queue, (x.Size, (x.Ring, (x.Rate, (x.Bad, (x.Good, (x.Revert, (x.Wide, ())))))))))))))))) :: L) w0 w := hs
 obtain ⟨c0, r0, e0, hs⟩ := St.prod_open hs
 have hs : Sep.St ((El.int .i64).p c0 x.Mode :: (El.prod (El.int .i64) (El.prod (El.int .i64) (El.prod (El.int .i64) (El.prod (El.int .i64) (El.prod (El.int .i64) (El.prod (El.int .i64) (El.prod (El.int .i64) (El.prod (El.int .i64) (El.prod (El.int .i64) (El.prod (El.int .i64) (El.prod (El.int .i64) (El.prod (El.int .i64) (El.prod (El.int .i64) (El.prod El.bool (El.prod El.bool El.unit))))))))))))))).p r0 (x.Modulus, (x.Window, (x.T1, (x.N2, (x.Hold, (x.Wait, (x.Keep, (x.Queue, (x.Size, (x.Ring, (x.Rate, (x.Bad, (x.Good, (x.Revert, (x.Wide, ()))))))))))))))) :: L) w0 w := hs
 obtain ⟨q0, hs⟩ := St.int_open hs
 have hs : Sep.St ((El.prod (El.int .i64) (El.prod (El.int .i64) (El.prod (El.int .i64) (El.prod (El.int .i64) (El.prod (El.int .i64) (El.prod (El.int .i64) (El.prod (El.int .i64) (El.prod (El.int .i64) (El.prod (El.int .i64) (El.prod (El.int .i64) (El.prod (El.int .i64) (El.prod (El.int .i64) (El.prod (El.int .i64) (El.prod El.bool (El.prod El.bool El.unit))))))))))))))).p r0 (x.Modulus, (x.Window, (x.T1, (x.N2, (x.Hold, (x.Wait, (x.Keep, (x.Queue, (x.Size, (x.Ring, (x.Rate, (x.Bad, (x.Good, (x.Revert, (x.Wide, ()))))))))))))))) :: L) w0 w := hs
 obtain ⟨c1, r1, e1, hs⟩ := St.prod_open hs
 have hs : Sep.St ((El.int .i64).p c1 x.Modulus :: (El.prod (El.int .i64) (El.prod (El.int .i64) (El.prod (El.int .i64) (El.prod (El.int .i64) (El.prod (El.int .i64) (El.prod (El.int .i64) (El.prod (El.int .i64) (El.prod (El.int .i64) (El.prod (El.int .i64) (El.prod (El.int .i64) (El.prod (El.int .i64) (El.prod (El.int .i64) (El.prod El.bool (El.prod El.bool El.unit)))))))))))))).p r1 (x.Window, (x.T1, (x.N2, (x.Hold, (x.Wait, (x.Keep, (x.Queue, (x.Size, (x.Ring, (x.Rate, (x.Bad, (x.Good, (x.Revert, (x.Wide, ())))))))))))))) :: L) w0 w := hs
 obtain ⟨q1, hs⟩ := St.int_open hs
 have hs : Sep.St ((El.prod (El.int .i64) (El.prod (El.int .i64) (El.prod (El.int .i64) (El.prod (El.int .i64) (El.prod (El.int .i64) (El.prod (El.int .i64) (El.prod (El.int .i64) (El.prod (El.int .i64) (El.prod (El.int .i64) (El.prod (El.int .i64) (El.prod (El.int .i64) (El.prod (El.int .i64) (El.prod El.bool (El.prod El.bool El.unit)))))))))))))).p r1 (x.Window, (x.T1, (x.N2, (x.Hold, (x.Wait, (x.Keep, (x.Queue, (x.Size, (x.Ring, (x.Rate, (x.Bad, (x.Good, (x.Revert, (x.Wide, ())))))))))))))) :: L) w0 w := hs
 obtain ⟨c2, r2, e2, hs⟩ := St.prod_open hs
 have hs : Sep.St ((El.int .i64).p c2 x.Window :: (El.prod (El.int .i64) (El.prod (El.int .i64) (El.prod (El.int .i64) (El.prod (El.int .i64) (El.prod (El.int .i64) (El.prod (El.int .i64) (El.prod (El.int .i64) (El.prod (El.int .i64) (El.prod (El.int .i64) (El.prod (El.int .i64) (El.prod (El.int .i64) (El.prod El.bool (El.prod El.bool El.unit))))))))))))).p r2 (x.T1, (x.N2, (x.Hold, (x.Wait, (x.Keep, (x.Queue, (x.Size, (x.Ring, (x.Rate, (x.Bad, (x.Good, (x.Revert, (x.Wide, ()))))))))))))) :: L) w0 w := hs
 obtain ⟨q2, hs⟩ := St.int_open hs
 have hs : Sep.St ((El.prod (El.int .i64) (El.prod (El.int .i64) (El.prod (El.int .i64) (El.prod (El.int .i64) (El.prod (El.int .i64) (El.prod (El.int .i64) (El.prod (El.int .i64) (El.prod (El.int .i64) (El.prod (El.int .i64) (El.prod (El.int .i64) (El.prod (El.int .i64) (El.prod El.bool (El.prod El.bool El.unit))))))))))))).p r2 (x.T1, (x.N2, (x.Hold, (x.Wait, (x.Keep, (x.Queue, (x.Size, (x.Ring, (x.Rate, (x.Bad, (x.Good, (x.Revert, (x.Wide, ()))))))))))))) :: L) w0 w := hs
 obtain ⟨c3, r3, e3, hs⟩ := St.prod_open hs
 have hs : Sep.St ((El.int .i64).p c3 x.T1 :: (El.prod (El.int .i64) (El.prod (El.int .i64) (El.prod (El.int .i64) (El.prod (El.int .i64) (El.prod (El.int .i64) (El.prod (El.int .i64) (El.prod (El.int .i64) (El.prod (El.int .i64) (El.prod (El.int .i64) (El.prod (El.int .i64) (El.prod El.bool (El.prod El.bool El.unit)))))))))))).p r3 (x.N2, (x.Hold, (x.Wait, (x.Keep, (x.Queue, (x.Size, (x.Ring, (x.Rate, (x.Bad, (x.Good, (x.Revert, (x.Wide, ())))))))))))) :: L) w0 w := hs
 obtain ⟨q3, hs⟩ := St.int_open hs
 have hs : Sep.St ((El.prod (El.int .i64) (El.prod (El.int .i64) (El.prod (El.int .i64) (El.prod (El.int .i64) (El.prod (El.int .i64) (El.prod (El.int .i64) (El.prod (El.int .i64) (El.prod (El.int .i64) (El.prod (El.int .i64) (El.prod (El.int .i64) (El.prod El.bool (El.prod El.bool El.unit)))))))))))).p r3 (x.N2, (x.Hold, (x.Wait, (x.Keep, (x.Queue, (x.Size, (x.Ring, (x.Rate, (x.Bad, (x.Good, (x.Revert, (x.Wide, ())))))))))))) :: L) w0 w := hs
 obtain ⟨c4, r4, e4, hs⟩ := St.prod_open hs
 have hs : Sep.St ((El.int .i64).p c4 x.N2 :: (El.prod (El.int .i64) (El.prod (El.int .i64) (El.prod (El.int .i64) (El.prod (El.int .i64) (El.prod (El.int .i64) (El.prod (El.int .i64) (El.prod (El.int .i64) (El.prod (El.int .i64) (El.prod (El.int .i64) (El.prod El.bool (El.prod El.bool El.unit))))))))))).p r4 (x.Hold, (x.Wait, (x.Keep, (x.Queue, (x.Size, (x.Ring, (x.Rate, (x.Bad, (x.Good, (x.Revert, (x.Wide, ()))))))))))) :: L) w0 w := hs
 obtain ⟨q4, hs⟩ := St.int_open hs
 have hs : Sep.St ((El.prod (El.int .i64) (El.prod (El.int .i64) (El.prod (El.int .i64) (El.prod (El.int .i64) (El.prod (El.int .i64) (El.prod (El.int .i64) (El.prod (El.int .i64) (El.prod (El.int .i64) (El.prod (El.int .i64) (El.prod El.bool (El.prod El.bool El.unit))))))))))).p r4 (x.Hold, (x.Wait, (x.Keep, (x.Queue, (x.Size, (x.Ring, (x.Rate, (x.Bad, (x.Good, (x.Revert, (x.Wide, ()))))))))))) :: L) w0 w := hs
 obtain ⟨c5, r5, e5, hs⟩ := St.prod_open hs
 have hs : Sep.St ((El.int .i64).p c5 x.Hold :: (El.prod (El.int .i64) (El.prod (El.int .i64) (El.prod (El.int .i64) (El.prod (El.int .i64) (El.prod (El.int .i64) (El.prod (El.int .i64) (El.prod (El.int .i64) (El.prod (El.int .i64) (El.prod El.bool (El.prod El.bool El.unit)))))))))).p r5 (x.Wait, (x.Keep, (x.Queue, (x.Size, (x.Ring, (x.Rate, (x.Bad, (x.Good, (x.Revert, (x.Wide, ())))))))))) :: L) w0 w := hs
 obtain ⟨q5, hs⟩ := St.int_open hs
 have hs : Sep.St ((El.prod (El.int .i64) (El.prod (El.int .i64) (El.prod (El.int .i64) (El.prod (El.int .i64) (El.prod (El.int .i64) (El.prod (El.int .i64) (El.prod (El.int .i64) (El.prod (El.int .i64) (El.prod El.bool (El.prod El.bool El.unit)))))))))).p r5 (x.Wait, (x.Keep, (x.Queue, (x.Size, (x.Ring, (x.Rate, (x.Bad, (x.Good, (x.Revert, (x.Wide, ())))))))))) :: L) w0 w := hs
 obtain ⟨c6, r6, e6, hs⟩ := St.prod_open hs
 have hs : Sep.St ((El.int .i64).p c6 x.Wait :: (El.prod (El.int .i64) (El.prod (El.int .i64) (El.prod (El.int .i64) (El.prod (El.int .i64) (El.prod (El.int .i64) (El.prod (El.int .i64) (El.prod (El.int .i64) (El.prod El.bool (El.prod El.bool El.unit))))))))).p r6 (x.Keep, (x.Queue, (x.Size, (x.Ring, (x.Rate, (x.Bad, (x.Good, (x.Revert, (x.Wide, ()))))))))) :: L) w0 w := hs
 obtain ⟨q6, hs⟩ := St.int_open hs
 have hs : Sep.St ((El.prod (El.int .i64) (El.prod (El.int .i64) (El.prod (El.int .i64) (El.prod (El.int .i64) (El.prod (El.int .i64) (El.prod (El.int .i64) (El.prod (El.int .i64) (El.prod El.bool (El.prod El.bool El.unit))))))))).p r6 (x.Keep, (x.Queue, (x.Size, (x.Ring, (x.Rate, (x.Bad, (x.Good, (x.Revert, (x.Wide, ()))))))))) :: L) w0 w := hs
 obtain ⟨c7, r7, e7, hs⟩ := St.prod_open hs
 have hs : Sep.St ((El.int .i64).p c7 x.Keep :: (El.prod (El.int .i64) (El.prod (El.int .i64) (El.prod (El.int .i64) (El.prod (El.int .i64) (El.prod (El.int .i64) (El.prod (El.int .i64) (El.prod El.bool (El.prod El.bool El.unit)))))))).p r7 (x.Queue, (x.Size, (x.Ring, (x.Rate, (x.Bad, (x.Good, (x.Revert, (x.Wide, ())))))))) :: L) w0 w := hs
 obtain ⟨q7, hs⟩ := St.int_open hs
 have hs : Sep.St ((El.prod (El.int .i64) (El.prod (El.int .i64) (El.prod (El.int .i64) (El.prod (El.int .i64) (El.prod (El.int .i64) (El.prod (El.int .i64) (El.prod El.bool (El.prod El.bool El.unit)))))))).p r7 (x.Queue, (x.Size, (x.Ring, (x.Rate, (x.Bad, (x.Good, (x.Revert, (x.Wide, ())))))))) :: L) w0 w := hs
 obtain ⟨c8, r8, e8, hs⟩ := St.prod_open hs
 have hs : Sep.St ((El.int .i64).p c8 x.Queue :: (El.prod (El.int .i64) (El.prod (El.int .i64) (El.prod (El.int .i64) (El.prod (El.int .i64) (El.prod (El.int .i64) (El.prod El.bool (El.prod El.bool El.unit))))))).p r8 (x.Size, (x.Ring, (x.Rate, (x.Bad, (x.Good, (x.Revert, (x.Wide, ()))))))) :: L) w0 w := hs
 obtain ⟨q8, hs⟩ := St.int_open hs
 have hs : Sep.St ((El.prod (El.int .i64) (El.prod (El.int .i64) (El.prod (El.int .i64) (El.prod (El.int .i64) (El.prod (El.int .i64) (El.prod El.bool (El.prod El.bool El.unit))))))).p r8 (x.Size, (x.Ring, (x.Rate, (x.Bad, (x.Good, (x.Revert, (x.Wide, ()))))))) :: L) w0 w := hs
 obtain ⟨c9, r9, e9, hs⟩ := St.prod_open hs
 have hs : Sep.St ((El.int .i64).p c9 x.Size :: (El.prod (El.int .i64) (El.prod (El.int .i64) (El.prod (El.int .i64) (El.prod (El.int .i64) (El.prod El.bool (El.prod El.bool El.unit)))))).p r9 (x.Ring, (x.Rate, (x.Bad, (x.Good, (x.Revert, (x.Wide, ())))))) :: L) w0 w := hs
 obtain ⟨q9, hs⟩ := St.int_open hs
 have hs : Sep.St ((El.prod (El.int .i64) (El.prod (El.int .i64) (El.prod (El.int .i64) (El.prod (El.int .i64) (El.prod El.bool (El.prod El.bool El.unit)))))).p r9 (x.Ring, (x.Rate, (x.Bad, (x.Good, (x.Revert, (x.Wide, ())))))) :: L) w0 w := hs
 obtain ⟨c10, r10, e10, hs⟩ := St.prod_open hs
 have hs : Sep.St ((El.int .i64).p c10 x.Ring :: (El.prod (El.int .i64) (El.prod (El.int .i64) (El.prod (El.int .i64) (El.prod El.bool (El.prod El.bool El.unit))))).p r10 (x.Rate, (x.Bad, (x.Good, (x.Revert, (x.Wide, ()))))) :: L) w0 w := hs
 obtain ⟨q10, hs⟩ := St.int_open hs
 have hs : Sep.St ((El.prod (El.int .i64) (El.prod (El.int .i64) (El.prod (El.int .i64) (El.prod El.bool (El.prod El.bool El.unit))))).p r10 (x.Rate, (x.Bad, (x.Good, (x.Revert, (x.Wide, ()))))) :: L) w0 w := hs
 obtain ⟨c11, r11, e11, hs⟩ := St.prod_open hs
 have hs : Sep.St ((El.int .i64).p c11 x.Rate :: (El.prod (El.int .i64) (El.prod (El.int .i64) (El.prod El.bool (El.prod El.bool El.unit)))).p r11 (x.Bad, (x.Good, (x.Revert, (x.Wide, ())))) :: L) w0 w := hs
 obtain ⟨q11, hs⟩ := St.int_open hs
 have hs : Sep.St ((El.prod (El.int .i64) (El.prod (El.int .i64) (El.prod El.bool (El.prod El.bool El.unit)))).p r11 (x.Bad, (x.Good, (x.Revert, (x.Wide, ())))) :: L) w0 w := hs
 obtain ⟨c12, r12, e12, hs⟩ := St.prod_open hs
 have hs : Sep.St ((El.int .i64).p c12 x.Bad :: (El.prod (El.int .i64) (El.prod El.bool (El.prod El.bool El.unit))).p r12 (x.Good, (x.Revert, (x.Wide, ()))) :: L) w0 w := hs
 obtain ⟨q12, hs⟩ := St.int_open hs
 have hs : Sep.St ((El.prod (El.int .i64) (El.prod El.bool (El.prod El.bool El.unit))).p r12 (x.Good, (x.Revert, (x.Wide, ()))) :: L) w0 w := hs
 obtain ⟨c13, r13, e13, hs⟩ := St.prod_open hs
 have hs : Sep.St ((El.int .i64).p c13 x.Good :: (El.prod El.bool (El.prod El.bool El.unit)).p r13 (x.Revert, (x.Wide, ())) :: L) w0 w := hs
 obtain ⟨q13, hs⟩ := St.int_open hs
 have hs : Sep.St ((El.prod El.bool (El.prod El.bool El.unit)).p r13 (x.Revert, (x.Wide, ())) :: L) w0 w := hs
 obtain ⟨c14, r14, e14, hs⟩ := St.prod_open hs
 have hs : Sep.St (El.bool.p c14 x.Revert :: (El.prod El.bool El.unit).p r14 (x.Wide, ()) :: L) w0 w := hs
 obtain ⟨q14, hs⟩ := St.bool_open hs
 have hs : Sep.St ((El.prod El.bool El.unit).p r14 (x.Wide, ()) :: L) w0 w := hs
 obtain ⟨c15, r15, e15, hs⟩ := St.prod_open hs
 have hs : Sep.St (El.bool.p c15 x.Wide :: El.unit.p r15 () :: L) w0 w := hs
 obtain ⟨q15, hs⟩ := St.bool_open hs
 have hs : Sep.St (El.unit.p r15 () :: L) w0 w := hs
 obtain ⟨qu, hs⟩ := St.unit_open hs
 exact ⟨by rw [e0, q0, e1, q1, e2, q2, e3, q3, e4, q4, e5, q5, e6, q6, e7, q7, e8, q8, e9, q9, e10, q10, e11, q11, e12, q12, e13, q13, e14, q14, e15, q15, qu]; rfl, hs⟩
theorem api_Config.pack  {x : api_Config} {L : List As} {w0 w : World} (hs : Sep.St L w0 w) : Sep.St (api_Config.El.p [vi x.Mode, vi x.Modulus, vi x.Window, vi x.T1, vi x.N2, vi x.Hold, vi x.Wait, vi x.Keep, vi x.Queue, vi x.Size, vi x.Ring, vi x.Rate, vi x.Bad, vi x.Good, vb x.Revert, vb x.Wide] x :: L) w0 w := by
 have h1 := St.join (m := []) hs
 exact h1.mono fun h hh => ⟨[vi x.Mode], [vi x.Modulus, vi x.Window, vi x.T1, vi x.N2, vi x.Hold, vi x.Wait, vi x.Keep, vi x.Queue, vi x.Size, vi x.Ring, vi x.Rate, vi x.Bad, vi x.Good, vb x.Revert, vb x.Wide], rfl, rfl, ⟨[vi x.Modulus], [vi x.Window, vi x.T1, vi x.N2, vi x.Hold, vi x.Wait, vi x.Keep, vi x.Queue, vi x.Size, vi x.Ring, vi x.Rate, vi x.Bad, vi x.Good, vb x.Revert, vb x.Wide], rfl, rfl, ⟨[vi x.Window], [vi x.T1, vi x.N2, vi x.Hold, vi x.Wait, vi x.Keep, vi x.Queue, vi x.Size, vi x.Ring, vi x.Rate, vi x.Bad, vi x.Good, vb x.Revert, vb x.Wide], rfl, rfl, ⟨[vi x.T1], [vi x.N2, vi x.Hold, vi x.Wait, vi x.Keep, vi x.Queue, vi x.Size, vi x.Ring, vi x.Rate, vi x.Bad, vi x.Good, vb x.Revert, vb x.Wide], rfl, rfl, ⟨[vi x.N2], [vi x.Hold, vi x.Wait, vi x.Keep, vi x.Queue, vi x.Size, vi x.Ring, vi x.Rate, vi x.Bad, vi x.Good, vb x.Revert, vb x.Wide], rfl, rfl, ⟨[vi x.Hold], [vi x.Wait, vi x.Keep, vi x.Queue, vi x.Size, vi x.Ring, vi x.Rate, vi x.Bad, vi x.Good, vb x.Revert, vb x.Wide], rfl, rfl, ⟨[vi x.Wait], [vi x.Keep, vi x.Queue, vi x.Size, vi x.Ring, vi x.Rate, vi x.Bad, vi x.Good, vb x.Revert, vb x.Wide], rfl, rfl, ⟨[vi x.Keep], [vi x.Queue, vi x.Size, vi x.Ring, vi x.Rate, vi x.Bad, vi x.Good, vb x.Revert, vb x.Wide], rfl, rfl, ⟨[vi x.Queue], [vi x.Size, vi x.Ring, vi x.Rate, vi x.Bad, vi x.Good, vb x.Revert, vb x.Wide], rfl, rfl, ⟨[vi x.Size], [vi x.Ring, vi x.Rate, vi x.Bad, vi x.Good, vb x.Revert, vb x.Wide], rfl, rfl, ⟨[vi x.Ring], [vi x.Rate, vi x.Bad, vi x.Good, vb x.Revert, vb x.Wide], rfl, rfl, ⟨[vi x.Rate], [vi x.Bad, vi x.Good, vb x.Revert, vb x.Wide], rfl, rfl, ⟨[vi x.Bad], [vi x.Good, vb x.Revert, vb x.Wide], rfl, rfl, ⟨[vi x.Good], [vb x.Revert, vb x.Wide], rfl, rfl, ⟨[vb x.Revert], [vb x.Wide], rfl, rfl, ⟨[vb x.Wide], [], rfl, rfl, rfl⟩⟩⟩⟩⟩⟩⟩⟩⟩⟩⟩⟩⟩⟩⟩⟩
def signalmanlaw25_SignalCounts.Pure : Prop := ∀ (a0 : api_Config) (a1 : List api_Op), ((Lit.int .i64 a0.Mode).wf = true ∧ ((Lit.int .i64 a0.Modulus).wf = true ∧ ((Lit.int .i64 a0.Window).wf = true ∧ ((Lit.int .i64 a0.T1).wf = true ∧ ((Lit.int .i64 a0.N2).wf = true ∧ ((Lit.int .i64 a0.Hold).wf = true ∧ ((Lit.int .i64 a0.Wait).wf = true ∧ ((Lit.int .i64 a0.Keep).wf = true ∧ ((Lit.int .i64 a0.Queue).wf = true ∧ ((Lit.int .i64 a0.Size).wf = true ∧ ((Lit.int .i64 a0.Ring).wf = true ∧ ((Lit.int .i64 a0.Rate).wf = true ∧ ((Lit.int .i64 a0.Bad).wf = true ∧ ((Lit.int .i64 a0.Good).wf = true ∧ (True ∧ (True ∧ True)))))))))))))))) → (∀ z ∈ a1, ((Lit.int .i64 z.Kind).wf = true ∧ ((Lit.int .i64 z.At).wf = true ∧ ((Lit.int .i64 z.Line).wf = true ∧ ((Lit.int .i64 z.N).wf = true ∧ ((Lit.int .i64 z.Fault).wf = true ∧ (((∀ z3 ∈ z.B, (Lit.int .u8 z3).wf = true) ∧ (z.B.length : Int) ≤ 9223372036854775807) ∧ True))))))) → (a1.length : Int) ≤ 9223372036854775807 → ∃ k, signalmanlaw25_SignalCounts.f k a0 a1 = some true
end Go.Proofs.YtgkjmdapodgnfaaGreat

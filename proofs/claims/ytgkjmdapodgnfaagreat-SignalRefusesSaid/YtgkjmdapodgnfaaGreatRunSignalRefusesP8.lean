/- SignalRefuses: the functions that its law reaches, as plain functions, and that the machine's calls come to what these say. Conditions: those that stand at each. -/
import Derived.Test.YtgkjmdapodgnfaaGreatRunSignalRefusesP7
set_option linter.all false
set_option maxRecDepth 100000
set_option maxHeartbeats 4000000
set_option synthInstance.maxSize 100000
set_option synthInstance.maxHeartbeats 1000000
namespace Go.Proofs.YtgkjmdapodgnfaaGreat
open Go.RowKit Go.Proofs.YtgkjmdapodgnfaaGreat.Sep Go.Proofs.YtgkjmdapodgnfaaGreat.Walk Go.Proofs.Tryz
attribute [local irreducible] V W At T Code.rounds RdO RdOk
mutual
def station_Station_Status.j1 (a0 : station_Station) (x17 : api_Status) : Option api_Status := ((arq_Arq_Counts.f a0.arq).bind fun t21 => ((monitor_Monitor_State.f a0.sides.1.monitor).bind fun t34 => ((monitor_Monitor_State.f a0.sides.2.monitor).bind fun t41 => some (({ x17 with Lines := (t34, t41), Sent := t21.1, Acked := t21.2.1, Lost := t21.2.2 } : api_Status)))))
def station_Station_Status.j0 (a0 : station_Station) (x14 : api_Status) : Option api_Status := ((station_Station_twice.f a0).bind fun t48 => (if t48 = true then (station_Station_Status.j1 a0 ({ x14 with Line := 0 } : api_Status)) else (station_Station_Status.j1 a0 x14)))
end
def station_Station_Status.f (a0 : station_Station) : Option api_Status := ((arq_Arq_State.f a0.arq).bind fun t55 => ((aps_Aps_Line.f a0.aps).bind fun t60 => (station_Station_Status.j0 a0 ({ State := t55, Line := t60, Lines := (0, 0), Sent := 0, Acked := 0, Lost := 0 } : api_Status))))
theorem station_Station_Status.calls {a0 : station_Station} {R : As} {w0 w : World} {b0 : Nat} {b16_p0 : Nat} {b17_p0 : Nat} {b18_p0 : Nat} {b22_p0 : Nat} {b23_p0 : Nat} {b24_p0 : Nat} {b32_p0 : Nat} {b33_p0 : Nat} {b34_p0 : Nat} {r : api_Status} (H : station_Station_Status.f a0 = some r) (HS : Sep.St [blk b0 (#[vi a0.c.Mode, vi a0.c.Modulus, vi a0.c.Window, vi a0.c.T1, vi a0.c.N2, vi a0.c.Hold, vi a0.c.Wait, vi a0.c.Keep, vi a0.c.Queue, vi a0.c.Size, vi a0.c.Ring, vi a0.c.Rate, vi a0.c.Bad, vi a0.c.Good, vb a0.c.Revert, vb a0.c.Wide, pt b16_p0, pt b17_p0, pt b18_p0, Value.int .u32 a0.number, vi a0.steps, vi a0.line, pt b22_p0, pt b23_p0, pt b24_p0, vi a0.sides.1.counts.Good, vi a0.sides.1.counts.Bad, vi a0.sides.1.counts.Aborts, vi a0.sides.1.counts.Runts, vi a0.sides.1.counts.Giants, vi a0.sides.1.counts.Dropped, vi a0.sides.1.counts.Twins, pt b32_p0, pt b33_p0, pt b34_p0, vi a0.sides.2.counts.Good, vi a0.sides.2.counts.Bad, vi a0.sides.2.counts.Aborts, vi a0.sides.2.counts.Runts, vi a0.sides.2.counts.Giants, vi a0.sides.2.counts.Dropped, vi a0.sides.2.counts.Twins]) 128, arq_Arq.at b16_p0 a0.arq, aps_Aps.at b17_p0 a0.aps, twins_Table.at b18_p0 a0.twins, frame_Reader.at b22_p0 a0.sides.1.reader, monitor_Monitor.at b23_p0 a0.sides.1.monitor, ring_Ring.at b24_p0 a0.sides.1.ring, frame_Reader.at b32_p0 a0.sides.2.reader, monitor_Monitor.at b33_p0 a0.sides.2.monitor, ring_Ring.at b34_p0 a0.sides.2.ring, R] w0 w)  : Calls Tryz.prog 31 #[pt b0] w (Ret fun u w => u = Value.agg #[vi r.State, vi r.Line, vi r.Lines.1, vi r.Lines.2, vi r.Sent, vi r.Acked, vi r.Lost] ∧ Sep.St [blk b0 (#[vi a0.c.Mode, vi a0.c.Modulus, vi a0.c.Window, vi a0.c.T1, vi a0.c.N2, vi a0.c.Hold, vi a0.c.Wait, vi a0.c.Keep, vi a0.c.Queue, vi a0.c.Size, vi a0.c.Ring, vi a0.c.Rate, vi a0.c.Bad, vi a0.c.Good, vb a0.c.Revert, vb a0.c.Wide, pt b16_p0, pt b17_p0, pt b18_p0, Value.int .u32 a0.number, vi a0.steps, vi a0.line, pt b22_p0, pt b23_p0, pt b24_p0, vi a0.sides.1.counts.Good, vi a0.sides.1.counts.Bad, vi a0.sides.1.counts.Aborts, vi a0.sides.1.counts.Runts, vi a0.sides.1.counts.Giants, vi a0.sides.1.counts.Dropped, vi a0.sides.1.counts.Twins, pt b32_p0, pt b33_p0, pt b34_p0, vi a0.sides.2.counts.Good, vi a0.sides.2.counts.Bad, vi a0.sides.2.counts.Aborts, vi a0.sides.2.counts.Runts, vi a0.sides.2.counts.Giants, vi a0.sides.2.counts.Dropped, vi a0.sides.2.counts.Twins]) 128, arq_Arq.at b16_p0 a0.arq, aps_Aps.at b17_p0 a0.aps, twins_Table.at b18_p0 a0.twins, frame_Reader.at b22_p0 a0.sides.1.reader, monitor_Monitor.at b23_p0 a0.sides.1.monitor, ring_Ring.at b24_p0 a0.sides.1.ring, frame_Reader.at b32_p0 a0.sides.2.reader, monitor_Monitor.at b33_p0 a0.sides.2.monitor, ring_Ring.at b34_p0 a0.sides.2.ring, R] w0 w) := by
 refine calls_enter func31 rfl rfl ?_
 refine go ?_
 refine W.e (Y.alloc (z := Value.agg (#[vi (0), vi (0), vi (0), vi (0), vi (0), vi (0), vi (0)])) HS ze33) rfl ?_
 rintro _ w ⟨nb1, rfl, HS⟩
 refine gs ?_
 refine V.meet (σ := Nat × api_Status) (fun (nb13, x14) w => Sep.St [api_Status.at nb13 x14, api_Status.at nb1 (({ State := 0, Line := 0, Lines := (0, 0), Sent := 0, Acked := 0, Lost := 0 } : api_Status)), blk b0 (#[vi a0.c.Mode, vi a0.c.Modulus, vi a0.c.Window, vi a0.c.T1, vi a0.c.N2, vi a0.c.Hold, vi a0.c.Wait, vi a0.c.Keep, vi a0.c.Queue, vi a0.c.Size, vi a0.c.Ring, vi a0.c.Rate, vi a0.c.Bad, vi a0.c.Good, vb a0.c.Revert, vb a0.c.Wide, pt b16_p0, pt b17_p0, pt b18_p0, Value.int .u32 a0.number, vi a0.steps, vi a0.line, pt b22_p0, pt b23_p0, pt b24_p0, vi a0.sides.1.counts.Good, vi a0.sides.1.counts.Bad, vi a0.sides.1.counts.Aborts, vi a0.sides.1.counts.Runts, vi a0.sides.1.counts.Giants, vi a0.sides.1.counts.Dropped, vi a0.sides.1.counts.Twins, pt b32_p0, pt b33_p0, pt b34_p0, vi a0.sides.2.counts.Good, vi a0.sides.2.counts.Bad, vi a0.sides.2.counts.Aborts, vi a0.sides.2.counts.Runts, vi a0.sides.2.counts.Giants, vi a0.sides.2.counts.Dropped, vi a0.sides.2.counts.Twins]) 128, arq_Arq.at b16_p0 a0.arq, aps_Aps.at b17_p0 a0.aps, twins_Table.at b18_p0 a0.twins, frame_Reader.at b22_p0 a0.sides.1.reader, monitor_Monitor.at b23_p0 a0.sides.1.monitor, ring_Ring.at b24_p0 a0.sides.1.ring, frame_Reader.at b32_p0 a0.sides.2.reader, monitor_Monitor.at b33_p0 a0.sides.2.monitor, ring_Ring.at b34_p0 a0.sides.2.ring, R] w0 w ∧ station_Station_Status.j0 a0 x14 = some r) (fun (nb13, x14) => [(0, pt b0), (2, pt nb1), (3, pt nb13)]) ?_ ?_
 ·apply V.da [4, 9, 11, 12] [10] [(6, _), (7, _), (8, _), (9, _), (11, _), (12, _), (13, _), (14, _)] mo HS
  rfl
  refine T.pm (es' := [4, 11, 9, 12]) rfl ?_
  refine T.two rfl rfl ⟨.mv 0, .nc 6, .fa 7 fo128_1, .ld 8 1 underlying118, .mv 0, .nc 11, .fa 12 fo128_2, .ld 13 1 underlying119, tv⟩ (T.step (es := [11, 9, 12]) _ [(9, pt b16_p0)] rfl ⟨.inr ⟨rfl, rfl⟩, tv⟩ (Or.inl rfl) (by intro d hd; cases hd; exact ⟨by decide, rfl, rfl⟩) [10] [0, 1, 2, 3] rfl rfl rfl rfl rfl (fun w HS => ?_)) (T.step (es := [4, 9, 12]) _ [] rfl tv (Or.inl rfl) (by intro d hd; cases hd; exact ⟨by decide, rfl, rfl⟩) [10] [] rfl rfl rfl rfl rfl (fun w HS => ?_))
  ·have HS : Sep.St _ w0 w := HS
   have HS := HS.fr 2
   obtain ⟨_, _, _, _, _, _, _, _, _, HS⟩ := arq_Arq.open HS
   refine Y.kl H func46 (fun _ h => arq_Arq_State.calls h HS.j7) ?_
   rintro t55 _ w H ⟨rfl, HS⟩
   have HS := HS.o7
   refine T.nw HS ?_
   refine T.two rfl rfl ⟨.mv 0, .nc 11, .fa 12 fo128_2, .ld 13 8 underlying119, tv⟩ (T.step (es := [9, 12]) _ [] rfl tv (Or.inl rfl) (by intro d hd; cases hd; exact ⟨by decide, rfl, rfl⟩) [10] [] rfl rfl rfl rfl rfl (fun w HS => ?_)) (T.step (es := [11, 12]) _ [(14, pt b17_p0)] rfl ⟨.inr ⟨rfl, rfl⟩, tv⟩ (Or.inl rfl) (by intro d hd; cases hd; exact ⟨by decide, rfl, rfl⟩) [] [5, 6, 7, 8] rfl rfl rfl rfl rfl (fun w HS => ?_))
   ·have HS : Sep.St _ w0 w := HS
    refine ⟨_, Y.alloc (z := Value.agg (#[vi (0), vi (0), vi (0), vi (0), vi (0), vi (0), vi (0)])) HS ze33, ?_⟩
    rintro _ w ⟨_, rfl, HS⟩
    refine T.nw HS ?_
    refine T.e [14] [] [5, 6, 7, 8] fun w HS => ?_
    have HS := HS.fr 10
    obtain ⟨_, HS⟩ := aps_Aps.open HS
    refine Y.kl H func47 (fun _ h => aps_Aps_Line.calls h HS.j1) ?_
    rintro t60 _ w H ⟨rfl, HS⟩
    have HS := HS.o1
    apply T.na [(15, _), (16, _)] HS
    exact nmk
    refine T.e [3, 16] [] [10] (fun w HS => ?_) ⟨.n2 10 15 rfl rfl rfl (fun w HS => X.bd (Value.agg #[vi t55, vi t60, vi (0), vi (0), vi (0), vi (0), vi (0)]) rfl (fun _ => by kernel_rfl)), rds⟩
    refine ⟨_, Y.storeSt (c' := #[vi t55, vi t60, vi (0), vi (0), vi (0), vi (0), vi (0)]) 1 [vi t55, vi t60, vi (0), vi (0), vi (0), vi (0), vi (0)] HS rfl inf33 rfl rfl rfl rfl rfl rfl, ?_⟩
    rintro _ w HS
    refine T.nn HS ?_
    refine T.ff [0, 2, 3] fun w HS => ?_
    have HS := (aps_Aps.close tv ((arq_Arq.close tv ((api_Status.close tv ((api_Status.close tv (HS.b [1])).b [9])).b [3, 3, 3, 3, 3, 3, 3])).b [3])).b [3, 2, 2, 1]
    exact At.mt (_, _) ⟨HS, H⟩
   ·have HS : Sep.St _ w0 w := HS
    have HS := HS.fr 9
    obtain ⟨_, HS⟩ := aps_Aps.open HS
    refine Y.kl H func47 (fun _ h => aps_Aps_Line.calls h HS.j1) ?_
    rintro t64 _ w H ⟨rfl, HS⟩
    have HS := HS.o1
    apply T.na [(15, _), (16, _)] HS
    exact nmk
    refine T.e [] [] [] (fun w HS => ?_) ⟨.n2 10 15 rfl rfl rfl (fun w HS => X.bd (Value.agg #[vi t55, vi t64, vi (0), vi (0), vi (0), vi (0), vi (0)]) rfl (fun _ => by kernel_rfl)), rds⟩
    refine ⟨_, Y.alloc (z := Value.agg (#[vi (0), vi (0), vi (0), vi (0), vi (0), vi (0), vi (0)])) HS ze33, ?_⟩
    rintro _ w ⟨_, rfl, HS⟩
    refine T.nw HS ?_
    refine T.e [3, 16] [] [10] (fun w HS => ?_) ⟨.n2 10 15 rfl rfl rfl (fun w HS => X.bd (Value.agg #[vi t55, vi t64, vi (0), vi (0), vi (0), vi (0), vi (0)]) rfl (fun _ => by kernel_rfl)), rds⟩
    refine ⟨_, Y.storeSt (c' := #[vi t55, vi t64, vi (0), vi (0), vi (0), vi (0), vi (0)]) 0 [vi t55, vi t64, vi (0), vi (0), vi (0), vi (0), vi (0)] HS rfl inf33 rfl rfl rfl rfl rfl rfl, ?_⟩
    rintro _ w HS
    refine T.nn HS ?_
    refine T.ff [0, 2, 3] fun w HS => ?_
    have HS := (aps_Aps.close tv ((arq_Arq.close tv ((api_Status.close tv ((api_Status.close tv HS).b [9])).b [3, 3, 3, 3, 3, 3, 3])).b [3])).b [3, 2, 2, 1]
    exact At.mt (_, _) ⟨HS, H⟩
  ·have HS : Sep.St _ w0 w := HS
   refine ⟨_, Y.alloc (z := Value.agg (#[vi (0), vi (0), vi (0), vi (0), vi (0), vi (0), vi (0)])) HS ze33, ?_⟩
   rintro _ w ⟨_, rfl, HS⟩
   refine T.nw HS ?_
   refine T.e [9] [10] [0, 1, 2, 3] fun w HS => ?_
   have HS := HS.fr 3
   obtain ⟨_, _, _, _, _, _, _, _, _, HS⟩ := arq_Arq.open HS
   refine Y.kl H func46 (fun _ h => arq_Arq_State.calls h HS.j7) ?_
   rintro t70 _ w H ⟨rfl, HS⟩
   have HS := HS.o7
   refine T.nw HS ?_
   refine T.e [14] [] [5, 6, 7, 8] fun w HS => ?_
   have HS := HS.fr 10
   obtain ⟨_, HS⟩ := aps_Aps.open HS
   refine Y.kl H func47 (fun _ h => aps_Aps_Line.calls h HS.j1) ?_
   rintro t74 _ w H ⟨rfl, HS⟩
   have HS := HS.o1
   apply T.na [(15, _), (16, _)] HS
   exact nmk
   refine T.e [3, 16] [] [10] (fun w HS => ?_) ⟨.n2 10 15 rfl rfl rfl (fun w HS => X.bd (Value.agg #[vi t70, vi t74, vi (0), vi (0), vi (0), vi (0), vi (0)]) rfl (fun _ => by kernel_rfl)), rds⟩
   refine ⟨_, Y.storeSt (c' := #[vi t70, vi t74, vi (0), vi (0), vi (0), vi (0), vi (0)]) 8 [vi t70, vi t74, vi (0), vi (0), vi (0), vi (0), vi (0)] HS rfl inf33 rfl rfl rfl rfl rfl rfl, ?_⟩
   rintro _ w HS
   refine T.nn HS ?_
   refine T.ff [0, 2, 3] fun w HS => ?_
   have HS := (aps_Aps.close tv ((arq_Arq.close tv ((api_Status.close tv ((api_Status.close tv (HS.b [8])).b [9])).b [3, 3, 3, 3, 3, 3, 3])).b [3])).b [3, 2, 2, 1]
   exact At.mt (_, _) ⟨HS, H⟩
 ·rintro ⟨nb13, x14⟩ w ⟨HS, H⟩
  refine V.meet (σ := api_Status) (fun x17 w => Sep.St [api_Status.at nb13 x17, api_Status.at nb1 (({ State := 0, Line := 0, Lines := (0, 0), Sent := 0, Acked := 0, Lost := 0 } : api_Status)), blk b0 (#[vi a0.c.Mode, vi a0.c.Modulus, vi a0.c.Window, vi a0.c.T1, vi a0.c.N2, vi a0.c.Hold, vi a0.c.Wait, vi a0.c.Keep, vi a0.c.Queue, vi a0.c.Size, vi a0.c.Ring, vi a0.c.Rate, vi a0.c.Bad, vi a0.c.Good, vb a0.c.Revert, vb a0.c.Wide, pt b16_p0, pt b17_p0, pt b18_p0, Value.int .u32 a0.number, vi a0.steps, vi a0.line, pt b22_p0, pt b23_p0, pt b24_p0, vi a0.sides.1.counts.Good, vi a0.sides.1.counts.Bad, vi a0.sides.1.counts.Aborts, vi a0.sides.1.counts.Runts, vi a0.sides.1.counts.Giants, vi a0.sides.1.counts.Dropped, vi a0.sides.1.counts.Twins, pt b32_p0, pt b33_p0, pt b34_p0, vi a0.sides.2.counts.Good, vi a0.sides.2.counts.Bad, vi a0.sides.2.counts.Aborts, vi a0.sides.2.counts.Runts, vi a0.sides.2.counts.Giants, vi a0.sides.2.counts.Dropped, vi a0.sides.2.counts.Twins]) 128, arq_Arq.at b16_p0 a0.arq, aps_Aps.at b17_p0 a0.aps, twins_Table.at b18_p0 a0.twins, frame_Reader.at b22_p0 a0.sides.1.reader, monitor_Monitor.at b23_p0 a0.sides.1.monitor, ring_Ring.at b24_p0 a0.sides.1.ring, frame_Reader.at b32_p0 a0.sides.2.reader, monitor_Monitor.at b33_p0 a0.sides.2.monitor, ring_Ring.at b34_p0 a0.sides.2.ring, R] w0 w ∧ station_Station_Status.j1 a0 x17 = some r) (fun x17 => [(0, pt b0), (2, pt nb1), (3, pt nb13)]) ?_ ?_
  ·refine go ?_
   have HS := HS.b [2, 2, 2, 2, 2, 2, 2, 2, 2, 2]
   refine W.kl H func48 (fun _ h => station_Station_twice.calls h HS.j10) ?_
   rintro _ _ w H ⟨rfl, HS⟩
   have HS := HS.o10
   refine go ?_
   refine V.cv H rfl (fun _ H => ?_) (fun _ H => ?_)
   ·refine go ?_
    have HS := HS.fr 10
    obtain ⟨_, HS⟩ := api_Status.open HS
    refine go ?_
    refine W.sr 1 HS rfl rfl rfl fun w HS => ?_
    refine go ?_
    have HS := (api_Status.close tv HS).b [0, 10]
    exact At.mt _ ⟨HS, H⟩
   ·refine go ?_
    have HS := HS.b [10, 10]
    exact At.mt _ ⟨HS, H⟩
  ·rintro x17 w ⟨HS, H⟩
   refine go ?_
   have HS := HS.fr 3
   obtain ⟨_, _, _, _, _, _, _, _, _, HS⟩ := arq_Arq.open HS
   refine W.kl H func49 (fun _ h => arq_Arq_Counts.calls h HS.j7) ?_
   rintro t21 _ w H ⟨rfl, HS⟩
   have HS := HS.o7
   refine go ?_
   have HS := HS.fr 7
   obtain ⟨_, HS⟩ := api_Status.open HS
   refine go ?_
   refine W.sr 4 HS rfl rfl rfl fun w HS => ?_
   refine go ?_
   refine W.sr 5 HS rfl rfl rfl fun w HS => ?_
   refine go ?_
   refine W.sr 6 HS rfl rfl rfl fun w HS => ?_
   refine go ?_
   refine V.rs 2 [(2, pt nb1), (3, pt nb13), (35, Value.agg #[pt b22_p0, pt b23_p0, pt b24_p0, vi a0.sides.1.counts.Good, vi a0.sides.1.counts.Bad, vi a0.sides.1.counts.Aborts, vi a0.sides.1.counts.Runts, vi a0.sides.1.counts.Giants, vi a0.sides.1.counts.Dropped, vi a0.sides.1.counts.Twins, pt b32_p0, pt b33_p0, pt b34_p0, vi a0.sides.2.counts.Good, vi a0.sides.2.counts.Bad, vi a0.sides.2.counts.Aborts, vi a0.sides.2.counts.Runts, vi a0.sides.2.counts.Giants, vi a0.sides.2.counts.Dropped, vi a0.sides.2.counts.Twins]), (36, vi (0))] ?_
   refine go ?_
   refine W.r (X.ixK (Value.agg #[pt b22_p0, pt b23_p0, pt b24_p0, vi a0.sides.1.counts.Good, vi a0.sides.1.counts.Bad, vi a0.sides.1.counts.Aborts, vi a0.sides.1.counts.Runts, vi a0.sides.1.counts.Giants, vi a0.sides.1.counts.Dropped, vi a0.sides.1.counts.Twins]) rfl rfl (fun _ => by kernel_rfl)) rfl ?_
   refine W.e (Y.alloc (z := Value.agg (#[Value.pointer none, Value.pointer none, Value.pointer none, vi (0), vi (0), vi (0), vi (0), vi (0), vi (0), vi (0)])) HS ze125) rfl ?_
   rintro _ w ⟨_, rfl, HS⟩
   refine go ?_
   refine W.en (Y.storeSt (c' := #[pt b22_p0, pt b23_p0, pt b24_p0, vi a0.sides.1.counts.Good, vi a0.sides.1.counts.Bad, vi a0.sides.1.counts.Aborts, vi a0.sides.1.counts.Runts, vi a0.sides.1.counts.Giants, vi a0.sides.1.counts.Dropped, vi a0.sides.1.counts.Twins]) 0 [pt b22_p0, pt b23_p0, pt b24_p0, vi a0.sides.1.counts.Good, vi a0.sides.1.counts.Bad, vi a0.sides.1.counts.Aborts, vi a0.sides.1.counts.Runts, vi a0.sides.1.counts.Giants, vi a0.sides.1.counts.Dropped, vi a0.sides.1.counts.Twins] HS rfl inf125 rfl rfl rfl rfl rfl rfl) rfl ?_
   rintro _ w HS
   refine go ?_
   have HS := HS.fr 14
   obtain ⟨_, _, HS⟩ := monitor_Monitor.open HS
   refine W.kl H func50 (fun _ h => monitor_Monitor_State.calls h HS.j2) ?_
   rintro t34 _ w H ⟨rfl, HS⟩
   have HS := HS.o2
   refine go ?_
   refine W.sr 2 HS rfl rfl rfl fun w HS => ?_
   refine go ?_
   refine At.ow [(2, pt nb1), (3, pt nb13), (35, Value.agg #[pt b22_p0, pt b23_p0, pt b24_p0, vi a0.sides.1.counts.Good, vi a0.sides.1.counts.Bad, vi a0.sides.1.counts.Aborts, vi a0.sides.1.counts.Runts, vi a0.sides.1.counts.Giants, vi a0.sides.1.counts.Dropped, vi a0.sides.1.counts.Twins, pt b32_p0, pt b33_p0, pt b34_p0, vi a0.sides.2.counts.Good, vi a0.sides.2.counts.Bad, vi a0.sides.2.counts.Aborts, vi a0.sides.2.counts.Runts, vi a0.sides.2.counts.Giants, vi a0.sides.2.counts.Dropped, vi a0.sides.2.counts.Twins]), (36, vi (1))] ?_
   refine go ?_
   refine W.r (X.ixK (Value.agg #[pt b32_p0, pt b33_p0, pt b34_p0, vi a0.sides.2.counts.Good, vi a0.sides.2.counts.Bad, vi a0.sides.2.counts.Aborts, vi a0.sides.2.counts.Runts, vi a0.sides.2.counts.Giants, vi a0.sides.2.counts.Dropped, vi a0.sides.2.counts.Twins]) rfl rfl (fun _ => by kernel_rfl)) rfl ?_
   refine W.e (Y.alloc (z := Value.agg (#[Value.pointer none, Value.pointer none, Value.pointer none, vi (0), vi (0), vi (0), vi (0), vi (0), vi (0), vi (0)])) HS ze125) rfl ?_
   rintro _ w ⟨_, rfl, HS⟩
   refine go ?_
   refine W.en (Y.storeSt (c' := #[pt b32_p0, pt b33_p0, pt b34_p0, vi a0.sides.2.counts.Good, vi a0.sides.2.counts.Bad, vi a0.sides.2.counts.Aborts, vi a0.sides.2.counts.Runts, vi a0.sides.2.counts.Giants, vi a0.sides.2.counts.Dropped, vi a0.sides.2.counts.Twins]) 0 [pt b32_p0, pt b33_p0, pt b34_p0, vi a0.sides.2.counts.Good, vi a0.sides.2.counts.Bad, vi a0.sides.2.counts.Aborts, vi a0.sides.2.counts.Runts, vi a0.sides.2.counts.Giants, vi a0.sides.2.counts.Dropped, vi a0.sides.2.counts.Twins] HS rfl inf125 rfl rfl rfl rfl rfl rfl) rfl ?_
   rintro _ w HS
   refine go ?_
   have HS := HS.fr 19
   obtain ⟨_, _, HS⟩ := monitor_Monitor.open HS
   refine W.kl H func50 (fun _ h => monitor_Monitor_State.calls h HS.j2) ?_
   rintro t41 _ w H ⟨rfl, HS⟩
   have HS := HS.o2
   refine go ?_
   refine W.sr 3 HS rfl rfl rfl fun w HS => ?_
   refine go ?_
   refine At.ow [(2, pt nb1), (3, pt nb13), (35, Value.agg #[pt b22_p0, pt b23_p0, pt b24_p0, vi a0.sides.1.counts.Good, vi a0.sides.1.counts.Bad, vi a0.sides.1.counts.Aborts, vi a0.sides.1.counts.Runts, vi a0.sides.1.counts.Giants, vi a0.sides.1.counts.Dropped, vi a0.sides.1.counts.Twins, pt b32_p0, pt b33_p0, pt b34_p0, vi a0.sides.2.counts.Good, vi a0.sides.2.counts.Bad, vi a0.sides.2.counts.Aborts, vi a0.sides.2.counts.Runts, vi a0.sides.2.counts.Giants, vi a0.sides.2.counts.Dropped, vi a0.sides.2.counts.Twins]), (36, vi (2))] ?_
   refine go ?_
   have HS := HS.fr 14
   obtain ⟨_, HS⟩ := api_Status.open HS
   refine W.en (Y.storeSt (c' := #[vi x17.State, vi x17.Line, vi t34, vi t41, vi t21.1, vi t21.2.1, vi t21.2.2]) 0 [vi x17.State, vi x17.Line, vi t34, vi t41, vi t21.1, vi t21.2.1, vi t21.2.2] HS rfl inf33 rfl rfl rfl rfl rfl rfl) rfl ?_
   rintro _ w HS
   refine go ?_
   have hv47 := run_loadSt (P := Tryz.prog) (p := 0) 0 [vi x17.State, vi x17.Line, vi t34, vi t41, vi t21.1, vi t21.2.1, vi t21.2.2] HS rfl underlying33 rfl inf33 rfl
   have HS := (monitor_Monitor.close tv ((monitor_Monitor.close tv ((arq_Arq.close tv (HS.b [8, 8, 8, 8, 8, 8, 8])).b [5, 5])).b [3, 3])).ke [7, 2, 6, 6, 6, 1, 5, 5, 0, 4, 4]
   cases H
   exact At.retv1 rfl ⟨_, rfl, hv47⟩ ⟨_, rfl, rfl, HS⟩
def V34.at (b : Nat) (x : (api_Status × api_Status)) : As := fun h => True ∧ Sp [blk b (#[vi x.1.State, vi x.1.Line, vi x.1.Lines.1, vi x.1.Lines.2, vi x.1.Sent, vi x.1.Acked, vi x.1.Lost, vi x.2.State, vi x.2.Line, vi x.2.Lines.1, vi x.2.Lines.2, vi x.2.Sent, vi x.2.Acked, vi x.2.Lost]) 34] h
theorem V34.open {b : Nat} {x : (api_Status × api_Status)} {L : List As} {w0 w : World} (hs : Sep.St (V34.at b x :: L) w0 w) : True ∧ Sep.St (blk b (#[vi x.1.State, vi x.1.Line, vi x.1.Lines.1, vi x.1.Lines.2, vi x.1.Sent, vi x.1.Acked, vi x.1.Lost, vi x.2.State, vi x.2.Line, vi x.2.Lines.1, vi x.2.Lines.2, vi x.2.Sent, vi x.2.Acked, vi x.2.Lost]) 34 :: L) w0 w := by
 obtain ⟨ho, ht, hu, h, hon, h1, h2, hd, e1, e2, ⟨hi, hA⟩, hl⟩ := hs
 exact ⟨hi, St.open (m := [blk b (#[vi x.1.State, vi x.1.Line, vi x.1.Lines.1, vi x.1.Lines.2, vi x.1.Sent, vi x.1.Acked, vi x.1.Lost, vi x.2.State, vi x.2.Line, vi x.2.Lines.1, vi x.2.Lines.2, vi x.2.Sent, vi x.2.Acked, vi x.2.Lost]) 34]) ⟨ho, ht, hu, h, hon, h1, h2, hd, e1, e2, hA, hl⟩⟩
theorem V34.close {b : Nat} {l0 : Int} {l1 : Int} {l2 : Int} {l3 : Int} {l4 : Int} {l5 : Int} {l6 : Int} {l7 : Int} {l8 : Int} {l9 : Int} {l10 : Int} {l11 : Int} {l12 : Int} {l13 : Int}  {L : List As} {w0 w : World} (hi : True) (hs : Sep.St (blk b (#[vi l0, vi l1, vi l2, vi l3, vi l4, vi l5, vi l6, vi l7, vi l8, vi l9, vi l10, vi l11, vi l12, vi l13]) 34 :: L) w0 w) : Sep.St (V34.at b (({ State := l0, Line := l1, Lines := (l2, l3), Sent := l4, Acked := l5, Lost := l6 } : api_Status), ({ State := l7, Line := l8, Lines := (l9, l10), Sent := l11, Acked := l12, Lost := l13 } : api_Status)) :: L) w0 w := by
 have h2 := St.join (m := [blk b (#[vi l0, vi l1, vi l2, vi l3, vi l4, vi l5, vi l6, vi l7, vi l8, vi l9, vi l10, vi l11, vi l12, vi l13]) 34]) hs
 exact h2.mono fun h hh => ⟨hi, hh⟩
def signalman_After.f (k : Nat) (a0 : api_Config) (a1 : List api_Op) : Option ((api_Status × api_Status) × Bool) := ((signalman_play.f k a0 a1).bind fun t3 => (if t3.1.isNone = true then some ((({ State := 0, Line := 0, Lines := (0, 0), Sent := 0, Acked := 0, Lost := 0 } : api_Status), ({ State := 0, Line := 0, Lines := (0, 0), Sent := 0, Acked := 0, Lost := 0 } : api_Status)), false) else ((station_Station_Status.f (((t3.1.getD default).w).stations.1)).bind fun t26 => ((station_Station_Status.f (((t3.1.getD default).w).stations.2)).bind fun t30 => some (((t26 : api_Status), (t30 : api_Status)), true)))))
theorem signalman_After.calls {k : Nat} {a0 : api_Config} {a1 : List api_Op} {R : As} {w0 w : World} {sa1 : Option Addr} {sc1 : Nat} {sd1 : List Value} {r : (api_Status × api_Status) × Bool} (H : signalman_After.f k a0 a1 = some r) (HS : Sep.St [R] w0 w) (hr1 : rdC R 6 (.slice sa1 a1.length sc1) a1.length sd1) (ht1 : ∀ h, R h → tie api_Op.El sd1 a1 h) : Calls Tryz.prog 15 #[Value.agg #[vi a0.Mode, vi a0.Modulus, vi a0.Window, vi a0.T1, vi a0.N2, vi a0.Hold, vi a0.Wait, vi a0.Keep, vi a0.Queue, vi a0.Size, vi a0.Ring, vi a0.Rate, vi a0.Bad, vi a0.Good, vb a0.Revert, vb a0.Wide], vs sa1 a1.length sc1] w (Ret fun u w => u = Value.tuple #[Value.agg #[vi r.1.1.State, vi r.1.1.Line, vi r.1.1.Lines.1, vi r.1.1.Lines.2, vi r.1.1.Sent, vi r.1.1.Acked, vi r.1.1.Lost, vi r.1.2.State, vi r.1.2.Line, vi r.1.2.Lines.1, vi r.1.2.Lines.2, vi r.1.2.Sent, vi r.1.2.Acked, vi r.1.2.Lost], vb r.2] ∧ Sep.St [R] w0 w) := by
 refine calls_enter func15 rfl rfl ?_
 have HS := St.more 0 HS rfl ht1 tie.pers
 refine go ?_
 refine W.e (Y.box HS rfl) rfl ?_
 rintro _ w ⟨_, rfl, HS⟩
 refine W.e (Y.alloc (z := Value.agg (#[vi (0), vi (0), vi (0), vi (0), vi (0), vi (0), vi (0), vi (0), vi (0), vi (0), vi (0), vi (0), vi (0), vi (0)])) HS ze34) rfl ?_
 rintro _ w ⟨_, rfl, HS⟩
 refine go ?_
 obtain ⟨_, A4, H⟩ := bind_s H
 refine ite_c H (fun c5 H => ?_) (fun c5 H => ?_)
 ·refine W.e (Y.cl func29 (signalman_play.calls A4 HS.j0 (rdC.part 3 hr1 rfl) (fun h hh => let ⟨_, l, t⟩ := Sp.has 2 hh rfl; tie.mono t l))) rfl ?_
  rintro _ w ⟨bt3_0, at3_1, ct3_1, rfl, HS⟩
  have HS := St.optN c5 HS.o2
  rw [optv_n c5]
  refine go ?_
  refine W.r (X.eqP underlying66 rfl rfl) rfl ?_
  refine go ?_
  refine W.r (X.bd (Value.agg #[vi (0), vi (0), vi (0), vi (0), vi (0), vi (0), vi (0), vi (0), vi (0), vi (0), vi (0), vi (0), vi (0), vi (0)]) rfl (fun _ => by kernel_rfl)) rfl ?_
  refine W.en (Y.storeSt (c' := #[vi (0), vi (0), vi (0), vi (0), vi (0), vi (0), vi (0), vi (0), vi (0), vi (0), vi (0), vi (0), vi (0), vi (0)]) 1 [vi (0), vi (0), vi (0), vi (0), vi (0), vi (0), vi (0), vi (0), vi (0), vi (0), vi (0), vi (0), vi (0), vi (0)] HS rfl inf34 rfl rfl rfl rfl rfl rfl) rfl ?_
  rintro _ w HS
  refine go ?_
  have hv12 := run_loadSt (P := Tryz.prog) (p := 0) 1 [vi (0), vi (0), vi (0), vi (0), vi (0), vi (0), vi (0), vi (0), vi (0), vi (0), vi (0), vi (0), vi (0), vi (0)] HS rfl underlying34 rfl inf34 rfl
  have HS := HS.ke [4]
  cases H
  exact At.retv2 rfl ⟨_, rfl, hv12⟩ rfl ⟨_, rfl, rfl, HS⟩
 ·refine W.e (Y.cl func29 (signalman_play.calls A4 HS.j0 (rdC.part 3 hr1 rfl) (fun h hh => let ⟨_, l, t⟩ := Sp.has 2 hh rfl; tie.mono t l))) rfl ?_
  rintro _ w ⟨bt3_0, at3_1, ct3_1, rfl, HS⟩
  have HS := St.optS default c5 HS.o2
  rw [optv_s c5]
  refine go ?_
  refine W.r (X.eqP underlying66 rfl rfl) rfl ?_
  refine go ?_
  obtain ⟨b0_20, _, _, _, _, HS⟩ := signalman_player.open HS
  apply V.da [4, 5, 10, 11, 13] [12, 14] [(17, _), (18, _), (19, _), (20, _), (23, _), (24, _), (25, _), (26, _)] mo HS
  rfl
  refine T.e [20] [12, 14] [0, 1, 2, 3] fun w HS => ?_
  refine ⟨_, Y.cl (vs := [pt b0_20, vi (0)]) func30 (calls_enter func30 rfl rfl ?_), fun _ _ h => h⟩
  refine go ?_
  refine W.inl (Y.cl (vs := [vi (0)]) func45 (calls_enter func45 rfl rfl ?_)) rfl rfl rfl
  refine go ?_
  refine At.ret1 rfl rfl ⟨_, rfl, ?_⟩
  refine go ?_
  have HS := HS.fr 1
  obtain ⟨_, _, _, _, _, _, _, _, _, _, _, _, _, _, _, _, _, _, _, _, _, _, _, _, _, _, _, _, _, _, _, HS⟩ := world_World.open HS
  refine go ?_
  refine At.ret1 rfl rfl ⟨_, rfl, ?_⟩
  refine T.nw HS ?_
  refine T.e [21] [12, 14] [] fun w HS => ?_
  have HS := HS.fr 1
  obtain ⟨_, _, _, _, _, _, _, _, _, _, HS⟩ := station_Station.open HS
  refine Y.kl H func31 (fun _ h => station_Station_Status.calls h HS.j10) ?_
  rintro t26 _ w H ⟨rfl, HS⟩
  have HS := HS.o10
  refine T.nw HS ?_
  refine T.e [26] [12, 14] [6, 7, 8, 9] fun w HS => ?_
  refine ⟨_, Y.cl (vs := [pt b0_20, vi (1)]) func30 (calls_enter func30 rfl rfl ?_), fun _ _ h => h⟩
  refine go ?_
  refine W.inl (Y.cl (vs := [vi (1)]) func45 (calls_enter func45 rfl rfl ?_)) rfl rfl rfl
  refine go ?_
  refine At.ret1 rfl rfl ⟨_, rfl, ?_⟩
  refine go ?_
  refine At.ret1 rfl rfl ⟨_, rfl, ?_⟩
  refine T.nw HS ?_
  refine T.e [27] [14] [] fun w HS => ?_
  have HS := HS.fr 11
  obtain ⟨_, _, _, _, _, _, _, _, _, _, HS⟩ := station_Station.open HS
  refine Y.kl H func31 (fun _ h => station_Station_Status.calls h HS.j10) ?_
  rintro t30 _ w H ⟨rfl, HS⟩
  have HS := HS.o10
  apply T.na [(28, _), (29, _)] HS
  exact nmk
  refine T.e [4, 29] [] [12] (fun w HS => ?_) ⟨.n2 22 28 rfl rfl rfl (fun w HS => X.bd (Value.agg #[vi t26.State, vi t26.Line, vi t26.Lines.1, vi t26.Lines.2, vi t26.Sent, vi t26.Acked, vi t26.Lost, vi t30.State, vi t30.Line, vi t30.Lines.1, vi t30.Lines.2, vi t30.Sent, vi t30.Acked, vi t30.Lost]) rfl (fun _ => by kernel_rfl)), rds⟩
  refine ⟨_, Y.storeSt (c' := #[vi t26.State, vi t26.Line, vi t26.Lines.1, vi t26.Lines.2, vi t26.Sent, vi t26.Acked, vi t26.Lost, vi t30.State, vi t30.Line, vi t30.Lines.1, vi t30.Lines.2, vi t30.Sent, vi t30.Acked, vi t30.Lost]) 45 [vi t26.State, vi t26.Line, vi t26.Lines.1, vi t26.Lines.2, vi t26.Sent, vi t26.Acked, vi t26.Lost, vi t30.State, vi t30.Line, vi t30.Lines.1, vi t30.Lines.2, vi t30.Sent, vi t30.Acked, vi t30.Lost] HS rfl inf34 rfl rfl rfl rfl rfl rfl, ?_⟩
  rintro _ w HS
  apply T.na [(5, _)] HS
  exact nmk
  refine T.ff [4, 5] fun w HS => ?_
  refine go ?_
  have hv32 := run_loadSt (P := Tryz.prog) (p := 0) 45 [vi t26.State, vi t26.Line, vi t26.Lines.1, vi t26.Lines.2, vi t26.Sent, vi t26.Acked, vi t26.Lost, vi t30.State, vi t30.Line, vi t30.Lines.1, vi t30.Lines.2, vi t30.Sent, vi t30.Acked, vi t30.Lost] HS rfl underlying34 rfl inf34 rfl
  have HS := HS.ke [48]
  cases H
  exact At.retv2 rfl ⟨_, rfl, hv32⟩ rfl ⟨_, rfl, rfl, HS⟩
mutual
def signalmanref20_SameEvents.l0 : Nat → (List api_Event) → (List api_Event) → Int → Option Bool
 | 0, _, _, _ => none
 | k + 1, a0, a1, x4 => (if x4 < (a0.length : Int) then (if 0 ≤ x4 ∧ x4 < (a0.length : Int) then (if 0 ≤ x4 ∧ x4 < (a1.length : Int) then (if ((a0.getD x4.toNat default).Step) = ((a1.getD x4.toNat default).Step) then (if ((a0.getD x4.toNat default).At) = ((a1.getD x4.toNat default).At) then (if ((a0.getD x4.toNat default).Ind) = ((a1.getD x4.toNat default).Ind) then (if sEq ((a0.getD x4.toNat default).B) ((a1.getD x4.toNat default).B) = true then (signalmanref20_SameEvents.l0 k a0 a1 (w64 (x4 + 1))) else some false) else some false) else some false) else some false) else none) else none) else some true)
end
def signalmanref20_SameEvents.f (k : Nat) (a0 : List api_Event) (a1 : List api_Event) : Option Bool := (if (a0.length : Int) = (a1.length : Int) then (signalmanref20_SameEvents.l0 k a0 a1 0) else some false)
theorem signalmanref20_SameEvents.calls {k : Nat} {a0 : List api_Event} {a1 : List api_Event} {R : As} {w0 w : World} {sa0 : Option Addr} {sc0 : Nat} {sd0 : List Value} {sa1 : Option Addr} {sc1 : Nat} {sd1 : List Value} {r : Bool} (H : signalmanref20_SameEvents.f k a0 a1 = some r) (HS : Sep.St [R] w0 w) (hr0 : rdC R 4 (.slice sa0 a0.length sc0) a0.length sd0) (ht0 : ∀ h, R h → tie api_Event.El sd0 a0 h) (hr1 : rdC R 4 (.slice sa1 a1.length sc1) a1.length sd1) (ht1 : ∀ h, R h → tie api_Event.El sd1 a1 h) : Calls Tryz.prog 19 #[vs sa0 a0.length sc0, vs sa1 a1.length sc1] w (Ret fun u w => u = vb r ∧ Sep.St [R] w0 w) := by
 refine calls_enter func19 rfl rfl ?_
 have HS := St.more 1 (St.more 0 HS rfl ht0 tie.pers) rfl ht1 tie.pers
 refine go ?_
 refine V.cm H rfl (fun _ H => ?_) (fun _ H => ?_)
 ·refine go ?_
  refine V.lp (σ := Int) (fun kq x4 w => Sep.St [tie api_Event.El sd1 a1, tie api_Event.El sd0 a0, R] w0 w ∧ signalmanref20_SameEvents.l0 kq a0 a1 x4 = some r ∧ kq ≤ k) (fun x4 => [(0, vs sa0 a0.length sc0), (1, vs sa1 a1.length sc1), (5, vi x4)]) _ ⟨HS, H, Nat.le_refl _⟩ ?_
  rintro kq5 x4 w ⟨HS, H, _⟩
  cases kq5 with
  | zero => exact absurd H (by simp [signalmanref20_SameEvents.l0])
  | succ kq5 =>
   simp only [signalmanref20_SameEvents.l0] at H
   refine go ?_
   refine V.cd H rfl (fun _ H => ?_) (fun _ H => ?_)
   ·refine go ?_
    obtain ⟨c8, H⟩ := ite_n H
    obtain ⟨_, _, hh⟩ := (rdC.at 2 hr0 HS rfl).some (by decide) c8.1 c8.2; subst hh
    obtain ⟨_, hc12, HS⟩ := St.tie_at 1 HS rfl default c8.1 c8.2
    obtain ⟨_, _, he15, HN⟩ := api_Event.unpack HS; clear HS; subst he15; have HS := HN
    obtain ⟨c16, H⟩ := ite_n H
    obtain ⟨_, _, hh⟩ := (rdC.at 3 hr1 HS rfl).some (by decide) c16.1 c16.2; subst hh
    obtain ⟨_, hc20, HS⟩ := St.tie_at 1 HS rfl default c16.1 c16.2
    obtain ⟨_, _, he23, HN⟩ := api_Event.unpack HS; clear HS; subst he23; have HS := HN
    refine ite_c H (fun c24 H => ?_) (fun c24 H => ?_)
    ·refine ite_c H (fun c25 H => ?_) (fun c25 H => ?_)
     ·refine ite_c H (fun c26 H => ?_) (fun c26 H => ?_)
      ·apply V.da [] [] [(17, _), (18, _), (19, _), (20, _), (21, _), (22, _), (23, _), (24, _), (25, _), (26, _), (27, _), (28, _), (29, _), (30, _), (31, _), (32, _), (33, _), (34, _), (35, _), (36, _), (37, _), (38, _), (39, _), (40, _), (41, _), (42, _), (43, _), (44, _), (45, _), (46, _), (47, _), (48, _), (49, _), (50, _), (51, _), (52, _), (53, _), (54, _), (55, _), (56, _), (57, _), (58, _), (59, _), (60, _), (61, _), (62, _), (63, _), (64, _), (65, _), (66, _), (67, _), (68, _)] mo HS
       rfl
       refine T.ff [0, 1, 5, 68] (fun w HS => ?_) ⟨rd, rd, rd, rd, .n1 20 rfl rfl (fun w HS => X.load underlying3 rfl rfl ((rdC.at 4 hr0 HS rfl).cellEl (hc12 0 _ rfl))), rd, rd, rd, rd, .n1 25 rfl rfl (fun w HS => X.load underlying3 rfl rfl ((rdC.at 4 hr1 HS rfl).cellEl (hc20 0 _ rfl))), rd, rd, rd, rd, rd, rd, .gw [(32, _), (28, _)] 11 false 28 ⟨rfl, rfl, tv⟩ rfl (sb (n_t (dT c24))) (fun w HS => X.load underlying3 rfl rfl ((rdC.at 4 hr0 HS rfl).cellEl (hc12 1 _ rfl))), rd, rd, rd, rd, .gw [(37, _), (28, _)] 11 false 28 ⟨rfl, rfl, tv⟩ rfl (sb (n_t (dT c24))) (fun w HS => X.load underlying3 rfl rfl ((rdC.at 4 hr1 HS rfl).cellEl (hc20 1 _ rfl))), rd, rd, rd, rd, rd, rd, rd, .gw [(45, _), (41, _)] 24 false 41 ⟨rfl, rfl, tv⟩ rfl (sb (n_t (dT c25))) (fun w HS => X.load underlying3 rfl rfl ((rdC.at 4 hr0 HS rfl).cellEl (hc12 2 _ rfl))), rd, rd, rd, rd, .gw [(50, _), (41, _)] 24 false 41 ⟨rfl, rfl, tv⟩ rfl (sb (n_t (dT c25))) (fun w HS => X.load underlying3 rfl rfl ((rdC.at 4 hr1 HS rfl).cellEl (hc20 2 _ rfl))), rd, rd, rd, rd, rd, rd, rd, .gw [(58, _), (54, _)] 37 false 54 ⟨rfl, rfl, tv⟩ rfl (sb (n_t (dT c26))) (fun w HS => X.load underlying27 rfl rfl ((rdC.at 4 hr0 HS rfl).cellEl (hc12 3 _ rfl))), .gw [(59, _), (54, _)] 37 false 54 ⟨rfl, rfl, tv⟩ rfl (sb (n_t (dT c26))) (fun w HS => X.bytesStr underlying27 underlying5 underlying9 rfl (rdC.at 1 fsl.rd HS rfl)), rd, rd, rd, rd, .gw [(64, _), (54, _)] 37 false 54 ⟨rfl, rfl, tv⟩ rfl (sb (n_t (dT c26))) (fun w HS => X.load underlying27 rfl rfl ((rdC.at 4 hr1 HS rfl).cellEl (hc20 3 _ rfl))), .gw [(65, _), (54, _)] 37 false 54 ⟨rfl, rfl, tv⟩ rfl (sb (n_t (dT c26))) (fun w HS => X.bytesStr underlying27 underlying5 underlying9 rfl (rdC.at 0 fsl.rd HS rfl)), .gw [(60, _), (66, _), (54, _)] 37 false 54 ⟨rfl, rfl, rfl, tv⟩ rfl (sb (n_t (dT c26))) (fun w HS => X.neStr (a := (a0.getD x4.toNat default).B) (b := (a1.getD x4.toNat default).B) rfl rfl), rds⟩
       refine go ?_
       refine V.cx H rfl (fun _ H => ?_) (fun _ H => ?_)
       ·refine go ?_
        have HS := HS.ke [2, 2, 2]
        exact At.rn _ ⟨HS, H, by omega⟩
       ·refine go ?_
        have HS := HS.ke [4]
        exact rt
      ·apply V.da [] [] [(17, _), (18, _), (19, _), (20, _), (21, _), (22, _), (23, _), (24, _), (25, _), (26, _), (27, _), (28, _), (29, _), (30, _), (31, _), (32, _), (33, _), (34, _), (35, _), (36, _), (37, _), (38, _), (39, _), (40, _), (41, _), (42, _), (43, _), (44, _), (45, _), (46, _), (47, _), (48, _), (49, _), (50, _), (51, _), (52, _), (53, _), (54, _), (55, _), (56, _), (57, _), (58, _), (59, _), (60, _), (61, _), (62, _), (63, _), (64, _), (65, _), (66, _), (67, _), (68, _)] mo HS
       rfl
       refine T.ff [0, 1, 5, 68] (fun w HS => ?_) ⟨rd, rd, rd, rd, .n1 20 rfl rfl (fun w HS => X.load underlying3 rfl rfl ((rdC.at 4 hr0 HS rfl).cellEl (hc12 0 _ rfl))), rd, rd, rd, rd, .n1 25 rfl rfl (fun w HS => X.load underlying3 rfl rfl ((rdC.at 4 hr1 HS rfl).cellEl (hc20 0 _ rfl))), rd, rd, rd, rd, rd, rd, .gw [(32, _), (28, _)] 11 false 28 ⟨rfl, rfl, tv⟩ rfl (sb (n_t (dT c24))) (fun w HS => X.load underlying3 rfl rfl ((rdC.at 4 hr0 HS rfl).cellEl (hc12 1 _ rfl))), rd, rd, rd, rd, .gw [(37, _), (28, _)] 11 false 28 ⟨rfl, rfl, tv⟩ rfl (sb (n_t (dT c24))) (fun w HS => X.load underlying3 rfl rfl ((rdC.at 4 hr1 HS rfl).cellEl (hc20 1 _ rfl))), rd, rd, rd, rd, rd, rd, rd, .gw [(45, _), (41, _)] 24 false 41 ⟨rfl, rfl, tv⟩ rfl (sb (n_t (dT c25))) (fun w HS => X.load underlying3 rfl rfl ((rdC.at 4 hr0 HS rfl).cellEl (hc12 2 _ rfl))), rd, rd, rd, rd, .gw [(50, _), (41, _)] 24 false 41 ⟨rfl, rfl, tv⟩ rfl (sb (n_t (dT c25))) (fun w HS => X.load underlying3 rfl rfl ((rdC.at 4 hr1 HS rfl).cellEl (hc20 2 _ rfl))), rds⟩
       refine go ?_
       have HS := HS.ke [4]
       exact rt
     ·apply V.da [] [] [(17, _), (18, _), (19, _), (20, _), (21, _), (22, _), (23, _), (24, _), (25, _), (26, _), (27, _), (28, _), (29, _), (30, _), (31, _), (32, _), (33, _), (34, _), (35, _), (36, _), (37, _), (38, _), (39, _), (40, _), (41, _), (42, _), (43, _), (44, _), (45, _), (46, _), (47, _), (48, _), (49, _), (50, _), (51, _), (52, _), (53, _), (54, _), (55, _), (56, _), (57, _), (58, _), (59, _), (60, _), (61, _), (62, _), (63, _), (64, _), (65, _), (66, _), (67, _), (68, _)] mo HS
      rfl
      refine T.ff [0, 1, 5, 68] (fun w HS => ?_) ⟨rd, rd, rd, rd, .n1 20 rfl rfl (fun w HS => X.load underlying3 rfl rfl ((rdC.at 4 hr0 HS rfl).cellEl (hc12 0 _ rfl))), rd, rd, rd, rd, .n1 25 rfl rfl (fun w HS => X.load underlying3 rfl rfl ((rdC.at 4 hr1 HS rfl).cellEl (hc20 0 _ rfl))), rd, rd, rd, rd, rd, rd, .gw [(32, _), (28, _)] 11 false 28 ⟨rfl, rfl, tv⟩ rfl (sb (n_t (dT c24))) (fun w HS => X.load underlying3 rfl rfl ((rdC.at 4 hr0 HS rfl).cellEl (hc12 1 _ rfl))), rd, rd, rd, rd, .gw [(37, _), (28, _)] 11 false 28 ⟨rfl, rfl, tv⟩ rfl (sb (n_t (dT c24))) (fun w HS => X.load underlying3 rfl rfl ((rdC.at 4 hr1 HS rfl).cellEl (hc20 1 _ rfl))), rds⟩
      refine go ?_
      have HS := HS.ke [4]
      exact rt
    ·apply V.da [] [] [(17, _), (18, _), (19, _), (20, _), (21, _), (22, _), (23, _), (24, _), (25, _), (26, _), (27, _), (28, _), (29, _), (30, _), (31, _), (32, _), (33, _), (34, _), (35, _), (36, _), (37, _), (38, _), (39, _), (40, _), (41, _), (42, _), (43, _), (44, _), (45, _), (46, _), (47, _), (48, _), (49, _), (50, _), (51, _), (52, _), (53, _), (54, _), (55, _), (56, _), (57, _), (58, _), (59, _), (60, _), (61, _), (62, _), (63, _), (64, _), (65, _), (66, _), (67, _), (68, _)] mo HS
     rfl
     refine T.ff [0, 1, 5, 68] (fun w HS => ?_) ⟨rd, rd, rd, rd, .n1 20 rfl rfl (fun w HS => X.load underlying3 rfl rfl ((rdC.at 4 hr0 HS rfl).cellEl (hc12 0 _ rfl))), rd, rd, rd, rd, .n1 25 rfl rfl (fun w HS => X.load underlying3 rfl rfl ((rdC.at 4 hr1 HS rfl).cellEl (hc20 0 _ rfl))), rds⟩
     refine go ?_
     have HS := HS.ke [4]
     exact rt
   ·refine go ?_
    have HS := HS.ke [2]
    exact rt
 ·refine go ?_
  have HS := HS.ke [2]
  exact rt
def api_Status.beq (x y : api_Status) : Bool := ((x.State == y.State) && ((x.Line == y.Line) && (((x.Lines.1 == y.Lines.1) && ((x.Lines.2 == y.Lines.2) && true)) && ((x.Sent == y.Sent) && ((x.Acked == y.Acked) && ((x.Lost == y.Lost) && true))))))
end Go.Proofs.YtgkjmdapodgnfaaGreat

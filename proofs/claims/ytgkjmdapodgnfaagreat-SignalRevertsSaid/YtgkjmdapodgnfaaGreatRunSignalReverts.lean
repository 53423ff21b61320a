/- SignalReverts: the functions that its law reaches, as plain functions, and that the machine's calls come to what these say. Conditions: those that stand at each. -/
import Derived.Test.YtgkjmdapodgnfaaGreatRunSignalRevertsP6
set_option linter.all false
set_option maxRecDepth 100000
set_option maxHeartbeats 4000000
set_option synthInstance.maxSize 100000
set_option synthInstance.maxHeartbeats 1000000
namespace Go.Proofs.YtgkjmdapodgnfaaGreat
open Go.RowKit Go.Proofs.YtgkjmdapodgnfaaGreat.Sep Go.Proofs.YtgkjmdapodgnfaaGreat.Walk Go.Proofs.Tryz
attribute [local irreducible] V W At T Code.rounds RdO RdOk
set_option autoImplicit true
set_option relaxedAutoImplicit true
mutual
def station_Station_Status.j1 (a0 : station_Station) (x17 : api_Status) : Option api_Status := ((arq_Arq_Counts.f a0.arq).bind fun t21 => ((monitor_Monitor_State.f a0.sides.1.monitor).bind fun t34 => ((monitor_Monitor_State.f a0.sides.2.monitor).bind fun t41 => some (({ x17 with Lines := (t34, t41), Sent := t21.1, Acked := t21.2.1, Lost := t21.2.2 } : api_Status)))))
def station_Station_Status.j0 (a0 : station_Station) (x14 : api_Status) : Option api_Status := ((station_Station_twice.f a0).bind fun t48 => (if t48 = true then (station_Station_Status.j1 a0 ({ x14 with Line := 0 } : api_Status)) else (station_Station_Status.j1 a0 x14)))
end
def station_Station_Status.f (a0 : station_Station) : Option api_Status := ((arq_Arq_State.f a0.arq).bind fun t55 => ((aps_Aps_Line.f a0.aps).bind fun t60 => (station_Station_Status.j0 a0 ({ State := t55, Line := t60, Lines := (0, 0), Sent := 0, Acked := 0, Lost := 0 } : api_Status))))
theorem station_Station_Status.calls (H : station_Station_Status.f a0 = some r) (HS : St [blk b0 (#[vi a0.c.Mode, vi a0.c.Modulus, vi a0.c.Window, vi a0.c.T1, vi a0.c.N2, vi a0.c.Hold, vi a0.c.Wait, vi a0.c.Keep, vi a0.c.Queue, vi a0.c.Size, vi a0.c.Ring, vi a0.c.Rate, vi a0.c.Bad, vi a0.c.Good, vb a0.c.Revert, vb a0.c.Wide, pt b16_p0, pt b17_p0, pt b18_p0, Value.int .u32 a0.number, vi a0.steps, vi a0.line, pt b22_p0, pt b23_p0, pt b24_p0, vi a0.sides.1.counts.Good, vi a0.sides.1.counts.Bad, vi a0.sides.1.counts.Aborts, vi a0.sides.1.counts.Runts, vi a0.sides.1.counts.Giants, vi a0.sides.1.counts.Dropped, vi a0.sides.1.counts.Twins, pt b32_p0, pt b33_p0, pt b34_p0, vi a0.sides.2.counts.Good, vi a0.sides.2.counts.Bad, vi a0.sides.2.counts.Aborts, vi a0.sides.2.counts.Runts, vi a0.sides.2.counts.Giants, vi a0.sides.2.counts.Dropped, vi a0.sides.2.counts.Twins]) 128, arq_Arq.at b16_p0 a0.arq, aps_Aps.at b17_p0 a0.aps, twins_Table.at b18_p0 a0.twins, frame_Reader.at b22_p0 a0.sides.1.reader, monitor_Monitor.at b23_p0 a0.sides.1.monitor, ring_Ring.at b24_p0 a0.sides.1.ring, frame_Reader.at b32_p0 a0.sides.2.reader, monitor_Monitor.at b33_p0 a0.sides.2.monitor, ring_Ring.at b34_p0 a0.sides.2.ring, R] w0 w) : Calls Tryz.prog 31 #[pt b0] w (Ret fun u w => u = Value.agg #[vi r.State, vi r.Line, vi r.Lines.1, vi r.Lines.2, vi r.Sent, vi r.Acked, vi r.Lost] ∧ St [blk b0 (#[vi a0.c.Mode, vi a0.c.Modulus, vi a0.c.Window, vi a0.c.T1, vi a0.c.N2, vi a0.c.Hold, vi a0.c.Wait, vi a0.c.Keep, vi a0.c.Queue, vi a0.c.Size, vi a0.c.Ring, vi a0.c.Rate, vi a0.c.Bad, vi a0.c.Good, vb a0.c.Revert, vb a0.c.Wide, pt b16_p0, pt b17_p0, pt b18_p0, Value.int .u32 a0.number, vi a0.steps, vi a0.line, pt b22_p0, pt b23_p0, pt b24_p0, vi a0.sides.1.counts.Good, vi a0.sides.1.counts.Bad, vi a0.sides.1.counts.Aborts, vi a0.sides.1.counts.Runts, vi a0.sides.1.counts.Giants, vi a0.sides.1.counts.Dropped, vi a0.sides.1.counts.Twins, pt b32_p0, pt b33_p0, pt b34_p0, vi a0.sides.2.counts.Good, vi a0.sides.2.counts.Bad, vi a0.sides.2.counts.Aborts, vi a0.sides.2.counts.Runts, vi a0.sides.2.counts.Giants, vi a0.sides.2.counts.Dropped, vi a0.sides.2.counts.Twins]) 128, arq_Arq.at b16_p0 a0.arq, aps_Aps.at b17_p0 a0.aps, twins_Table.at b18_p0 a0.twins, frame_Reader.at b22_p0 a0.sides.1.reader, monitor_Monitor.at b23_p0 a0.sides.1.monitor, ring_Ring.at b24_p0 a0.sides.1.ring, frame_Reader.at b32_p0 a0.sides.2.reader, monitor_Monitor.at b33_p0 a0.sides.2.monitor, ring_Ring.at b34_p0 a0.sides.2.ring, R] w0 w) := by
 refine calls_enter func31 rfl rfl (go ?_)
 refine W.e (Y.alloc (z := Value.agg (#[vi (0), vi (0), vi (0), vi (0), vi (0), vi (0), vi (0)])) HS ze33) rfl ?_
 rintro _ w ⟨nb1, rfl, HS⟩
 refine gs ?_
 refine V.mj (σ := Nat × api_Status) [0, 2] (fun (nb13, x14) w => St [api_Status.at nb13 x14, api_Status.at nb1 (({ State := 0, Line := 0, Lines := (0, 0), Sent := 0, Acked := 0, Lost := 0 } : api_Status)), blk b0 (#[vi a0.c.Mode, vi a0.c.Modulus, vi a0.c.Window, vi a0.c.T1, vi a0.c.N2, vi a0.c.Hold, vi a0.c.Wait, vi a0.c.Keep, vi a0.c.Queue, vi a0.c.Size, vi a0.c.Ring, vi a0.c.Rate, vi a0.c.Bad, vi a0.c.Good, vb a0.c.Revert, vb a0.c.Wide, pt b16_p0, pt b17_p0, pt b18_p0, Value.int .u32 a0.number, vi a0.steps, vi a0.line, pt b22_p0, pt b23_p0, pt b24_p0, vi a0.sides.1.counts.Good, vi a0.sides.1.counts.Bad, vi a0.sides.1.counts.Aborts, vi a0.sides.1.counts.Runts, vi a0.sides.1.counts.Giants, vi a0.sides.1.counts.Dropped, vi a0.sides.1.counts.Twins, pt b32_p0, pt b33_p0, pt b34_p0, vi a0.sides.2.counts.Good, vi a0.sides.2.counts.Bad, vi a0.sides.2.counts.Aborts, vi a0.sides.2.counts.Runts, vi a0.sides.2.counts.Giants, vi a0.sides.2.counts.Dropped, vi a0.sides.2.counts.Twins]) 128, arq_Arq.at b16_p0 a0.arq, aps_Aps.at b17_p0 a0.aps, twins_Table.at b18_p0 a0.twins, frame_Reader.at b22_p0 a0.sides.1.reader, monitor_Monitor.at b23_p0 a0.sides.1.monitor, ring_Ring.at b24_p0 a0.sides.1.ring, frame_Reader.at b32_p0 a0.sides.2.reader, monitor_Monitor.at b33_p0 a0.sides.2.monitor, ring_Ring.at b34_p0 a0.sides.2.ring, R] w0 w ∧ station_Station_Status.j0 a0 x14 = some r) (fun (nb13, x14) => [(3, pt nb13)]) ?_ ?_
 ·apply V.da [4, 9, 11, 12] [10] [(6, _), (7, _), (8, _), (9, _), (11, _), (12, _), (13, _), (14, _)] mo HS
  rfl
  refine T.pm (es' := [4, 11, 9, 12]) rfl ?_
  refine T.two rfl rfl ⟨.mv 0, .nc 6, .fa 7 fo128_1, .ld 8 1 underlying118, .mv 0, .nc 11, .fa 12 fo128_2, .ld 13 1 underlying119, tv⟩ (T.step (es := [11, 9, 12]) _ [(9, pt b16_p0)] rfl ⟨.inr ⟨rfl, rfl⟩, tv⟩ (Or.inl rfl) (by intro d hd; cases hd; exact ⟨by decide, rfl, rfl⟩) [10] [0, 1, 2, 3] rfl rfl rfl rfl rfl (fun w HS => ?_)) (T.step (es := [4, 9, 12]) _ [] rfl tv (Or.inl rfl) (by intro d hd; cases hd; exact ⟨by decide, rfl, rfl⟩) [10] [] rfl rfl rfl rfl rfl (fun w HS => ?_))
  ·have HS : Sep.St _ w0 w := HS
   have HS := HS.fr 2
   obtain ⟨_, _, _, _, _, _, _, _, _, HS⟩ := arq_Arq.open HS
   refine Y.kl H func46 (fun _ h => arq_Arq_State.calls h HS.j7) ?_
   rintro t55 _ w H ⟨rfl, HS⟩
   have HS := HS.o7
   refine T.nw HS ?_
   refine T.two rfl rfl ⟨.mv 0, .nc 11, .fa 12 fo128_2, .ld 13 8 underlying119, tv⟩ (T.step (es := [9, 12]) _ [] rfl tv (Or.inl rfl) (by intro d hd; cases hd; exact ⟨by decide, rfl, rfl⟩) [10] [] rfl rfl rfl rfl rfl (fun w HS => ?_)) (T.step (es := [11, 12]) _ [(14, pt b17_p0)] rfl ⟨.inr ⟨rfl, rfl⟩, tv⟩ (Or.inl rfl) (by intro d hd; cases hd; exact ⟨by decide, rfl, rfl⟩) [] [5, 6, 7, 8] rfl rfl rfl rfl rfl (fun w HS => ?_))
   ·have HS : Sep.St _ w0 w := HS
    refine ⟨_, Y.alloc (z := Value.agg (#[vi (0), vi (0), vi (0), vi (0), vi (0), vi (0), vi (0)])) HS ze33, ?_⟩
    rintro _ w ⟨_, rfl, HS⟩
    refine T.nw HS ?_
    refine T.e [14] [] [5, 6, 7, 8] fun w HS => ?_
    have HS := HS.fr 10
    obtain ⟨_, HS⟩ := aps_Aps.open HS
    refine Y.kl H func47 (fun _ h => aps_Aps_Line.calls h HS.j1) ?_
    rintro t60 _ w H ⟨rfl, HS⟩
    have HS := HS.o1
    apply T.na [(15, _), (16, _)] HS
    exact nmk
    refine T.e [3, 16] [] [10] (fun w HS => ?_) ⟨.n2 10 15 rfl rfl rfl (fun w HS => X.bd (Value.agg #[vi t55, vi t60, vi (0), vi (0), vi (0), vi (0), vi (0)]) rfl (fun _ => by kernel_rfl)), rds⟩
    refine ⟨_, Y.storeSt (c' := #[vi t55, vi t60, vi (0), vi (0), vi (0), vi (0), vi (0)]) 1 [vi t55, vi t60, vi (0), vi (0), vi (0), vi (0), vi (0)] HS rfl inf33 rfl rfl rfl rfl rfl rfl, ?_⟩
    rintro _ w HS
    refine T.nn HS ?_
    refine T.ff [0, 2, 3] fun w HS => ?_
    have HS := (aps_Aps.close tv ((arq_Arq.close tv ((api_Status.close tv ((api_Status.close tv (HS.b [1])).b [9])).b [3, 3, 3, 3, 3, 3, 3])).b [3])).b [3, 2, 2, 1]
    exact At.mt (_, _) ⟨HS, H⟩
   ·have HS : Sep.St _ w0 w := HS
    have HS := HS.fr 9
    obtain ⟨_, HS⟩ := aps_Aps.open HS
    refine Y.kl H func47 (fun _ h => aps_Aps_Line.calls h HS.j1) ?_
    rintro t64 _ w H ⟨rfl, HS⟩
    have HS := HS.o1
    apply T.na [(15, _), (16, _)] HS
    exact nmk
    refine T.e [] [] [] (fun w HS => ?_) ⟨.n2 10 15 rfl rfl rfl (fun w HS => X.bd (Value.agg #[vi t55, vi t64, vi (0), vi (0), vi (0), vi (0), vi (0)]) rfl (fun _ => by kernel_rfl)), rds⟩
    refine ⟨_, Y.alloc (z := Value.agg (#[vi (0), vi (0), vi (0), vi (0), vi (0), vi (0), vi (0)])) HS ze33, ?_⟩
    rintro _ w ⟨_, rfl, HS⟩
    refine T.nw HS ?_
    refine T.e [3, 16] [] [10] (fun w HS => ?_) ⟨.n2 10 15 rfl rfl rfl (fun w HS => X.bd (Value.agg #[vi t55, vi t64, vi (0), vi (0), vi (0), vi (0), vi (0)]) rfl (fun _ => by kernel_rfl)), rds⟩
    refine ⟨_, Y.storeSt (c' := #[vi t55, vi t64, vi (0), vi (0), vi (0), vi (0), vi (0)]) 0 [vi t55, vi t64, vi (0), vi (0), vi (0), vi (0), vi (0)] HS rfl inf33 rfl rfl rfl rfl rfl rfl, ?_⟩
    rintro _ w HS
    refine T.nn HS ?_
    refine T.ff [0, 2, 3] fun w HS => ?_
    have HS := (aps_Aps.close tv ((arq_Arq.close tv ((api_Status.close tv ((api_Status.close tv HS).b [9])).b [3, 3, 3, 3, 3, 3, 3])).b [3])).b [3, 2, 2, 1]
    exact At.mt (_, _) ⟨HS, H⟩
  ·have HS : Sep.St _ w0 w := HS
   refine ⟨_, Y.alloc (z := Value.agg (#[vi (0), vi (0), vi (0), vi (0), vi (0), vi (0), vi (0)])) HS ze33, ?_⟩
   rintro _ w ⟨_, rfl, HS⟩
   refine T.nw HS ?_
   refine T.e [9] [10] [0, 1, 2, 3] fun w HS => ?_
   have HS := HS.fr 3
   obtain ⟨_, _, _, _, _, _, _, _, _, HS⟩ := arq_Arq.open HS
   refine Y.kl H func46 (fun _ h => arq_Arq_State.calls h HS.j7) ?_
   rintro t70 _ w H ⟨rfl, HS⟩
   have HS := HS.o7
   refine T.nw HS ?_
   refine T.e [14] [] [5, 6, 7, 8] fun w HS => ?_
   have HS := HS.fr 10
   obtain ⟨_, HS⟩ := aps_Aps.open HS
   refine Y.kl H func47 (fun _ h => aps_Aps_Line.calls h HS.j1) ?_
   rintro t74 _ w H ⟨rfl, HS⟩
   have HS := HS.o1
   apply T.na [(15, _), (16, _)] HS
   exact nmk
   refine T.e [3, 16] [] [10] (fun w HS => ?_) ⟨.n2 10 15 rfl rfl rfl (fun w HS => X.bd (Value.agg #[vi t70, vi t74, vi (0), vi (0), vi (0), vi (0), vi (0)]) rfl (fun _ => by kernel_rfl)), rds⟩
   refine ⟨_, Y.storeSt (c' := #[vi t70, vi t74, vi (0), vi (0), vi (0), vi (0), vi (0)]) 8 [vi t70, vi t74, vi (0), vi (0), vi (0), vi (0), vi (0)] HS rfl inf33 rfl rfl rfl rfl rfl rfl, ?_⟩
   rintro _ w HS
   refine T.nn HS ?_
   refine T.ff [0, 2, 3] fun w HS => ?_
   have HS := (aps_Aps.close tv ((arq_Arq.close tv ((api_Status.close tv ((api_Status.close tv (HS.b [8])).b [9])).b [3, 3, 3, 3, 3, 3, 3])).b [3])).b [3, 2, 2, 1]
   exact At.mt (_, _) ⟨HS, H⟩
 ·rintro ⟨nb13, x14⟩ w ⟨HS, H⟩
  refine V.mj (σ := api_Status) [0, 2, 3] (fun x17 w => St [api_Status.at nb13 x17, api_Status.at nb1 (({ State := 0, Line := 0, Lines := (0, 0), Sent := 0, Acked := 0, Lost := 0 } : api_Status)), blk b0 (#[vi a0.c.Mode, vi a0.c.Modulus, vi a0.c.Window, vi a0.c.T1, vi a0.c.N2, vi a0.c.Hold, vi a0.c.Wait, vi a0.c.Keep, vi a0.c.Queue, vi a0.c.Size, vi a0.c.Ring, vi a0.c.Rate, vi a0.c.Bad, vi a0.c.Good, vb a0.c.Revert, vb a0.c.Wide, pt b16_p0, pt b17_p0, pt b18_p0, Value.int .u32 a0.number, vi a0.steps, vi a0.line, pt b22_p0, pt b23_p0, pt b24_p0, vi a0.sides.1.counts.Good, vi a0.sides.1.counts.Bad, vi a0.sides.1.counts.Aborts, vi a0.sides.1.counts.Runts, vi a0.sides.1.counts.Giants, vi a0.sides.1.counts.Dropped, vi a0.sides.1.counts.Twins, pt b32_p0, pt b33_p0, pt b34_p0, vi a0.sides.2.counts.Good, vi a0.sides.2.counts.Bad, vi a0.sides.2.counts.Aborts, vi a0.sides.2.counts.Runts, vi a0.sides.2.counts.Giants, vi a0.sides.2.counts.Dropped, vi a0.sides.2.counts.Twins]) 128, arq_Arq.at b16_p0 a0.arq, aps_Aps.at b17_p0 a0.aps, twins_Table.at b18_p0 a0.twins, frame_Reader.at b22_p0 a0.sides.1.reader, monitor_Monitor.at b23_p0 a0.sides.1.monitor, ring_Ring.at b24_p0 a0.sides.1.ring, frame_Reader.at b32_p0 a0.sides.2.reader, monitor_Monitor.at b33_p0 a0.sides.2.monitor, ring_Ring.at b34_p0 a0.sides.2.ring, R] w0 w ∧ station_Station_Status.j1 a0 x17 = some r) (fun _ => []) ?_ ?_
  ·refine go ?_
   have HS := HS.b [2, 2, 2, 2, 2, 2, 2, 2, 2, 2]
   refine W.kl H func48 (fun _ h => station_Station_twice.calls h HS.j10) ?_
   rintro _ _ w H ⟨rfl, HS⟩
   have HS := HS.o10
   refine go ?_
   refine V.cv H rfl (fun _ H => go ?_) (fun _ H => go ?_)
   ·have HS := HS.fr 10
    obtain ⟨_, HS⟩ := api_Status.open HS
    refine go ?_
    refine W.sr 1 HS rfl rfl rfl fun w HS => go ?_
    have HS := (api_Status.close tv HS).b [0, 10]
    exact At.mt _ ⟨HS, H⟩
   ·have HS := HS.b [10, 10]
    exact At.mt _ ⟨HS, H⟩
  ·rintro x17 w ⟨HS, H⟩
   refine go ?_
   have HS := HS.fr 3
   obtain ⟨_, _, _, _, _, _, _, _, _, HS⟩ := arq_Arq.open HS
   refine W.kl H func49 (fun _ h => arq_Arq_Counts.calls h HS.j7) ?_
   rintro t21 _ w H ⟨rfl, HS⟩
   have HS := HS.o7
   refine go ?_
   have HS := HS.fr 7
   obtain ⟨_, HS⟩ := api_Status.open HS
   refine go ?_
   refine W.sr 4 HS rfl rfl rfl fun w HS => go ?_
   refine W.sr 5 HS rfl rfl rfl fun w HS => go ?_
   refine W.sr 6 HS rfl rfl rfl fun w HS => go ?_
   refine V.rs 2 [(2, pt nb1), (3, pt nb13), (35, Value.agg #[pt b22_p0, pt b23_p0, pt b24_p0, vi a0.sides.1.counts.Good, vi a0.sides.1.counts.Bad, vi a0.sides.1.counts.Aborts, vi a0.sides.1.counts.Runts, vi a0.sides.1.counts.Giants, vi a0.sides.1.counts.Dropped, vi a0.sides.1.counts.Twins, pt b32_p0, pt b33_p0, pt b34_p0, vi a0.sides.2.counts.Good, vi a0.sides.2.counts.Bad, vi a0.sides.2.counts.Aborts, vi a0.sides.2.counts.Runts, vi a0.sides.2.counts.Giants, vi a0.sides.2.counts.Dropped, vi a0.sides.2.counts.Twins]), (36, vi (0))] (go ?_)
   refine W.r (X.ixK (Value.agg #[pt b22_p0, pt b23_p0, pt b24_p0, vi a0.sides.1.counts.Good, vi a0.sides.1.counts.Bad, vi a0.sides.1.counts.Aborts, vi a0.sides.1.counts.Runts, vi a0.sides.1.counts.Giants, vi a0.sides.1.counts.Dropped, vi a0.sides.1.counts.Twins]) rfl rfl (fun _ => by kernel_rfl)) rfl ?_
   refine W.e (Y.alloc (z := Value.agg (#[Value.pointer none, Value.pointer none, Value.pointer none, vi (0), vi (0), vi (0), vi (0), vi (0), vi (0), vi (0)])) HS ze125) rfl ?_
   rintro _ w ⟨_, rfl, HS⟩
   refine go ?_
   refine W.ss HS rfl rfl rfl rfl fun w HS => go ?_
   have HS := HS.fr 14
   obtain ⟨_, _, HS⟩ := monitor_Monitor.open HS
   refine W.kl H func50 (fun _ h => monitor_Monitor_State.calls h HS.j2) ?_
   rintro t34 _ w H ⟨rfl, HS⟩
   have HS := HS.o2
   refine go ?_
   refine W.sr 2 HS rfl rfl rfl fun w HS => go ?_
   refine At.ow [(2, pt nb1), (3, pt nb13), (35, Value.agg #[pt b22_p0, pt b23_p0, pt b24_p0, vi a0.sides.1.counts.Good, vi a0.sides.1.counts.Bad, vi a0.sides.1.counts.Aborts, vi a0.sides.1.counts.Runts, vi a0.sides.1.counts.Giants, vi a0.sides.1.counts.Dropped, vi a0.sides.1.counts.Twins, pt b32_p0, pt b33_p0, pt b34_p0, vi a0.sides.2.counts.Good, vi a0.sides.2.counts.Bad, vi a0.sides.2.counts.Aborts, vi a0.sides.2.counts.Runts, vi a0.sides.2.counts.Giants, vi a0.sides.2.counts.Dropped, vi a0.sides.2.counts.Twins]), (36, vi (1))] (go ?_)
   refine W.r (X.ixK (Value.agg #[pt b32_p0, pt b33_p0, pt b34_p0, vi a0.sides.2.counts.Good, vi a0.sides.2.counts.Bad, vi a0.sides.2.counts.Aborts, vi a0.sides.2.counts.Runts, vi a0.sides.2.counts.Giants, vi a0.sides.2.counts.Dropped, vi a0.sides.2.counts.Twins]) rfl rfl (fun _ => by kernel_rfl)) rfl ?_
   refine W.e (Y.alloc (z := Value.agg (#[Value.pointer none, Value.pointer none, Value.pointer none, vi (0), vi (0), vi (0), vi (0), vi (0), vi (0), vi (0)])) HS ze125) rfl ?_
   rintro _ w ⟨_, rfl, HS⟩
   refine go ?_
   refine W.ss HS rfl rfl rfl rfl fun w HS => go ?_
   have HS := HS.fr 19
   obtain ⟨_, _, HS⟩ := monitor_Monitor.open HS
   refine W.kl H func50 (fun _ h => monitor_Monitor_State.calls h HS.j2) ?_
   rintro t41 _ w H ⟨rfl, HS⟩
   have HS := HS.o2
   refine go ?_
   refine W.sr 3 HS rfl rfl rfl fun w HS => go ?_
   refine At.ow [(2, pt nb1), (3, pt nb13), (35, Value.agg #[pt b22_p0, pt b23_p0, pt b24_p0, vi a0.sides.1.counts.Good, vi a0.sides.1.counts.Bad, vi a0.sides.1.counts.Aborts, vi a0.sides.1.counts.Runts, vi a0.sides.1.counts.Giants, vi a0.sides.1.counts.Dropped, vi a0.sides.1.counts.Twins, pt b32_p0, pt b33_p0, pt b34_p0, vi a0.sides.2.counts.Good, vi a0.sides.2.counts.Bad, vi a0.sides.2.counts.Aborts, vi a0.sides.2.counts.Runts, vi a0.sides.2.counts.Giants, vi a0.sides.2.counts.Dropped, vi a0.sides.2.counts.Twins]), (36, vi (2))] (go ?_)
   have HS := HS.fr 14
   obtain ⟨_, HS⟩ := api_Status.open HS
   refine W.ss HS rfl rfl rfl rfl fun w HS => go ?_
   have hv47 := run_loadSt (P := Tryz.prog) (p := 0) 0 [vi x17.State, vi x17.Line, vi t34, vi t41, vi t21.1, vi t21.2.1, vi t21.2.2] HS rfl underlying33 rfl inf33 rfl
   have HS := (monitor_Monitor.close tv ((monitor_Monitor.close tv ((arq_Arq.close tv (HS.b [8, 8, 8, 8, 8, 8, 8])).b [5, 5])).b [3, 3])).ke [7, 2, 6, 6, 6, 1, 5, 5, 0, 4, 4]
   cases H
   exact At.retv1 rfl ⟨_, rfl, hv47⟩ ⟨_, rfl, rfl, HS⟩
abbrev V34.Q (b : Nat) (l0 l1 l2 l3 l4 l5 l6 l7 l8 l9 l10 l11 l12 l13 : Int) (L : List As) : List As := blk b (#[vi l0, vi l1, vi l2, vi l3, vi l4, vi l5, vi l6, vi l7, vi l8, vi l9, vi l10, vi l11, vi l12, vi l13]) 34 :: L
abbrev V34.P (b : Nat) (x : (api_Status × api_Status)) (L : List As) : List As := V34.Q b x.1.State x.1.Line x.1.Lines.1 x.1.Lines.2 x.1.Sent x.1.Acked x.1.Lost x.2.State x.2.Line x.2.Lines.1 x.2.Lines.2 x.2.Sent x.2.Acked x.2.Lost L
def V34.at (b : Nat) (x : (api_Status × api_Status)) : As := fun h => True ∧ Sp (V34.P b x []) h
theorem V34.open {b : Nat} {x : (api_Status × api_Status)} {L : List As} {w0 w : World} (hs : Sep.St (V34.at b x :: L) w0 w) : True ∧ Sep.St (V34.P b x L) w0 w := by
 obtain ⟨ho, ht, hu, h, hon, h1, h2, hd, e1, e2, ⟨hi, hA⟩, hl⟩ := hs
 exact ⟨hi, St.open (m := V34.P b x []) ⟨ho, ht, hu, h, hon, h1, h2, hd, e1, e2, hA, hl⟩⟩
theorem V34.close {b : Nat} {l0 l1 l2 l3 l4 l5 l6 l7 l8 l9 l10 l11 l12 l13 : Int} {L : List As} {w0 w : World} (hi : True) (hs : Sep.St (V34.Q b l0 l1 l2 l3 l4 l5 l6 l7 l8 l9 l10 l11 l12 l13 L) w0 w) : Sep.St (V34.at b (({ State := l0, Line := l1, Lines := (l2, l3), Sent := l4, Acked := l5, Lost := l6 } : api_Status), ({ State := l7, Line := l8, Lines := (l9, l10), Sent := l11, Acked := l12, Lost := l13 } : api_Status)) :: L) w0 w := by
 have h2 := St.join (m := V34.Q b l0 l1 l2 l3 l4 l5 l6 l7 l8 l9 l10 l11 l12 l13 []) hs
 exact h2.mono fun h hh => ⟨hi, hh⟩
def signalman_After.f (k : Nat) (a0 : api_Config) (a1 : List api_Op) : Option ((api_Status × api_Status) × Bool) := ((signalman_play.f k a0 a1).bind fun t3 => (if t3.1.isNone = true then some ((({ State := 0, Line := 0, Lines := (0, 0), Sent := 0, Acked := 0, Lost := 0 } : api_Status), ({ State := 0, Line := 0, Lines := (0, 0), Sent := 0, Acked := 0, Lost := 0 } : api_Status)), false) else ((station_Station_Status.f (((t3.1.getD default).w).stations.1)).bind fun t26 => ((station_Station_Status.f (((t3.1.getD default).w).stations.2)).bind fun t30 => some (((t26 : api_Status), (t30 : api_Status)), true)))))
theorem signalman_After.calls (H : signalman_After.f k a0 a1 = some r) (HS : St [R] w0 w) (hr1 : rdC R 6 (.slice sa1 a1.length sc1) a1.length sd1) (ht1 : ∀ h, R h → tie api_Op.El sd1 a1 h) : Calls Tryz.prog 15 #[Value.agg #[vi a0.Mode, vi a0.Modulus, vi a0.Window, vi a0.T1, vi a0.N2, vi a0.Hold, vi a0.Wait, vi a0.Keep, vi a0.Queue, vi a0.Size, vi a0.Ring, vi a0.Rate, vi a0.Bad, vi a0.Good, vb a0.Revert, vb a0.Wide], vs sa1 a1.length sc1] w (Ret fun u w => u = Value.tuple #[Value.agg #[vi r.1.1.State, vi r.1.1.Line, vi r.1.1.Lines.1, vi r.1.1.Lines.2, vi r.1.1.Sent, vi r.1.1.Acked, vi r.1.1.Lost, vi r.1.2.State, vi r.1.2.Line, vi r.1.2.Lines.1, vi r.1.2.Lines.2, vi r.1.2.Sent, vi r.1.2.Acked, vi r.1.2.Lost], vb r.2] ∧ St [R] w0 w) := by
 refine calls_enter func15 rfl rfl ?_
 have HS := St.more 0 HS rfl ht1 tie.pers
 refine go ?_
 refine W.e (Y.box HS rfl) rfl ?_
 rintro _ w ⟨_, rfl, HS⟩
 refine W.e (Y.alloc (z := Value.agg (#[vi (0), vi (0), vi (0), vi (0), vi (0), vi (0), vi (0), vi (0), vi (0), vi (0), vi (0), vi (0), vi (0), vi (0)])) HS ze34) rfl ?_
 rintro _ w ⟨_, rfl, HS⟩
 refine go ?_
 obtain ⟨_, A4, H⟩ := bind_s H
 refine ite_c H (fun c5 H => ?_) (fun c5 H => ?_)
 ·refine W.e (Y.cl func29 (signalman_play.calls A4 HS.j0 (rdC.part 3 hr1 rfl) (fun h hh => let ⟨_, l, t⟩ := Sp.has 2 hh rfl; tie.mono t l))) rfl ?_
  rintro _ w ⟨bt3_0, at3_1, ct3_1, rfl, HS⟩
  have HS := St.optN c5 HS.o2
  rw [optv_n c5]
  refine go ?_
  refine W.r (X.eqP underlying66 rfl rfl) rfl (go ?_)
  refine W.r (X.bd (Value.agg #[vi (0), vi (0), vi (0), vi (0), vi (0), vi (0), vi (0), vi (0), vi (0), vi (0), vi (0), vi (0), vi (0), vi (0)]) rfl (fun _ => by kernel_rfl)) rfl ?_
  refine W.ss HS rfl rfl rfl rfl fun w HS => go ?_
  have hv12 := run_loadSt (P := Tryz.prog) (p := 0) 1 [vi (0), vi (0), vi (0), vi (0), vi (0), vi (0), vi (0), vi (0), vi (0), vi (0), vi (0), vi (0), vi (0), vi (0)] HS rfl underlying34 rfl inf34 rfl
  have HS := HS.ke [4]
  cases H
  exact At.retv2 rfl ⟨_, rfl, hv12⟩ rfl ⟨_, rfl, rfl, HS⟩
 ·refine W.e (Y.cl func29 (signalman_play.calls A4 HS.j0 (rdC.part 3 hr1 rfl) (fun h hh => let ⟨_, l, t⟩ := Sp.has 2 hh rfl; tie.mono t l))) rfl ?_
  rintro _ w ⟨bt3_0, at3_1, ct3_1, rfl, HS⟩
  have HS := St.optS default c5 HS.o2
  rw [optv_s c5]
  refine go ?_
  refine W.r (X.eqP underlying66 rfl rfl) rfl (go ?_)
  obtain ⟨b0_20, _, _, _, _, HS⟩ := signalman_player.open HS
  apply V.da [4, 5, 10, 11, 13] [12, 14] [(17, _), (18, _), (19, _), (20, _), (23, _), (24, _), (25, _), (26, _)] mo HS
  rfl
  refine T.e [20] [12, 14] [0, 1, 2, 3] fun w HS => ?_
  refine ⟨_, Y.cl (vs := [pt b0_20, vi (0)]) func30 (calls_enter func30 rfl rfl ?_), fun _ _ h => h⟩
  refine go ?_
  refine W.inl (Y.cl (vs := [vi (0)]) func45 (calls_enter func45 rfl rfl ?_)) rfl rfl rfl
  refine go ?_
  refine At.ret1 rfl rfl ⟨_, rfl, ?_⟩
  refine go ?_
  have HS := HS.fr 1
  obtain ⟨_, _, _, _, _, _, _, _, _, _, _, _, _, _, _, _, _, _, _, _, _, _, _, _, _, _, _, _, _, _, _, HS⟩ := world_World.open HS
  refine go ?_
  refine At.ret1 rfl rfl ⟨_, rfl, ?_⟩
  refine T.nw HS ?_
  refine T.e [21] [12, 14] [] fun w HS => ?_
  have HS := HS.fr 1
  obtain ⟨_, _, _, _, _, _, _, _, _, _, HS⟩ := station_Station.open HS
  refine Y.kl H func31 (fun _ h => station_Station_Status.calls h HS.j10) ?_
  rintro t26 _ w H ⟨rfl, HS⟩
  have HS := HS.o10
  refine T.nw HS ?_
  refine T.e [26] [12, 14] [6, 7, 8, 9] fun w HS => ?_
  refine ⟨_, Y.cl (vs := [pt b0_20, vi (1)]) func30 (calls_enter func30 rfl rfl ?_), fun _ _ h => h⟩
  refine go ?_
  refine W.inl (Y.cl (vs := [vi (1)]) func45 (calls_enter func45 rfl rfl ?_)) rfl rfl rfl
  refine go ?_
  refine At.ret1 rfl rfl ⟨_, rfl, ?_⟩
  refine go ?_
  refine At.ret1 rfl rfl ⟨_, rfl, ?_⟩
  refine T.nw HS ?_
  refine T.e [27] [14] [] fun w HS => ?_
  have HS := HS.fr 11
  obtain ⟨_, _, _, _, _, _, _, _, _, _, HS⟩ := station_Station.open HS
  refine Y.kl H func31 (fun _ h => station_Station_Status.calls h HS.j10) ?_
  rintro t30 _ w H ⟨rfl, HS⟩
  have HS := HS.o10
  apply T.na [(28, _), (29, _)] HS
  exact nmk
  refine T.e [4, 29] [] [12] (fun w HS => ?_) ⟨.n2 22 28 rfl rfl rfl (fun w HS => X.bd (Value.agg #[vi t26.State, vi t26.Line, vi t26.Lines.1, vi t26.Lines.2, vi t26.Sent, vi t26.Acked, vi t26.Lost, vi t30.State, vi t30.Line, vi t30.Lines.1, vi t30.Lines.2, vi t30.Sent, vi t30.Acked, vi t30.Lost]) rfl (fun _ => by kernel_rfl)), rds⟩
  refine ⟨_, Y.storeSt (c' := #[vi t26.State, vi t26.Line, vi t26.Lines.1, vi t26.Lines.2, vi t26.Sent, vi t26.Acked, vi t26.Lost, vi t30.State, vi t30.Line, vi t30.Lines.1, vi t30.Lines.2, vi t30.Sent, vi t30.Acked, vi t30.Lost]) 45 [vi t26.State, vi t26.Line, vi t26.Lines.1, vi t26.Lines.2, vi t26.Sent, vi t26.Acked, vi t26.Lost, vi t30.State, vi t30.Line, vi t30.Lines.1, vi t30.Lines.2, vi t30.Sent, vi t30.Acked, vi t30.Lost] HS rfl inf34 rfl rfl rfl rfl rfl rfl, ?_⟩
  rintro _ w HS
  apply T.na [(5, _)] HS
  exact nmk
  refine T.ff [4, 5] fun w HS => ?_
  refine go ?_
  have hv32 := run_loadSt (P := Tryz.prog) (p := 0) 45 [vi t26.State, vi t26.Line, vi t26.Lines.1, vi t26.Lines.2, vi t26.Sent, vi t26.Acked, vi t26.Lost, vi t30.State, vi t30.Line, vi t30.Lines.1, vi t30.Lines.2, vi t30.Sent, vi t30.Acked, vi t30.Lost] HS rfl underlying34 rfl inf34 rfl
  have HS := HS.ke [48]
  cases H
  exact At.retv2 rfl ⟨_, rfl, hv32⟩ rfl ⟨_, rfl, rfl, HS⟩
mutual
def signalmanlaw25_SignalReverts.j0 (k : Nat) (a0 : Int) (a1 : Bool) (a2 : Int) (t1 : Bool) (x3 : Bool) : Option Bool := (if x3 = true then some t1 else ((signalmanlaw20_Good.f 1 3 a0 a1 false).bind fun t6 => ((signalmanref20_Settle.f ({ t6 with Rate := w64 (8 + (iand .i64 t6.Rate (31))) } : api_Config)).bind fun t9 => ((signalman_After.f k ({ t6 with Rate := w64 (8 + (iand .i64 t6.Rate (31))) } : api_Config) ([({ Kind := 1, At := 0, Line := 0, N := 100, Fault := 0, B := ([] : List Int) } : api_Op), ({ Kind := 7, At := 0, Line := 0, N := 0, Fault := 1, B := ([] : List Int) } : api_Op), ({ Kind := 7, At := 1, Line := 0, N := 0, Fault := 1, B := ([] : List Int) } : api_Op), ({ Kind := 1, At := 0, Line := 0, N := w64 ((w64 ((w64 ((w64 (4 * t6.Keep)) + t6.Hold)) + 20)) + a2), Fault := 0, B := ([] : List Int) } : api_Op)] : List api_Op)).bind fun t14 => (if ((([({ Kind := 1, At := 0, Line := 0, N := 100, Fault := 0, B := ([] : List Int) } : api_Op), ({ Kind := 7, At := 0, Line := 0, N := 0, Fault := 1, B := ([] : List Int) } : api_Op), ({ Kind := 7, At := 1, Line := 0, N := 0, Fault := 1, B := ([] : List Int) } : api_Op), ({ Kind := 1, At := 0, Line := 0, N := w64 ((w64 ((w64 ((w64 (4 * t6.Keep)) + t6.Hold)) + 20)) + a2), Fault := 0, B := ([] : List Int) } : api_Op)] : List api_Op)).length : Int) + (([({ Kind := 7, At := 0, Line := 0, N := 0, Fault := 0, B := ([] : List Int) } : api_Op), ({ Kind := 7, At := 1, Line := 0, N := 0, Fault := 0, B := ([] : List Int) } : api_Op), ({ Kind := 1, At := 0, Line := 0, N := t9, Fault := 0, B := ([] : List Int) } : api_Op)] : List api_Op)).length ≤ 1099511627776 then ((signalman_After.f k ({ t6 with Rate := w64 (8 + (iand .i64 t6.Rate (31))) } : api_Config) (([({ Kind := 1, At := 0, Line := 0, N := 100, Fault := 0, B := ([] : List Int) } : api_Op), ({ Kind := 7, At := 0, Line := 0, N := 0, Fault := 1, B := ([] : List Int) } : api_Op), ({ Kind := 7, At := 1, Line := 0, N := 0, Fault := 1, B := ([] : List Int) } : api_Op), ({ Kind := 1, At := 0, Line := 0, N := w64 ((w64 ((w64 ((w64 (4 * t6.Keep)) + t6.Hold)) + 20)) + a2), Fault := 0, B := ([] : List Int) } : api_Op)] : List api_Op) ++ ([({ Kind := 7, At := 0, Line := 0, N := 0, Fault := 0, B := ([] : List Int) } : api_Op), ({ Kind := 7, At := 1, Line := 0, N := 0, Fault := 0, B := ([] : List Int) } : api_Op), ({ Kind := 1, At := 0, Line := 0, N := t9, Fault := 0, B := ([] : List Int) } : api_Op)] : List api_Op))).bind fun t23 => (if a1 = true then (if t14.2 = true then (if t23.2 = true then (if t14.1.1.Line = 1 then (if t14.1.2.Line = 1 then (if t23.1.1.Line = 0 then some (decide (t23.1.2.Line = 0)) else some false) else some false) else some false) else some false) else some false) else (if t14.2 = true then (if t23.2 = true then (if t14.1.1.Line = 1 then (if t14.1.2.Line = 1 then (if t23.1.1.Line = 1 then some (decide (t23.1.2.Line = 1)) else some false) else some false) else some false) else some false) else some false))) else none)))))
end
def signalmanlaw25_SignalReverts.f (k : Nat) (a0 : Int) (a1 : Bool) (a2 : Int) : Option Bool := ((signalmanlaw25_alive.f k ).bind fun t1 => (if t1 = true then (if a2 < 0 then (signalmanlaw25_SignalReverts.j0 k a0 a1 a2 t1 true) else (signalmanlaw25_SignalReverts.j0 k a0 a1 a2 t1 (decide (a2 > 300)))) else (signalmanlaw25_SignalReverts.j0 k a0 a1 a2 t1 true)))
theorem signalmanlaw25_SignalReverts.calls (H : signalmanlaw25_SignalReverts.f k a0 a1 a2 = some r) (HS : St [R] w0 w) : Calls Tryz.prog 3 #[vi a0, vb a1, vi a2] w (Ret fun u w => u = vb r ∧ St [R] w0 w) := by
 refine calls_enter func3 rfl rfl (go ?_)
 refine W.kl H func12 (fun _ h => signalmanlaw25_alive.calls h HS.j0) ?_
 rintro t1 _ w H ⟨rfl, HS⟩
 have HS := HS.o0
 refine gs ?_
 refine V.seq ?_
 refine V.mj (σ := Bool) [0, 1, 2, 7] (fun x3 w => St [R] w0 w ∧ ∃ kf4, kf4 ≤ k ∧ signalmanlaw25_SignalReverts.j0 kf4 a0 a1 a2 t1 x3 = some r) (fun x3 => [(27, vb x3)]) ?_ ?_
 ·refine go ?_
  refine W.cx 20 H rfl (fun _ H => go ?_) (fun _ H => go ?_)
  ·refine W.cd 24 H rfl (fun _ H => go ?_) (fun _ H => go ?_)
   ·exact At.mt _ ⟨HS, k, by omega, H⟩
   ·exact At.mt _ ⟨HS, k, by omega, H⟩
  ·exact At.mt _ ⟨HS, k, by omega, H⟩
 ·rintro x3 w ⟨HS, kf4, _, H⟩
  refine V.cv H rfl (fun _ H => go ?_) (fun _ H => go ?_)
  ·exact rt
  ·refine W.kl H func13 (fun _ h => signalmanlaw20_Good.calls h HS.j0) ?_
   rintro t6 _ w H ⟨rfl, HS⟩
   have HS := HS.o0
   refine W.e (Y.alloc (z := Value.agg (#[vi (0), vi (0), vi (0), vi (0), vi (0), vi (0), vi (0), vi (0), vi (0), vi (0), vi (0), vi (0), vi (0), vi (0), vb false, vb false])) HS ze24) rfl ?_
   rintro _ w ⟨_, rfl, HS⟩
   refine W.ss HS rfl rfl rfl rfl fun w HS => go ?_
   refine W.r (X.and rfl rfl) rfl (go ?_)
   refine W.sr 11 HS rfl rfl rfl fun w HS => go ?_
   refine W.kl H func14 (fun _ h => signalmanref20_Settle.calls h HS.j0) ?_
   rintro t9 _ w H ⟨rfl, HS⟩
   have HS := HS.o0
   refine go ?_
   refine W.r (X.bd (Value.agg #[vi (1), vi (0), vi (0), vi (100), vi (0), vs none 0 0]) rfl (fun _ => by kernel_rfl)) rfl ?_
   refine W.r (X.bd (Value.agg #[vi (7), vi (0), vi (0), vi (0), vi (1), vs none 0 0]) rfl (fun _ => by kernel_rfl)) rfl ?_
   refine W.r (X.bd (Value.agg #[vi (7), vi (1), vi (0), vi (0), vi (1), vs none 0 0]) rfl (fun _ => by kernel_rfl)) rfl (go ?_)
   refine W.r (X.bd (Value.agg #[vi (1), vi (0), vi (0), vi (w64 ((w64 ((w64 ((w64 (4 * t6.Keep)) + t6.Hold)) + 20)) + a2)), vi (0), vs none 0 0]) rfl (fun _ => by kernel_rfl)) rfl ?_
   have HS := St.row_freeze (row_nilF (Value.int .u8) 5 1 (St.row_freeze (row_nilF (Value.int .u8) 5 1 (St.row_freeze (row_nilF (Value.int .u8) 5 1 (St.row_freeze (row_nilF (Value.int .u8) 5 1 HS)))))))
   refine W.e (Y.lc (e := 29) (sz := 6) [vi (1), vi (0), vi (0), vi (100), vi (0), vs none ([] : List Int).length 0, vi (7), vi (0), vi (0), vi (0), vi (1), vs none ([] : List Int).length 0, vi (7), vi (1), vi (0), vi (0), vi (1), vs none ([] : List Int).length 0, vi (1), vi (0), vi (0), vi (w64 ((w64 ((w64 ((w64 (4 * t6.Keep)) + t6.Hold)) + 20)) + a2)), vi (0), vs none ([] : List Int).length 0] HS rfl rfl (fun _ => by kernel_rfl)) rfl ?_
   rintro _ w ⟨_, rfl, HS⟩
   have HS := St.tie_cons (((api_Op.pack (x := ({ Kind := 1, At := 0, Line := 0, N := 100, Fault := 0, B := ([] : List Int) } : api_Op)) ((St.tie_cons (((api_Op.pack (x := ({ Kind := 7, At := 0, Line := 0, N := 0, Fault := 1, B := ([] : List Int) } : api_Op)) ((St.tie_cons (((api_Op.pack (x := ({ Kind := 7, At := 1, Line := 0, N := 0, Fault := 1, B := ([] : List Int) } : api_Op)) ((St.tie_cons (((api_Op.pack (x := ({ Kind := 1, At := 0, Line := 0, N := w64 ((w64 ((w64 ((w64 (4 * t6.Keep)) + t6.Hold)) + 20)) + a2), Fault := 0, B := ([] : List Int) } : api_Op)) ((St.put (A := tie api_Op.El ([]) ([] : List api_Op)) (fun _ => tie.nil) HS).more 2 rfl (fun _ t => t) fsl.pers)).fr 1).fr 1)).more 3 rfl (fun _ t => t) fsl.pers)).fr 1).fr 1)).more 4 rfl (fun _ t => t) fsl.pers)).fr 1).fr 1)).more 5 rfl (fun _ t => t) fsl.pers)).fr 1).fr 1)
   refine go ?_
   refine W.kl H func15 (fun _ h => signalman_After.calls h HS.j0 (rdC.part 1 row_rd rfl) (fun h hh => let ⟨_, l, t⟩ := Sp.has 0 hh rfl; tie.mono t l)) ?_
   rintro _ _ w H ⟨rfl, HS⟩
   have HS := HS.o0
   refine go ?_
   refine W.e (Y.alloc (z := Value.agg (#[vi (0), vi (0), vi (0), vi (0), vi (0), vi (0), vi (0), vi (0), vi (0), vi (0), vi (0), vi (0), vi (0), vi (0)])) HS ze34) rfl ?_
   rintro _ w ⟨_, rfl, HS⟩
   refine W.ss HS rfl rfl rfl rfl fun w HS => go ?_
   refine W.r (X.bd (Value.agg #[vi (7), vi (0), vi (0), vi (0), vi (0), vs none 0 0]) rfl (fun _ => by kernel_rfl)) rfl ?_
   refine W.r (X.bd (Value.agg #[vi (7), vi (1), vi (0), vi (0), vi (0), vs none 0 0]) rfl (fun _ => by kernel_rfl)) rfl (go ?_)
   refine W.r (X.bd (Value.agg #[vi (1), vi (0), vi (0), vi t9, vi (0), vs none 0 0]) rfl (fun _ => by kernel_rfl)) rfl ?_
   have HS := St.row_freeze (row_nilF (Value.int .u8) 5 1 (St.row_freeze (row_nilF (Value.int .u8) 5 1 (St.row_freeze (row_nilF (Value.int .u8) 5 1 HS)))))
   refine W.e (Y.lc (e := 29) (sz := 6) [vi (7), vi (0), vi (0), vi (0), vi (0), vs none ([] : List Int).length 0, vi (7), vi (1), vi (0), vi (0), vi (0), vs none ([] : List Int).length 0, vi (1), vi (0), vi (0), vi t9, vi (0), vs none ([] : List Int).length 0] HS rfl rfl (fun _ => by kernel_rfl)) rfl ?_
   rintro _ w ⟨_, rfl, HS⟩
   have HS := St.tie_cons (((api_Op.pack (x := ({ Kind := 7, At := 0, Line := 0, N := 0, Fault := 0, B := ([] : List Int) } : api_Op)) ((St.tie_cons (((api_Op.pack (x := ({ Kind := 7, At := 1, Line := 0, N := 0, Fault := 0, B := ([] : List Int) } : api_Op)) ((St.tie_cons (((api_Op.pack (x := ({ Kind := 1, At := 0, Line := 0, N := t9, Fault := 0, B := ([] : List Int) } : api_Op)) ((St.put (A := tie api_Op.El ([]) ([] : List api_Op)) (fun _ => tie.nil) HS).more 2 rfl (fun _ t => t) fsl.pers)).fr 1).fr 1)).more 3 rfl (fun _ t => t) fsl.pers)).fr 1).fr 1)).more 4 rfl (fun _ t => t) fsl.pers)).fr 1).fr 1)
   obtain ⟨_, H⟩ := ite_n H
   refine W.e (Y.app (xs := ([({ Kind := 1, At := 0, Line := 0, N := 100, Fault := 0, B := ([] : List Int) } : api_Op), ({ Kind := 7, At := 0, Line := 0, N := 0, Fault := 1, B := ([] : List Int) } : api_Op), ({ Kind := 7, At := 1, Line := 0, N := 0, Fault := 1, B := ([] : List Int) } : api_Op), ({ Kind := 1, At := 0, Line := 0, N := w64 ((w64 ((w64 ((w64 (4 * t6.Keep)) + t6.Hold)) + 20)) + a2), Fault := 0, B := ([] : List Int) } : api_Op)] : List api_Op)) (ys := ([({ Kind := 7, At := 0, Line := 0, N := 0, Fault := 0, B := ([] : List Int) } : api_Op), ({ Kind := 7, At := 1, Line := 0, N := 0, Fault := 0, B := ([] : List Int) } : api_Op), ({ Kind := 1, At := 0, Line := 0, N := t9, Fault := 0, B := ([] : List Int) } : api_Op)] : List api_Op)) 7 underlying30 ap29 rfl (by decide) HS rfl rfl rfl (rdC.at 1 row_rd HS rfl) (St.tie_one 0 HS rfl) (by omega) (by omega)) rfl ?_
   rintro _ w ⟨_, _, rfl, HS⟩
   have HS := St.tie_app 1 (HS.fr 6) rfl
   refine go ?_
   refine W.kl H func15 (fun _ h => signalman_After.calls h HS.j0 (rdC.part 7 row_rd rfl) (fun h hh => let ⟨_, l, t⟩ := Sp.has 0 hh rfl; tie.mono t l)) ?_
   rintro _ _ w H ⟨rfl, HS⟩
   have HS := HS.o0
   refine go ?_
   refine W.e (Y.alloc (z := Value.agg (#[vi (0), vi (0), vi (0), vi (0), vi (0), vi (0), vi (0), vi (0), vi (0), vi (0), vi (0), vi (0), vi (0), vi (0)])) HS ze34) rfl ?_
   rintro _ w ⟨_, rfl, HS⟩
   refine W.ss HS rfl rfl rfl rfl fun w HS => go ?_
   refine V.cv H rfl (fun _ H => go ?_) (fun _ H => go ?_)
   ·refine W.cv 75 H rfl (fun _ H => go ?_) (fun _ H => go ?_)
    ·refine W.cv 78 H rfl (fun _ H => go ?_) (fun _ H => go ?_)
     ·refine W.cd 84 H rfl (fun _ H => go ?_) (fun _ H => go ?_)
      ·refine W.cd 90 H rfl (fun _ H => go ?_) (fun _ H => go ?_)
       ·refine W.cd 97 H rfl (fun _ H => go ?_) (fun _ H => go ?_)
        ·have HS := HS.ke [14]
         exact rt
        ·have HS := HS.ke [14]
         exact rt
       ·have HS := HS.ke [14]
        exact rt
      ·have HS := HS.ke [14]
       exact rt
     ·have HS := HS.ke [14]
      exact rt
    ·have HS := HS.ke [14]
     exact rt
   ·refine W.cv 75 H rfl (fun _ H => go ?_) (fun _ H => go ?_)
    ·refine W.cv 78 H rfl (fun _ H => go ?_) (fun _ H => go ?_)
     ·refine W.cd 84 H rfl (fun _ H => go ?_) (fun _ H => go ?_)
      ·refine W.cd 90 H rfl (fun _ H => go ?_) (fun _ H => go ?_)
       ·refine W.cd 97 H rfl (fun _ H => go ?_) (fun _ H => go ?_)
        ·have HS := HS.ke [14]
         exact rt
        ·have HS := HS.ke [14]
         exact rt
       ·have HS := HS.ke [14]
        exact rt
      ·have HS := HS.ke [14]
       exact rt
     ·have HS := HS.ke [14]
      exact rt
    ·have HS := HS.ke [14]
     exact rt
def signalmanlaw25_SignalReverts.Pure : Prop := ∀ (a0 : Int) (a1 : Bool) (a2 : Int), (Lit.int .i64 a0).wf = true → (Lit.int .i64 a2).wf = true → ∃ k, signalmanlaw25_SignalReverts.f k a0 a1 a2 = some true
end Go.Proofs.YtgkjmdapodgnfaaGreat

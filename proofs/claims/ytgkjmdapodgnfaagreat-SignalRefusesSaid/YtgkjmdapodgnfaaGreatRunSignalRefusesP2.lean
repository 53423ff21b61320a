/- SignalRefuses: the functions that its law reaches, as plain functions, and that the machine's calls come to what these say. Conditions: those that stand at each. -/
import Derived.Test.YtgkjmdapodgnfaaGreatRunSignalRefusesP1
set_option linter.all false
set_option maxRecDepth 100000
set_option maxHeartbeats 4000000
set_option synthInstance.maxSize 100000
set_option synthInstance.maxHeartbeats 1000000
namespace Go.Proofs.YtgkjmdapodgnfaaGreat
open Go.RowKit Go.Proofs.YtgkjmdapodgnfaaGreat.Sep Go.Proofs.YtgkjmdapodgnfaaGreat.Walk Go.Proofs.Tryz
attribute [local irreducible] V W At T Code.rounds RdO RdOk
def station_New.f (k : Nat) (a0 : api_Config) : Option (Option station_Station × Int) := ((shape_Check.f a0).bind fun t3 => (if t3 = 0 then ((arq_New.f a0).bind fun t6 => ((aps_New.f a0.Hold a0.Wait a0.Revert).bind fun t8 => ((twins_New.f (imin (w64 (a0.Modulus.tdiv (2))) (1024))).bind fun t10 => ((frame_New.f k (w64 (a0.Size + 11)) a0.Wide).bind fun t17 => ((monitor_New.f a0.Bad a0.Good (w64 (3 * a0.Keep))).bind fun t19 => ((ring_New.f a0.Ring).bind fun t21 => ((frame_New.f k (w64 (a0.Size + 11)) a0.Wide).bind fun t26 => ((monitor_New.f a0.Bad a0.Good (w64 (3 * a0.Keep))).bind fun t28 => ((ring_New.f a0.Ring).bind fun t30 => some (some ({ c := a0, arq := t6, aps := t8, twins := t10, number := 0, steps := 0, line := 0, sides := (({ reader := t17, monitor := t19, ring := t21, counts := ({ Good := 0, Bad := 0, Aborts := 0, Runts := 0, Giants := 0, Dropped := 0, Twins := 0 } : api_Counts) } : station_side), ({ reader := t26, monitor := t28, ring := t30, counts := ({ Good := 0, Bad := 0, Aborts := 0, Runts := 0, Giants := 0, Dropped := 0, Twins := 0 } : api_Counts) } : station_side)) } : station_Station), 0)))))))))) else some (none, t3)))
theorem station_New.calls {k : Nat} {a0 : api_Config} {R : As} {w0 w : World}  {r : Option station_Station × Int} (H : station_New.f k a0 = some r) (HS : Sep.St [R] w0 w)  : Calls Tryz.prog 59 #[Value.agg #[vi a0.Mode, vi a0.Modulus, vi a0.Window, vi a0.T1, vi a0.N2, vi a0.Hold, vi a0.Wait, vi a0.Keep, vi a0.Queue, vi a0.Size, vi a0.Ring, vi a0.Rate, vi a0.Bad, vi a0.Good, vb a0.Revert, vb a0.Wide]] w (Ret fun u w => ∃ (bq0 : Nat), u = Value.tuple #[optv bq0 r.1, vi r.2] ∧ Sep.St [optAt station_Station.at bq0 r.1, R] w0 w) := by
 refine calls_enter func59 rfl rfl ?_
 refine go ?_
 refine W.e (Y.box HS rfl) rfl ?_
 rintro _ w ⟨nb1, rfl, HS⟩
 refine go ?_
 refine W.kl H func87 (fun _ h => shape_Check.calls h HS.j0) ?_
 rintro _ _ w H ⟨rfl, HS⟩
 have HS := HS.o0
 refine go ?_
 refine V.cm H rfl (fun _ H => ?_) (fun _ H => ?_)
 ·refine go ?_
  apply V.da [2, 9, 14, 16] [15, 17] [(12, _), (13, _), (15, _), (16, _), (17, _), (18, _), (19, _), (20, _), (22, _), (23, _), (24, _), (25, _)] mo HS
  rfl
  refine T.e [13] [15, 17] [1] (fun w HS => ?_) ⟨rd, rd, rd, rd, rd, rd, rd, rd, rd, rd, .n1 23 rfl rfl (fun w HS => X.quo rfl rfl (by decide)), .n1 24 rfl rfl (fun w HS => X.min2 rfl rfl), rds⟩
  refine Y.kl H func88 (fun _ h => arq_New.calls h HS.j0) ?_
  rintro _ _ w H ⟨bt6_0, rfl, HS⟩
  have HS := HS.o1
  refine T.nw HS ?_
  refine T.e [16, 18, 20] [15, 17] [3, 4, 5, 6, 7, 8] (fun w HS => ?_) ⟨rd, rd, rd, rd, rd, rd, rd, rd, rd, .n1 23 rfl rfl (fun w HS => X.quo rfl rfl (by decide)), .n1 24 rfl rfl (fun w HS => X.min2 rfl rfl), rds⟩
  refine Y.kl H func89 (fun _ h => aps_New.calls h HS.j0) ?_
  rintro _ _ w H ⟨bt8_0, rfl, HS⟩
  have HS := HS.o1
  refine T.nw HS ?_
  refine T.e [25] [17] [10, 11, 12, 13] (fun w HS => ?_) ⟨rd, rd, rd, .n1 23 rfl rfl (fun w HS => X.quo rfl rfl (by decide)), .n1 24 rfl rfl (fun w HS => X.min2 rfl rfl), rds⟩
  refine Y.kl H func90 (fun _ h => twins_New.calls h HS.j0) ?_
  rintro _ _ w H ⟨bt10_0, rfl, HS⟩
  have HS := HS.o1
  apply T.na [(26, _), (27, _)] HS
  exact nmk
  refine T.e [27] [] [0, 15] (fun w HS => ?_) ⟨rd, .ns [(12, _), (14, _), (21, _), (26, _)] ⟨rfl, rfl, rfl, rfl, tv⟩ rfl (fun w HS => X.bd (Value.agg #[vi a0.Mode, vi a0.Modulus, vi a0.Window, vi a0.T1, vi a0.N2, vi a0.Hold, vi a0.Wait, vi a0.Keep, vi a0.Queue, vi a0.Size, vi a0.Ring, vi a0.Rate, vi a0.Bad, vi a0.Good, vb a0.Revert, vb a0.Wide, pt bt6_0, pt bt8_0, pt bt10_0, Value.int .u32 (0), vi (0), vi (0), Value.pointer none, Value.pointer none, Value.pointer none, vi (0), vi (0), vi (0), vi (0), vi (0), vi (0), vi (0), Value.pointer none, Value.pointer none, Value.pointer none, vi (0), vi (0), vi (0), vi (0), vi (0), vi (0), vi (0)]) rfl (fun _ => by kernel_rfl)), rds⟩
  refine ⟨_, Y.box HS rfl, ?_⟩
  rintro _ w ⟨nb12, rfl, HS⟩
  apply T.na [(28, _), (5, _)] HS
  exact nmk
  refine T.ff [1, 5] fun w HS => ?_
  refine go ?_
  refine V.rs 2 [(1, pt nb1), (5, pt nb12), (29, vi (0))] ?_
  refine go ?_
  apply V.da [7, 15, 18, 23] [19, 22] [(32, _), (33, _), (34, _), (35, _), (36, _), (37, _), (38, _), (40, _), (41, _), (42, _), (43, _), (44, _), (45, _), (46, _), (48, _), (49, _), (52, _), (53, _)] mo HS
  rfl
  refine T.e [36, 38] [19, 22] [2, 3, 4, 5, 6] fun w HS => ?_
  refine Y.kl H func91 (fun _ h => frame_New.calls h HS.j0) ?_
  rintro _ _ w H ⟨bt17_0, rfl, HS⟩
  have HS := HS.o1
  refine T.nw HS ?_
  refine T.e [41, 43, 46] [19, 22] [8, 9, 10, 11, 12, 13, 14] fun w HS => ?_
  refine Y.kl H func92 (fun _ h => monitor_New.calls h HS.j0) ?_
  rintro _ _ w H ⟨bt19_0, rfl, HS⟩
  have HS := HS.o1
  refine T.nw HS ?_
  refine T.e [49] [] [16, 17] fun w HS => ?_
  refine Y.kl H func93 (fun _ h => ring_New.calls h HS.j0) ?_
  rintro _ _ w H ⟨bt21_0, rfl, HS⟩
  have HS := HS.o1
  apply T.na [(50, _), (51, _), (54, _)] HS
  exact nmk
  refine T.e [51, 54] [] [0, 1, 19, 20, 21, 22] (fun w HS => ?_) ⟨rd, rd, .ns [(39, _), (47, _), (50, _)] ⟨rfl, rfl, rfl, tv⟩ rfl (fun w HS => X.bd (Value.agg #[pt bt17_0, pt bt19_0, pt bt21_0, vi (0), vi (0), vi (0), vi (0), vi (0), vi (0), vi (0)]) rfl (fun _ => by kernel_rfl)), rds⟩
  refine ⟨_, Y.storeSt (c' := #[vi a0.Mode, vi a0.Modulus, vi a0.Window, vi a0.T1, vi a0.N2, vi a0.Hold, vi a0.Wait, vi a0.Keep, vi a0.Queue, vi a0.Size, vi a0.Ring, vi a0.Rate, vi a0.Bad, vi a0.Good, vb a0.Revert, vb a0.Wide, pt bt6_0, pt bt8_0, pt bt10_0, Value.int .u32 (0), vi (0), vi (0), pt bt17_0, pt bt19_0, pt bt21_0, vi (0), vi (0), vi (0), vi (0), vi (0), vi (0), vi (0), Value.pointer none, Value.pointer none, Value.pointer none, vi (0), vi (0), vi (0), vi (0), vi (0), vi (0), vi (0)]) 3 [pt bt17_0, pt bt19_0, pt bt21_0, vi (0), vi (0), vi (0), vi (0), vi (0), vi (0), vi (0)] HS rfl inf125 rfl rfl rfl rfl rfl rfl, ?_⟩
  rintro _ w HS
  refine T.nn HS ?_
  refine T.ff [1, 5, 29] fun w HS => ?_
  refine go ?_
  refine At.ow [(1, pt nb1), (5, pt nb12), (29, vi (1))] ?_
  refine go ?_
  apply V.da [7, 15, 18, 23] [19, 22] [(32, _), (33, _), (34, _), (35, _), (36, _), (37, _), (38, _), (40, _), (41, _), (42, _), (43, _), (44, _), (45, _), (46, _), (48, _), (49, _), (52, _), (53, _)] mo HS
  rfl
  refine T.e [36, 38] [19, 22] [2, 3, 4, 5, 6] fun w HS => ?_
  refine Y.kl H func91 (fun _ h => frame_New.calls h HS.j0) ?_
  rintro _ _ w H ⟨bt26_0, rfl, HS⟩
  have HS := HS.o1
  refine T.nw HS ?_
  refine T.e [41, 43, 46] [19, 22] [8, 9, 10, 11, 12, 13, 14] fun w HS => ?_
  refine Y.kl H func92 (fun _ h => monitor_New.calls h HS.j0) ?_
  rintro _ _ w H ⟨bt28_0, rfl, HS⟩
  have HS := HS.o1
  refine T.nw HS ?_
  refine T.e [49] [] [16, 17] fun w HS => ?_
  refine Y.kl H func93 (fun _ h => ring_New.calls h HS.j0) ?_
  rintro _ _ w H ⟨bt30_0, rfl, HS⟩
  have HS := HS.o1
  apply T.na [(50, _), (51, _), (54, _)] HS
  exact nmk
  refine T.e [51, 54] [] [0, 1, 19, 20, 21, 22] (fun w HS => ?_) ⟨rd, rd, .ns [(39, _), (47, _), (50, _)] ⟨rfl, rfl, rfl, tv⟩ rfl (fun w HS => X.bd (Value.agg #[pt bt26_0, pt bt28_0, pt bt30_0, vi (0), vi (0), vi (0), vi (0), vi (0), vi (0), vi (0)]) rfl (fun _ => by kernel_rfl)), rds⟩
  refine ⟨_, Y.storeSt (c' := #[vi a0.Mode, vi a0.Modulus, vi a0.Window, vi a0.T1, vi a0.N2, vi a0.Hold, vi a0.Wait, vi a0.Keep, vi a0.Queue, vi a0.Size, vi a0.Ring, vi a0.Rate, vi a0.Bad, vi a0.Good, vb a0.Revert, vb a0.Wide, pt bt6_0, pt bt8_0, pt bt10_0, Value.int .u32 (0), vi (0), vi (0), pt bt17_0, pt bt19_0, pt bt21_0, vi (0), vi (0), vi (0), vi (0), vi (0), vi (0), vi (0), pt bt26_0, pt bt28_0, pt bt30_0, vi (0), vi (0), vi (0), vi (0), vi (0), vi (0), vi (0)]) 6 [pt bt26_0, pt bt28_0, pt bt30_0, vi (0), vi (0), vi (0), vi (0), vi (0), vi (0), vi (0)] HS rfl inf125 rfl rfl rfl rfl rfl rfl, ?_⟩
  rintro _ w HS
  refine T.nn HS ?_
  refine T.ff [1, 5, 29] fun w HS => ?_
  refine go ?_
  refine At.ow [(1, pt nb1), (5, pt nb12), (29, vi (2))] ?_
  refine go ?_
  have HS := (station_Station.close tv (HS.b [6, 8, 7, 6, 5, 4, 3, 2, 1])).ke [0, 1]
  exact rt
 ·refine go ?_
  have HS := (HS.more (B := optAt station_Station.at 0 none) 0 rfl (fun _ _ => tv) (fun _ => tv)).ke [0, 1]
  exact rt
structure pipe_Pipe where
 room : Int
 b : List Int
 cut : Bool
 stall : Bool
deriving DecidableEq, Inhabited
def pipe_Pipe.at (b : Nat) (x : pipe_Pipe) : As := fun h => True ∧ ∃ a1 : Option Addr, ∃ c1 : Nat, Sp [blk b (#[vi x.room, vs a1 x.b.length c1, vb x.cut, vb x.stall]) 187, row 5 1 (.slice a1 x.b.length c1) x.b.length (x.b.map (Value.int .u8))] h
theorem pipe_Pipe.open {b : Nat} {x : pipe_Pipe} {L : List As} {w0 w : World} (hs : Sep.St (pipe_Pipe.at b x :: L) w0 w) : ∃ a1 : Option Addr, ∃ c1 : Nat, True ∧ Sep.St (blk b (#[vi x.room, vs a1 x.b.length c1, vb x.cut, vb x.stall]) 187 :: row 5 1 (.slice a1 x.b.length c1) x.b.length (x.b.map (Value.int .u8)) :: L) w0 w := by
 obtain ⟨ho, ht, hu, h, hon, h1, h2, hd, e1, e2, ⟨hi, a1, c1, hA⟩, hl⟩ := hs
 exact ⟨a1, c1, hi, St.open (m := [blk b (#[vi x.room, vs a1 x.b.length c1, vb x.cut, vb x.stall]) 187, row 5 1 (.slice a1 x.b.length c1) x.b.length (x.b.map (Value.int .u8))]) ⟨ho, ht, hu, h, hon, h1, h2, hd, e1, e2, hA, hl⟩⟩
theorem pipe_Pipe.close {b : Nat} {l0 : Int} {l1 : List Int} {l2 : Bool} {l3 : Bool} {a1 : Option Addr} {c1 : Nat} {L : List As} {w0 w : World} (hi : True) (hs : Sep.St (blk b (#[vi l0, vs a1 l1.length c1, vb l2, vb l3]) 187 :: row 5 1 (.slice a1 l1.length c1) l1.length (l1.map (Value.int .u8)) :: L) w0 w) : Sep.St (pipe_Pipe.at b ({ room := l0, b := l1, cut := l2, stall := l3 } : pipe_Pipe) :: L) w0 w := by
 have h2 := St.join (m := [blk b (#[vi l0, vs a1 l1.length c1, vb l2, vb l3]) 187, row 5 1 (.slice a1 l1.length c1) l1.length (l1.map (Value.int .u8))]) hs
 exact h2.mono fun h hh => ⟨hi, _, _, hh⟩
def pipe_New.f (a0 : Int) : Option pipe_Pipe := some (({ room := imax (0) (imin a0 (1048576)), b := ([] : List Int), cut := false, stall := false } : pipe_Pipe))
theorem pipe_New.calls {a0 : Int} {R : As} {w0 w : World}  {r : pipe_Pipe} (H : pipe_New.f a0 = some r) (HS : Sep.St [R] w0 w)  : Calls Tryz.prog 60 #[vi a0] w (Ret fun u w => ∃ (bq0 : Nat), u = pt bq0 ∧ Sep.St [pipe_Pipe.at bq0 r, R] w0 w) := by
 refine calls_enter func60 rfl rfl ?_
 refine go ?_
 refine W.r (X.bd (Value.agg #[vi (imax (0) (imin a0 (1048576))), vs none 0 0, vb false, vb false]) rfl (fun _ => by kernel_rfl)) rfl ?_
 refine W.e (Y.box HS rfl) rfl ?_
 rintro _ w ⟨_, rfl, HS⟩
 refine go ?_
 have HS := pipe_Pipe.close (l1 := ([] : List Int)) tv ((row_nilF (Value.int .u8) 5 1 HS).b [1])
 exact rt
structure world_way where
 pipe : pipe_Pipe
 sent : List (List Int)
 got : List (List Int)
deriving DecidableEq, Inhabited
structure world_World where
 c : api_Config
 stations : (station_Station × station_Station)
 ways : ((world_way × world_way) × (world_way × world_way))
 now : Int
deriving DecidableEq, Inhabited
def world_World.at (b : Nat) (x : world_World) : As := fun h => True ∧ ∃ b16 : Nat, ∃ b17 : Nat, ∃ b18 : Nat, ∃ a19 : Option Addr, ∃ c19 : Nat, ∃ d19 : List Value, ∃ a20 : Option Addr, ∃ c20 : Nat, ∃ d20 : List Value, ∃ b21 : Nat, ∃ a22 : Option Addr, ∃ c22 : Nat, ∃ d22 : List Value, ∃ a23 : Option Addr, ∃ c23 : Nat, ∃ d23 : List Value, ∃ b24 : Nat, ∃ a25 : Option Addr, ∃ c25 : Nat, ∃ d25 : List Value, ∃ a26 : Option Addr, ∃ c26 : Nat, ∃ d26 : List Value, ∃ b27 : Nat, ∃ a28 : Option Addr, ∃ c28 : Nat, ∃ d28 : List Value, ∃ a29 : Option Addr, ∃ c29 : Nat, ∃ d29 : List Value, Sp [blk b (#[vi x.c.Mode, vi x.c.Modulus, vi x.c.Window, vi x.c.T1, vi x.c.N2, vi x.c.Hold, vi x.c.Wait, vi x.c.Keep, vi x.c.Queue, vi x.c.Size, vi x.c.Ring, vi x.c.Rate, vi x.c.Bad, vi x.c.Good, vb x.c.Revert, vb x.c.Wide, pt b16, pt b17, pt b18, vs a19 x.ways.1.1.sent.length c19, vs a20 x.ways.1.1.got.length c20, pt b21, vs a22 x.ways.1.2.sent.length c22, vs a23 x.ways.1.2.got.length c23, pt b24, vs a25 x.ways.2.1.sent.length c25, vs a26 x.ways.2.1.got.length c26, pt b27, vs a28 x.ways.2.2.sent.length c28, vs a29 x.ways.2.2.got.length c29, vi x.now]) 117, station_Station.at b16 x.stations.1, station_Station.at b17 x.stations.2, pipe_Pipe.at b18 x.ways.1.1.pipe, row 27 1 (.slice a19 x.ways.1.1.sent.length c19) x.ways.1.1.sent.length d19, tie (El.sl (El.int .u8)) d19 x.ways.1.1.sent, row 27 1 (.slice a20 x.ways.1.1.got.length c20) x.ways.1.1.got.length d20, tie (El.sl (El.int .u8)) d20 x.ways.1.1.got, pipe_Pipe.at b21 x.ways.1.2.pipe, row 27 1 (.slice a22 x.ways.1.2.sent.length c22) x.ways.1.2.sent.length d22, tie (El.sl (El.int .u8)) d22 x.ways.1.2.sent, row 27 1 (.slice a23 x.ways.1.2.got.length c23) x.ways.1.2.got.length d23, tie (El.sl (El.int .u8)) d23 x.ways.1.2.got, pipe_Pipe.at b24 x.ways.2.1.pipe, row 27 1 (.slice a25 x.ways.2.1.sent.length c25) x.ways.2.1.sent.length d25, tie (El.sl (El.int .u8)) d25 x.ways.2.1.sent, row 27 1 (.slice a26 x.ways.2.1.got.length c26) x.ways.2.1.got.length d26, tie (El.sl (El.int .u8)) d26 x.ways.2.1.got, pipe_Pipe.at b27 x.ways.2.2.pipe, row 27 1 (.slice a28 x.ways.2.2.sent.length c28) x.ways.2.2.sent.length d28, tie (El.sl (El.int .u8)) d28 x.ways.2.2.sent, row 27 1 (.slice a29 x.ways.2.2.got.length c29) x.ways.2.2.got.length d29, tie (El.sl (El.int .u8)) d29 x.ways.2.2.got] h
theorem world_World.open {b : Nat} {x : world_World} {L : List As} {w0 w : World} (hs : Sep.St (world_World.at b x :: L) w0 w) : ∃ b16 : Nat, ∃ b17 : Nat, ∃ b18 : Nat, ∃ a19 : Option Addr, ∃ c19 : Nat, ∃ d19 : List Value, ∃ a20 : Option Addr, ∃ c20 : Nat, ∃ d20 : List Value, ∃ b21 : Nat, ∃ a22 : Option Addr, ∃ c22 : Nat, ∃ d22 : List Value, ∃ a23 : Option Addr, ∃ c23 : Nat, ∃ d23 : List Value, ∃ b24 : Nat, ∃ a25 : Option Addr, ∃ c25 : Nat, ∃ d25 : List Value, ∃ a26 : Option Addr, ∃ c26 : Nat, ∃ d26 : List Value, ∃ b27 : Nat, ∃ a28 : Option Addr, ∃ c28 : Nat, ∃ d28 : List Value, ∃ a29 : Option Addr, ∃ c29 : Nat, ∃ d29 : List Value, True ∧ Sep.St (blk b (#[vi x.c.Mode, vi x.c.Modulus, vi x.c.Window, vi x.c.T1, vi x.c.N2, vi x.c.Hold, vi x.c.Wait, vi x.c.Keep, vi x.c.Queue, vi x.c.Size, vi x.c.Ring, vi x.c.Rate, vi x.c.Bad, vi x.c.Good, vb x.c.Revert, vb x.c.Wide, pt b16, pt b17, pt b18, vs a19 x.ways.1.1.sent.length c19, vs a20 x.ways.1.1.got.length c20, pt b21, vs a22 x.ways.1.2.sent.length c22, vs a23 x.ways.1.2.got.length c23, pt b24, vs a25 x.ways.2.1.sent.length c25, vs a26 x.ways.2.1.got.length c26, pt b27, vs a28 x.ways.2.2.sent.length c28, vs a29 x.ways.2.2.got.length c29, vi x.now]) 117 :: station_Station.at b16 x.stations.1 :: station_Station.at b17 x.stations.2 :: pipe_Pipe.at b18 x.ways.1.1.pipe :: row 27 1 (.slice a19 x.ways.1.1.sent.length c19) x.ways.1.1.sent.length d19 :: tie (El.sl (El.int .u8)) d19 x.ways.1.1.sent :: row 27 1 (.slice a20 x.ways.1.1.got.length c20) x.ways.1.1.got.length d20 :: tie (El.sl (El.int .u8)) d20 x.ways.1.1.got :: pipe_Pipe.at b21 x.ways.1.2.pipe :: row 27 1 (.slice a22 x.ways.1.2.sent.length c22) x.ways.1.2.sent.length d22 :: tie (El.sl (El.int .u8)) d22 x.ways.1.2.sent :: row 27 1 (.slice a23 x.ways.1.2.got.length c23) x.ways.1.2.got.length d23 :: tie (El.sl (El.int .u8)) d23 x.ways.1.2.got :: pipe_Pipe.at b24 x.ways.2.1.pipe :: row 27 1 (.slice a25 x.ways.2.1.sent.length c25) x.ways.2.1.sent.length d25 :: tie (El.sl (El.int .u8)) d25 x.ways.2.1.sent :: row 27 1 (.slice a26 x.ways.2.1.got.length c26) x.ways.2.1.got.length d26 :: tie (El.sl (El.int .u8)) d26 x.ways.2.1.got :: pipe_Pipe.at b27 x.ways.2.2.pipe :: row 27 1 (.slice a28 x.ways.2.2.sent.length c28) x.ways.2.2.sent.length d28 :: tie (El.sl (El.int .u8)) d28 x.ways.2.2.sent :: row 27 1 (.slice a29 x.ways.2.2.got.length c29) x.ways.2.2.got.length d29 :: tie (El.sl (El.int .u8)) d29 x.ways.2.2.got :: L) w0 w := by
 obtain ⟨ho, ht, hu, h, hon, h1, h2, hd, e1, e2, ⟨hi, b16, b17, b18, a19, c19, d19, a20, c20, d20, b21, a22, c22, d22, a23, c23, d23, b24, a25, c25, d25, a26, c26, d26, b27, a28, c28, d28, a29, c29, d29, hA⟩, hl⟩ := hs
 exact ⟨b16, b17, b18, a19, c19, d19, a20, c20, d20, b21, a22, c22, d22, a23, c23, d23, b24, a25, c25, d25, a26, c26, d26, b27, a28, c28, d28, a29, c29, d29, hi, St.open (m := [blk b (#[vi x.c.Mode, vi x.c.Modulus, vi x.c.Window, vi x.c.T1, vi x.c.N2, vi x.c.Hold, vi x.c.Wait, vi x.c.Keep, vi x.c.Queue, vi x.c.Size, vi x.c.Ring, vi x.c.Rate, vi x.c.Bad, vi x.c.Good, vb x.c.Revert, vb x.c.Wide, pt b16, pt b17, pt b18, vs a19 x.ways.1.1.sent.length c19, vs a20 x.ways.1.1.got.length c20, pt b21, vs a22 x.ways.1.2.sent.length c22, vs a23 x.ways.1.2.got.length c23, pt b24, vs a25 x.ways.2.1.sent.length c25, vs a26 x.ways.2.1.got.length c26, pt b27, vs a28 x.ways.2.2.sent.length c28, vs a29 x.ways.2.2.got.length c29, vi x.now]) 117, station_Station.at b16 x.stations.1, station_Station.at b17 x.stations.2, pipe_Pipe.at b18 x.ways.1.1.pipe, row 27 1 (.slice a19 x.ways.1.1.sent.length c19) x.ways.1.1.sent.length d19, tie (El.sl (El.int .u8)) d19 x.ways.1.1.sent, row 27 1 (.slice a20 x.ways.1.1.got.length c20) x.ways.1.1.got.length d20, tie (El.sl (El.int .u8)) d20 x.ways.1.1.got, pipe_Pipe.at b21 x.ways.1.2.pipe, row 27 1 (.slice a22 x.ways.1.2.sent.length c22) x.ways.1.2.sent.length d22, tie (El.sl (El.int .u8)) d22 x.ways.1.2.sent, row 27 1 (.slice a23 x.ways.1.2.got.length c23) x.ways.1.2.got.length d23, tie (El.sl (El.int .u8)) d23 x.ways.1.2.got, pipe_Pipe.at b24 x.ways.2.1.pipe, row 27 1 (.slice a25 x.ways.2.1.sent.length c25) x.ways.2.1.sent.length d25, tie (El.sl (El.int .u8)) d25 x.ways.2.1.sent, row 27 1 (.slice a26 x.ways.2.1.got.length c26) x.ways.2.1.got.length d26, tie (El.sl (El.int .u8)) d26 x.ways.2.1.got, pipe_Pipe.at b27 x.ways.2.2.pipe, row 27 1 (.slice a28 x.ways.2.2.sent.length c28) x.ways.2.2.sent.length d28, tie (El.sl (El.int .u8)) d28 x.ways.2.2.sent, row 27 1 (.slice a29 x.ways.2.2.got.length c29) x.ways.2.2.got.length d29, tie (El.sl (El.int .u8)) d29 x.ways.2.2.got]) ⟨ho, ht, hu, h, hon, h1, h2, hd, e1, e2, hA, hl⟩⟩
theorem world_World.close {b : Nat} {l0 : Int} {l1 : Int} {l2 : Int} {l3 : Int} {l4 : Int} {l5 : Int} {l6 : Int} {l7 : Int} {l8 : Int} {l9 : Int} {l10 : Int} {l11 : Int} {l12 : Int} {l13 : Int} {l14 : Bool} {l15 : Bool} {l16 : station_Station} {l17 : station_Station} {l18 : pipe_Pipe} {l19 : List (List Int)} {l20 : List (List Int)} {l21 : pipe_Pipe} {l22 : List (List Int)} {l23 : List (List Int)} {l24 : pipe_Pipe} {l25 : List (List Int)} {l26 : List (List Int)} {l27 : pipe_Pipe} {l28 : List (List Int)} {l29 : List (List Int)} {l30 : Int} {b16 : Nat} {b17 : Nat} {b18 : Nat} {a19 : Option Addr} {c19 : Nat} {d19 : List Value} {a20 : Option Addr} {c20 : Nat} {d20 : List Value} {b21 : Nat} {a22 : Option Addr} {c22 : Nat} {d22 : List Value} {a23 : Option Addr} {c23 : Nat} {d23 : List Value} {b24 : Nat} {a25 : Option Addr} {c25 : Nat} {d25 : List Value} {a26 : Option Addr} {c26 : Nat} {d26 : List Value} {b27 : Nat} {a28 : Option Addr} {c28 : Nat} {d28 : List Value} {a29 : Option Addr} {c29 : Nat} {d29 : List Value} {L : List As} {w0 w : World} (hi : True) (hs : Sep.St (blk b (#[vi l0, vi l1, vi l2, vi l3, vi l4, vi l5, vi l6, vi l7, vi l8, vi l9, vi l10, vi l11, vi l12, vi l13, vb l14, vb l15, pt b16, pt b17, pt b18, vs a19 l19.length c19, vs a20 l20.length c20, pt b21, vs a22 l22.length c22, vs a23 l23.length c23, pt b24, vs a25 l25.length c25, vs a26 l26.length c26, pt b27, vs a28 l28.length c28, vs a29 l29.length c29, vi l30]) 117 :: station_Station.at b16 l16 :: station_Station.at b17 l17 :: pipe_Pipe.at b18 l18 :: row 27 1 (.slice a19 l19.length c19) l19.length d19 :: tie (El.sl (El.int .u8)) d19 l19 :: row 27 1 (.slice a20 l20.length c20) l20.length d20 :: tie (El.sl (El.int .u8)) d20 l20 :: pipe_Pipe.at b21 l21 :: row 27 1 (.slice a22 l22.length c22) l22.length d22 :: tie (El.sl (El.int .u8)) d22 l22 :: row 27 1 (.slice a23 l23.length c23) l23.length d23 :: tie (El.sl (El.int .u8)) d23 l23 :: pipe_Pipe.at b24 l24 :: row 27 1 (.slice a25 l25.length c25) l25.length d25 :: tie (El.sl (El.int .u8)) d25 l25 :: row 27 1 (.slice a26 l26.length c26) l26.length d26 :: tie (El.sl (El.int .u8)) d26 l26 :: pipe_Pipe.at b27 l27 :: row 27 1 (.slice a28 l28.length c28) l28.length d28 :: tie (El.sl (El.int .u8)) d28 l28 :: row 27 1 (.slice a29 l29.length c29) l29.length d29 :: tie (El.sl (El.int .u8)) d29 l29 :: L) w0 w) : Sep.St (world_World.at b ({ c := ({ Mode := l0, Modulus := l1, Window := l2, T1 := l3, N2 := l4, Hold := l5, Wait := l6, Keep := l7, Queue := l8, Size := l9, Ring := l10, Rate := l11, Bad := l12, Good := l13, Revert := l14, Wide := l15 } : api_Config), stations := (l16, l17), ways := ((({ pipe := l18, sent := l19, got := l20 } : world_way), ({ pipe := l21, sent := l22, got := l23 } : world_way)), (({ pipe := l24, sent := l25, got := l26 } : world_way), ({ pipe := l27, sent := l28, got := l29 } : world_way))), now := l30 } : world_World) :: L) w0 w := by
 have h2 := St.join (m := [blk b (#[vi l0, vi l1, vi l2, vi l3, vi l4, vi l5, vi l6, vi l7, vi l8, vi l9, vi l10, vi l11, vi l12, vi l13, vb l14, vb l15, pt b16, pt b17, pt b18, vs a19 l19.length c19, vs a20 l20.length c20, pt b21, vs a22 l22.length c22, vs a23 l23.length c23, pt b24, vs a25 l25.length c25, vs a26 l26.length c26, pt b27, vs a28 l28.length c28, vs a29 l29.length c29, vi l30]) 117, station_Station.at b16 l16, station_Station.at b17 l17, pipe_Pipe.at b18 l18, row 27 1 (.slice a19 l19.length c19) l19.length d19, tie (El.sl (El.int .u8)) d19 l19, row 27 1 (.slice a20 l20.length c20) l20.length d20, tie (El.sl (El.int .u8)) d20 l20, pipe_Pipe.at b21 l21, row 27 1 (.slice a22 l22.length c22) l22.length d22, tie (El.sl (El.int .u8)) d22 l22, row 27 1 (.slice a23 l23.length c23) l23.length d23, tie (El.sl (El.int .u8)) d23 l23, pipe_Pipe.at b24 l24, row 27 1 (.slice a25 l25.length c25) l25.length d25, tie (El.sl (El.int .u8)) d25 l25, row 27 1 (.slice a26 l26.length c26) l26.length d26, tie (El.sl (El.int .u8)) d26 l26, pipe_Pipe.at b27 l27, row 27 1 (.slice a28 l28.length c28) l28.length d28, tie (El.sl (El.int .u8)) d28 l28, row 27 1 (.slice a29 l29.length c29) l29.length d29, tie (El.sl (El.int .u8)) d29 l29]) hs
 exact h2.mono fun h hh => ⟨hi, _, _, _, _, _, _, _, _, _, _, _, _, _, _, _, _, _, _, _, _, _, _, _, _, _, _, _, _, _, _, hh⟩
def world_New.f (k : Nat) (a0 : api_Config) : Option (Option world_World × Int) := ((station_New.f k a0).bind fun t5 => (if t5.1.isNone = true then (if t5.2 = 0 then none else some (none, t5.2)) else (if t5.2 = 0 then ((pipe_New.f (w64 ((w64 (2 * a0.Ring)) + a0.Rate))).bind fun t15 => ((pipe_New.f (w64 ((w64 (2 * a0.Ring)) + a0.Rate))).bind fun t18 => ((station_New.f k a0).bind fun t21 => (if t21.1.isNone = true then (if t21.2 = 0 then none else some (none, t21.2)) else (if t21.2 = 0 then ((pipe_New.f (w64 ((w64 (2 * a0.Ring)) + a0.Rate))).bind fun t31 => ((pipe_New.f (w64 ((w64 (2 * a0.Ring)) + a0.Rate))).bind fun t34 => some (some ({ c := a0, stations := (t5.1.getD default, t21.1.getD default), ways := ((({ pipe := t15, sent := ([] : List (List Int)), got := ([] : List (List Int)) } : world_way), ({ pipe := t31, sent := ([] : List (List Int)), got := ([] : List (List Int)) } : world_way)), (({ pipe := t18, sent := ([] : List (List Int)), got := ([] : List (List Int)) } : world_way), ({ pipe := t34, sent := ([] : List (List Int)), got := ([] : List (List Int)) } : world_way))), now := 0 } : world_World), 0))) else some (none, t21.2)))))) else some (none, t5.2))))
theorem world_New.calls {k : Nat} {a0 : api_Config} {R : As} {w0 w : World}  {r : Option world_World × Int} (H : world_New.f k a0 = some r) (HS : Sep.St [R] w0 w)  : Calls Tryz.prog 42 #[Value.agg #[vi a0.Mode, vi a0.Modulus, vi a0.Window, vi a0.T1, vi a0.N2, vi a0.Hold, vi a0.Wait, vi a0.Keep, vi a0.Queue, vi a0.Size, vi a0.Ring, vi a0.Rate, vi a0.Bad, vi a0.Good, vb a0.Revert, vb a0.Wide]] w (Ret fun u w => ∃ (bq0 : Nat), u = Value.tuple #[optv bq0 r.1, vi r.2] ∧ Sep.St [optAt world_World.at bq0 r.1, R] w0 w) := by
 refine calls_enter func42 rfl rfl ?_
 refine go ?_
 refine W.e (Y.box HS rfl) rfl ?_
 rintro _ w ⟨nb1, rfl, HS⟩
 refine go ?_
 refine W.r (X.bd (Value.agg #[vi a0.Mode, vi a0.Modulus, vi a0.Window, vi a0.T1, vi a0.N2, vi a0.Hold, vi a0.Wait, vi a0.Keep, vi a0.Queue, vi a0.Size, vi a0.Ring, vi a0.Rate, vi a0.Bad, vi a0.Good, vb a0.Revert, vb a0.Wide, Value.pointer none, Value.pointer none, Value.pointer none, vs none 0 0, vs none 0 0, Value.pointer none, vs none 0 0, vs none 0 0, Value.pointer none, vs none 0 0, vs none 0 0, Value.pointer none, vs none 0 0, vs none 0 0, vi (0)]) rfl (fun _ => by kernel_rfl)) rfl ?_
 refine W.e (Y.box HS rfl) rfl ?_
 rintro _ w ⟨nb2, rfl, HS⟩
 refine go ?_
 refine V.rs 2 [(1, pt nb1), (4, pt nb2), (12, vi (0))] ?_
 refine go ?_
 obtain ⟨_, A6, H⟩ := bind_s H
 refine ite_c H (fun c7 H => ?_) (fun c7 H => ?_)
 ·refine W.e (Y.cl func59 (station_New.calls A6 HS.j0)) rfl ?_
  rintro _ w ⟨bt5_0, rfl, HS⟩
  have HS := St.optN c7 HS.o1
  rw [optv_n c7]
  refine go ?_
  refine V.cm H rfl (fun _ H => ?_) (fun _ H => ?_)
  ·refine go ?_
   exact nomatch H
  ·refine go ?_
   have HS := (HS.more (B := optAt world_World.at 0 none) 0 rfl (fun _ _ => tv) (fun _ => tv)).ke [0, 2]
   exact rt
 ·refine W.e (Y.cl func59 (station_New.calls A6 HS.j0)) rfl ?_
  rintro _ w ⟨bt5_0, rfl, HS⟩
  have HS := St.optS default c7 HS.o1
  rw [optv_s c7]
  refine go ?_
  refine V.cm H rfl (fun _ H => ?_) (fun _ H => ?_)
  ·refine go ?_
   refine W.sr 16 HS rfl rfl rfl fun w HS => ?_
   refine go ?_
   refine V.rs 2 [(1, pt nb1), (4, pt nb2), (5, vi (0)), (12, vi (0)), (29, vi (0))] ?_
   refine go ?_
   apply V.da [9, 15] [13, 14] [(32, _), (33, _), (34, _), (35, _), (36, _), (37, _), (38, _), (39, _), (40, _), (42, _), (43, _), (44, _)] mo HS
   rfl
   refine T.e [40] [] [3, 4, 5, 6, 7, 8] fun w HS => ?_
   refine Y.kl H func60 (fun _ h => pipe_New.calls h HS.j0) ?_
   rintro _ _ w H ⟨_, rfl, HS⟩
   have HS := HS.o1
   apply T.na [(41, _), (45, _), (46, _)] HS
   exact nmk
   refine T.e [41, 46] [] [0, 1, 2, 10, 11, 12, 13, 14] fun w HS => ?_
   refine Y.sr 18 HS rfl rfl rfl fun _ w HS => ?_
   refine T.nn HS ?_
   refine T.ff [1, 4, 5, 12, 29] fun w HS => ?_
   refine go ?_
   refine At.ow [(1, pt nb1), (4, pt nb2), (5, vi (0)), (12, vi (0)), (29, vi (1))] ?_
   refine go ?_
   apply V.da [9, 15] [13, 14] [(32, _), (33, _), (34, _), (35, _), (36, _), (37, _), (38, _), (39, _), (40, _), (42, _), (43, _), (44, _)] mo HS
   rfl
   refine T.e [40] [] [3, 4, 5, 6, 7, 8] fun w HS => ?_
   refine Y.kl H func60 (fun _ h => pipe_New.calls h HS.j0) ?_
   rintro _ _ w H ⟨_, rfl, HS⟩
   have HS := HS.o1
   apply T.na [(41, _), (45, _), (46, _)] HS
   exact nmk
   refine T.e [41, 46] [] [0, 1, 2, 10, 11, 12, 13, 14] fun w HS => ?_
   refine Y.sr 24 HS rfl rfl rfl fun _ w HS => ?_
   refine T.nn HS ?_
   refine T.ff [1, 4, 5, 12, 29] fun w HS => ?_
   refine go ?_
   refine At.ow [(1, pt nb1), (4, pt nb2), (5, vi (0)), (12, vi (0)), (29, vi (2))] ?_
   refine go ?_
   refine At.ow [(1, pt nb1), (4, pt nb2), (12, vi (1))] ?_
   refine go ?_
   obtain ⟨_, A22, H⟩ := bind_s H
   refine ite_c H (fun c23 H => ?_) (fun c23 H => ?_)
   ·refine W.e (Y.cl func59 (station_New.calls A22 HS.j0)) rfl ?_
    rintro _ w ⟨bt21_0, rfl, HS⟩
    have HS := St.optN c23 HS.o1
    rw [optv_n c23]
    refine go ?_
    refine V.cm H rfl (fun _ H => ?_) (fun _ H => ?_)
    ·refine go ?_
     exact nomatch H
    ·refine go ?_
     have HS := (HS.more (B := optAt world_World.at 0 none) 0 rfl (fun _ _ => tv) (fun _ => tv)).ke [0, 5]
     exact rt
   ·refine W.e (Y.cl func59 (station_New.calls A22 HS.j0)) rfl ?_
    rintro _ w ⟨bt21_0, rfl, HS⟩
    have HS := St.optS default c23 HS.o1
    rw [optv_s c23]
    refine go ?_
    refine V.cm H rfl (fun _ H => ?_) (fun _ H => ?_)
    ·refine go ?_
     refine W.sr 17 HS rfl rfl rfl fun w HS => ?_
     refine go ?_
     refine V.rs 2 [(1, pt nb1), (4, pt nb2), (5, vi (1)), (12, vi (1)), (29, vi (0))] ?_
     refine go ?_
     apply V.da [9, 15] [13, 14] [(32, _), (33, _), (34, _), (35, _), (36, _), (37, _), (38, _), (39, _), (40, _), (42, _), (43, _), (44, _)] mo HS
     rfl
     refine T.e [40] [] [3, 4, 5, 6, 7, 8] fun w HS => ?_
     refine Y.kl H func60 (fun _ h => pipe_New.calls h HS.j0) ?_
     rintro _ _ w H ⟨_, rfl, HS⟩
     have HS := HS.o1
     apply T.na [(41, _), (45, _), (46, _)] HS
     exact nmk
     refine T.e [41, 46] [] [0, 1, 2, 10, 11, 12, 13, 14] fun w HS => ?_
     refine Y.sr 21 HS rfl rfl rfl fun _ w HS => ?_
     refine T.nn HS ?_
     refine T.ff [1, 4, 5, 12, 29] fun w HS => ?_
     refine go ?_
     refine At.ow [(1, pt nb1), (4, pt nb2), (5, vi (1)), (12, vi (1)), (29, vi (1))] ?_
     refine go ?_
     apply V.da [9, 15] [13, 14] [(32, _), (33, _), (34, _), (35, _), (36, _), (37, _), (38, _), (39, _), (40, _), (42, _), (43, _), (44, _)] mo HS
     rfl
     refine T.e [40] [] [3, 4, 5, 6, 7, 8] fun w HS => ?_
     refine Y.kl H func60 (fun _ h => pipe_New.calls h HS.j0) ?_
     rintro _ _ w H ⟨_, rfl, HS⟩
     have HS := HS.o1
     apply T.na [(41, _), (45, _), (46, _)] HS
     exact nmk
     refine T.e [41, 46] [] [0, 1, 2, 10, 11, 12, 13, 14] fun w HS => ?_
     refine Y.sr 27 HS rfl rfl rfl fun _ w HS => ?_
     refine T.nn HS ?_
     refine T.ff [1, 4, 5, 12, 29] fun w HS => ?_
     refine go ?_
     refine At.ow [(1, pt nb1), (4, pt nb2), (5, vi (1)), (12, vi (1)), (29, vi (2))] ?_
     refine go ?_
     refine At.ow [(1, pt nb1), (4, pt nb2), (12, vi (2))] ?_
     refine go ?_
     have HS := (world_World.close (l19 := ([] : List (List Int))) (l20 := ([] : List (List Int))) (l22 := ([] : List (List Int))) (l23 := ([] : List (List Int))) (l25 := ([] : List (List Int))) (l26 := ([] : List (List Int))) (l28 := ([] : List (List Int))) (l29 := ([] : List (List Int))) tv ((row_nilE (El.sl (El.int .u8)) 27 1 (row_nilE (El.sl (El.int .u8)) 27 1 (row_nilE (El.sl (El.int .u8)) 27 1 (row_nilE (El.sl (El.int .u8)) 27 1 (row_nilE (El.sl (El.int .u8)) 27 1 (row_nilE (El.sl (El.int .u8)) 27 1 (row_nilE (El.sl (El.int .u8)) 27 1 (row_nilE (El.sl (El.int .u8)) 27 1 HS)))))))).b [22, 21, 18, 19, 14, 14, 12, 12, 13, 10, 10, 8, 8, 9, 6, 6, 4, 4, 4, 2, 2])).ke [0, 1]
     exact rt
    ·refine go ?_
     have HS := (HS.more (B := optAt world_World.at 0 none) 0 rfl (fun _ _ => tv) (fun _ => tv)).ke [0, 6]
     exact rt
  ·refine go ?_
   have HS := (HS.more (B := optAt world_World.at 0 none) 0 rfl (fun _ _ => tv) (fun _ => tv)).ke [0, 3]
   exact rt
def monitor_Monitor_Pass.f (a0 : monitor_Monitor) (a1 : Int) : Option (Int × monitor_Monitor) := ((monitor_cut.f a1 0 1073741824).bind fun t3 => (if (imin (w64 (a0.silence + t3)) (1073741824)) ≥ a0.silent then some (2, ({ a0 with row := 0, silence := imin (w64 (a0.silence + t3)) (1073741824), state := 2 } : monitor_Monitor)) else some (a0.state, ({ a0 with silence := imin (w64 (a0.silence + t3)) (1073741824) } : monitor_Monitor))))
theorem monitor_Monitor_Pass.calls {a0 : monitor_Monitor} {a1 : Int} {R : As} {w0 w : World} {b0 : Nat} {r : Int × monitor_Monitor} (H : monitor_Monitor_Pass.f a0 a1 = some r) (HS : Sep.St [monitor_Monitor.at b0 a0, R] w0 w)  : Calls Tryz.prog 176 #[pt b0, vi a1] w (Ret fun u w => u = vi r.1 ∧ Sep.St [monitor_Monitor.at b0 r.2, R] w0 w) := by
 refine calls_enter func176 rfl rfl ?_
 refine go ?_
 obtain ⟨_, _, HS⟩ := monitor_Monitor.open HS
 apply V.da [6, 11] [7, 8, 9, 10] [(5, _), (6, _), (7, _), (8, _), (9, _), (10, _)] mo HS
 rfl
 refine T.e [10] [] [5] fun w HS => ?_
 refine Y.kl H func131 (fun _ h => monitor_cut.calls h HS.j0) ?_
 rintro _ _ w H ⟨rfl, HS⟩
 have HS := HS.o0
 apply T.na [(11, _), (12, _), (13, _), (14, _), (15, _)] HS
 exact nmk
 refine T.e [13, 15] [] [0, 1, 2, 3, 4, 7, 8, 9, 10] (fun w HS => ?_) ⟨rd, rd, rd, rd, rd, rd, .n1 12 rfl rfl (fun w HS => X.min2 rfl rfl), rds⟩
 refine Y.sr 5 HS rfl rfl rfl fun _ w HS => ?_
 refine T.nn HS ?_
 refine T.ff [0] fun w HS => ?_
 refine go ?_
 apply V.da [] [] [(16, _), (17, _), (18, _), (19, _), (20, _), (21, _), (22, _), (23, _), (24, _)] mo HS
 rfl
 refine T.ff [0, 24] fun w HS => ?_
 refine go ?_
 refine V.cd H rfl (fun _ H => ?_) (fun _ H => ?_)
 ·refine go ?_
  refine W.sr 6 HS rfl rfl rfl fun w HS => ?_
  refine go ?_
  refine W.sr 4 HS rfl rfl rfl fun w HS => ?_
  refine go ?_
  have HS := monitor_Monitor.close tv HS
  exact rt
 ·refine go ?_
  have HS := monitor_Monitor.close tv HS
  exact rt
def aps_Aps_held.f (a0 : aps_Aps) (a1 : Int) : Option (Int × aps_Aps) := (if a1 = 0 then some (a1, ({ a0 with bad := 0 } : aps_Aps)) else (if (imin (w64 (a0.bad + 1)) (w64 (a0.hold + 1))) ≤ a0.hold then some (0, ({ a0 with bad := imin (w64 (a0.bad + 1)) (w64 (a0.hold + 1)) } : aps_Aps)) else some (a1, ({ a0 with bad := imin (w64 (a0.bad + 1)) (w64 (a0.hold + 1)) } : aps_Aps))))
theorem aps_Aps_held.calls {a0 : aps_Aps} {a1 : Int} {R : As} {w0 w : World} {b0 : Nat} {r : Int × aps_Aps} (H : aps_Aps_held.f a0 a1 = some r) (HS : Sep.St [aps_Aps.at b0 a0, R] w0 w)  : Calls Tryz.prog 218 #[pt b0, vi a1] w (Ret fun u w => u = vi r.1 ∧ Sep.St [aps_Aps.at b0 r.2, R] w0 w) := by
 refine calls_enter func218 rfl rfl ?_
 refine go ?_
 refine V.cd H rfl (fun _ H => ?_) (fun _ H => ?_)
 ·refine go ?_
  obtain ⟨_, HS⟩ := aps_Aps.open HS
  refine go ?_
  refine W.sr 6 HS rfl rfl rfl fun w HS => ?_
  refine go ?_
  have HS := aps_Aps.close tv HS
  exact rt
 ·refine go ?_
  obtain ⟨_, HS⟩ := aps_Aps.open HS
  apply V.da [14] [] [(11, _), (12, _), (13, _), (14, _), (15, _), (16, _), (17, _), (18, _), (19, _), (20, _), (21, _), (22, _), (23, _), (24, _)] mo HS
  rfl
  refine T.e [22, 24] [] [0, 1, 2, 3, 4, 5, 6, 7, 8, 9, 10, 11, 12, 13] (fun w HS => ?_) ⟨rd, rd, rd, rd, rd, rd, rd, rd, rd, rd, rd, .n2 16 21 rfl rfl rfl (fun w HS => X.min2 rfl rfl), rds⟩
  refine Y.sr 6 HS rfl rfl rfl fun _ w HS => ?_
  refine T.nn HS ?_
  refine T.ff [0, 1] fun w HS => ?_
  refine go ?_
  apply V.da [] [] [(25, _), (26, _), (27, _), (28, _), (29, _), (30, _), (31, _), (32, _), (33, _)] mo HS
  rfl
  refine T.ff [1, 33] fun w HS => ?_
  refine go ?_
  refine V.cd H rfl (fun _ H => ?_) (fun _ H => ?_)
  ·refine go ?_
   have HS := aps_Aps.close tv HS
   exact rt
  ·refine go ?_
   have HS := aps_Aps.close tv HS
   exact rt
def request_Local.f (a0 : Int) (a1 : Int) (a2 : Int) : Option Int := (if a0 = 3 then some (8) else (if a2 = 2 then some (7) else (if a0 = 2 then some (6) else (if a1 = 2 then some (5) else (if a1 = 1 then some (4) else (if a0 = 1 then some (3) else some (0)))))))
theorem request_Local.calls {a0 : Int} {a1 : Int} {a2 : Int} {R : As} {w0 w : World}  {r : Int} (H : request_Local.f a0 a1 a2 = some r) (HS : Sep.St [R] w0 w)  : Calls Tryz.prog 217 #[vi a0, vi a1, vi a2] w (Ret fun u w => u = vi r ∧ Sep.St [R] w0 w) := by
 refine calls_enter func217 rfl rfl ?_
 refine go ?_
 refine V.cd H rfl (fun _ H => ?_) (fun _ H => ?_)
 ·refine go ?_
  exact rt
 ·refine go ?_
  refine V.cd H rfl (fun _ H => ?_) (fun _ H => ?_)
  ·refine go ?_
   exact rt
  ·refine go ?_
   refine V.cd H rfl (fun _ H => ?_) (fun _ H => ?_)
   ·refine go ?_
    exact rt
   ·refine go ?_
    refine V.cd H rfl (fun _ H => ?_) (fun _ H => ?_)
    ·refine go ?_
     exact rt
    ·refine go ?_
     refine V.cd H rfl (fun _ H => ?_) (fun _ H => ?_)
     ·refine go ?_
      exact rt
     ·refine go ?_
      refine V.cd H rfl (fun _ H => ?_) (fun _ H => ?_)
      ·refine go ?_
       exact rt
      ·refine go ?_
       exact rt
mutual
def aps_Aps_after.j0 (a0 : aps_Aps) (x4 : Bool) : Option (Int × aps_Aps) := (if x4 = true then (if a0.revert = true then some (2, ({ a0 with left := a0.wait } : aps_Aps)) else some (1, a0)) else (if a0.own = 2 then (if (w64 (a0.left - 1)) = 0 then some (0, ({ a0 with left := w64 (a0.left - 1) } : aps_Aps)) else some (2, ({ a0 with left := w64 (a0.left - 1) } : aps_Aps))) else (if a0.own = 1 then some (1, a0) else some (0, a0))))
end
def aps_Aps_after.f (a0 : aps_Aps) : Option (Int × aps_Aps) := (if a0.own = 4 then (aps_Aps_after.j0 a0 (decide (a0.own = 4))) else (aps_Aps_after.j0 a0 (decide (a0.own = 5))))
theorem aps_Aps_after.calls {a0 : aps_Aps} {R : As} {w0 w : World} {b0 : Nat} {r : Int × aps_Aps} (H : aps_Aps_after.f a0 = some r) (HS : Sep.St [aps_Aps.at b0 a0, R] w0 w)  : Calls Tryz.prog 219 #[pt b0] w (Ret fun u w => u = vi r.1 ∧ Sep.St [aps_Aps.at b0 r.2, R] w0 w) := by
 refine calls_enter func219 rfl rfl ?_
 refine go ?_
 obtain ⟨_, HS⟩ := aps_Aps.open HS
 refine gs ?_
 refine V.meet (σ := Bool) (fun x4 w => Sep.St [aps_Aps.at b0 a0, R] w0 w ∧ aps_Aps_after.j0 a0 x4 = some r) (fun x4 => [(0, pt b0), (6, vi a0.own), (7, vb x4)]) ?_ ?_
 ·refine go ?_
  refine V.cd H rfl (fun _ H => ?_) (fun _ H => ?_)
  ·refine go ?_
   have HS := aps_Aps.close tv HS
   exact At.mt _ ⟨HS, H⟩
  ·refine go ?_
   have HS := aps_Aps.close tv HS
   exact At.mt _ ⟨HS, H⟩
 ·rintro x4 w ⟨HS, H⟩
  refine V.cv H rfl (fun _ H => ?_) (fun _ H => ?_)
  ·refine go ?_
   obtain ⟨_, HS⟩ := aps_Aps.open HS
   refine go ?_
   refine V.cx H rfl (fun _ H => ?_) (fun _ H => ?_)
   ·refine go ?_
    refine W.sr 7 HS rfl rfl rfl fun w HS => ?_
    refine go ?_
    have HS := aps_Aps.close tv HS
    exact rt
   ·refine go ?_
    have HS := aps_Aps.close tv HS
    exact rt
  ·refine go ?_
   refine V.cd H rfl (fun _ H => ?_) (fun _ H => ?_)
   ·refine go ?_
    obtain ⟨_, HS⟩ := aps_Aps.open HS
    refine go ?_
    refine W.sr 7 HS rfl rfl rfl fun w HS => ?_
    refine go ?_
    refine V.cd H rfl (fun _ H => ?_) (fun _ H => ?_)
    ·refine go ?_
     have HS := aps_Aps.close tv HS
     exact rt
    ·refine go ?_
     have HS := aps_Aps.close tv HS
     exact rt
   ·refine go ?_
    refine V.cd H rfl (fun _ H => ?_) (fun _ H => ?_)
    ·refine go ?_
     exact rt
    ·refine go ?_
     exact rt
mutual
def request_Of.j0 (a0 : Int) (x1 : Bool) : Option Int := (if x1 = true then some (0) else some a0)
end
def request_Of.f (a0 : Int) : Option Int := (if a0 < 0 then (request_Of.j0 a0 true) else (request_Of.j0 a0 (decide (a0 > 8))))
theorem request_Of.calls {a0 : Int} {R : As} {w0 w : World}  {r : Int} (H : request_Of.f a0 = some r) (HS : Sep.St [R] w0 w)  : Calls Tryz.prog 228 #[vi a0] w (Ret fun u w => u = vi r ∧ Sep.St [R] w0 w) := by
 refine calls_enter func228 rfl rfl ?_
 refine V.seq ?_
 refine gs ?_
 refine V.seq ?_
 refine V.meet (σ := Bool) (fun x1 w => Sep.St [R] w0 w ∧ request_Of.j0 a0 x1 = some r) (fun x1 => [(0, vi a0), (8, vb x1)]) ?_ ?_
 ·refine go ?_
  refine W.cd 5 H rfl (fun _ H => ?_) (fun _ H => ?_)
  ·refine go ?_
   exact At.mt _ ⟨HS, H⟩
  ·refine go ?_
   exact At.mt _ ⟨HS, H⟩
 ·rintro x1 w ⟨HS, H⟩
  refine V.cv H rfl (fun _ H => ?_) (fun _ H => ?_)
  ·refine go ?_
   exact rt
  ·refine go ?_
   exact rt
def request_Wins.f (a0 : Int) (a1 : Int) : Option Int := ((request_Of.f a0).bind fun t1 => ((request_Of.f a1).bind fun t3 => some (imax t1 t3)))
theorem request_Wins.calls {a0 : Int} {a1 : Int} {R : As} {w0 w : World}  {r : Int} (H : request_Wins.f a0 a1 = some r) (HS : Sep.St [R] w0 w)  : Calls Tryz.prog 221 #[vi a0, vi a1] w (Ret fun u w => u = vi r ∧ Sep.St [R] w0 w) := by
 refine calls_enter func221 rfl rfl ?_
 refine go ?_
 refine W.kl H func228 (fun _ h => request_Of.calls h HS.j0) ?_
 rintro _ _ w H ⟨rfl, HS⟩
 have HS := HS.o0
 refine go ?_
 refine W.kl H func228 (fun _ h => request_Of.calls h HS.j0) ?_
 rintro _ _ w H ⟨rfl, HS⟩
 have HS := HS.o0
 refine go ?_
 exact rt
mutual
def request_Line.j0  (x1 : Bool) : Option Int := (if x1 = true then some (1) else some (0))
end
def request_Line.f (a0 : Int) : Option Int := (if a0 ≥ 1 then (request_Line.j0 (decide (a0 ≤ 6))) else (request_Line.j0 false))
theorem request_Line.calls {a0 : Int} {R : As} {w0 w : World}  {r : Int} (H : request_Line.f a0 = some r) (HS : Sep.St [R] w0 w)  : Calls Tryz.prog 220 #[vi a0] w (Ret fun u w => u = vi r ∧ Sep.St [R] w0 w) := by
 refine calls_enter func220 rfl rfl ?_
 refine V.seq ?_
 refine gs ?_
 refine V.seq ?_
 refine V.meet (σ := Bool) (fun x1 w => Sep.St [R] w0 w ∧ request_Line.j0 x1 = some r) (fun x1 => [(8, vb x1)]) ?_ ?_
 ·refine go ?_
  refine W.cd 5 H rfl (fun _ H => ?_) (fun _ H => ?_)
  ·refine go ?_
   exact At.mt _ ⟨HS, H⟩
  ·refine go ?_
   exact At.mt _ ⟨HS, H⟩
 ·rintro x1 w ⟨HS, H⟩
  refine V.cv H rfl (fun _ H => ?_) (fun _ H => ?_)
  ·refine go ?_
   exact rt
  ·refine go ?_
   exact rt
theorem aps_Aps_held.kp_command {a0 : _} {a1 : _} {t : _} (h : aps_Aps_held.f a0 a1 = some t) : t.2.command = a0.command := by
 unfold aps_Aps_held.f at h
 repeat' split at h
 all_goals first | (injection h with h; subst h; rfl) | (cases h)
mutual
def aps_Aps_Pass.j0  (x11 : aps_Aps) (x12 : Int) : Option (Int × aps_Aps) := ((request_Wins.f x12 x11.remote).bind fun t16 => ((request_Line.f t16).bind fun t18 => some (t18, ({ x11 with own := x12, line := t18 } : aps_Aps))))
end
def aps_Aps_Pass.f (a0 : aps_Aps) (a1 : Int) (a2 : Int) : Option (Int × aps_Aps) := ((aps_Aps_held.f a0 a1).bind fun t3 => ((request_Local.f a0.command t3.1 a2).bind fun t8 => (if t8 = 0 then ((aps_Aps_after.f t3.2).bind fun t21 => (aps_Aps_Pass.j0 t21.2 t21.1)) else (aps_Aps_Pass.j0 t3.2 t8))))
theorem aps_Aps_Pass.calls {a0 : aps_Aps} {a1 : Int} {a2 : Int} {R : As} {w0 w : World} {b0 : Nat} {r : Int × aps_Aps} (H : aps_Aps_Pass.f a0 a1 a2 = some r) (HS : Sep.St [aps_Aps.at b0 a0, R] w0 w)  : Calls Tryz.prog 177 #[pt b0, vi a1, vi a2] w (Ret fun u w => u = vi r.1 ∧ Sep.St [aps_Aps.at b0 r.2, R] w0 w) := by
 refine calls_enter func177 rfl rfl ?_
 refine go ?_
 obtain ⟨_, HS⟩ := aps_Aps.open HS
 apply V.da [6, 8] [9] [(8, _), (9, _), (10, _), (11, _), (12, _), (13, _), (15, _)] mo HS
 rfl
 refine T.e [12, 13] [9] [4, 5] fun w HS => ?_
 have HS := aps_Aps.close tv HS
 obtain ⟨t3, A4, H⟩ := bind_s H
 refine ⟨_, Y.cl func218 (aps_Aps_held.calls A4 HS.j1), ?_⟩
 rintro _ w ⟨rfl, HS⟩
 have HS := HS.o1
 obtain ⟨_, HS⟩ := aps_Aps.open HS
 have hq7 : t3.2.command = a0.command := aps_Aps_held.kp_command A4
 refine T.nw HS ?_
 refine T.e [11, 14, 15] [] [0, 1, 2, 3, 7] (fun w HS => ?_) ⟨rd, rd, rd, .n1 10 rfl rfl (fun w HS => Runs.to (congrArg (Value.int .i64) hq7) (X.loadAt 0 HS rfl underlying3 rfl rfl rfl)), rds⟩
 refine Y.kl H func217 (fun _ h => request_Local.calls h HS.j0) ?_
 rintro _ _ w H ⟨rfl, HS⟩
 have HS := HS.o0
 apply T.na [(16, _), (7, _)] HS
 exact nmk
 refine T.ff [0, 7] fun w HS => ?_
 refine gs ?_
 refine V.meet (σ := aps_Aps × Int) (fun (x11, x12) w => Sep.St [aps_Aps.at b0 x11, R] w0 w ∧ aps_Aps_Pass.j0 x11 x12 = some r) (fun (x11, x12) => [(0, pt b0), (7, vi x12)]) ?_ ?_
 ·refine go ?_
  refine V.cd H rfl (fun _ H => ?_) (fun _ H => ?_)
  ·refine go ?_
   have HS := aps_Aps.close tv HS
   refine W.kl H func219 (fun _ h => aps_Aps_after.calls h HS.j1) ?_
   rintro _ _ w H ⟨rfl, HS⟩
   have HS := HS.o1
   refine go ?_
   exact At.mt (_, _) ⟨HS, H⟩
  ·refine go ?_
   have HS := aps_Aps.close tv HS
   exact At.mt (_, _) ⟨HS, H⟩
 ·rintro ⟨x11, x12⟩ w ⟨HS, H⟩
  refine go ?_
  obtain ⟨_, HS⟩ := aps_Aps.open HS
  refine go ?_
  refine W.sr 5 HS rfl rfl rfl fun w HS => ?_
  refine go ?_
  refine W.kl H func221 (fun _ h => request_Wins.calls h HS.j0) ?_
  rintro _ _ w H ⟨rfl, HS⟩
  have HS := HS.o0
  refine W.kl H func220 (fun _ h => request_Line.calls h HS.j0) ?_
  rintro _ _ w H ⟨rfl, HS⟩
  have HS := HS.o0
  refine go ?_
  refine W.sr 8 HS rfl rfl rfl fun w HS => ?_
  refine go ?_
  have HS := aps_Aps.close tv HS
  exact rt
def station_Station_twice.f (a0 : station_Station) : Option Bool := some (decide (a0.c.Mode = 0))
theorem station_Station_twice.calls {a0 : station_Station} {R : As} {w0 w : World} {b0 : Nat} {b16_p0 : Nat} {b17_p0 : Nat} {b18_p0 : Nat} {b22_p0 : Nat} {b23_p0 : Nat} {b24_p0 : Nat} {b32_p0 : Nat} {b33_p0 : Nat} {b34_p0 : Nat} {r : Bool} (H : station_Station_twice.f a0 = some r) (HS : Sep.St [blk b0 (#[vi a0.c.Mode, vi a0.c.Modulus, vi a0.c.Window, vi a0.c.T1, vi a0.c.N2, vi a0.c.Hold, vi a0.c.Wait, vi a0.c.Keep, vi a0.c.Queue, vi a0.c.Size, vi a0.c.Ring, vi a0.c.Rate, vi a0.c.Bad, vi a0.c.Good, vb a0.c.Revert, vb a0.c.Wide, pt b16_p0, pt b17_p0, pt b18_p0, Value.int .u32 a0.number, vi a0.steps, vi a0.line, pt b22_p0, pt b23_p0, pt b24_p0, vi a0.sides.1.counts.Good, vi a0.sides.1.counts.Bad, vi a0.sides.1.counts.Aborts, vi a0.sides.1.counts.Runts, vi a0.sides.1.counts.Giants, vi a0.sides.1.counts.Dropped, vi a0.sides.1.counts.Twins, pt b32_p0, pt b33_p0, pt b34_p0, vi a0.sides.2.counts.Good, vi a0.sides.2.counts.Bad, vi a0.sides.2.counts.Aborts, vi a0.sides.2.counts.Runts, vi a0.sides.2.counts.Giants, vi a0.sides.2.counts.Dropped, vi a0.sides.2.counts.Twins]) 128, arq_Arq.at b16_p0 a0.arq, aps_Aps.at b17_p0 a0.aps, twins_Table.at b18_p0 a0.twins, frame_Reader.at b22_p0 a0.sides.1.reader, monitor_Monitor.at b23_p0 a0.sides.1.monitor, ring_Ring.at b24_p0 a0.sides.1.ring, frame_Reader.at b32_p0 a0.sides.2.reader, monitor_Monitor.at b33_p0 a0.sides.2.monitor, ring_Ring.at b34_p0 a0.sides.2.ring, R] w0 w)  : Calls Tryz.prog 48 #[pt b0] w (Ret fun u w => u = vb r ∧ Sep.St [blk b0 (#[vi a0.c.Mode, vi a0.c.Modulus, vi a0.c.Window, vi a0.c.T1, vi a0.c.N2, vi a0.c.Hold, vi a0.c.Wait, vi a0.c.Keep, vi a0.c.Queue, vi a0.c.Size, vi a0.c.Ring, vi a0.c.Rate, vi a0.c.Bad, vi a0.c.Good, vb a0.c.Revert, vb a0.c.Wide, pt b16_p0, pt b17_p0, pt b18_p0, Value.int .u32 a0.number, vi a0.steps, vi a0.line, pt b22_p0, pt b23_p0, pt b24_p0, vi a0.sides.1.counts.Good, vi a0.sides.1.counts.Bad, vi a0.sides.1.counts.Aborts, vi a0.sides.1.counts.Runts, vi a0.sides.1.counts.Giants, vi a0.sides.1.counts.Dropped, vi a0.sides.1.counts.Twins, pt b32_p0, pt b33_p0, pt b34_p0, vi a0.sides.2.counts.Good, vi a0.sides.2.counts.Bad, vi a0.sides.2.counts.Aborts, vi a0.sides.2.counts.Runts, vi a0.sides.2.counts.Giants, vi a0.sides.2.counts.Dropped, vi a0.sides.2.counts.Twins]) 128, arq_Arq.at b16_p0 a0.arq, aps_Aps.at b17_p0 a0.aps, twins_Table.at b18_p0 a0.twins, frame_Reader.at b22_p0 a0.sides.1.reader, monitor_Monitor.at b23_p0 a0.sides.1.monitor, ring_Ring.at b24_p0 a0.sides.1.ring, frame_Reader.at b32_p0 a0.sides.2.reader, monitor_Monitor.at b33_p0 a0.sides.2.monitor, ring_Ring.at b34_p0 a0.sides.2.ring, R] w0 w) := by
 refine calls_enter func48 rfl rfl ?_
 refine go ?_
 exact rt
def backlog_Log_number.f (a0 : backlog_Log) (a1 : Int) : Option Int := (if ¬ (a0.m = 0) then some ((w64 (a0.first + a1)).tmod a0.m) else none)
theorem backlog_Log_number.calls {a0 : backlog_Log} {a1 : Int} {R : As} {w0 w : World} {b0 : Nat} {a5_p0 : Option Addr} {c5_p0 : Nat} {d5_p0 : List Value} {r : Int} (H : backlog_Log_number.f a0 a1 = some r) (HS : Sep.St [blk b0 (#[vi a0.m, vi a0.window, vi a0.queue, vi a0.first, vi a0.out, vs a5_p0 a0.l.length c5_p0]) 245, row 27 1 (.slice a5_p0 a0.l.length c5_p0) a0.l.length d5_p0, tie (El.sl (El.int .u8)) d5_p0 a0.l, R] w0 w)  : Calls Tryz.prog 279 #[pt b0, vi a1] w (Ret fun u w => u = vi r ∧ Sep.St [blk b0 (#[vi a0.m, vi a0.window, vi a0.queue, vi a0.first, vi a0.out, vs a5_p0 a0.l.length c5_p0]) 245, row 27 1 (.slice a5_p0 a0.l.length c5_p0) a0.l.length d5_p0, tie (El.sl (El.int .u8)) d5_p0 a0.l, R] w0 w) := by
 refine calls_enter func279 rfl rfl ?_
 refine go ?_
 obtain ⟨c1, H⟩ := ite_n H
 apply V.da [] [] [(5, _), (6, _), (7, _), (8, _), (9, _), (10, _), (11, _), (12, _), (13, _), (14, _), (15, _), (4, _)] mo HS
 rfl
 refine T.ff [4] (fun w HS => ?_) ⟨rd, rd, rd, rd, rd, rd, rd, rd, rd, rd, .n2 10 14 rfl rfl rfl (fun w HS => X.rem rfl rfl c1), rds⟩
 refine go ?_
 exact rt
mutual
def backlog_Log_Out.l0 : Nat → backlog_Log → Int → (List Int) → Option (List Int)
 | 0, _, _, _ => none
 | k + 1, a0, x5, x8 => (if x5 < a0.out then ((backlog_Log_number.f a0 x5).bind fun t12 => (if (x8.length : Int) + ([t12] : List Int).length ≤ 1099511627776 then (backlog_Log_Out.l0 k a0 (w64 (x5 + 1)) (x8 ++ ([t12] : List Int))) else none)) else some x8)
end
def backlog_Log_Out.f (k : Nat) (a0 : backlog_Log) : Option (List Int) := (backlog_Log_Out.l0 k a0 0 ([] : List Int))
theorem backlog_Log_Out.calls {k : Nat} {a0 : backlog_Log} {R : As} {w0 w : World} {b0 : Nat} {a5_p0 : Option Addr} {c5_p0 : Nat} {d5_p0 : List Value} {r : List Int} (H : backlog_Log_Out.f k a0 = some r) (HS : Sep.St [blk b0 (#[vi a0.m, vi a0.window, vi a0.queue, vi a0.first, vi a0.out, vs a5_p0 a0.l.length c5_p0]) 245, row 27 1 (.slice a5_p0 a0.l.length c5_p0) a0.l.length d5_p0, tie (El.sl (El.int .u8)) d5_p0 a0.l, R] w0 w)  : Calls Tryz.prog 260 #[pt b0] w (Ret fun u w => ∃ (aq0 : Option Addr) (cq0 : Nat), u = vs aq0 r.length cq0 ∧ Sep.St [row 3 1 (.slice aq0 r.length cq0) r.length (r.map (Value.int .i64)), blk b0 (#[vi a0.m, vi a0.window, vi a0.queue, vi a0.first, vi a0.out, vs a5_p0 a0.l.length c5_p0]) 245, row 27 1 (.slice a5_p0 a0.l.length c5_p0) a0.l.length d5_p0, tie (El.sl (El.int .u8)) d5_p0 a0.l, R] w0 w) := by
 refine calls_enter func260 rfl rfl ?_
 refine go ?_
 have HS := row_nilF (Value.int .i64) 3 1 HS
 refine V.lp (σ := Int × Option Addr × Nat × List Int) (fun kq (x5, ra6, rc7, x8) w => Sep.St [row 3 1 (.slice ra6 x8.length rc7) x8.length (x8.map (Value.int .i64)), blk b0 (#[vi a0.m, vi a0.window, vi a0.queue, vi a0.first, vi a0.out, vs a5_p0 a0.l.length c5_p0]) 245, row 27 1 (.slice a5_p0 a0.l.length c5_p0) a0.l.length d5_p0, tie (El.sl (El.int .u8)) d5_p0 a0.l, R] w0 w ∧ backlog_Log_Out.l0 kq a0 x5 x8 = some r ∧ kq ≤ k) (fun (x5, ra6, rc7, x8) => [(0, pt b0), (3, vs ra6 x8.length rc7), (8, vi a0.out), (9, vi x5)]) (_, _, _, _) ⟨HS, H, Nat.le_refl _⟩ ?_
 rintro kq9 ⟨x5, ra6, rc7, x8⟩ w ⟨HS, H, _⟩
 cases kq9 with
 | zero => exact absurd H (by simp [backlog_Log_Out.l0])
 | succ kq9 =>
  simp only [backlog_Log_Out.l0] at H
  refine go ?_
  refine V.cd H rfl (fun _ H => ?_) (fun _ H => ?_)
  ·refine go ?_
   have HS := HS.b [1, 1, 1]
   refine W.kl H func279 (fun _ h => backlog_Log_number.calls h HS.j3) ?_
   rintro t12 _ w H ⟨rfl, HS⟩
   have HS := HS.o3
   refine W.e (Y.ls (e := 3) (Value.int .i64) ([t12] : List Int) HS rfl rfl (fun _ => by kernel_rfl)) rfl ?_
   rintro _ w ⟨_, rfl, HS⟩
   obtain ⟨_, H⟩ := ite_n H
   refine W.e (Y.appF (Value.int .i64) (fun _ => rfl) 4 underlying48 ap3 rfl HS rfl rfl rfl (rdC.at 0 row_rd HS rfl) (by omega) (by omega)) rfl ?_
   rintro _ w ⟨_, _, rfl, HS⟩
   refine go ?_
   have HS := HS.ke [4, 1, 1, 1, 1]
   exact At.rn (_, _, _, _) ⟨HS, H, by omega⟩
  ·refine go ?_
   exact rt
def serial_round.f (a0 : Int) (a1 : Int) : Option (Int × Int) := (if ¬ (imax (1) (imin a1 (1073741824)) = 0) then (if (a0.tmod (imax (1) (imin a1 (1073741824)))) < 0 then some (w64 ((a0.tmod (imax (1) (imin a1 (1073741824)))) + (imax (1) (imin a1 (1073741824)))), imax (1) (imin a1 (1073741824))) else some (a0.tmod (imax (1) (imin a1 (1073741824))), imax (1) (imin a1 (1073741824)))) else none)
theorem serial_round.calls {a0 : Int} {a1 : Int} {R : As} {w0 w : World}  {r : Int × Int} (H : serial_round.f a0 a1 = some r) (HS : Sep.St [R] w0 w)  : Calls Tryz.prog 235 #[vi a0, vi a1] w (Ret fun u w => u = Value.tuple #[vi r.1, vi r.2] ∧ Sep.St [R] w0 w) := by
 refine calls_enter func235 rfl rfl ?_
 refine go ?_
 obtain ⟨c1, H⟩ := ite_n H
 refine W.r (X.rem rfl rfl c1) rfl ?_
 refine go ?_
 refine V.cd H rfl (fun _ H => ?_) (fun _ H => ?_)
 ·refine go ?_
  exact rt
 ·refine go ?_
  exact rt
def serial_Dist.f (a0 : Int) (a1 : Int) (a2 : Int) : Option Int := ((serial_round.f a0 a2).bind fun t1 => ((serial_round.f a1 a2).bind fun t3 => ((serial_round.f (w64 (t3.1 - t1.1)) t3.2).bind fun t5 => some t5.1)))
theorem serial_Dist.calls {a0 : Int} {a1 : Int} {a2 : Int} {R : As} {w0 w : World}  {r : Int} (H : serial_Dist.f a0 a1 a2 = some r) (HS : Sep.St [R] w0 w)  : Calls Tryz.prog 309 #[vi a0, vi a1, vi a2] w (Ret fun u w => u = vi r ∧ Sep.St [R] w0 w) := by
 refine calls_enter func309 rfl rfl ?_
 refine go ?_
 refine W.kl H func235 (fun _ h => serial_round.calls h HS.j0) ?_
 rintro _ _ w H ⟨rfl, HS⟩
 have HS := HS.o0
 refine go ?_
 refine W.kl H func235 (fun _ h => serial_round.calls h HS.j0) ?_
 rintro _ _ w H ⟨rfl, HS⟩
 have HS := HS.o0
 refine go ?_
 refine W.kl H func235 (fun _ h => serial_round.calls h HS.j0) ?_
 rintro _ _ w H ⟨rfl, HS⟩
 have HS := HS.o0
 refine go ?_
 exact rt
def slices_Clone_Sbytebyte.f (a0 : List Int) : Option (List Int) := (if (([] : List Int).length : Int) + a0.length ≤ 1099511627776 then some (([] : List Int) ++ a0) else none)
theorem slices_Clone_Sbytebyte.calls {a0 : List Int} {R : As} {w0 w : World} {sa0 : Option Addr} {sc0 : Nat} {r : List Int} (H : slices_Clone_Sbytebyte.f a0 = some r) (HS : Sep.St [R] w0 w) (hr0 : rdC R 1 (.slice sa0 a0.length sc0) a0.length (a0.map (Value.int .u8))) : Calls Tryz.prog 189 #[vs sa0 a0.length sc0] w (Ret fun u w => ∃ (aq0 : Option Addr) (cq0 : Nat), u = vs aq0 r.length cq0 ∧ Sep.St [row 5 1 (.slice aq0 r.length cq0) r.length (r.map (Value.int .u8)), R] w0 w) := by
 unfold slices_Clone_Sbytebyte.f at H
 refine calls_enter func189 rfl rfl ?_
 have H : _ = some r := H
 refine go ?_
 refine W.r (X.eqSl underlying27 rfl rfl) rfl ?_
 refine go ?_
 by_cases cg1 : sa0.isNone = false
 ·refine V.condF (sb cg1) ?_
  refine go ?_
  refine W.e (Y.lit (e := 5) (sz := 1) (vs := #[]) [] HS (fun a ha => by simp only [List.map_toArray, List.map_cons, List.map_nil]; try rfl) rfl (by decide) (fun _ => by kernel_rfl)) rfl ?_
  rintro _ w ⟨ra4, rc5, rfl, HS⟩
  have HS : Sep.St [row 5 1 (.slice ra4 ([] : List Int).length rc5) ([] : List Int).length (([] : List Int).map (Value.int .u8)), R] w0 w := HS
  refine go ?_
  obtain ⟨_, H⟩ := ite_n H
  refine W.e (Y.appF (Value.int .u8) (fun _ => rfl) 0 underlying27 ap5 rfl HS rfl rfl rfl (rdC.at 1 hr0 HS rfl) (by omega) (by omega)) rfl ?_
  rintro _ w ⟨_, _, rfl, HS⟩
  refine go ?_
  exact rt
 ·have hN2 : sa0.isNone = true := by simpa using cg1
  have hz3 : a0 = [] := List.eq_nil_of_length_eq_zero ((rdC.at 0 hr0 HS rfl).nil (Option.isNone_iff_eq_none.1 hN2)).1
  have H : some ([] : List Int) = some r := by simpa [hz3] using H
  refine V.condT (sb hN2) ?_
  refine go ?_
  have HS := row_nilF (Value.int .u8) 5 1 HS
  exact rt
mutual
def backlog_Log_Body.j0 (a0 : backlog_Log) (t1 : Int) (x6 : Bool) : Option (List Int × Bool) := (if x6 = true then some (([] : List Int), false) else (if 0 ≤ t1 ∧ t1 < (a0.l.length : Int) then ((slices_Clone_Sbytebyte.f (a0.l.getD t1.toNat [])).bind fun t18 => some (t18, true)) else none))
end
def backlog_Log_Body.f (a0 : backlog_Log) (a1 : Int) : Option (List Int × Bool) := ((serial_Dist.f a0.first a1 a0.m).bind fun t1 => (if a1 < 0 then (backlog_Log_Body.j0 a0 t1 true) else (if a1 ≥ a0.m then (backlog_Log_Body.j0 a0 t1 true) else (backlog_Log_Body.j0 a0 t1 (decide (t1 ≥ a0.out))))))
theorem backlog_Log_Body.calls {a0 : backlog_Log} {a1 : Int} {R : As} {w0 w : World} {b0 : Nat} {a5_p0 : Option Addr} {c5_p0 : Nat} {d5_p0 : List Value} {r : List Int × Bool} (H : backlog_Log_Body.f a0 a1 = some r) (HS : Sep.St [blk b0 (#[vi a0.m, vi a0.window, vi a0.queue, vi a0.first, vi a0.out, vs a5_p0 a0.l.length c5_p0]) 245, row 27 1 (.slice a5_p0 a0.l.length c5_p0) a0.l.length d5_p0, tie (El.sl (El.int .u8)) d5_p0 a0.l, R] w0 w)  : Calls Tryz.prog 291 #[pt b0, vi a1] w (Ret fun u w => ∃ (aq0 : Option Addr) (cq0 : Nat), u = Value.tuple #[vs aq0 r.1.length cq0, vb r.2] ∧ Sep.St [row 5 1 (.slice aq0 r.1.length cq0) r.1.length (r.1.map (Value.int .u8)), blk b0 (#[vi a0.m, vi a0.window, vi a0.queue, vi a0.first, vi a0.out, vs a5_p0 a0.l.length c5_p0]) 245, row 27 1 (.slice a5_p0 a0.l.length c5_p0) a0.l.length d5_p0, tie (El.sl (El.int .u8)) d5_p0 a0.l, R] w0 w) := by
 refine calls_enter func291 rfl rfl ?_
 refine go ?_
 apply V.da [9] [10] [(7, _), (8, _), (9, _), (10, _), (11, _), (12, _), (13, _), (14, _), (15, _)] mo HS
 rfl
 refine T.e [10, 11, 15] [] [0, 1, 2, 3, 4, 5, 6, 7, 8] fun w HS => ?_
 refine Y.kl H func309 (fun _ h => serial_Dist.calls h HS.j0) ?_
 rintro t1 _ w H ⟨rfl, HS⟩
 have HS := HS.o0
 apply T.na [(16, _), (6, _)] HS
 exact nmk
 refine T.ff [0, 1, 6] fun w HS => ?_
 refine gs ?_
 refine V.seq ?_
 refine V.meet (σ := Bool) (fun x6 w => Sep.St [blk b0 (#[vi a0.m, vi a0.window, vi a0.queue, vi a0.first, vi a0.out, vs a5_p0 a0.l.length c5_p0]) 245, row 27 1 (.slice a5_p0 a0.l.length c5_p0) a0.l.length d5_p0, tie (El.sl (El.int .u8)) d5_p0 a0.l, R] w0 w ∧ backlog_Log_Body.j0 a0 t1 x6 = some r) (fun x6 => [(0, pt b0), (6, vi t1), (34, vb x6)]) ?_ ?_
 ·refine go ?_
  refine W.cd 19 H rfl (fun _ H => ?_) (fun _ H => ?_)
  ·refine go ?_
   exact At.mt _ ⟨HS, H⟩
  ·refine go ?_
   refine W.cd 27 H rfl (fun _ H => ?_) (fun _ H => ?_)
   ·refine go ?_
    exact At.mt _ ⟨HS, H⟩
   ·refine go ?_
    exact At.mt _ ⟨HS, H⟩
 ·rintro x6 w ⟨HS, H⟩
  refine V.cv H rfl (fun _ H => ?_) (fun _ H => ?_)
  ·refine go ?_
   have HS := row_nilF (Value.int .u8) 5 1 HS
   exact rt
  ·refine go ?_
   obtain ⟨c9, H⟩ := ite_n H
   obtain ⟨_, _, hh⟩ := (rdC.at 1 row_rd HS rfl).some (by decide) c9.1 c9.2; subst hh
   refine go ?_
   obtain ⟨_, hc13, HS⟩ := St.tie_at 2 HS rfl ([]) c9.1 c9.2
   obtain ⟨_, _, he17, HN⟩ := St.sl_openF (Value.int .u8) (fun t => tie_int t) HS; clear HS; subst he17; have HS := HN
   refine W.r (X.load underlying27 rfl rfl ((rdC.at 2 row_rd HS rfl).cellEl0 (hc13 0 _ rfl))) rfl ?_
   refine W.kl H func189 (fun _ h => slices_Clone_Sbytebyte.calls h HS.j0 (rdC.part 0 fsl.rd rfl)) ?_
   rintro _ _ w H ⟨_, _, rfl, HS⟩
   have HS := HS.o1
   refine go ?_
   have HS := HS.ke [0, 1, 1, 1, 1]
   exact rt
def reorder_Order_Next.f (a0 : reorder_Order) : Option Int := some a0.next
theorem reorder_Order_Next.calls {a0 : reorder_Order} {R : As} {w0 w : World} {b0 : Nat} {b3_p0 : Nat} {k3_p0 : List (Int × Value)} {a4_p0 : Option Addr} {c4_p0 : Nat} {d4_p0 : List Value} {r : Int} (H : reorder_Order_Next.f a0 = some r) (HS : Sep.St [blk b0 (#[vi a0.m, vi a0.window, vi a0.next, Value.map (some b3_p0), vs a4_p0 a0.ready.length c4_p0]) 248, mblk b3_p0 k3_p0, tieM (El.sl (El.int .u8)) k3_p0 a0.kept, row 27 1 (.slice a4_p0 a0.ready.length c4_p0) a0.ready.length d4_p0, tie (El.sl (El.int .u8)) d4_p0 a0.ready, R] w0 w)  : Calls Tryz.prog 280 #[pt b0] w (Ret fun u w => u = vi r ∧ Sep.St [blk b0 (#[vi a0.m, vi a0.window, vi a0.next, Value.map (some b3_p0), vs a4_p0 a0.ready.length c4_p0]) 248, mblk b3_p0 k3_p0, tieM (El.sl (El.int .u8)) k3_p0 a0.kept, row 27 1 (.slice a4_p0 a0.ready.length c4_p0) a0.ready.length d4_p0, tie (El.sl (El.int .u8)) d4_p0 a0.ready, R] w0 w) := by
 refine calls_enter func280 rfl rfl ?_
 refine go ?_
 exact rt
def control_modulus.f (a0 : Int) : Option Bool := (if a0 = 128 then some true else some (decide (a0 = 32768)))
theorem control_modulus.calls {a0 : Int} {R : As} {w0 w : World}  {r : Bool} (H : control_modulus.f a0 = some r) (HS : Sep.St [R] w0 w)  : Calls Tryz.prog 311 #[vi a0] w (Ret fun u w => u = vb r ∧ Sep.St [R] w0 w) := by
 refine calls_enter func311 rfl rfl ?_
 refine go ?_
 refine W.cd 5 H rfl (fun _ H => ?_) (fun _ H => ?_)
 ·refine go ?_
  exact rt
 ·refine go ?_
  exact rt
def control_of.f (a0 : Int) (a1 : Int) : Option Bool := (if a0 ≥ 0 then some (decide (a0 < a1)) else some false)
theorem control_of.calls {a0 : Int} {a1 : Int} {R : As} {w0 w : World}  {r : Bool} (H : control_of.f a0 a1 = some r) (HS : Sep.St [R] w0 w)  : Calls Tryz.prog 317 #[vi a0, vi a1] w (Ret fun u w => u = vb r ∧ Sep.St [R] w0 w) := by
 refine calls_enter func317 rfl rfl ?_
 refine go ?_
 refine W.cd 7 H rfl (fun _ H => ?_) (fun _ H => ?_)
 ·refine go ?_
  exact rt
 ·refine go ?_
  exact rt
structure api_Ctl where
 Kind : Int
 Ns : Int
 Nr : Int
 Poll : Bool
deriving DecidableEq, Inhabited
def api_Ctl.at (b : Nat) (x : api_Ctl) : As := fun h => True ∧ Sp [blk b (#[vi x.Kind, vi x.Ns, vi x.Nr, vb x.Poll]) 263] h
theorem api_Ctl.open {b : Nat} {x : api_Ctl} {L : List As} {w0 w : World} (hs : Sep.St (api_Ctl.at b x :: L) w0 w) : True ∧ Sep.St (blk b (#[vi x.Kind, vi x.Ns, vi x.Nr, vb x.Poll]) 263 :: L) w0 w := by
 obtain ⟨ho, ht, hu, h, hon, h1, h2, hd, e1, e2, ⟨hi, hA⟩, hl⟩ := hs
 exact ⟨hi, St.open (m := [blk b (#[vi x.Kind, vi x.Ns, vi x.Nr, vb x.Poll]) 263]) ⟨ho, ht, hu, h, hon, h1, h2, hd, e1, e2, hA, hl⟩⟩
theorem api_Ctl.close {b : Nat} {l0 : Int} {l1 : Int} {l2 : Int} {l3 : Bool}  {L : List As} {w0 w : World} (hi : True) (hs : Sep.St (blk b (#[vi l0, vi l1, vi l2, vb l3]) 263 :: L) w0 w) : Sep.St (api_Ctl.at b ({ Kind := l0, Ns := l1, Nr := l2, Poll := l3 } : api_Ctl) :: L) w0 w := by
 have h2 := St.join (m := [blk b (#[vi l0, vi l1, vi l2, vb l3]) 263]) hs
 exact h2.mono fun h hh => ⟨hi, hh⟩
mutual
def control_Right.j0 (a0 : api_Ctl) (a1 : Int) (x12 : Bool) : Option Bool := (if x12 = true then (if a0.Ns = 0 then ((control_of.f a0.Nr a1).bind fun t18 => some t18) else some false) else (if a0.Kind ≥ 3 then (if a0.Kind ≤ 7 then (if a0.Ns = 0 then some (decide (a0.Nr = 0)) else some false) else some false) else some false))
end
def control_Right.f (a0 : api_Ctl) (a1 : Int) : Option Bool := ((control_modulus.f a1).bind fun t2 => (if t2 = true then (if a0.Kind = 0 then ((control_of.f a0.Ns a1).bind fun t6 => (if t6 = true then ((control_of.f a0.Nr a1).bind fun t9 => some t9) else some false)) else (if a0.Kind = 1 then (control_Right.j0 a0 a1 true) else (control_Right.j0 a0 a1 (decide (a0.Kind = 2))))) else some false))
theorem control_Right.calls {a0 : api_Ctl} {a1 : Int} {R : As} {w0 w : World}  {r : Bool} (H : control_Right.f a0 a1 = some r) (HS : Sep.St [R] w0 w)  : Calls Tryz.prog 303 #[Value.agg #[vi a0.Kind, vi a0.Ns, vi a0.Nr, vb a0.Poll], vi a1] w (Ret fun u w => u = vb r ∧ Sep.St [R] w0 w) := by
 refine calls_enter func303 rfl rfl ?_
 refine go ?_
 refine W.e (Y.box HS rfl) rfl ?_
 rintro _ w ⟨nb1, rfl, HS⟩
 refine go ?_
 refine W.kl H func311 (fun _ h => control_modulus.calls h HS.j0) ?_
 rintro _ _ w H ⟨rfl, HS⟩
 have HS := HS.o0
 refine go ?_
 refine V.cx H rfl (fun _ H => ?_) (fun _ H => ?_)
 ·refine go ?_
  refine V.cd H rfl (fun _ H => ?_) (fun _ H => ?_)
  ·refine go ?_
   refine W.kl H func317 (fun _ h => control_of.calls h HS.j0) ?_
   rintro _ _ w H ⟨rfl, HS⟩
   have HS := HS.o0
   refine go ?_
   refine W.cv 17 H rfl (fun _ H => ?_) (fun _ H => ?_)
   ·refine go ?_
    refine W.kl H func317 (fun _ h => control_of.calls h HS.j0) ?_
    rintro _ _ w H ⟨rfl, HS⟩
    have HS := HS.o0
    refine go ?_
    have HS := HS.ke [1]
    exact rt
   ·refine go ?_
    have HS := HS.ke [1]
    exact rt
  ·refine V.meet (σ := Bool) (fun x12 w => Sep.St [api_Ctl.at nb1 a0, R] w0 w ∧ control_Right.j0 a0 a1 x12 = some r) (fun x12 => [(1, vi a1), (2, pt nb1), (23, vb x12)]) ?_ ?_
   ·refine go ?_
    refine W.cd 27 H rfl (fun _ H => ?_) (fun _ H => ?_)
    ·refine go ?_
     have HS := api_Ctl.close tv HS
     exact At.mt _ ⟨HS, H⟩
    ·refine go ?_
     have HS := api_Ctl.close tv HS
     exact At.mt _ ⟨HS, H⟩
   ·rintro x12 w ⟨HS, H⟩
    refine V.cv H rfl (fun _ H => ?_) (fun _ H => ?_)
    ·refine go ?_
     obtain ⟨_, HS⟩ := api_Ctl.open HS
     refine go ?_
     refine W.cd 35 H rfl (fun _ H => ?_) (fun _ H => ?_)
     ·refine go ?_
      refine W.kl H func317 (fun _ h => control_of.calls h HS.j0) ?_
      rintro _ _ w H ⟨rfl, HS⟩
      have HS := HS.o0
      refine go ?_
      have HS := HS.ke [1]
      exact rt
     ·refine go ?_
      have HS := HS.ke [1]
      exact rt
    ·refine go ?_
     obtain ⟨_, HS⟩ := api_Ctl.open HS
     refine go ?_
     refine W.cd 44 H rfl (fun _ H => ?_) (fun _ H => ?_)
     ·refine go ?_
      refine W.cd 49 H rfl (fun _ H => ?_) (fun _ H => ?_)
      ·refine go ?_
       refine W.cd 54 H rfl (fun _ H => ?_) (fun _ H => ?_)
       ·refine go ?_
        have HS := HS.ke [1]
        exact rt
       ·refine go ?_
        have HS := HS.ke [1]
        exact rt
      ·refine go ?_
       have HS := HS.ke [1]
       exact rt
     ·refine go ?_
      have HS := HS.ke [1]
      exact rt
 ·refine go ?_
  have HS := HS.ke [1]
  exact rt
def control_bit.f (a0 : Bool) : Option Int := (if a0 = true then some (1) else some (0))
theorem control_bit.calls {a0 : Bool} {R : As} {w0 w : World}  {r : Int} (H : control_bit.f a0 = some r) (HS : Sep.St [R] w0 w)  : Calls Tryz.prog 304 #[vb a0] w (Ret fun u w => u = vi r ∧ Sep.St [R] w0 w) := by
 refine calls_enter func304 rfl rfl ?_
 refine go ?_
 refine V.cv H rfl (fun _ H => ?_) (fun _ H => ?_)
 ·refine go ?_
  exact rt
 ·refine go ?_
  exact rt
def control_put.f (a0 : List Int) (a1 : Int) (a2 : Int) : Option (List Int) := (if (a0.length : Int) + ([IntKind.u8.wrap a1] : List Int).length ≤ 1099511627776 then (if a2 = 32768 then (if ((a0 ++ ([IntKind.u8.wrap a1] : List Int)).length : Int) + (([IntKind.u8.wrap (a1.fdiv (2 ^ (min (8 : Int).toNat IntKind.i64.bits)))] : List Int)).length ≤ 1099511627776 then some ((a0 ++ ([IntKind.u8.wrap a1] : List Int)) ++ ([IntKind.u8.wrap (a1.fdiv (2 ^ (min (8 : Int).toNat IntKind.i64.bits)))] : List Int)) else none) else some (a0 ++ ([IntKind.u8.wrap a1] : List Int))) else none)
theorem control_put.calls {a0 : List Int} {a1 : Int} {a2 : Int} {R : As} {w0 w : World} {sa0 : Option Addr} {sc0 : Nat} {r : List Int} (H : control_put.f a0 a1 a2 = some r) (HS : Sep.St [row 5 1 (.slice sa0 a0.length sc0) a0.length (a0.map (Value.int .u8)), R] w0 w)  : Calls Tryz.prog 305 #[vs sa0 a0.length sc0, vi a1, vi a2] w (Ret fun u w => ∃ (aq0 : Option Addr) (cq0 : Nat), u = vs aq0 r.length cq0 ∧ Sep.St [row 5 1 (.slice aq0 r.length cq0) r.length (r.map (Value.int .u8)), R] w0 w) := by
 refine calls_enter func305 rfl rfl ?_
 refine go ?_
 refine W.e (Y.ls (e := 5) (Value.int .u8) ([IntKind.u8.wrap a1] : List Int) HS rfl rfl (fun _ => by kernel_rfl)) rfl ?_
 rintro _ w ⟨_, rfl, HS⟩
 obtain ⟨_, H⟩ := ite_n H
 refine W.e (Y.appF (Value.int .u8) (fun _ => rfl) 1 underlying27 ap5 rfl HS rfl rfl rfl (rdC.at 0 row_rd HS rfl) (by omega) (by omega)) rfl ?_
 rintro _ w ⟨_, _, rfl, HS⟩
 refine go ?_
 refine V.cd H rfl (fun _ H => ?_) (fun _ H => ?_)
 ·refine go ?_
  refine W.r (X.shr rfl rfl (by decide)) rfl ?_
  refine go ?_
  refine W.e (Y.ls (e := 5) (Value.int .u8) ([IntKind.u8.wrap (a1.fdiv (2 ^ (min (8 : Int).toNat IntKind.i64.bits)))] : List Int) HS rfl rfl (fun _ => by kernel_rfl)) rfl ?_
  rintro _ w ⟨_, rfl, HS⟩
  obtain ⟨_, H⟩ := ite_n H
  refine W.e (Y.appF (Value.int .u8) (fun _ => rfl) 2 underlying27 ap5 rfl HS rfl rfl rfl (rdC.at 0 row_rd HS rfl) (by omega) (by omega)) rfl ?_
  rintro _ w ⟨_, _, rfl, HS⟩
  refine go ?_
  have HS := HS.ke [2, 2]
  exact rt
 ·refine go ?_
  have HS := HS.ke [1, 1]
  exact rt
def control_plain.f  : Option (List Int) := some ([111, 99, 67, 15, 135] : List Int)
theorem control_plain.calls  {R : As} {w0 w : World}  {r : List Int} (H : control_plain.f  = some r) (HS : Sep.St [R] w0 w)  : Calls Tryz.prog 306 #[] w (Ret fun u w => ∃ (aq0 : Option Addr) (cq0 : Nat), u = vs aq0 r.length cq0 ∧ Sep.St [row 5 1 (.slice aq0 r.length cq0) r.length (r.map (Value.int .u8)), R] w0 w) := by
 refine calls_enter func306 rfl rfl ?_
 refine go ?_
 refine W.e (Y.ls (e := 5) (Value.int .u8) ([111, 99, 67, 15, 135] : List Int) HS rfl rfl (fun _ => by kernel_rfl)) rfl ?_
 rintro _ w ⟨_, rfl, HS⟩
 refine go ?_
 exact rt
def control_Bytes.f (a0 : api_Ctl) (a1 : Int) : Option (List Int) := ((control_Right.f a0 a1).bind fun t3 => (if t3 = true then ((control_bit.f a0.Poll).bind fun t6 => (if a0.Kind = 0 then ((control_put.f ([] : List Int) (w64 (2 * a0.Ns)) a1).bind fun t9 => ((control_put.f t9 (w64 ((w64 (2 * a0.Nr)) + t6)) a1).bind fun t11 => some t11)) else (if a0.Kind = 1 then ((control_put.f ([] : List Int) 1 a1).bind fun t14 => ((control_put.f t14 (w64 ((w64 (2 * a0.Nr)) + t6)) a1).bind fun t16 => some t16)) else (if a0.Kind = 2 then ((control_put.f ([] : List Int) 9 a1).bind fun t19 => ((control_put.f t19 (w64 ((w64 (2 * a0.Nr)) + t6)) a1).bind fun t21 => some t21)) else ((control_plain.f ).bind fun t23 => (if 0 ≤ w64 (a0.Kind - 3) ∧ w64 (a0.Kind - 3) < (t23.length : Int) then some (([ior .u8 (t23.getD (w64 (a0.Kind - 3)).toNat 0) (IntKind.u8.wrap (w64 (t6 * 16)))] : List Int)) else none)))))) else some ([] : List Int)))
theorem control_Bytes.calls {a0 : api_Ctl} {a1 : Int} {R : As} {w0 w : World}  {r : List Int} (H : control_Bytes.f a0 a1 = some r) (HS : Sep.St [R] w0 w)  : Calls Tryz.prog 278 #[Value.agg #[vi a0.Kind, vi a0.Ns, vi a0.Nr, vb a0.Poll], vi a1] w (Ret fun u w => ∃ (aq0 : Option Addr) (cq0 : Nat), u = vs aq0 r.length cq0 ∧ Sep.St [row 5 1 (.slice aq0 r.length cq0) r.length (r.map (Value.int .u8)), R] w0 w) := by
 refine calls_enter func278 rfl rfl ?_
 refine go ?_
 refine W.e (Y.box HS rfl) rfl ?_
 rintro _ w ⟨_, rfl, HS⟩
 refine go ?_
 refine W.kl H func303 (fun _ h => control_Right.calls h HS.j0) ?_
 rintro _ _ w H ⟨rfl, HS⟩
 have HS := HS.o0
 refine go ?_
 refine V.cx H rfl (fun _ H => ?_) (fun _ H => ?_)
 ·refine go ?_
  refine W.kl H func304 (fun _ h => control_bit.calls h HS.j0) ?_
  rintro t6 _ w H ⟨rfl, HS⟩
  have HS := HS.o0
  refine go ?_
  refine V.cd H rfl (fun _ H => ?_) (fun _ H => ?_)
  ·refine go ?_
   apply V.da [4, 11] [12] [(17, _), (18, _), (19, _), (20, _), (22, _), (23, _), (24, _), (25, _), (26, _), (27, _)] mo HS
   rfl
   refine T.e [19, 20] [12] [0, 1, 2, 3] fun w HS => ?_
   have HS := row_nilF (Value.int .u8) 5 1 HS
   refine Y.kl H func305 (fun _ h => control_put.calls h HS.j1) ?_
   rintro _ _ w H ⟨_, _, rfl, HS⟩
   have HS := HS.o1
   refine T.nw HS ?_
   refine T.e [21, 26, 27] [] [5, 6, 7, 8, 9, 10] fun w HS => ?_
   refine Y.kl H func305 (fun _ h => control_put.calls h HS.j1) ?_
   rintro _ _ w H ⟨_, _, rfl, HS⟩
   have HS := HS.o1
   apply T.na [(28, _), (4, _)] HS
   exact nmk
   refine T.ff [4] fun w HS => ?_
   refine go ?_
   have HS := HS.ke [0, 1]
   exact rt
  ·refine go ?_
   refine V.cd H rfl (fun _ H => ?_) (fun _ H => ?_)
   ·refine go ?_
    apply V.da [1, 8] [9] [(31, _), (33, _), (34, _), (35, _), (36, _), (37, _), (38, _)] mo HS
    rfl
    refine T.e [31] [9] [0] fun w HS => ?_
    have HS := row_nilF (Value.int .u8) 5 1 HS
    refine Y.kl H func305 (fun _ h => control_put.calls h HS.j1) ?_
    rintro _ _ w H ⟨_, _, rfl, HS⟩
    have HS := HS.o1
    refine T.nw HS ?_
    refine T.e [32, 37, 38] [] [2, 3, 4, 5, 6, 7] fun w HS => ?_
    refine Y.kl H func305 (fun _ h => control_put.calls h HS.j1) ?_
    rintro _ _ w H ⟨_, _, rfl, HS⟩
    have HS := HS.o1
    apply T.na [(39, _), (4, _)] HS
    exact nmk
    refine T.ff [4] fun w HS => ?_
    refine go ?_
    have HS := HS.ke [0, 1]
    exact rt
   ·refine go ?_
    refine V.cd H rfl (fun _ H => ?_) (fun _ H => ?_)
    ·refine go ?_
     apply V.da [1, 8] [9] [(42, _), (44, _), (45, _), (46, _), (47, _), (48, _), (49, _)] mo HS
     rfl
     refine T.e [42] [9] [0] fun w HS => ?_
     have HS := row_nilF (Value.int .u8) 5 1 HS
     refine Y.kl H func305 (fun _ h => control_put.calls h HS.j1) ?_
     rintro _ _ w H ⟨_, _, rfl, HS⟩
     have HS := HS.o1
     refine T.nw HS ?_
     refine T.e [43, 48, 49] [] [2, 3, 4, 5, 6, 7] fun w HS => ?_
     refine Y.kl H func305 (fun _ h => control_put.calls h HS.j1) ?_
     rintro _ _ w H ⟨_, _, rfl, HS⟩
     have HS := HS.o1
     apply T.na [(50, _), (4, _)] HS
     exact nmk
     refine T.ff [4] fun w HS => ?_
     refine go ?_
     have HS := HS.ke [0, 1]
     exact rt
    ·refine go ?_
     apply V.da [0, 10] [4, 5, 9, 11] [(52, _), (53, _), (54, _), (57, _), (58, _), (59, _)] mo HS
     rfl
     refine T.e [] [11] [] fun w HS => ?_
     refine Y.kl H func306 (fun _ h => control_plain.calls h HS.j0) ?_
     rintro t23 _ w H ⟨_, _, rfl, HS⟩
     have HS := HS.o1
     obtain ⟨c25, H⟩ := ite_n H
     obtain ⟨_, _, hh⟩ := (rdC.at 0 row_rd HS rfl).some (by decide) c25.1 c25.2; subst hh
     apply T.na [(51, _), (55, _), (56, _), (60, _)] HS
     exact nmk
     refine T.e [60] [] [1, 2, 3, 4, 5, 6, 7, 8, 9] (fun w HS => ?_) ⟨rd, rd, rd, rd, .n1 55 rfl rfl (fun w HS => X.load underlying5 rfl rfl ((rdC.at 0 row_rd HS rfl).cellI c25.1 c25.2)), rd, rd, rd, .n2 56 59 rfl rfl rfl (fun w HS => X.or rfl rfl), rds⟩
     refine ⟨_, Y.ls (e := 5) (Value.int .u8) ([ior .u8 (t23.getD (w64 (a0.Kind - 3)).toNat 0) (IntKind.u8.wrap (w64 (t6 * 16)))] : List Int) HS rfl rfl (fun _ => by kernel_rfl), ?_⟩
     rintro _ w ⟨_, rfl, HS⟩
     apply T.na [(61, _), (4, _)] HS
     exact nmk
     refine T.ff [4] fun w HS => ?_
     refine go ?_
     have HS := HS.ke [0, 2]
     exact rt
 ·refine go ?_
  have HS := (row_nilF (Value.int .u8) 5 1 HS).ke [0, 1]
  exact rt
def arq_Arq_put.f (k : Nat) (a0 : arq_Arq) (a1 : Int) (a2 : api_Ctl) (a3 : List Int) : Option arq_Arq := ((control_Bytes.f a2 a0.m).bind fun t7 => ((slices_Concat_Sbytebyte.f k ([([IntKind.u8.wrap (a1.fdiv (2 ^ (min (8 : Int).toNat IntKind.i64.bits))), IntKind.u8.wrap a1] : List Int), t7, a3] : List (List Int))).bind fun t12 => (if (a0.out.length : Int) + (([t12] : List (List Int))).length ≤ 1099511627776 then some (({ a0 with out := a0.out ++ ([t12] : List (List Int)) } : arq_Arq)) else none)))
theorem arq_Arq_put.calls {k : Nat} {a0 : arq_Arq} {a1 : Int} {a2 : api_Ctl} {a3 : List Int} {R : As} {w0 w : World} {b0 : Nat} {sa3 : Option Addr} {sc3 : Nat} {r : arq_Arq} (H : arq_Arq_put.f k a0 a1 a2 a3 = some r) (HS : Sep.St [arq_Arq.at b0 a0, fsl 1 (.slice sa3 a3.length sc3) a3.length (a3.map (Value.int .u8)), R] w0 w)  : Calls Tryz.prog 236 #[pt b0, vi a1, Value.agg #[vi a2.Kind, vi a2.Ns, vi a2.Nr, vb a2.Poll], vs sa3 a3.length sc3] w (Ret fun u w => u = Value.tuple #[] ∧ Sep.St [arq_Arq.at b0 r, R] w0 w) := by
 refine calls_enter func236 rfl rfl ?_
 refine go ?_
 refine W.e (Y.box HS rfl) rfl ?_
 rintro _ w ⟨_, rfl, HS⟩
 refine go ?_
 have HS := HS.fr 1
 obtain ⟨_, _, _, _, _, _, _, _, _, HS⟩ := arq_Arq.open HS
 apply V.da [10, 16, 18, 19, 20, 21, 24] [22, 23] [(8, _), (9, _), (10, _), (11, _), (12, _), (13, _), (14, _), (15, _), (16, _), (17, _), (19, _), (20, _), (21, _), (22, _), (23, _), (25, _)] mo HS
 rfl
 refine T.two rfl rfl ⟨.mv 0, .mv 0, .nc 9, .fa 10 fo156_11, .ld 11 0 underlying53, .mv 1, .n1 13 rfl rfl (fun w HS => X.shr rfl rfl (by decide)), .n1 14 rfl rfl (fun w HS => X.conv underlying3 underlying5 rfl), .mv 1, .n1 16 rfl rfl (fun w HS => X.conv underlying3 underlying5 rfl), .n1 6 rfl rfl (fun w HS => X.loadSt 7 [vi a2.Kind, vi a2.Ns, vi a2.Nr, vb a2.Poll] HS rfl underlying263 rfl inf263 rfl rfl), .mv 0, .nc 20, .fa 21 fo156_0, .ld 22 0 underlying3, .mv 3, tv⟩ (T.step (es := [16, 18, 19, 20, 21, 24]) _ [(15, Value.int .u8 (IntKind.u8.wrap (a1.fdiv (2 ^ (min (8 : Int).toNat IntKind.i64.bits))))), (17, Value.int .u8 (IntKind.u8.wrap a1))] rfl ⟨.inr ⟨rfl, rfl⟩, ⟨.inr ⟨rfl, rfl⟩, tv⟩⟩ (Or.inl rfl) (by intro d hd; cases hd; exact ⟨by decide, rfl, rfl⟩) [22, 23] [5, 6, 7, 8, 9] rfl rfl rfl rfl rfl (fun w HS => ?_)) (T.step (es := [10, 18, 19, 20, 21, 24]) _ [(19, Value.agg #[vi a2.Kind, vi a2.Ns, vi a2.Nr, vb a2.Poll]), (23, vi a0.m)] rfl ⟨.inr ⟨rfl, rfl⟩, ⟨.inr ⟨rfl, rfl⟩, tv⟩⟩ (Or.inl rfl) (by intro d hd; cases hd; exact ⟨by decide, rfl, rfl⟩) [22, 23] [11, 12, 13, 14, 15] rfl rfl rfl rfl rfl (fun w HS => ?_))
 ·have HS : Sep.St _ w0 w := HS
  refine ⟨_, Y.ls (e := 5) (Value.int .u8) ([IntKind.u8.wrap (a1.fdiv (2 ^ (min (8 : Int).toNat IntKind.i64.bits))), IntKind.u8.wrap a1] : List Int) HS rfl rfl (fun _ => by kernel_rfl), ?_⟩
  rintro _ w ⟨lb6, rfl, HS⟩
  refine T.nw HS ?_
  refine T.e [19, 23] [22, 23] [11, 12, 13, 14, 15] fun w HS => ?_
  refine Y.kl H func278 (fun _ h => control_Bytes.calls h HS.j0) ?_
  rintro t7 _ w H ⟨at7_0, ct7_0, rfl, HS⟩
  have HS := HS.o1
  refine T.nw HS ?_
  refine T.e [18, 24, 25] [22, 23] [17] fun w HS => ?_
  have HS := St.row_freeze ((St.row_freeze (HS.fr 1)).fr 1)
  refine ⟨_, Y.lc (e := 27) (sz := 1) [vs (some ⟨lb6, 0, none⟩) (([IntKind.u8.wrap (a1.fdiv (2 ^ (min (8 : Int).toNat IntKind.i64.bits))), IntKind.u8.wrap a1] : List Int)).length 2, vs at7_0 t7.length ct7_0, vs sa3 a3.length sc3] HS rfl rfl (fun _ => by kernel_rfl), ?_⟩
  rintro _ w ⟨_, rfl, HS⟩
  have HS := St.tie_cons (((St.sl_close (E := (El.int .u8)) (St.swap (St.put (A := tie (El.int .u8) ((([IntKind.u8.wrap (a1.fdiv (2 ^ (min (8 : Int).toNat IntKind.i64.bits))), IntKind.u8.wrap a1] : List Int)).map (Value.int .u8)) (([IntKind.u8.wrap (a1.fdiv (2 ^ (min (8 : Int).toNat IntKind.i64.bits))), IntKind.u8.wrap a1] : List Int))) (fun _ => int_tie) ((St.tie_cons (((St.sl_close (E := (El.int .u8)) (St.swap (St.put (A := tie (El.int .u8) (t7.map (Value.int .u8)) t7) (fun _ => int_tie) ((St.tie_cons (((St.sl_close (E := (El.int .u8)) (St.swap (St.put (A := tie (El.int .u8) (a3.map (Value.int .u8)) a3) (fun _ => int_tie) ((St.put (A := tie (El.sl (El.int .u8)) ([]) (([] : List (List Int)))) (fun _ => tie.nil) HS).more 12 rfl (fun _ t => t) fsl.pers)))).fr 1).fr 1)).more 2 rfl (fun _ t => t) fsl.pers)))).fr 1).fr 1)).more 3 rfl (fun _ t => t) fsl.pers)))).fr 1).fr 1)
  refine T.nw HS ?_
  refine T.e [26] [22, 23] [] fun w HS => ?_
  refine Y.kl H func215 (fun _ h => slices_Concat_Sbytebyte.calls h HS.j0 (rdC.part 1 row_rd rfl) (fun h hh => let ⟨_, l, t⟩ := Sp.has 0 hh rfl; tie.mono t l)) ?_
  rintro t12 _ w H ⟨at12_0, ct12_0, rfl, HS⟩
  have HS := HS.o1
  refine T.nw HS ?_
  refine T.e [27] [22, 23] [] fun w HS => ?_
  have HS := St.row_freeze HS
  refine ⟨_, Y.lc (e := 27) (sz := 1) [vs at12_0 t12.length ct12_0] HS rfl rfl (fun _ => by kernel_rfl), ?_⟩
  rintro _ w ⟨_, rfl, HS⟩
  have HS := St.tie_cons (((St.sl_close (E := (El.int .u8)) (St.swap (St.put (A := tie (El.int .u8) (t12.map (Value.int .u8)) t12) (fun _ => int_tie) ((St.put (A := tie (El.sl (El.int .u8)) ([]) (([] : List (List Int)))) (fun _ => tie.nil) HS).more 2 rfl (fun _ t => t) fsl.pers)))).fr 1).fr 1)
  refine T.nw HS ?_
  refine T.e [12, 28] [] [1, 2, 3, 4] fun w HS => ?_
  obtain ⟨_, H⟩ := ite_n H
  refine ⟨_, Y.app (xs := a0.out) (ys := ([t12] : List (List Int))) 11 underlying53 ap27 rfl (by decide) HS rfl rfl rfl (rdC.at 1 row_rd HS rfl) (St.tie_one 0 HS rfl) (by omega) (by omega), ?_⟩
  rintro _ w ⟨_, _, rfl, HS⟩
  have HS := St.tie_app 1 (HS.fr 12) rfl
  apply T.na [(29, _), (30, _), (31, _)] HS
  exact nmk
  refine T.e [29, 31] [] [0, 22, 23] fun w HS => ?_
  refine Y.sr 11 HS rfl rfl rfl fun _ w HS => ?_
  refine T.nn HS ?_
  refine T.ff [] fun w HS => ?_
  have HS := (arq_Arq.close tv (HS.b [8, 8, 8, 8, 8, 0, 7])).ke [0, 9]
  exact rt
 ·have HS : Sep.St _ w0 w := HS
  refine Y.kl H func278 (fun _ h => control_Bytes.calls h HS.j0) ?_
  rintro t20 _ w H ⟨at20_0, ct20_0, rfl, HS⟩
  have HS := HS.o1
  refine T.nw HS ?_
  refine T.e [15, 17] [22, 23] [5, 6, 7, 8, 9] (fun w HS => ?_) ⟨rd, rd, rd, rd, rd, rd, .n1 13 rfl rfl (fun w HS => X.shr rfl rfl (by decide)), rds⟩
  refine ⟨_, Y.ls (e := 5) (Value.int .u8) ([IntKind.u8.wrap (a1.fdiv (2 ^ (min (8 : Int).toNat IntKind.i64.bits))), IntKind.u8.wrap a1] : List Int) HS rfl rfl (fun _ => by kernel_rfl), ?_⟩
  rintro _ w ⟨lb24, rfl, HS⟩
  refine T.nw HS ?_
  refine T.e [18, 24, 25] [22, 23] [17] fun w HS => ?_
  have HS := St.row_freeze ((St.row_freeze HS).fr 1)
  refine ⟨_, Y.lc (e := 27) (sz := 1) [vs (some ⟨lb24, 0, none⟩) (([IntKind.u8.wrap (a1.fdiv (2 ^ (min (8 : Int).toNat IntKind.i64.bits))), IntKind.u8.wrap a1] : List Int)).length 2, vs at20_0 t20.length ct20_0, vs sa3 a3.length sc3] HS rfl rfl (fun _ => by kernel_rfl), ?_⟩
  rintro _ w ⟨_, rfl, HS⟩
  have HS := St.tie_cons (((St.sl_close (E := (El.int .u8)) (St.swap (St.put (A := tie (El.int .u8) ((([IntKind.u8.wrap (a1.fdiv (2 ^ (min (8 : Int).toNat IntKind.i64.bits))), IntKind.u8.wrap a1] : List Int)).map (Value.int .u8)) (([IntKind.u8.wrap (a1.fdiv (2 ^ (min (8 : Int).toNat IntKind.i64.bits))), IntKind.u8.wrap a1] : List Int))) (fun _ => int_tie) ((St.tie_cons (((St.sl_close (E := (El.int .u8)) (St.swap (St.put (A := tie (El.int .u8) (t20.map (Value.int .u8)) t20) (fun _ => int_tie) ((St.tie_cons (((St.sl_close (E := (El.int .u8)) (St.swap (St.put (A := tie (El.int .u8) (a3.map (Value.int .u8)) a3) (fun _ => int_tie) ((St.put (A := tie (El.sl (El.int .u8)) ([]) (([] : List (List Int)))) (fun _ => tie.nil) HS).more 12 rfl (fun _ t => t) fsl.pers)))).fr 1).fr 1)).more 2 rfl (fun _ t => t) fsl.pers)))).fr 1).fr 1)).more 3 rfl (fun _ t => t) fsl.pers)))).fr 1).fr 1)
  refine T.nw HS ?_
  refine T.e [26] [22, 23] [] fun w HS => ?_
  refine Y.kl H func215 (fun _ h => slices_Concat_Sbytebyte.calls h HS.j0 (rdC.part 1 row_rd rfl) (fun h hh => let ⟨_, l, t⟩ := Sp.has 0 hh rfl; tie.mono t l)) ?_
  rintro t28 _ w H ⟨at28_0, ct28_0, rfl, HS⟩
  have HS := HS.o1
  refine T.nw HS ?_
  refine T.e [27] [22, 23] [] fun w HS => ?_
  have HS := St.row_freeze HS
  refine ⟨_, Y.lc (e := 27) (sz := 1) [vs at28_0 t28.length ct28_0] HS rfl rfl (fun _ => by kernel_rfl), ?_⟩
  rintro _ w ⟨_, rfl, HS⟩
  have HS := St.tie_cons (((St.sl_close (E := (El.int .u8)) (St.swap (St.put (A := tie (El.int .u8) (t28.map (Value.int .u8)) t28) (fun _ => int_tie) ((St.put (A := tie (El.sl (El.int .u8)) ([]) (([] : List (List Int)))) (fun _ => tie.nil) HS).more 2 rfl (fun _ t => t) fsl.pers)))).fr 1).fr 1)
  refine T.nw HS ?_
  refine T.e [12, 28] [] [1, 2, 3, 4] fun w HS => ?_
  obtain ⟨_, H⟩ := ite_n H
  refine ⟨_, Y.app (xs := a0.out) (ys := ([t28] : List (List Int))) 11 underlying53 ap27 rfl (by decide) HS rfl rfl rfl (rdC.at 1 row_rd HS rfl) (St.tie_one 0 HS rfl) (by omega) (by omega), ?_⟩
  rintro _ w ⟨_, _, rfl, HS⟩
  have HS := St.tie_app 1 (HS.fr 12) rfl
  apply T.na [(29, _), (30, _), (31, _)] HS
  exact nmk
  refine T.e [29, 31] [] [0, 22, 23] fun w HS => ?_
  refine Y.sr 11 HS rfl rfl rfl fun _ w HS => ?_
  refine T.nn HS ?_
  refine T.ff [] fun w HS => ?_
  have HS := (arq_Arq.close tv (HS.b [8, 8, 8, 8, 8, 0, 7])).ke [0, 9]
  exact rt
def arq_Arq_message.f (k : Nat) (a0 : arq_Arq) (a1 : Int) (a2 : List Int) (a3 : Bool) : Option arq_Arq := ((reorder_Order_Next.f a0.order).bind fun t5 => ((arq_Arq_put.f k a0 a0.tag ({ Kind := 0, Ns := a1, Nr := t5, Poll := a3 } : api_Ctl) a2).bind fun t7 => some t7))
theorem arq_Arq_message.calls {k : Nat} {a0 : arq_Arq} {a1 : Int} {a2 : List Int} {a3 : Bool} {R : As} {w0 w : World} {b0 : Nat} {sa2 : Option Addr} {sc2 : Nat} {r : arq_Arq} (H : arq_Arq_message.f k a0 a1 a2 a3 = some r) (HS : Sep.St [arq_Arq.at b0 a0, fsl 1 (.slice sa2 a2.length sc2) a2.length (a2.map (Value.int .u8)), R] w0 w)  : Calls Tryz.prog 242 #[pt b0, vi a1, vs sa2 a2.length sc2, vb a3] w (Ret fun u w => u = Value.tuple #[] ∧ Sep.St [arq_Arq.at b0 r, R] w0 w) := by
 refine calls_enter func242 rfl rfl ?_
 obtain ⟨_, _, _, _, _, _, _, _, _, HS⟩ := arq_Arq.open HS
 apply V.da [10, 14] [12] [(8, _), (9, _), (10, _), (11, _), (12, _), (13, _), (14, _), (15, _), (16, _), (17, _), (19, _), (21, _)] mo HS
 rfl
 refine T.e [17] [] [6, 7, 8, 9] fun w HS => ?_
 have HS := HS.fr 2
 obtain ⟨_, _, _, _, _, _, HS⟩ := reorder_Order.open HS
 refine Y.kl H func280 (fun _ h => reorder_Order_Next.calls h HS.j5) ?_
 rintro t5 _ w H ⟨rfl, HS⟩
 have HS := HS.o5
 apply T.na [(18, _), (20, _)] HS
 exact nmk
 refine T.e [8, 12, 20, 21] [] [0, 1, 2, 3, 4, 5, 11, 12, 13] (fun w HS => ?_) ⟨rd, rd, rd, rd, rd, rd, rd, .ns [(13, _), (18, _), (19, _)] ⟨rfl, rfl, rfl, tv⟩ rfl (fun w HS => X.bd (Value.agg #[vi (0), vi a1, vi t5, vb a3]) rfl (fun _ => by kernel_rfl)), rds⟩
 have HS := ((arq_Arq.close tv ((reorder_Order.close tv HS).b [1, 1])).more 1 rfl (fun _ t => t) fsl.pers).b [1]
 refine Y.kl H func236 (fun _ h => arq_Arq_put.calls h HS.j2) ?_
 rintro _ _ w H ⟨rfl, HS⟩
 have HS := HS.o1
 refine T.nw HS ?_
 refine T.ff [] fun w HS => ?_
 have HS := HS.ke [0, 1]
 exact rt
def arq_Arq_repeat.f (k : Nat) (a0 : arq_Arq) (a1 : Int) (a2 : Bool) : Option arq_Arq := ((backlog_Log_Body.f a0.log a1).bind fun t5 => ((arq_Arq_message.f k a0 a1 t5.1 a2).bind fun t7 => some t7))
theorem arq_Arq_repeat.calls {k : Nat} {a0 : arq_Arq} {a1 : Int} {a2 : Bool} {R : As} {w0 w : World} {b0 : Nat} {r : arq_Arq} (H : arq_Arq_repeat.f k a0 a1 a2 = some r) (HS : Sep.St [arq_Arq.at b0 a0, R] w0 w)  : Calls Tryz.prog 261 #[pt b0, vi a1, vb a2] w (Ret fun u w => u = Value.tuple #[] ∧ Sep.St [arq_Arq.at b0 r, R] w0 w) := by
 refine calls_enter func261 rfl rfl ?_
 refine go ?_
 obtain ⟨_, _, _, _, _, _, _, _, _, HS⟩ := arq_Arq.open HS
 refine go ?_
 have HS := HS.fr 1
 obtain ⟨_, _, _, _, HS⟩ := backlog_Log.open HS
 refine W.kl H func291 (fun _ h => backlog_Log_Body.calls h HS.j3) ?_
 rintro _ _ w H ⟨_, _, rfl, HS⟩
 have HS := HS.o4
 refine go ?_
 have HS := ((St.row_freeze ((arq_Arq.close tv ((backlog_Log.close tv (HS.b [1, 1, 1])).b [2, 0, 1, 1, 1, 1, 1])).fr 1)).more 0 rfl (fun _ t => t) fsl.pers).b [2]
 refine W.kl H func242 (fun _ h => arq_Arq_message.calls h HS.j2) ?_
 rintro _ _ w H ⟨rfl, HS⟩
 have HS := HS.o1
 refine go ?_
 have HS := HS.ke [0, 1]
 exact rt
def clock_has.f (a0 : Int) : Option Bool := (if a0 ≥ 0 then some (decide (a0 < 32)) else some false)
theorem clock_has.calls {a0 : Int} {R : As} {w0 w : World}  {r : Bool} (H : clock_has.f a0 = some r) (HS : Sep.St [R] w0 w)  : Calls Tryz.prog 262 #[vi a0] w (Ret fun u w => u = vb r ∧ Sep.St [R] w0 w) := by
 refine calls_enter func262 rfl rfl ?_
 refine go ?_
 refine W.cd 5 H rfl (fun _ H => ?_) (fun _ H => ?_)
 ·refine go ?_
  exact rt
 ·refine go ?_
  exact rt
mutual
def clock_Set_Start.j0 (a1 : Int) (x2 : clock_Set) : Option (Bool × clock_Set) := ((clock_has.f a1).bind fun t4 => some (t4, x2))
end
def clock_Set_Start.f (a0 : clock_Set) (a1 : Int) (a2 : Int) : Option (Bool × clock_Set) := ((clock_has.f a1).bind fun t6 => (if t6 = true then (if 0 ≤ a1 ∧ a1 < 32 then (clock_Set_Start.j0 a1 ({ now := a0.now, left := a0.left.set a1.toNat (imax (1) (imin a2 (1073741824))) } : clock_Set)) else none) else (clock_Set_Start.j0 a1 a0)))
theorem clock_Set_Start.calls {a0 : clock_Set} {a1 : Int} {a2 : Int} {R : As} {w0 w : World} {b0 : Nat} {r : Bool × clock_Set} (H : clock_Set_Start.f a0 a1 a2 = some r) (HS : Sep.St [clock_Set.at b0 a0, R] w0 w)  : Calls Tryz.prog 237 #[pt b0, vi a1, vi a2] w (Ret fun u w => u = vb r.1 ∧ Sep.St [clock_Set.at b0 r.2, R] w0 w) := by
 refine calls_enter func237 rfl rfl ?_
 refine V.seq ?_
 refine gs ?_
 refine V.meet (σ := clock_Set) (fun x2 w => Sep.St [clock_Set.at b0 x2, R] w0 w ∧ clock_Set_Start.j0 a1 x2 = some r) (fun x2 => [(1, vi a1)]) ?_ ?_
 ·refine go ?_
  refine W.kl H func262 (fun _ h => clock_has.calls h HS.j0) ?_
  rintro _ _ w H ⟨rfl, HS⟩
  have HS := HS.o0
  refine go ?_
  refine V.cv H rfl (fun _ H => ?_) (fun _ H => ?_)
  ·refine go ?_
   obtain ⟨hi10, HS⟩ := clock_Set.open HS
   refine go ?_
   obtain ⟨c11, H⟩ := ite_n H
   refine go ?_
   refine W.en (Y.storeArr 0 HS rfl rfl inf3 rfl rfl c11.1 c11.2 (by first | exact hi10 | (simp only [List.length_set]; exact hi10))) rfl ?_
   rintro _ w HS
   refine go ?_
   have HS := clock_Set.close (by first | exact hi10 | (simp only [List.length_set]; exact hi10)) HS
   exact At.mt _ ⟨HS, H⟩
  ·refine go ?_
   exact At.mt _ ⟨HS, H⟩
 ·rintro x2 w ⟨HS, H⟩
  refine go ?_
  refine W.kl H func262 (fun _ h => clock_has.calls h HS.j0) ?_
  rintro _ _ w H ⟨rfl, HS⟩
  have HS := HS.o0
  refine go ?_
  exact rt
def arq_Arq_start.f (a0 : arq_Arq) : Option arq_Arq := ((clock_Set_Start.f a0.timers 0 a0.t1).bind fun t3 => some ({ a0 with timers := t3.2 } : arq_Arq))
theorem arq_Arq_start.calls {a0 : arq_Arq} {R : As} {w0 w : World} {b0 : Nat} {r : arq_Arq} (H : arq_Arq_start.f a0 = some r) (HS : Sep.St [arq_Arq.at b0 a0, R] w0 w)  : Calls Tryz.prog 195 #[pt b0] w (Ret fun u w => u = Value.tuple #[] ∧ Sep.St [arq_Arq.at b0 r, R] w0 w) := by
 refine calls_enter func195 rfl rfl ?_
 obtain ⟨_, _, _, _, _, _, _, _, _, HS⟩ := arq_Arq.open HS
 apply V.da [8] [] [(2, _), (3, _), (4, _), (5, _), (6, _), (7, _), (8, _), (9, _)] mo HS
 rfl
 refine T.e [5, 9] [] [0, 1, 2, 3, 4, 5, 6, 7] fun w HS => ?_
 have HS := HS.b [3]
 refine Y.kl H func237 (fun _ h => clock_Set_Start.calls h HS.j1) ?_
 rintro _ _ w H ⟨rfl, HS⟩
 have HS := HS.o1
 refine T.nw HS ?_
 refine T.ff [] fun w HS => ?_
 have HS := arq_Arq.close tv (HS.b [1, 1, 1])
 exact rt
mutual
def arq_Arq_resend.l0 : Nat → (List Int) → Int → arq_Arq → Option arq_Arq
 | 0, _, _, _ => none
 | k + 1, t5, x17, x18 => (if x17 < (t5.length : Int) then (if 0 ≤ x17 ∧ x17 < (t5.length : Int) then ((arq_Arq_repeat.f k x18 (t5.getD x17.toNat 0) false).bind fun t25 => (arq_Arq_resend.l0 k t5 (w64 (x17 + 1)) t25)) else none) else (if (t5.length : Int) > 0 then ((arq_Arq_start.f x18).bind fun t28 => some t28) else some x18))
end
def arq_Arq_resend.f (k : Nat) (a0 : arq_Arq) : Option arq_Arq := ((backlog_Log_Out.f k a0.log).bind fun t5 => (arq_Arq_resend.l0 k t5 0 a0))
theorem arq_Arq_resend.calls {k : Nat} {a0 : arq_Arq} {R : As} {w0 w : World} {b0 : Nat} {r : arq_Arq} (H : arq_Arq_resend.f k a0 = some r) (HS : Sep.St [arq_Arq.at b0 a0, R] w0 w)  : Calls Tryz.prog 222 #[pt b0] w (Ret fun u w => u = Value.tuple #[] ∧ Sep.St [arq_Arq.at b0 r, R] w0 w) := by
 refine calls_enter func222 rfl rfl ?_
 refine go ?_
 obtain ⟨_, _, _, _, _, _, _, _, _, HS⟩ := arq_Arq.open HS
 refine go ?_
 have HS := HS.fr 1
 obtain ⟨_, _, _, _, HS⟩ := backlog_Log.open HS
 refine W.kl H func260 (fun _ h => backlog_Log_Out.calls h HS.j3) ?_
 rintro t5 _ w H ⟨at5_0, ct5_0, rfl, HS⟩
 have HS := HS.o4
 refine go ?_
 have HS := arq_Arq.close tv ((backlog_Log.close tv (HS.b [1, 1, 1])).b [2, 0, 1, 1, 1, 1, 1])
 refine V.lp (σ := Int × arq_Arq) (fun kq (x17, x18) w => Sep.St [arq_Arq.at b0 x18, row 3 1 (.slice at5_0 t5.length ct5_0) t5.length (t5.map (Value.int .i64)), R] w0 w ∧ arq_Arq_resend.l0 kq t5 x17 x18 = some r ∧ kq ≤ k) (fun (x17, x18) => [(0, pt b0), (2, vs at5_0 t5.length ct5_0), (10, vs at5_0 t5.length ct5_0), (11, vi (t5.length : Int)), (12, vi x17)]) (_, _) ⟨HS, H, Nat.le_refl _⟩ ?_
 rintro kq19 ⟨x17, x18⟩ w ⟨HS, H, _⟩
 cases kq19 with
 | zero => exact absurd H (by simp [arq_Arq_resend.l0])
 | succ kq19 =>
  simp only [arq_Arq_resend.l0] at H
  refine go ?_
  refine V.cd H rfl (fun _ H => ?_) (fun _ H => ?_)
  ·refine go ?_
   obtain ⟨c22, H⟩ := ite_n H
   obtain ⟨_, _, hh⟩ := (rdC.at 1 row_rd HS rfl).some (by decide) c22.1 c22.2; subst hh
   refine go ?_
   refine W.r (X.load underlying3 rfl rfl ((rdC.at 1 row_rd HS rfl).cellI c22.1 c22.2)) rfl ?_
   refine go ?_
   refine W.kl H func261 (fun _ h => arq_Arq_repeat.calls h HS.j1) ?_
   rintro _ _ w H ⟨rfl, HS⟩
   have HS := HS.o1
   refine go ?_
   exact At.rn (_, _) ⟨HS, H, by omega⟩
  ·refine go ?_
   refine V.cd H rfl (fun _ H => ?_) (fun _ H => ?_)
   ·refine go ?_
    refine W.kl H func195 (fun _ h => arq_Arq_start.calls h HS.j1) ?_
    rintro _ _ w H ⟨rfl, HS⟩
    have HS := HS.o1
    refine go ?_
    have HS := HS.ke [0, 1]
    exact rt
   ·refine go ?_
    have HS := HS.ke [0, 1]
    exact rt
def arq_Arq_Again.f (k : Nat) (a0 : arq_Arq) : Option arq_Arq := (if a0.state = 2 then ((arq_Arq_resend.f k a0).bind fun t4 => some t4) else some a0)
theorem arq_Arq_Again.calls {k : Nat} {a0 : arq_Arq} {R : As} {w0 w : World} {b0 : Nat} {r : arq_Arq} (H : arq_Arq_Again.f k a0 = some r) (HS : Sep.St [arq_Arq.at b0 a0, R] w0 w)  : Calls Tryz.prog 178 #[pt b0] w (Ret fun u w => u = Value.tuple #[] ∧ Sep.St [arq_Arq.at b0 r, R] w0 w) := by
 refine calls_enter func178 rfl rfl ?_
 refine go ?_
 obtain ⟨_, _, _, _, _, _, _, _, _, HS⟩ := arq_Arq.open HS
 refine go ?_
 refine V.cd H rfl (fun _ H => ?_) (fun _ H => ?_)
 ·refine go ?_
  have HS := arq_Arq.close tv HS
  refine W.kl H func222 (fun _ h => arq_Arq_resend.calls h HS.j1) ?_
  rintro _ _ w H ⟨rfl, HS⟩
  have HS := HS.o1
  refine go ?_
  exact rt
 ·refine go ?_
  have HS := arq_Arq.close tv HS
  exact rt
def clock_Set_Left.f (a0 : clock_Set) (a1 : Int) : Option (Int × Bool) := ((clock_has.f a1).bind fun t1 => (if t1 = true then (if 0 ≤ a1 ∧ a1 < 32 then some (a0.left.getD a1.toNat 0, decide ((a0.left.getD a1.toNat 0) > 0)) else none) else some (0, false)))
theorem clock_Set_Left.calls {a0 : clock_Set} {a1 : Int} {R : As} {w0 w : World} {b0 : Nat} {r : Int × Bool} (H : clock_Set_Left.f a0 a1 = some r) (HS : Sep.St [blk b0 (([Value.int .u32 a0.now] ++ a0.left.map (Value.int .i64)).toArray) 251, R] w0 w) (hv0 : a0.left.length = 32) : Calls Tryz.prog 223 #[pt b0, vi a1] w (Ret fun u w => u = Value.tuple #[vi r.1, vb r.2] ∧ Sep.St [blk b0 (([Value.int .u32 a0.now] ++ a0.left.map (Value.int .i64)).toArray) 251, R] w0 w) := by
 refine calls_enter func223 rfl rfl ?_
 refine go ?_
 refine W.kl H func262 (fun _ h => clock_has.calls h HS.j0) ?_
 rintro _ _ w H ⟨rfl, HS⟩
 have HS := HS.o0
 refine go ?_
 refine V.cx H rfl (fun _ H => ?_) (fun _ H => ?_)
 ·refine go ?_
  obtain ⟨c4, H⟩ := ite_n H
  apply V.da [] [] [(9, _), (10, _), (11, _), (12, _), (13, _), (14, _), (15, _), (16, _), (17, _), (18, _), (19, _), (20, _), (21, _), (4, _), (5, _)] mo HS
  rfl
  refine T.ff [4, 5] (fun w HS => ?_) ⟨rd, rd, rd, rd, rd, .n1 13 rfl rfl (fun w HS => X.load underlying3 rfl rfl (cellArr 0 HS rfl rfl c4.1 c4.2 (by first | exact hv0 | (simp only [List.length_set]; exact hv0)))), rd, rd, rd, rd, rd, .n1 19 rfl rfl (fun w HS => X.load underlying3 rfl rfl (cellArr 0 HS rfl rfl c4.1 c4.2 (by first | exact hv0 | (simp only [List.length_set]; exact hv0)))), rds⟩
  refine go ?_
  exact rt
 ·refine go ?_
  exact rt
mutual
def clock_Set_soonest.l0 : Nat → clock_Set → Int → Bool → Int → Option (Int × Bool)
 | 0, _, _, _, _ => none
 | k + 1, a0, x2, x3, x4 => (if x4 < 32 then (if 0 ≤ x4 ∧ x4 < 32 then (if (a0.left.getD x4.toNat 0) > 0 then (clock_Set_soonest.j1 a0 x2 x3 x4 (clock_Set_soonest.l0 k a0) (decide ((a0.left.getD x4.toNat 0) ≤ x2))) else (clock_Set_soonest.j1 a0 x2 x3 x4 (clock_Set_soonest.l0 k a0) false)) else none) else some (x2, x3))
def clock_Set_soonest.j1 (a0 : clock_Set) (x2 : Int) (x3 : Bool) (x4 : Int) (Lq11 : Int → Bool → Int → Option (Int × Bool)) (x9 : Bool) : Option (Int × Bool) := (if x9 = true then (Lq11 (a0.left.getD x4.toNat 0) true (w64 (x4 + 1))) else (Lq11 x2 x3 (w64 (x4 + 1))))
end
def clock_Set_soonest.f (k : Nat) (a0 : clock_Set) (a1 : Int) : Option (Int × Bool) := (clock_Set_soonest.l0 k a0 a1 false 0)
theorem clock_Set_soonest.calls {k : Nat} {a0 : clock_Set} {a1 : Int} {R : As} {w0 w : World} {b0 : Nat} {r : Int × Bool} (H : clock_Set_soonest.f k a0 a1 = some r) (HS : Sep.St [blk b0 (([Value.int .u32 a0.now] ++ a0.left.map (Value.int .i64)).toArray) 251, R] w0 w) (hv0 : a0.left.length = 32) : Calls Tryz.prog 263 #[pt b0, vi a1] w (Ret fun u w => u = Value.tuple #[vi r.1, vb r.2] ∧ Sep.St [blk b0 (([Value.int .u32 a0.now] ++ a0.left.map (Value.int .i64)).toArray) 251, R] w0 w) := by
 refine calls_enter func263 rfl rfl ?_
 refine go ?_
 refine W.r (X.loadArr 0 HS rfl rfl underlying249 rfl inf249 (by first | exact hv0 | (simp only [List.length_set]; exact hv0)) rfl) rfl ?_
 refine go ?_
 refine V.lp (σ := Int × Bool × Int) (fun kq (x2, x3, x4) w => Sep.St [blk b0 (([Value.int .u32 a0.now] ++ a0.left.map (Value.int .i64)).toArray) 251, R] w0 w ∧ clock_Set_soonest.l0 kq a0 x2 x3 x4 = some r ∧ kq ≤ k) (fun (x2, x3, x4) => [(1, vi x2), (6, vb x3), (12, Value.agg (a0.left.map (Value.int .i64)).toArray), (13, vi x4)]) (_, _, _) ⟨HS, H, Nat.le_refl _⟩ ?_
 rintro kq5 ⟨x2, x3, x4⟩ w ⟨HS, H, _⟩
 cases kq5 with
 | zero => exact absurd H (by simp [clock_Set_soonest.l0])
 | succ kq5 =>
  simp only [clock_Set_soonest.l0] at H
  refine go ?_
  refine V.cd H rfl (fun _ H => ?_) (fun _ H => ?_)
  ·refine go ?_
   obtain ⟨c8, H⟩ := ite_n H
   refine W.r (X.indexArr underlying249 underlying3 rfl inf3 rfl rfl c8.1 c8.2 (by first | exact hv0 | (simp only [List.length_set]; exact hv0))) rfl ?_
   refine gs ?_
   refine V.meet (σ := Bool) (fun x9 w => Sep.St [blk b0 (([Value.int .u32 a0.now] ++ a0.left.map (Value.int .i64)).toArray) 251, R] w0 w ∧ ∃ kl12, kl12 ≤ kq5 ∧ clock_Set_soonest.j1 a0 x2 x3 x4 (clock_Set_soonest.l0 kl12 a0) x9 = some r) (fun x9 => [(1, vi x2), (6, vb x3), (8, vi (a0.left.getD x4.toNat 0)), (12, Value.agg (a0.left.map (Value.int .i64)).toArray), (13, vi x4), (22, vb x9)]) ?_ ?_
   ·refine go ?_
    refine W.cd 18 H rfl (fun _ H => ?_) (fun _ H => ?_)
    ·refine go ?_
     exact At.mt _ ⟨HS, kq5, by omega, H⟩
    ·refine go ?_
     exact At.mt _ ⟨HS, kq5, by omega, H⟩
   ·rintro x9 w ⟨HS, kl12, _, H⟩
    refine V.cv H rfl (fun _ H => ?_) (fun _ H => ?_)
    ·refine go ?_
     exact At.rn (_, _, _) ⟨HS, H, by omega⟩
    ·refine go ?_
     exact At.rn (_, _, _) ⟨HS, H, by omega⟩
  ·refine go ?_
   exact rt
mutual
def clock_Set_pass.l0 : Nat → clock_Set → Int → Int → clock_Set → (List Int) → Option (List Int × clock_Set)
 | 0, _, _, _, _, _ => none
 | k + 1, a0, a1, x5, x6, x9 => (if x5 < 32 then (if 0 ≤ x5 ∧ x5 < 32 then (if (a0.left.getD x5.toNat 0) = 0 then (clock_Set_pass.l0 k a0 a1 (w64 (x5 + 1)) x6 x9) else (if (a0.left.getD x5.toNat 0) = a1 then (if (x9.length : Int) + ([x5] : List Int).length ≤ 1099511627776 then (clock_Set_pass.l0 k a0 a1 (w64 (x5 + 1)) ({ now := x6.now, left := x6.left.set x5.toNat (w64 ((a0.left.getD x5.toNat 0) - a1)) } : clock_Set) (x9 ++ ([x5] : List Int))) else none) else (clock_Set_pass.l0 k a0 a1 (w64 (x5 + 1)) ({ now := x6.now, left := x6.left.set x5.toNat (w64 ((a0.left.getD x5.toNat 0) - a1)) } : clock_Set) x9))) else none) else some (x9, x6))
end
def clock_Set_pass.f (k : Nat) (a0 : clock_Set) (a1 : Int) : Option (List Int × clock_Set) := (clock_Set_pass.l0 k a0 a1 0 a0 ([] : List Int))
theorem clock_Set_pass.calls {k : Nat} {a0 : clock_Set} {a1 : Int} {R : As} {w0 w : World} {b0 : Nat} {r : List Int × clock_Set} (H : clock_Set_pass.f k a0 a1 = some r) (HS : Sep.St [clock_Set.at b0 a0, R] w0 w)  : Calls Tryz.prog 264 #[pt b0, vi a1] w (Ret fun u w => ∃ (aq0 : Option Addr) (cq0 : Nat), u = vs aq0 r.1.length cq0 ∧ Sep.St [row 3 1 (.slice aq0 r.1.length cq0) r.1.length (r.1.map (Value.int .i64)), clock_Set.at b0 r.2, R] w0 w) := by
 refine calls_enter func264 rfl rfl ?_
 refine go ?_
 obtain ⟨hi2, HS⟩ := clock_Set.open HS
 refine go ?_
 refine W.r (X.loadArr 0 HS rfl rfl underlying249 rfl inf249 (by first | exact hi2 | (simp only [List.length_set]; exact hi2)) rfl) rfl ?_
 refine go ?_
 have HS := clock_Set.close (by first | exact hi2 | (simp only [List.length_set]; exact hi2)) ((row_nilF (Value.int .i64) 3 1 HS).b [1])
 refine V.lp (σ := Int × clock_Set × Option Addr × Nat × List Int) (fun kq (x5, x6, ra7, rc8, x9) w => Sep.St [clock_Set.at b0 x6, row 3 1 (.slice ra7 x9.length rc8) x9.length (x9.map (Value.int .i64)), R] w0 w ∧ clock_Set_pass.l0 kq a0 a1 x5 x6 x9 = some r ∧ kq ≤ k) (fun (x5, x6, ra7, rc8, x9) => [(0, pt b0), (1, vi a1), (5, vs ra7 x9.length rc8), (11, Value.agg (a0.left.map (Value.int .i64)).toArray), (12, vi x5)]) (_, _, _, _, _) ⟨HS, H, Nat.le_refl _⟩ ?_
 rintro kq10 ⟨x5, x6, ra7, rc8, x9⟩ w ⟨HS, H, _⟩
 cases kq10 with
 | zero => exact absurd H (by simp [clock_Set_pass.l0])
 | succ kq10 =>
  simp only [clock_Set_pass.l0] at H
  refine go ?_
  refine V.cd H rfl (fun _ H => ?_) (fun _ H => ?_)
  ·refine go ?_
   obtain ⟨c13, H⟩ := ite_n H
   refine W.r (X.indexArr underlying249 underlying3 rfl inf3 rfl rfl c13.1 c13.2 (by first | exact hi2 | (simp only [List.length_set]; exact hi2))) rfl ?_
   refine go ?_
   refine V.cd H rfl (fun _ H => ?_) (fun _ H => ?_)
   ·refine go ?_
    exact At.rn (_, _, _, _, _) ⟨HS, H, by omega⟩
   ·refine go ?_
    obtain ⟨hi16, HS⟩ := clock_Set.open HS
    refine go ?_
    refine W.en (Y.storeArr 0 HS rfl rfl inf3 rfl rfl c13.1 c13.2 (by first | exact hi16 | (simp only [List.length_set]; exact hi16))) rfl ?_
    rintro _ w HS
    refine go ?_
    refine V.cd H rfl (fun _ H => ?_) (fun _ H => ?_)
    ·refine go ?_
     refine W.e (Y.ls (e := 3) (Value.int .i64) ([x5] : List Int) HS rfl rfl (fun _ => by kernel_rfl)) rfl ?_
     rintro _ w ⟨_, rfl, HS⟩
     obtain ⟨_, H⟩ := ite_n H
     refine W.e (Y.appF (Value.int .i64) (fun _ => rfl) 2 underlying48 ap3 rfl HS rfl rfl rfl (rdC.at 0 row_rd HS rfl) (by omega) (by omega)) rfl ?_
     rintro _ w ⟨_, _, rfl, HS⟩
     refine go ?_
     have HS := (clock_Set.close (by first | exact hi16 | (simp only [List.length_set]; exact hi16)) (HS.b [1])).ke [0, 1, 1]
     exact At.rn (_, _, _, _, _) ⟨HS, H, by omega⟩
    ·refine go ?_
     have HS := clock_Set.close (by first | exact hi16 | (simp only [List.length_set]; exact hi16)) HS
     exact At.rn (_, _, _, _, _) ⟨HS, H, by omega⟩
  ·refine go ?_
   have HS := HS.b [1]
   exact rt
mutual
def clock_Set_Pass.l0 : Nat → Int → Int → Bool → clock_Set → (List Int) → Option (List Int × clock_Set)
 | 0, _, _, _, _, _ => none
 | k + 1, x7, x8, x9, x10, x13 => (if x9 = true then ((clock_Set_pass.f k x10 x8).bind fun t17 => (if (x13.length : Int) + t17.1.length ≤ 1099511627776 then ((clock_Set_soonest.f k t17.2 (w64 (x7 - x8))).bind fun t24 => (clock_Set_Pass.l0 k (w64 (x7 - x8)) t24.1 t24.2 t17.2 (x13 ++ t17.1))) else none)) else ((clock_Set_pass.f k x10 x7).bind fun t26 => some (x13, t26.2)))
end
def clock_Set_Pass.f (k : Nat) (a0 : clock_Set) (a1 : Int) : Option (List Int × clock_Set) := ((clock_Set_soonest.f k ({ now := IntKind.u32.wrap (a0.now + (IntKind.u32.wrap (imax (0) (imin a1 (1073741824))))), left := a0.left } : clock_Set) (imax (0) (imin a1 (1073741824)))).bind fun t4 => (clock_Set_Pass.l0 k (imax (0) (imin a1 (1073741824))) t4.1 t4.2 ({ now := IntKind.u32.wrap (a0.now + (IntKind.u32.wrap (imax (0) (imin a1 (1073741824))))), left := a0.left } : clock_Set) ([] : List Int)))
theorem clock_Set_Pass.calls {k : Nat} {a0 : clock_Set} {a1 : Int} {R : As} {w0 w : World} {b0 : Nat} {r : List Int × clock_Set} (H : clock_Set_Pass.f k a0 a1 = some r) (HS : Sep.St [clock_Set.at b0 a0, R] w0 w)  : Calls Tryz.prog 224 #[pt b0, vi a1] w (Ret fun u w => ∃ (aq0 : Option Addr) (cq0 : Nat), u = vs aq0 r.1.length cq0 ∧ Sep.St [row 3 1 (.slice aq0 r.1.length cq0) r.1.length (r.1.map (Value.int .i64)), clock_Set.at b0 r.2, R] w0 w) := by
 refine calls_enter func224 rfl rfl ?_
 refine go ?_
 obtain ⟨hi2, HS⟩ := clock_Set.open HS
 refine go ?_
 refine W.sr 0 HS rfl rfl rfl fun w HS => ?_
 refine go ?_
 refine W.kl H func263 (fun _ h => clock_Set_soonest.calls h HS.j1 (by first | exact hi2 | (simp only [List.length_set]; exact hi2))) ?_
 rintro _ _ w H ⟨rfl, HS⟩
 have HS := HS.o1
 refine go ?_
 have HS := clock_Set.close (by first | exact hi2 | (simp only [List.length_set]; exact hi2)) ((row_nilF (Value.int .i64) 3 1 HS).b [1])
 refine V.lp (σ := Int × Int × Bool × clock_Set × Option Addr × Nat × List Int) (fun kq (x7, x8, x9, x10, ra11, rc12, x13) w => Sep.St [clock_Set.at b0 x10, row 3 1 (.slice ra11 x13.length rc12) x13.length (x13.map (Value.int .i64)), R] w0 w ∧ clock_Set_Pass.l0 kq x7 x8 x9 x10 x13 = some r ∧ kq ≤ k) (fun (x7, x8, x9, x10, ra11, rc12, x13) => [(0, pt b0), (1, vi x7), (5, vs ra11 x13.length rc12), (6, vi x8), (7, vb x9)]) (_, _, _, _, _, _, _) ⟨HS, H, Nat.le_refl _⟩ ?_
 rintro kq14 ⟨x7, x8, x9, x10, ra11, rc12, x13⟩ w ⟨HS, H, _⟩
 cases kq14 with
 | zero => exact absurd H (by simp [clock_Set_Pass.l0])
 | succ kq14 =>
  simp only [clock_Set_Pass.l0] at H
  refine go ?_
  refine V.cv H rfl (fun _ H => ?_) (fun _ H => ?_)
  ·refine go ?_
   refine W.kl H func264 (fun _ h => clock_Set_pass.calls h HS.j1) ?_
   rintro _ _ w H ⟨_, _, rfl, HS⟩
   have HS := HS.o2
   obtain ⟨_, H⟩ := ite_n H
   refine W.e (Y.appF (Value.int .i64) (fun _ => rfl) 2 underlying48 ap3 rfl HS rfl rfl rfl (rdC.at 0 row_rd HS rfl) (by omega) (by omega)) rfl ?_
   rintro _ w ⟨_, _, rfl, HS⟩
   refine go ?_
   have HS := HS.fr 1
   obtain ⟨hi23, HS⟩ := clock_Set.open HS
   refine W.kl H func263 (fun _ h => clock_Set_soonest.calls h HS.j1 (by first | exact hi23 | (simp only [List.length_set]; exact hi23))) ?_
   rintro _ _ w H ⟨rfl, HS⟩
   have HS := HS.o1
   refine go ?_
   have HS := (clock_Set.close (by first | exact hi23 | (simp only [List.length_set]; exact hi23)) HS).ke [0, 1, 1]
   exact At.rn (_, _, _, _, _, _, _) ⟨HS, H, by omega⟩
  ·refine go ?_
   refine W.kl H func264 (fun _ h => clock_Set_pass.calls h HS.j1) ?_
   rintro _ _ w H ⟨_, _, rfl, HS⟩
   have HS := HS.o2
   refine go ?_
   have HS := HS.ke [2, 1, 1]
   exact rt
end Go.Proofs.YtgkjmdapodgnfaaGreat

/- ArqAgain: the functions that its law reaches, as plain functions, and that the machine's calls come to what these say. Conditions: those that stand at each. -/
import Derived.Test.YtnlcafmkmfnobaaProg
import Derived.Test.YtnlcafmkmfnobaaRaw
set_option linter.all false
namespace Go.Proofs.Ytnlcafmkmfnobaa
open Go.RowKit Go.Proofs.Ytnlcafmkmfnobaa.Sep Go.Proofs.Ytnlcafmkmfnobaa.Walk
theorem inf3 : (Try.prog.info? 3).map (·.size) = some 1 := by kernel_rfl
theorem inf4 : (Try.prog.info? 4).map (·.size) = some 1 := by kernel_rfl
theorem inf5 : (Try.prog.info? 5).map (·.size) = some 1 := by kernel_rfl
theorem inf24 : (Try.prog.info? 24).map (·.size) = some 16 := by kernel_rfl
theorem inf26 : (Try.prog.info? 26).map (·.size) = some 1 := by kernel_rfl
theorem inf30 : (Try.prog.info? 30).map (·.size) = some 1 := by kernel_rfl
theorem inf34 : (Try.prog.info? 34).map (·.size) = some 1 := by kernel_rfl
theorem inf39 : (Try.prog.info? 39).map (·.size) = some 1 := by kernel_rfl
theorem inf42 : (Try.prog.info? 42).map (·.size) = some 4 := by kernel_rfl
theorem inf56 : (Try.prog.info? 56).map (·.size) = some 1 := by kernel_rfl
theorem fo24_1 : fieldOff Try.prog 24 1 = some 1 := by kernel_rfl
theorem fo24_2 : fieldOff Try.prog 24 2 = some 2 := by kernel_rfl
theorem fo24_3 : fieldOff Try.prog 24 3 = some 3 := by kernel_rfl
theorem fo24_4 : fieldOff Try.prog 24 4 = some 4 := by kernel_rfl
theorem fo24_8 : fieldOff Try.prog 24 8 = some 8 := by kernel_rfl
theorem fo24_9 : fieldOff Try.prog 24 9 = some 9 := by kernel_rfl
theorem fo42_0 : fieldOff Try.prog 42 0 = some 0 := by kernel_rfl
theorem fo42_1 : fieldOff Try.prog 42 1 = some 1 := by kernel_rfl
theorem fo42_2 : fieldOff Try.prog 42 2 = some 2 := by kernel_rfl
theorem fo42_3 : fieldOff Try.prog 42 3 = some 3 := by kernel_rfl
theorem fo59_0 : fieldOff Try.prog 59 0 = some 0 := by kernel_rfl
theorem fo59_1 : fieldOff Try.prog 59 1 = some 2 := by kernel_rfl
theorem fo59_2 : fieldOff Try.prog 59 2 = some 4 := by kernel_rfl
theorem fo59_4 : fieldOff Try.prog 59 4 = some 8 := by kernel_rfl
theorem fo82_0 : fieldOff Try.prog 82 0 = some 0 := by kernel_rfl
theorem fo82_1 : fieldOff Try.prog 82 1 = some 1 := by kernel_rfl
theorem fo82_3 : fieldOff Try.prog 82 3 = some 3 := by kernel_rfl
theorem fo82_4 : fieldOff Try.prog 82 4 = some 4 := by kernel_rfl
theorem fo82_5 : fieldOff Try.prog 82 5 = some 5 := by kernel_rfl
theorem fo82_6 : fieldOff Try.prog 82 6 = some 6 := by kernel_rfl
theorem fo82_7 : fieldOff Try.prog 82 7 = some 7 := by kernel_rfl
theorem fo82_8 : fieldOff Try.prog 82 8 = some 8 := by kernel_rfl
theorem fo82_9 : fieldOff Try.prog 82 9 = some 9 := by kernel_rfl
theorem fo82_10 : fieldOff Try.prog 82 10 = some 10 := by kernel_rfl
theorem fo82_11 : fieldOff Try.prog 82 11 = some 11 := by kernel_rfl
theorem fo82_12 : fieldOff Try.prog 82 12 = some 12 := by kernel_rfl
theorem fo82_13 : fieldOff Try.prog 82 13 = some 13 := by kernel_rfl
theorem fo82_14 : fieldOff Try.prog 82 14 = some 14 := by kernel_rfl
theorem fo82_15 : fieldOff Try.prog 82 15 = some 15 := by kernel_rfl
theorem fo103_0 : fieldOff Try.prog 103 0 = some 0 := by kernel_rfl
theorem fo103_1 : fieldOff Try.prog 103 1 = some 1 := by kernel_rfl
theorem fo103_2 : fieldOff Try.prog 103 2 = some 2 := by kernel_rfl
theorem fo103_3 : fieldOff Try.prog 103 3 = some 3 := by kernel_rfl
theorem fo103_4 : fieldOff Try.prog 103 4 = some 4 := by kernel_rfl
theorem fo103_5 : fieldOff Try.prog 103 5 = some 5 := by kernel_rfl
theorem fo106_0 : fieldOff Try.prog 106 0 = some 0 := by kernel_rfl
theorem fo106_1 : fieldOff Try.prog 106 1 = some 1 := by kernel_rfl
theorem fo106_2 : fieldOff Try.prog 106 2 = some 2 := by kernel_rfl
theorem fo106_3 : fieldOff Try.prog 106 3 = some 3 := by kernel_rfl
theorem fo106_4 : fieldOff Try.prog 106 4 = some 4 := by kernel_rfl
theorem fo109_1 : fieldOff Try.prog 109 1 = some 1 := by kernel_rfl
theorem ap3 : (Try.prog.info? 3).map (fun i => (i.zero, i.size, i.bytes)) = some (some (.int .i64 0), 1, 8) := by kernel_rfl
theorem ap5 : (Try.prog.info? 5).map (fun i => (i.zero, i.size, i.bytes)) = some (some (.int .u8 0), 1, 1) := by kernel_rfl
theorem ap9 : (Try.prog.info? 9).map (fun i => (i.zero, i.size, i.bytes)) = some (some (.string .empty), 1, 16) := by kernel_rfl
theorem ap39 : (Try.prog.info? 39).map (fun i => (i.zero, i.size, i.bytes)) = some (some (.slice none 0 0), 1, 24) := by kernel_rfl
theorem ze24 : (Try.prog.info? 24).bind (·.zero) = some (Value.agg (#[Value.int .i64 (0), Value.int .i64 (0), Value.int .i64 (0), Value.int .i64 (0), Value.int .i64 (0), Value.int .i64 (0), Value.int .i64 (0), Value.int .i64 (0), Value.int .i64 (0), Value.int .i64 (0), Value.int .i64 (0), Value.int .i64 (0), Value.int .i64 (0), Value.int .i64 (0), Value.bool false, Value.bool false])) := by kernel_rfl
theorem ze39 : (Try.prog.info? 39).bind (·.zero) = some (Value.slice none 0 0) := by kernel_rfl
theorem ze42 : (Try.prog.info? 42).bind (·.zero) = some (Value.agg (#[Value.int .i64 (0), Value.int .i64 (0), Value.int .i64 (0), Value.bool false])) := by kernel_rfl
theorem mo : Try.prog.follows .mixedOrders = true := by kernel_rfl

structure api_Config where
  Mode : Int
  Modulus : Int
  Window : Int
  T1 : Int
  N2 : Int
  Hold : Int
  Wait : Int
  Keep : Int
  Queue : Int
  Size : Int
  Ring : Int
  Rate : Int
  Bad : Int
  Good : Int
  Revert : Bool
  Wide : Bool
deriving DecidableEq, Inhabited

def api_Config.at (b : Nat) (x : api_Config) : As := fun h => True ∧ Sp [blk b (#[Value.int .i64 x.Mode, Value.int .i64 x.Modulus, Value.int .i64 x.Window, Value.int .i64 x.T1, Value.int .i64 x.N2, Value.int .i64 x.Hold, Value.int .i64 x.Wait, Value.int .i64 x.Keep, Value.int .i64 x.Queue, Value.int .i64 x.Size, Value.int .i64 x.Ring, Value.int .i64 x.Rate, Value.int .i64 x.Bad, Value.int .i64 x.Good, Value.bool x.Revert, Value.bool x.Wide]) 24] h
theorem api_Config.open {b : Nat} {x : api_Config} {L : List As} {w0 w : World} (hs : Sep.St (api_Config.at b x :: L) w0 w) : True ∧ Sep.St (blk b (#[Value.int .i64 x.Mode, Value.int .i64 x.Modulus, Value.int .i64 x.Window, Value.int .i64 x.T1, Value.int .i64 x.N2, Value.int .i64 x.Hold, Value.int .i64 x.Wait, Value.int .i64 x.Keep, Value.int .i64 x.Queue, Value.int .i64 x.Size, Value.int .i64 x.Ring, Value.int .i64 x.Rate, Value.int .i64 x.Bad, Value.int .i64 x.Good, Value.bool x.Revert, Value.bool x.Wide]) 24 :: L) w0 w := by
  have h1 := St.pure.1 (show St ((fun h => True ∧ (fun h => Sp [blk b (#[Value.int .i64 x.Mode, Value.int .i64 x.Modulus, Value.int .i64 x.Window, Value.int .i64 x.T1, Value.int .i64 x.N2, Value.int .i64 x.Hold, Value.int .i64 x.Wait, Value.int .i64 x.Keep, Value.int .i64 x.Queue, Value.int .i64 x.Size, Value.int .i64 x.Ring, Value.int .i64 x.Rate, Value.int .i64 x.Bad, Value.int .i64 x.Good, Value.bool x.Revert, Value.bool x.Wide]) 24] h) h) :: L) w0 w from hs)
  obtain ⟨hi, hs⟩ := h1
  exact ⟨hi, St.open (m := [blk b (#[Value.int .i64 x.Mode, Value.int .i64 x.Modulus, Value.int .i64 x.Window, Value.int .i64 x.T1, Value.int .i64 x.N2, Value.int .i64 x.Hold, Value.int .i64 x.Wait, Value.int .i64 x.Keep, Value.int .i64 x.Queue, Value.int .i64 x.Size, Value.int .i64 x.Ring, Value.int .i64 x.Rate, Value.int .i64 x.Bad, Value.int .i64 x.Good, Value.bool x.Revert, Value.bool x.Wide]) 24]) hs⟩
theorem api_Config.close {b : Nat} (x : api_Config)  {L : List As} {w0 w : World} (hi : True) (hs : Sep.St (blk b (#[Value.int .i64 x.Mode, Value.int .i64 x.Modulus, Value.int .i64 x.Window, Value.int .i64 x.T1, Value.int .i64 x.N2, Value.int .i64 x.Hold, Value.int .i64 x.Wait, Value.int .i64 x.Keep, Value.int .i64 x.Queue, Value.int .i64 x.Size, Value.int .i64 x.Ring, Value.int .i64 x.Rate, Value.int .i64 x.Bad, Value.int .i64 x.Good, Value.bool x.Revert, Value.bool x.Wide]) 24 :: L) w0 w) : Sep.St (api_Config.at b x :: L) w0 w := by
  have h2 := St.join (m := [blk b (#[Value.int .i64 x.Mode, Value.int .i64 x.Modulus, Value.int .i64 x.Window, Value.int .i64 x.T1, Value.int .i64 x.N2, Value.int .i64 x.Hold, Value.int .i64 x.Wait, Value.int .i64 x.Keep, Value.int .i64 x.Queue, Value.int .i64 x.Size, Value.int .i64 x.Ring, Value.int .i64 x.Rate, Value.int .i64 x.Bad, Value.int .i64 x.Good, Value.bool x.Revert, Value.bool x.Wide]) 24]) hs
  exact h2.mono fun h hh => ⟨hi, hh⟩

/-! ### signalman/signalmanlaw15.shape: function 16 -/
def signalmanlaw15_shape.f (a0 : Int) (a1 : Int) (a2 : Int) : Option api_Config := some ({ Mode := 0, Modulus := a0, Window := a1, T1 := 10, N2 := 3, Hold := 0, Wait := 0, Keep := 0, Queue := a2, Size := 50, Ring := 0, Rate := 0, Bad := 0, Good := 0, Revert := false, Wide := false } : api_Config)
set_option maxRecDepth 100000 in
set_option maxHeartbeats 4000000 in
theorem signalmanlaw15_shape.calls (a0 : Int) (a1 : Int) (a2 : Int) (R : As) (w0 w : World)  (r : api_Config)  (H : signalmanlaw15_shape.f a0 a1 a2 = some r) (HS : Sep.St [R] w0 w) : Calls Try.prog 16 #[Value.int .i64 a0, Value.int .i64 a1, Value.int .i64 a2] w (Ret fun u w => u = Value.agg #[Value.int .i64 r.Mode, Value.int .i64 r.Modulus, Value.int .i64 r.Window, Value.int .i64 r.T1, Value.int .i64 r.N2, Value.int .i64 r.Hold, Value.int .i64 r.Wait, Value.int .i64 r.Keep, Value.int .i64 r.Queue, Value.int .i64 r.Size, Value.int .i64 r.Ring, Value.int .i64 r.Rate, Value.int .i64 r.Bad, Value.int .i64 r.Good, Value.bool r.Revert, Value.bool r.Wide] ∧ Sep.St [R] w0 w) := by
  unfold signalmanlaw15_shape.f at H
  refine calls_enter Try.func16 rfl rfl ?_
  have H : _ = some r := H
  refine V.seq ?_
  refine V.region ?_
  refine W.ev (Y.alloc (z := Value.agg (#[Value.int .i64 (0), Value.int .i64 (0), Value.int .i64 (0), Value.int .i64 (0), Value.int .i64 (0), Value.int .i64 (0), Value.int .i64 (0), Value.int .i64 (0), Value.int .i64 (0), Value.int .i64 (0), Value.int .i64 (0), Value.int .i64 (0), Value.int .i64 (0), Value.int .i64 (0), Value.bool false, Value.bool false])) HS ze24) rfl rfl rfl ?_
  rintro _ w ⟨nb1, rfl, HS⟩
  refine W.nil ?_
  refine At.next ?_
  refine V.seq ?_
  refine V.region ?_
  refine W.rd (X.move rfl) rfl rfl rfl ?_
  refine W.rd (X.move rfl) rfl rfl rfl ?_
  refine W.rd (X.move rfl) rfl rfl rfl ?_
  refine W.rd (X.build (vs := #[(1, Value.int .i64 a0), (2, Value.int .i64 a1), (3, Value.int .i64 (10)), (4, Value.int .i64 (3)), (8, Value.int .i64 a2), (9, Value.int .i64 (50))]) (v := Value.agg #[Value.int .i64 (0), Value.int .i64 a0, Value.int .i64 a1, Value.int .i64 (10), Value.int .i64 (3), Value.int .i64 (0), Value.int .i64 (0), Value.int .i64 (0), Value.int .i64 a2, Value.int .i64 (50), Value.int .i64 (0), Value.int .i64 (0), Value.int .i64 (0), Value.int .i64 (0), Value.bool false, Value.bool false]) (fun a ha => by simp only [List.map_toArray, List.map_cons, List.map_nil]; rw [ha.ev (x := .tmp 7) (v := Value.int .i64 a0) rfl]; rw [ha.ev (x := .tmp 8) (v := Value.int .i64 a1) rfl]; rw [ha.ev (x := .tmp 9) (v := Value.int .i64 a2) rfl]; try rfl) (fun _ => by kernel_rfl)) rfl rfl rfl ?_
  refine W.ev_none (Y.storeSt (c' := #[Value.int .i64 (0), Value.int .i64 a0, Value.int .i64 a1, Value.int .i64 (10), Value.int .i64 (3), Value.int .i64 (0), Value.int .i64 (0), Value.int .i64 (0), Value.int .i64 a2, Value.int .i64 (50), Value.int .i64 (0), Value.int .i64 (0), Value.int .i64 (0), Value.int .i64 (0), Value.bool false, Value.bool false]) 0 [Value.int .i64 (0), Value.int .i64 a0, Value.int .i64 a1, Value.int .i64 (10), Value.int .i64 (3), Value.int .i64 (0), Value.int .i64 (0), Value.int .i64 (0), Value.int .i64 a2, Value.int .i64 (50), Value.int .i64 (0), Value.int .i64 (0), Value.int .i64 (0), Value.int .i64 (0), Value.bool false, Value.bool false] HS rfl inf24 rfl rfl rfl rfl rfl rfl) rfl rfl ?_
  rintro _ w HS
  refine W.nil ?_
  refine At.next ?_
  refine V.ret ?_
  have hv2 := run_loadSt (P := Try.prog) (p := 0) 0 [Value.int .i64 (0), Value.int .i64 a0, Value.int .i64 a1, Value.int .i64 (10), Value.int .i64 (3), Value.int .i64 (0), Value.int .i64 (0), Value.int .i64 (0), Value.int .i64 a2, Value.int .i64 (50), Value.int .i64 (0), Value.int .i64 (0), Value.int .i64 (0), Value.int .i64 (0), Value.bool false, Value.bool false] HS rfl Try.underlying24 rfl inf24 rfl
  replace HS := HS.sel [1] [0] (by kernel_rfl)
  cases H
  exact At.retv1 rfl ⟨_, rfl, hv2⟩ ⟨_, rfl, rfl, HS⟩

/-! ### signalman/arq.cut: function 41 -/
def arq_cut.f (a0 : Int) (a1 : Int) (a2 : Int) : Option Int := some (imax a1 (imin a0 a2))
set_option maxRecDepth 100000 in
set_option maxHeartbeats 4000000 in
theorem arq_cut.calls (a0 : Int) (a1 : Int) (a2 : Int) (R : As) (w0 w : World)  (r : Int)  (H : arq_cut.f a0 a1 a2 = some r) (HS : Sep.St [R] w0 w) : Calls Try.prog 41 #[Value.int .i64 a0, Value.int .i64 a1, Value.int .i64 a2] w (Ret fun u w => u = Value.int .i64 r ∧ Sep.St [R] w0 w) := by
  unfold arq_cut.f at H
  refine calls_enter Try.func41 rfl rfl ?_
  have H : _ = some r := H
  refine V.seq ?_
  refine V.region ?_
  refine W.rd (X.assign rfl) rfl rfl rfl ?_
  refine W.nil ?_
  refine At.next ?_
  refine V.seq ?_
  refine V.region ?_
  refine W.rd (X.move rfl) rfl rfl rfl ?_
  refine W.rd (X.move rfl) rfl rfl rfl ?_
  refine W.rd (X.move rfl) rfl rfl rfl ?_
  refine W.rd (X.min2 rfl rfl) rfl rfl rfl ?_
  refine W.rd (X.max2 rfl rfl) rfl rfl rfl ?_
  refine W.rd (X.assign rfl) rfl rfl rfl ?_
  refine W.nil ?_
  refine At.next ?_
  refine V.ret ?_
  cases H
  exact At.ret1 rfl rfl ⟨_, rfl, rfl, HS⟩

/-! ### signalman/backlog.Cut: function 72 -/
def backlog_Cut.f (a0 : Int) (a1 : Int) : Option (Int × Int) := some (imax (8) (imin a0 (32768)), imax (1) (imin a1 (w64 ((imax (8) (imin a0 (32768))).tdiv (8)))))
set_option maxRecDepth 100000 in
set_option maxHeartbeats 4000000 in
theorem backlog_Cut.calls (a0 : Int) (a1 : Int) (R : As) (w0 w : World)  (r : Int × Int)  (H : backlog_Cut.f a0 a1 = some r) (HS : Sep.St [R] w0 w) : Calls Try.prog 72 #[Value.int .i64 a0, Value.int .i64 a1] w (Ret fun u w => u = Value.tuple #[Value.int .i64 r.1, Value.int .i64 r.2] ∧ Sep.St [R] w0 w) := by
  unfold backlog_Cut.f at H
  refine calls_enter Try.func72 rfl rfl ?_
  have H : _ = some r := H
  refine V.seq ?_
  refine V.region ?_
  refine W.rd (X.assign rfl) rfl rfl rfl ?_
  refine W.rd (X.assign rfl) rfl rfl rfl ?_
  refine W.nil ?_
  refine At.next ?_
  refine V.seq ?_
  refine V.region ?_
  refine W.rd (X.move rfl) rfl rfl rfl ?_
  refine W.rd (X.min2 rfl rfl) rfl rfl rfl ?_
  refine W.rd (X.max2 rfl rfl) rfl rfl rfl ?_
  refine W.rd (X.assign rfl) rfl rfl rfl ?_
  refine W.nil ?_
  refine At.next ?_
  refine V.seq ?_
  refine V.region ?_
  refine W.rd (X.move rfl) rfl rfl rfl ?_
  refine W.rd (X.move rfl) rfl rfl rfl ?_
  refine W.rd (X.move rfl) rfl rfl rfl ?_
  refine W.rd (X.quo rfl rfl (by decide)) rfl rfl rfl ?_
  refine W.rd (X.min2 rfl rfl) rfl rfl rfl ?_
  refine W.rd (X.max2 rfl rfl) rfl rfl rfl ?_
  refine W.rd (X.assign rfl) rfl rfl rfl ?_
  refine W.rd (X.assign rfl) rfl rfl rfl ?_
  refine W.nil ?_
  refine At.next ?_
  refine V.ret ?_
  cases H
  exact At.ret2 rfl rfl rfl ⟨_, rfl, rfl, HS⟩

structure backlog_Log where
  m : Int
  window : Int
  queue : Int
  first : Int
  out : Int
  l : List (List Int)
deriving DecidableEq, Inhabited

def backlog_Log.at (b : Nat) (x : backlog_Log) : As := fun h => True ∧ ∃ a5 : Option Addr, ∃ c5 : Nat, ∃ d5 : List Value, Sp [blk b (#[Value.int .i64 x.m, Value.int .i64 x.window, Value.int .i64 x.queue, Value.int .i64 x.first, Value.int .i64 x.out, Value.slice a5 x.l.length c5]) 103, row 39 1 (.slice a5 x.l.length c5) x.l.length d5, tie (El.sl (El.int .u8)) d5 x.l] h
theorem backlog_Log.open {b : Nat} {x : backlog_Log} {L : List As} {w0 w : World} (hs : Sep.St (backlog_Log.at b x :: L) w0 w) : ∃ a5 : Option Addr, ∃ c5 : Nat, ∃ d5 : List Value, True ∧ Sep.St (blk b (#[Value.int .i64 x.m, Value.int .i64 x.window, Value.int .i64 x.queue, Value.int .i64 x.first, Value.int .i64 x.out, Value.slice a5 x.l.length c5]) 103 :: row 39 1 (.slice a5 x.l.length c5) x.l.length d5 :: tie (El.sl (El.int .u8)) d5 x.l :: L) w0 w := by
  have h1 := St.pure.1 (show St ((fun h => True ∧ (fun h => ∃ a5 : Option Addr, ∃ c5 : Nat, ∃ d5 : List Value, Sp [blk b (#[Value.int .i64 x.m, Value.int .i64 x.window, Value.int .i64 x.queue, Value.int .i64 x.first, Value.int .i64 x.out, Value.slice a5 x.l.length c5]) 103, row 39 1 (.slice a5 x.l.length c5) x.l.length d5, tie (El.sl (El.int .u8)) d5 x.l] h) h) :: L) w0 w from hs)
  obtain ⟨hi, hs⟩ := h1
  obtain ⟨a5, hs⟩ := St.ex.1 (show St ((fun h => ∃ a5 : Option Addr, (fun h => ∃ c5 : Nat, ∃ d5 : List Value, Sp [blk b (#[Value.int .i64 x.m, Value.int .i64 x.window, Value.int .i64 x.queue, Value.int .i64 x.first, Value.int .i64 x.out, Value.slice a5 x.l.length c5]) 103, row 39 1 (.slice a5 x.l.length c5) x.l.length d5, tie (El.sl (El.int .u8)) d5 x.l] h) h) :: L) w0 w from hs)
  obtain ⟨c5, hs⟩ := St.ex.1 (show St ((fun h => ∃ c5 : Nat, (fun h => ∃ d5 : List Value, Sp [blk b (#[Value.int .i64 x.m, Value.int .i64 x.window, Value.int .i64 x.queue, Value.int .i64 x.first, Value.int .i64 x.out, Value.slice a5 x.l.length c5]) 103, row 39 1 (.slice a5 x.l.length c5) x.l.length d5, tie (El.sl (El.int .u8)) d5 x.l] h) h) :: L) w0 w from hs)
  obtain ⟨d5, hs⟩ := St.ex.1 (show St ((fun h => ∃ d5 : List Value, (fun h => Sp [blk b (#[Value.int .i64 x.m, Value.int .i64 x.window, Value.int .i64 x.queue, Value.int .i64 x.first, Value.int .i64 x.out, Value.slice a5 x.l.length c5]) 103, row 39 1 (.slice a5 x.l.length c5) x.l.length d5, tie (El.sl (El.int .u8)) d5 x.l] h) h) :: L) w0 w from hs)
  exact ⟨a5, c5, d5, hi, St.open (m := [blk b (#[Value.int .i64 x.m, Value.int .i64 x.window, Value.int .i64 x.queue, Value.int .i64 x.first, Value.int .i64 x.out, Value.slice a5 x.l.length c5]) 103, row 39 1 (.slice a5 x.l.length c5) x.l.length d5, tie (El.sl (El.int .u8)) d5 x.l]) hs⟩
theorem backlog_Log.close {b : Nat} (x : backlog_Log) {a5 : Option Addr} {c5 : Nat} {d5 : List Value} {L : List As} {w0 w : World} (hi : True) (hs : Sep.St (blk b (#[Value.int .i64 x.m, Value.int .i64 x.window, Value.int .i64 x.queue, Value.int .i64 x.first, Value.int .i64 x.out, Value.slice a5 x.l.length c5]) 103 :: row 39 1 (.slice a5 x.l.length c5) x.l.length d5 :: tie (El.sl (El.int .u8)) d5 x.l :: L) w0 w) : Sep.St (backlog_Log.at b x :: L) w0 w := by
  have h2 := St.join (m := [blk b (#[Value.int .i64 x.m, Value.int .i64 x.window, Value.int .i64 x.queue, Value.int .i64 x.first, Value.int .i64 x.out, Value.slice a5 x.l.length c5]) 103, row 39 1 (.slice a5 x.l.length c5) x.l.length d5, tie (El.sl (El.int .u8)) d5 x.l]) hs
  exact h2.mono fun h hh => ⟨hi, _, _, _, hh⟩

/-! ### signalman/backlog.New: function 42 -/
def backlog_New.f (a0 : Int) (a1 : Int) (a2 : Int) : Option backlog_Log := ((backlog_Cut.f a0 a1).bind fun t1 => some (({ m := t1.1, window := t1.2, queue := imax (0) (imin a2 (1000)), first := 0, out := 0, l := ([] : List (List Int)) } : backlog_Log)))
set_option maxRecDepth 100000 in
set_option maxHeartbeats 4000000 in
theorem backlog_New.calls (a0 : Int) (a1 : Int) (a2 : Int) (R : As) (w0 w : World)  (r : backlog_Log)  (H : backlog_New.f a0 a1 a2 = some r) (HS : Sep.St [R] w0 w) : Calls Try.prog 42 #[Value.int .i64 a0, Value.int .i64 a1, Value.int .i64 a2] w (Ret fun u w => ∃ (bq0 : Nat), u = Value.pointer (some ⟨bq0, 0, none⟩) ∧ Sep.St [backlog_Log.at bq0 r, R] w0 w) := by
  unfold backlog_New.f at H
  refine calls_enter Try.func42 rfl rfl ?_
  have H : _ = some r := H
  refine V.seq ?_
  refine V.region ?_
  refine W.rd (X.assign rfl) rfl rfl rfl ?_
  refine W.nil ?_
  refine At.next ?_
  refine V.seq ?_
  refine V.region ?_
  refine W.rd (X.move rfl) rfl rfl rfl ?_
  refine W.rd (X.move rfl) rfl rfl rfl ?_
  obtain ⟨t1, A2, H⟩ := bind_s H
  refine W.ev (Y.call Try.func72 (by kernel_rfl) rfl (vs := [Value.int .i64 a0, Value.int .i64 a1]) rfl (backlog_Cut.calls a0 a1 _ w0 _  t1  A2 (Sep.St.tailJoin (m := []) (r := [R]) HS))) rfl rfl rfl ?_
  rintro _ w ⟨rfl, HS⟩
  replace HS := Sep.St.tailOpen (m := []) (r := [R]) HS
  refine W.rd (X.move rfl) rfl rfl rfl ?_
  refine W.rd (X.extract rfl rfl) rfl rfl rfl ?_
  refine W.rd (X.extract rfl rfl) rfl rfl rfl ?_
  refine W.rd (X.assign rfl) rfl rfl rfl ?_
  refine W.rd (X.assign rfl) rfl rfl rfl ?_
  refine W.nil ?_
  refine At.next ?_
  refine V.seq ?_
  refine V.region ?_
  refine W.rd (X.move rfl) rfl rfl rfl ?_
  refine W.rd (X.move rfl) rfl rfl rfl ?_
  refine W.rd (X.move rfl) rfl rfl rfl ?_
  refine W.rd (X.min2 rfl rfl) rfl rfl rfl ?_
  refine W.rd (X.max2 rfl rfl) rfl rfl rfl ?_
  refine W.rd (X.build (vs := #[(0, Value.int .i64 t1.1), (1, Value.int .i64 t1.2), (2, Value.int .i64 (imax (0) (imin a2 (1000))))]) (v := Value.agg #[Value.int .i64 t1.1, Value.int .i64 t1.2, Value.int .i64 (imax (0) (imin a2 (1000))), Value.int .i64 (0), Value.int .i64 (0), Value.slice none 0 0]) (fun a ha => by simp only [List.map_toArray, List.map_cons, List.map_nil]; rw [ha.ev (x := .tmp 13) (v := Value.int .i64 t1.1) rfl]; rw [ha.ev (x := .tmp 14) (v := Value.int .i64 t1.2) rfl]; rw [ha.ev (x := .tmp 17) (v := Value.int .i64 (imax (0) (imin a2 (1000)))) rfl]; try rfl) (fun _ => by kernel_rfl)) rfl rfl rfl ?_
  refine W.ev (Y.box HS rfl) rfl rfl rfl ?_
  rintro _ w ⟨nb3, rfl, HS⟩
  refine W.rd (X.assign rfl) rfl rfl rfl ?_
  refine W.nil ?_
  refine At.next ?_
  refine V.ret ?_
  replace HS := row_nil' (e := 39) 1 none (St.put (A := tie (El.sl (El.int .u8)) ([]) (([] : List (List Int)))) (fun _ => tie.nil) HS)
  have HS : Sep.St [row 39 1 (.slice none (([] : List (List Int))).length 0) (([] : List (List Int))).length ([]), tie (El.sl (El.int .u8)) ([]) (([] : List (List Int))), blk nb3 (#[Value.int .i64 t1.1, Value.int .i64 t1.2, Value.int .i64 (imax (0) (imin a2 (1000))), Value.int .i64 (0), Value.int .i64 (0), Value.slice none 0 0]) 103, R] w0 w := HS
  replace HS := HS.re [2, 0, 1, 3] (by kernel_rfl)
  replace HS := backlog_Log.close (({ m := t1.1, window := t1.2, queue := imax (0) (imin a2 (1000)), first := 0, out := 0, l := ([] : List (List Int)) } : backlog_Log)) trivial HS
  cases H
  exact At.ret1 rfl rfl ⟨_, rfl, nb3, rfl, HS⟩

structure reorder_Order where
  m : Int
  window : Int
  next : Int
  kept : List (Int × (List Int))
  ready : List (List Int)
deriving DecidableEq, Inhabited

def reorder_Order.at (b : Nat) (x : reorder_Order) : As := fun h => True ∧ ∃ b3 : Nat, ∃ k3 : List (Int × Value), ∃ a4 : Option Addr, ∃ c4 : Nat, ∃ d4 : List Value, Sp [blk b (#[Value.int .i64 x.m, Value.int .i64 x.window, Value.int .i64 x.next, Value.map (some b3), Value.slice a4 x.ready.length c4]) 106, mblk b3 k3, tieM (El.sl (El.int .u8)) k3 x.kept, row 39 1 (.slice a4 x.ready.length c4) x.ready.length d4, tie (El.sl (El.int .u8)) d4 x.ready] h
theorem reorder_Order.open {b : Nat} {x : reorder_Order} {L : List As} {w0 w : World} (hs : Sep.St (reorder_Order.at b x :: L) w0 w) : ∃ b3 : Nat, ∃ k3 : List (Int × Value), ∃ a4 : Option Addr, ∃ c4 : Nat, ∃ d4 : List Value, True ∧ Sep.St (blk b (#[Value.int .i64 x.m, Value.int .i64 x.window, Value.int .i64 x.next, Value.map (some b3), Value.slice a4 x.ready.length c4]) 106 :: mblk b3 k3 :: tieM (El.sl (El.int .u8)) k3 x.kept :: row 39 1 (.slice a4 x.ready.length c4) x.ready.length d4 :: tie (El.sl (El.int .u8)) d4 x.ready :: L) w0 w := by
  have h1 := St.pure.1 (show St ((fun h => True ∧ (fun h => ∃ b3 : Nat, ∃ k3 : List (Int × Value), ∃ a4 : Option Addr, ∃ c4 : Nat, ∃ d4 : List Value, Sp [blk b (#[Value.int .i64 x.m, Value.int .i64 x.window, Value.int .i64 x.next, Value.map (some b3), Value.slice a4 x.ready.length c4]) 106, mblk b3 k3, tieM (El.sl (El.int .u8)) k3 x.kept, row 39 1 (.slice a4 x.ready.length c4) x.ready.length d4, tie (El.sl (El.int .u8)) d4 x.ready] h) h) :: L) w0 w from hs)
  obtain ⟨hi, hs⟩ := h1
  obtain ⟨b3, hs⟩ := St.ex.1 (show St ((fun h => ∃ b3 : Nat, (fun h => ∃ k3 : List (Int × Value), ∃ a4 : Option Addr, ∃ c4 : Nat, ∃ d4 : List Value, Sp [blk b (#[Value.int .i64 x.m, Value.int .i64 x.window, Value.int .i64 x.next, Value.map (some b3), Value.slice a4 x.ready.length c4]) 106, mblk b3 k3, tieM (El.sl (El.int .u8)) k3 x.kept, row 39 1 (.slice a4 x.ready.length c4) x.ready.length d4, tie (El.sl (El.int .u8)) d4 x.ready] h) h) :: L) w0 w from hs)
  obtain ⟨k3, hs⟩ := St.ex.1 (show St ((fun h => ∃ k3 : List (Int × Value), (fun h => ∃ a4 : Option Addr, ∃ c4 : Nat, ∃ d4 : List Value, Sp [blk b (#[Value.int .i64 x.m, Value.int .i64 x.window, Value.int .i64 x.next, Value.map (some b3), Value.slice a4 x.ready.length c4]) 106, mblk b3 k3, tieM (El.sl (El.int .u8)) k3 x.kept, row 39 1 (.slice a4 x.ready.length c4) x.ready.length d4, tie (El.sl (El.int .u8)) d4 x.ready] h) h) :: L) w0 w from hs)
  obtain ⟨a4, hs⟩ := St.ex.1 (show St ((fun h => ∃ a4 : Option Addr, (fun h => ∃ c4 : Nat, ∃ d4 : List Value, Sp [blk b (#[Value.int .i64 x.m, Value.int .i64 x.window, Value.int .i64 x.next, Value.map (some b3), Value.slice a4 x.ready.length c4]) 106, mblk b3 k3, tieM (El.sl (El.int .u8)) k3 x.kept, row 39 1 (.slice a4 x.ready.length c4) x.ready.length d4, tie (El.sl (El.int .u8)) d4 x.ready] h) h) :: L) w0 w from hs)
  obtain ⟨c4, hs⟩ := St.ex.1 (show St ((fun h => ∃ c4 : Nat, (fun h => ∃ d4 : List Value, Sp [blk b (#[Value.int .i64 x.m, Value.int .i64 x.window, Value.int .i64 x.next, Value.map (some b3), Value.slice a4 x.ready.length c4]) 106, mblk b3 k3, tieM (El.sl (El.int .u8)) k3 x.kept, row 39 1 (.slice a4 x.ready.length c4) x.ready.length d4, tie (El.sl (El.int .u8)) d4 x.ready] h) h) :: L) w0 w from hs)
  obtain ⟨d4, hs⟩ := St.ex.1 (show St ((fun h => ∃ d4 : List Value, (fun h => Sp [blk b (#[Value.int .i64 x.m, Value.int .i64 x.window, Value.int .i64 x.next, Value.map (some b3), Value.slice a4 x.ready.length c4]) 106, mblk b3 k3, tieM (El.sl (El.int .u8)) k3 x.kept, row 39 1 (.slice a4 x.ready.length c4) x.ready.length d4, tie (El.sl (El.int .u8)) d4 x.ready] h) h) :: L) w0 w from hs)
  exact ⟨b3, k3, a4, c4, d4, hi, St.open (m := [blk b (#[Value.int .i64 x.m, Value.int .i64 x.window, Value.int .i64 x.next, Value.map (some b3), Value.slice a4 x.ready.length c4]) 106, mblk b3 k3, tieM (El.sl (El.int .u8)) k3 x.kept, row 39 1 (.slice a4 x.ready.length c4) x.ready.length d4, tie (El.sl (El.int .u8)) d4 x.ready]) hs⟩
theorem reorder_Order.close {b : Nat} (x : reorder_Order) {b3 : Nat} {k3 : List (Int × Value)} {a4 : Option Addr} {c4 : Nat} {d4 : List Value} {L : List As} {w0 w : World} (hi : True) (hs : Sep.St (blk b (#[Value.int .i64 x.m, Value.int .i64 x.window, Value.int .i64 x.next, Value.map (some b3), Value.slice a4 x.ready.length c4]) 106 :: mblk b3 k3 :: tieM (El.sl (El.int .u8)) k3 x.kept :: row 39 1 (.slice a4 x.ready.length c4) x.ready.length d4 :: tie (El.sl (El.int .u8)) d4 x.ready :: L) w0 w) : Sep.St (reorder_Order.at b x :: L) w0 w := by
  have h2 := St.join (m := [blk b (#[Value.int .i64 x.m, Value.int .i64 x.window, Value.int .i64 x.next, Value.map (some b3), Value.slice a4 x.ready.length c4]) 106, mblk b3 k3, tieM (El.sl (El.int .u8)) k3 x.kept, row 39 1 (.slice a4 x.ready.length c4) x.ready.length d4, tie (El.sl (El.int .u8)) d4 x.ready]) hs
  exact h2.mono fun h hh => ⟨hi, _, _, _, _, _, hh⟩

/-! ### signalman/reorder.New: function 43 -/
def reorder_New.f (a0 : Int) (a1 : Int) : Option reorder_Order := ((backlog_Cut.f a0 a1).bind fun t1 => some (({ m := t1.1, window := t1.2, next := 0, kept := ([] : List (Int × (List Int))), ready := ([] : List (List Int)) } : reorder_Order)))
set_option maxRecDepth 100000 in
set_option maxHeartbeats 4000000 in
theorem reorder_New.calls (a0 : Int) (a1 : Int) (R : As) (w0 w : World)  (r : reorder_Order)  (H : reorder_New.f a0 a1 = some r) (HS : Sep.St [R] w0 w) : Calls Try.prog 43 #[Value.int .i64 a0, Value.int .i64 a1] w (Ret fun u w => ∃ (bq0 : Nat), u = Value.pointer (some ⟨bq0, 0, none⟩) ∧ Sep.St [reorder_Order.at bq0 r, R] w0 w) := by
  unfold reorder_New.f at H
  refine calls_enter Try.func43 rfl rfl ?_
  have H : _ = some r := H
  refine V.seq ?_
  refine V.region ?_
  refine W.rd (X.assign rfl) rfl rfl rfl ?_
  refine W.nil ?_
  refine At.next ?_
  refine V.seq ?_
  refine V.region ?_
  refine W.rd (X.move rfl) rfl rfl rfl ?_
  refine W.rd (X.move rfl) rfl rfl rfl ?_
  obtain ⟨t1, A2, H⟩ := bind_s H
  refine W.ev (Y.call Try.func72 (by kernel_rfl) rfl (vs := [Value.int .i64 a0, Value.int .i64 a1]) rfl (backlog_Cut.calls a0 a1 _ w0 _  t1  A2 (Sep.St.tailJoin (m := []) (r := [R]) HS))) rfl rfl rfl ?_
  rintro _ w ⟨rfl, HS⟩
  replace HS := Sep.St.tailOpen (m := []) (r := [R]) HS
  refine W.rd (X.move rfl) rfl rfl rfl ?_
  refine W.rd (X.extract rfl rfl) rfl rfl rfl ?_
  refine W.rd (X.extract rfl rfl) rfl rfl rfl ?_
  refine W.rd (X.assign rfl) rfl rfl rfl ?_
  refine W.rd (X.assign rfl) rfl rfl rfl ?_
  refine W.nil ?_
  refine At.next ?_
  refine V.seq ?_
  refine V.region ?_
  refine W.rd (X.move rfl) rfl rfl rfl ?_
  refine W.rd (X.move rfl) rfl rfl rfl ?_
  refine W.ev (Y.makeMap HS) rfl rfl rfl ?_
  rintro _ w ⟨mb3, rfl, HS⟩
  replace HS := St.put (A := tieM (El.sl (El.int .u8)) ([]) (([] : List (Int × (List Int))))) (fun _ => trivial) HS
  refine W.rd (X.build (vs := #[(0, Value.int .i64 t1.1), (1, Value.int .i64 t1.2), (3, Value.map (some mb3))]) (v := Value.agg #[Value.int .i64 t1.1, Value.int .i64 t1.2, Value.int .i64 (0), Value.map (some mb3), Value.slice none 0 0]) (fun a ha => by simp only [List.map_toArray, List.map_cons, List.map_nil]; rw [ha.ev (x := .tmp 11) (v := Value.int .i64 t1.1) rfl]; rw [ha.ev (x := .tmp 12) (v := Value.int .i64 t1.2) rfl]; rw [ha.ev (x := .tmp 13) (v := Value.map (some mb3)) rfl]; try rfl) (fun _ => by kernel_rfl)) rfl rfl rfl ?_
  refine W.ev (Y.box HS rfl) rfl rfl rfl ?_
  rintro _ w ⟨nb4, rfl, HS⟩
  refine W.rd (X.assign rfl) rfl rfl rfl ?_
  refine W.nil ?_
  refine At.next ?_
  refine V.ret ?_
  replace HS := row_nil' (e := 39) 1 none (St.put (A := tie (El.sl (El.int .u8)) ([]) (([] : List (List Int)))) (fun _ => tie.nil) HS)
  have HS : Sep.St [row 39 1 (.slice none (([] : List (List Int))).length 0) (([] : List (List Int))).length ([]), tie (El.sl (El.int .u8)) ([]) (([] : List (List Int))), blk nb4 (#[Value.int .i64 t1.1, Value.int .i64 t1.2, Value.int .i64 (0), Value.map (some mb3), Value.slice none 0 0]) 106, tieM (El.sl (El.int .u8)) ([]) (([] : List (Int × (List Int)))), mblk mb3 ([]), R] w0 w := HS
  replace HS := HS.re [2, 4, 3, 0, 1, 5] (by kernel_rfl)
  replace HS := reorder_Order.close (({ m := t1.1, window := t1.2, next := 0, kept := ([] : List (Int × (List Int))), ready := ([] : List (List Int)) } : reorder_Order)) trivial HS
  cases H
  exact At.ret1 rfl rfl ⟨_, rfl, nb4, rfl, HS⟩

structure clock_Set where
  now : Int
  left : List Int
deriving DecidableEq, Inhabited

def clock_Set.at (b : Nat) (x : clock_Set) : As := fun h => (x.left.length = 32) ∧ Sp [blk b (([Value.int .u32 x.now] ++ x.left.map (Value.int .i64)).toArray) 109] h
theorem clock_Set.open {b : Nat} {x : clock_Set} {L : List As} {w0 w : World} (hs : Sep.St (clock_Set.at b x :: L) w0 w) : (x.left.length = 32) ∧ Sep.St (blk b (([Value.int .u32 x.now] ++ x.left.map (Value.int .i64)).toArray) 109 :: L) w0 w := by
  have h1 := St.pure.1 (show St ((fun h => (x.left.length = 32) ∧ (fun h => Sp [blk b (([Value.int .u32 x.now] ++ x.left.map (Value.int .i64)).toArray) 109] h) h) :: L) w0 w from hs)
  obtain ⟨hi, hs⟩ := h1
  exact ⟨hi, St.open (m := [blk b (([Value.int .u32 x.now] ++ x.left.map (Value.int .i64)).toArray) 109]) hs⟩
theorem clock_Set.close {b : Nat} (x : clock_Set)  {L : List As} {w0 w : World} (hi : x.left.length = 32) (hs : Sep.St (blk b (([Value.int .u32 x.now] ++ x.left.map (Value.int .i64)).toArray) 109 :: L) w0 w) : Sep.St (clock_Set.at b x :: L) w0 w := by
  have h2 := St.join (m := [blk b (([Value.int .u32 x.now] ++ x.left.map (Value.int .i64)).toArray) 109]) hs
  exact h2.mono fun h hh => ⟨hi, hh⟩

/-! ### signalman/clock.New: function 44 -/
def clock_New.f (a0 : Int) : Option clock_Set := some ({ now := a0, left := List.replicate 32 0 } : clock_Set)
set_option maxRecDepth 100000 in
set_option maxHeartbeats 4000000 in
theorem clock_New.calls (a0 : Int) (R : As) (w0 w : World)  (r : clock_Set)  (H : clock_New.f a0 = some r) (HS : Sep.St [R] w0 w) : Calls Try.prog 44 #[Value.int .u32 a0] w (Ret fun u w => ∃ (bq0 : Nat), u = Value.pointer (some ⟨bq0, 0, none⟩) ∧ Sep.St [clock_Set.at bq0 r, R] w0 w) := by
  unfold clock_New.f at H
  refine calls_enter Try.func44 rfl rfl ?_
  have H : _ = some r := H
  refine V.seq ?_
  refine V.region ?_
  refine W.rd (X.assign rfl) rfl rfl rfl ?_
  refine W.nil ?_
  refine At.next ?_
  refine V.seq ?_
  refine V.region ?_
  refine W.rd (X.move rfl) rfl rfl rfl ?_
  refine W.rd (X.build (vs := #[(0, Value.int .u32 a0)]) (v := Value.agg (([Value.int .u32 a0] ++ (List.replicate 32 0).map (Value.int .i64)).toArray)) (fun a ha => by simp only [List.map_toArray, List.map_cons, List.map_nil]; rw [ha.ev (x := .tmp 3) (v := Value.int .u32 a0) rfl]; try rfl) (fun _ => by kernel_rfl)) rfl rfl rfl ?_
  refine W.ev (Y.box HS rfl) rfl rfl rfl ?_
  rintro _ w ⟨nb1, rfl, HS⟩
  refine W.rd (X.assign rfl) rfl rfl rfl ?_
  refine W.nil ?_
  refine At.next ?_
  refine V.ret ?_
  replace HS := clock_Set.close ({ now := a0, left := List.replicate 32 0 } : clock_Set) (by first | exact (by simp) | (simp only [List.length_set]; exact (by simp))) HS
  cases H
  exact At.ret1 rfl rfl ⟨_, rfl, nb1, rfl, HS⟩

structure arq_Arq where
  m : Int
  t1 : Int
  n2 : Int
  size : Int
  state : Int
  tag : Int
  tries : Int
  rejected : Bool
  log : backlog_Log
  order : reorder_Order
  timers : clock_Set
  out : List (List Int)
  inds : List Int
  sent : Int
  acked : Int
  lost : Int
deriving DecidableEq, Inhabited

def arq_Arq.at (b : Nat) (x : arq_Arq) : As := fun h => True ∧ ∃ b8 : Nat, ∃ b9 : Nat, ∃ b10 : Nat, ∃ a11 : Option Addr, ∃ c11 : Nat, ∃ d11 : List Value, ∃ a12 : Option Addr, ∃ c12 : Nat, Sp [blk b (#[Value.int .i64 x.m, Value.int .i64 x.t1, Value.int .i64 x.n2, Value.int .i64 x.size, Value.int .i64 x.state, Value.int .i64 x.tag, Value.int .i64 x.tries, Value.bool x.rejected, Value.pointer (some ⟨b8, 0, none⟩), Value.pointer (some ⟨b9, 0, none⟩), Value.pointer (some ⟨b10, 0, none⟩), Value.slice a11 x.out.length c11, Value.slice a12 x.inds.length c12, Value.int .i64 x.sent, Value.int .i64 x.acked, Value.int .i64 x.lost]) 82, backlog_Log.at b8 x.log, reorder_Order.at b9 x.order, clock_Set.at b10 x.timers, row 39 1 (.slice a11 x.out.length c11) x.out.length d11, tie (El.sl (El.int .u8)) d11 x.out, row 3 1 (.slice a12 x.inds.length c12) x.inds.length (x.inds.map (Value.int .i64))] h
theorem arq_Arq.open {b : Nat} {x : arq_Arq} {L : List As} {w0 w : World} (hs : Sep.St (arq_Arq.at b x :: L) w0 w) : ∃ b8 : Nat, ∃ b9 : Nat, ∃ b10 : Nat, ∃ a11 : Option Addr, ∃ c11 : Nat, ∃ d11 : List Value, ∃ a12 : Option Addr, ∃ c12 : Nat, True ∧ Sep.St (blk b (#[Value.int .i64 x.m, Value.int .i64 x.t1, Value.int .i64 x.n2, Value.int .i64 x.size, Value.int .i64 x.state, Value.int .i64 x.tag, Value.int .i64 x.tries, Value.bool x.rejected, Value.pointer (some ⟨b8, 0, none⟩), Value.pointer (some ⟨b9, 0, none⟩), Value.pointer (some ⟨b10, 0, none⟩), Value.slice a11 x.out.length c11, Value.slice a12 x.inds.length c12, Value.int .i64 x.sent, Value.int .i64 x.acked, Value.int .i64 x.lost]) 82 :: backlog_Log.at b8 x.log :: reorder_Order.at b9 x.order :: clock_Set.at b10 x.timers :: row 39 1 (.slice a11 x.out.length c11) x.out.length d11 :: tie (El.sl (El.int .u8)) d11 x.out :: row 3 1 (.slice a12 x.inds.length c12) x.inds.length (x.inds.map (Value.int .i64)) :: L) w0 w := by
  have h1 := St.pure.1 (show St ((fun h => True ∧ (fun h => ∃ b8 : Nat, ∃ b9 : Nat, ∃ b10 : Nat, ∃ a11 : Option Addr, ∃ c11 : Nat, ∃ d11 : List Value, ∃ a12 : Option Addr, ∃ c12 : Nat, Sp [blk b (#[Value.int .i64 x.m, Value.int .i64 x.t1, Value.int .i64 x.n2, Value.int .i64 x.size, Value.int .i64 x.state, Value.int .i64 x.tag, Value.int .i64 x.tries, Value.bool x.rejected, Value.pointer (some ⟨b8, 0, none⟩), Value.pointer (some ⟨b9, 0, none⟩), Value.pointer (some ⟨b10, 0, none⟩), Value.slice a11 x.out.length c11, Value.slice a12 x.inds.length c12, Value.int .i64 x.sent, Value.int .i64 x.acked, Value.int .i64 x.lost]) 82, backlog_Log.at b8 x.log, reorder_Order.at b9 x.order, clock_Set.at b10 x.timers, row 39 1 (.slice a11 x.out.length c11) x.out.length d11, tie (El.sl (El.int .u8)) d11 x.out, row 3 1 (.slice a12 x.inds.length c12) x.inds.length (x.inds.map (Value.int .i64))] h) h) :: L) w0 w from hs)
  obtain ⟨hi, hs⟩ := h1
  obtain ⟨b8, hs⟩ := St.ex.1 (show St ((fun h => ∃ b8 : Nat, (fun h => ∃ b9 : Nat, ∃ b10 : Nat, ∃ a11 : Option Addr, ∃ c11 : Nat, ∃ d11 : List Value, ∃ a12 : Option Addr, ∃ c12 : Nat, Sp [blk b (#[Value.int .i64 x.m, Value.int .i64 x.t1, Value.int .i64 x.n2, Value.int .i64 x.size, Value.int .i64 x.state, Value.int .i64 x.tag, Value.int .i64 x.tries, Value.bool x.rejected, Value.pointer (some ⟨b8, 0, none⟩), Value.pointer (some ⟨b9, 0, none⟩), Value.pointer (some ⟨b10, 0, none⟩), Value.slice a11 x.out.length c11, Value.slice a12 x.inds.length c12, Value.int .i64 x.sent, Value.int .i64 x.acked, Value.int .i64 x.lost]) 82, backlog_Log.at b8 x.log, reorder_Order.at b9 x.order, clock_Set.at b10 x.timers, row 39 1 (.slice a11 x.out.length c11) x.out.length d11, tie (El.sl (El.int .u8)) d11 x.out, row 3 1 (.slice a12 x.inds.length c12) x.inds.length (x.inds.map (Value.int .i64))] h) h) :: L) w0 w from hs)
  obtain ⟨b9, hs⟩ := St.ex.1 (show St ((fun h => ∃ b9 : Nat, (fun h => ∃ b10 : Nat, ∃ a11 : Option Addr, ∃ c11 : Nat, ∃ d11 : List Value, ∃ a12 : Option Addr, ∃ c12 : Nat, Sp [blk b (#[Value.int .i64 x.m, Value.int .i64 x.t1, Value.int .i64 x.n2, Value.int .i64 x.size, Value.int .i64 x.state, Value.int .i64 x.tag, Value.int .i64 x.tries, Value.bool x.rejected, Value.pointer (some ⟨b8, 0, none⟩), Value.pointer (some ⟨b9, 0, none⟩), Value.pointer (some ⟨b10, 0, none⟩), Value.slice a11 x.out.length c11, Value.slice a12 x.inds.length c12, Value.int .i64 x.sent, Value.int .i64 x.acked, Value.int .i64 x.lost]) 82, backlog_Log.at b8 x.log, reorder_Order.at b9 x.order, clock_Set.at b10 x.timers, row 39 1 (.slice a11 x.out.length c11) x.out.length d11, tie (El.sl (El.int .u8)) d11 x.out, row 3 1 (.slice a12 x.inds.length c12) x.inds.length (x.inds.map (Value.int .i64))] h) h) :: L) w0 w from hs)
  obtain ⟨b10, hs⟩ := St.ex.1 (show St ((fun h => ∃ b10 : Nat, (fun h => ∃ a11 : Option Addr, ∃ c11 : Nat, ∃ d11 : List Value, ∃ a12 : Option Addr, ∃ c12 : Nat, Sp [blk b (#[Value.int .i64 x.m, Value.int .i64 x.t1, Value.int .i64 x.n2, Value.int .i64 x.size, Value.int .i64 x.state, Value.int .i64 x.tag, Value.int .i64 x.tries, Value.bool x.rejected, Value.pointer (some ⟨b8, 0, none⟩), Value.pointer (some ⟨b9, 0, none⟩), Value.pointer (some ⟨b10, 0, none⟩), Value.slice a11 x.out.length c11, Value.slice a12 x.inds.length c12, Value.int .i64 x.sent, Value.int .i64 x.acked, Value.int .i64 x.lost]) 82, backlog_Log.at b8 x.log, reorder_Order.at b9 x.order, clock_Set.at b10 x.timers, row 39 1 (.slice a11 x.out.length c11) x.out.length d11, tie (El.sl (El.int .u8)) d11 x.out, row 3 1 (.slice a12 x.inds.length c12) x.inds.length (x.inds.map (Value.int .i64))] h) h) :: L) w0 w from hs)
  obtain ⟨a11, hs⟩ := St.ex.1 (show St ((fun h => ∃ a11 : Option Addr, (fun h => ∃ c11 : Nat, ∃ d11 : List Value, ∃ a12 : Option Addr, ∃ c12 : Nat, Sp [blk b (#[Value.int .i64 x.m, Value.int .i64 x.t1, Value.int .i64 x.n2, Value.int .i64 x.size, Value.int .i64 x.state, Value.int .i64 x.tag, Value.int .i64 x.tries, Value.bool x.rejected, Value.pointer (some ⟨b8, 0, none⟩), Value.pointer (some ⟨b9, 0, none⟩), Value.pointer (some ⟨b10, 0, none⟩), Value.slice a11 x.out.length c11, Value.slice a12 x.inds.length c12, Value.int .i64 x.sent, Value.int .i64 x.acked, Value.int .i64 x.lost]) 82, backlog_Log.at b8 x.log, reorder_Order.at b9 x.order, clock_Set.at b10 x.timers, row 39 1 (.slice a11 x.out.length c11) x.out.length d11, tie (El.sl (El.int .u8)) d11 x.out, row 3 1 (.slice a12 x.inds.length c12) x.inds.length (x.inds.map (Value.int .i64))] h) h) :: L) w0 w from hs)
  obtain ⟨c11, hs⟩ := St.ex.1 (show St ((fun h => ∃ c11 : Nat, (fun h => ∃ d11 : List Value, ∃ a12 : Option Addr, ∃ c12 : Nat, Sp [blk b (#[Value.int .i64 x.m, Value.int .i64 x.t1, Value.int .i64 x.n2, Value.int .i64 x.size, Value.int .i64 x.state, Value.int .i64 x.tag, Value.int .i64 x.tries, Value.bool x.rejected, Value.pointer (some ⟨b8, 0, none⟩), Value.pointer (some ⟨b9, 0, none⟩), Value.pointer (some ⟨b10, 0, none⟩), Value.slice a11 x.out.length c11, Value.slice a12 x.inds.length c12, Value.int .i64 x.sent, Value.int .i64 x.acked, Value.int .i64 x.lost]) 82, backlog_Log.at b8 x.log, reorder_Order.at b9 x.order, clock_Set.at b10 x.timers, row 39 1 (.slice a11 x.out.length c11) x.out.length d11, tie (El.sl (El.int .u8)) d11 x.out, row 3 1 (.slice a12 x.inds.length c12) x.inds.length (x.inds.map (Value.int .i64))] h) h) :: L) w0 w from hs)
  obtain ⟨d11, hs⟩ := St.ex.1 (show St ((fun h => ∃ d11 : List Value, (fun h => ∃ a12 : Option Addr, ∃ c12 : Nat, Sp [blk b (#[Value.int .i64 x.m, Value.int .i64 x.t1, Value.int .i64 x.n2, Value.int .i64 x.size, Value.int .i64 x.state, Value.int .i64 x.tag, Value.int .i64 x.tries, Value.bool x.rejected, Value.pointer (some ⟨b8, 0, none⟩), Value.pointer (some ⟨b9, 0, none⟩), Value.pointer (some ⟨b10, 0, none⟩), Value.slice a11 x.out.length c11, Value.slice a12 x.inds.length c12, Value.int .i64 x.sent, Value.int .i64 x.acked, Value.int .i64 x.lost]) 82, backlog_Log.at b8 x.log, reorder_Order.at b9 x.order, clock_Set.at b10 x.timers, row 39 1 (.slice a11 x.out.length c11) x.out.length d11, tie (El.sl (El.int .u8)) d11 x.out, row 3 1 (.slice a12 x.inds.length c12) x.inds.length (x.inds.map (Value.int .i64))] h) h) :: L) w0 w from hs)
  obtain ⟨a12, hs⟩ := St.ex.1 (show St ((fun h => ∃ a12 : Option Addr, (fun h => ∃ c12 : Nat, Sp [blk b (#[Value.int .i64 x.m, Value.int .i64 x.t1, Value.int .i64 x.n2, Value.int .i64 x.size, Value.int .i64 x.state, Value.int .i64 x.tag, Value.int .i64 x.tries, Value.bool x.rejected, Value.pointer (some ⟨b8, 0, none⟩), Value.pointer (some ⟨b9, 0, none⟩), Value.pointer (some ⟨b10, 0, none⟩), Value.slice a11 x.out.length c11, Value.slice a12 x.inds.length c12, Value.int .i64 x.sent, Value.int .i64 x.acked, Value.int .i64 x.lost]) 82, backlog_Log.at b8 x.log, reorder_Order.at b9 x.order, clock_Set.at b10 x.timers, row 39 1 (.slice a11 x.out.length c11) x.out.length d11, tie (El.sl (El.int .u8)) d11 x.out, row 3 1 (.slice a12 x.inds.length c12) x.inds.length (x.inds.map (Value.int .i64))] h) h) :: L) w0 w from hs)
  obtain ⟨c12, hs⟩ := St.ex.1 (show St ((fun h => ∃ c12 : Nat, (fun h => Sp [blk b (#[Value.int .i64 x.m, Value.int .i64 x.t1, Value.int .i64 x.n2, Value.int .i64 x.size, Value.int .i64 x.state, Value.int .i64 x.tag, Value.int .i64 x.tries, Value.bool x.rejected, Value.pointer (some ⟨b8, 0, none⟩), Value.pointer (some ⟨b9, 0, none⟩), Value.pointer (some ⟨b10, 0, none⟩), Value.slice a11 x.out.length c11, Value.slice a12 x.inds.length c12, Value.int .i64 x.sent, Value.int .i64 x.acked, Value.int .i64 x.lost]) 82, backlog_Log.at b8 x.log, reorder_Order.at b9 x.order, clock_Set.at b10 x.timers, row 39 1 (.slice a11 x.out.length c11) x.out.length d11, tie (El.sl (El.int .u8)) d11 x.out, row 3 1 (.slice a12 x.inds.length c12) x.inds.length (x.inds.map (Value.int .i64))] h) h) :: L) w0 w from hs)
  exact ⟨b8, b9, b10, a11, c11, d11, a12, c12, hi, St.open (m := [blk b (#[Value.int .i64 x.m, Value.int .i64 x.t1, Value.int .i64 x.n2, Value.int .i64 x.size, Value.int .i64 x.state, Value.int .i64 x.tag, Value.int .i64 x.tries, Value.bool x.rejected, Value.pointer (some ⟨b8, 0, none⟩), Value.pointer (some ⟨b9, 0, none⟩), Value.pointer (some ⟨b10, 0, none⟩), Value.slice a11 x.out.length c11, Value.slice a12 x.inds.length c12, Value.int .i64 x.sent, Value.int .i64 x.acked, Value.int .i64 x.lost]) 82, backlog_Log.at b8 x.log, reorder_Order.at b9 x.order, clock_Set.at b10 x.timers, row 39 1 (.slice a11 x.out.length c11) x.out.length d11, tie (El.sl (El.int .u8)) d11 x.out, row 3 1 (.slice a12 x.inds.length c12) x.inds.length (x.inds.map (Value.int .i64))]) hs⟩
theorem arq_Arq.close {b : Nat} (x : arq_Arq) {b8 : Nat} {b9 : Nat} {b10 : Nat} {a11 : Option Addr} {c11 : Nat} {d11 : List Value} {a12 : Option Addr} {c12 : Nat} {L : List As} {w0 w : World} (hi : True) (hs : Sep.St (blk b (#[Value.int .i64 x.m, Value.int .i64 x.t1, Value.int .i64 x.n2, Value.int .i64 x.size, Value.int .i64 x.state, Value.int .i64 x.tag, Value.int .i64 x.tries, Value.bool x.rejected, Value.pointer (some ⟨b8, 0, none⟩), Value.pointer (some ⟨b9, 0, none⟩), Value.pointer (some ⟨b10, 0, none⟩), Value.slice a11 x.out.length c11, Value.slice a12 x.inds.length c12, Value.int .i64 x.sent, Value.int .i64 x.acked, Value.int .i64 x.lost]) 82 :: backlog_Log.at b8 x.log :: reorder_Order.at b9 x.order :: clock_Set.at b10 x.timers :: row 39 1 (.slice a11 x.out.length c11) x.out.length d11 :: tie (El.sl (El.int .u8)) d11 x.out :: row 3 1 (.slice a12 x.inds.length c12) x.inds.length (x.inds.map (Value.int .i64)) :: L) w0 w) : Sep.St (arq_Arq.at b x :: L) w0 w := by
  have h2 := St.join (m := [blk b (#[Value.int .i64 x.m, Value.int .i64 x.t1, Value.int .i64 x.n2, Value.int .i64 x.size, Value.int .i64 x.state, Value.int .i64 x.tag, Value.int .i64 x.tries, Value.bool x.rejected, Value.pointer (some ⟨b8, 0, none⟩), Value.pointer (some ⟨b9, 0, none⟩), Value.pointer (some ⟨b10, 0, none⟩), Value.slice a11 x.out.length c11, Value.slice a12 x.inds.length c12, Value.int .i64 x.sent, Value.int .i64 x.acked, Value.int .i64 x.lost]) 82, backlog_Log.at b8 x.log, reorder_Order.at b9 x.order, clock_Set.at b10 x.timers, row 39 1 (.slice a11 x.out.length c11) x.out.length d11, tie (El.sl (El.int .u8)) d11 x.out, row 3 1 (.slice a12 x.inds.length c12) x.inds.length (x.inds.map (Value.int .i64))]) hs
  exact h2.mono fun h hh => ⟨hi, _, _, _, _, _, _, _, _, hh⟩

/-! ### signalman/arq.New: function 17 -/
mutual
def arq_New.j0 (a0 : api_Config) (x3 : Int) : Option arq_Arq := ((arq_cut.f a0.T1 1 1048576).bind fun t7 => ((arq_cut.f a0.N2 1 100).bind fun t9 => ((arq_cut.f a0.Size 1 1000).bind fun t11 => ((backlog_New.f x3 a0.Window a0.Queue).bind fun t13 => ((reorder_New.f x3 a0.Window).bind fun t15 => ((clock_New.f 0).bind fun t17 => some (({ m := x3, t1 := t7, n2 := t9, size := t11, state := 0, tag := 0, tries := 0, rejected := false, log := t13, order := t15, timers := t17, out := ([] : List (List Int)), inds := ([] : List Int), sent := 0, acked := 0, lost := 0 } : arq_Arq))))))))
end
def arq_New.f (a0 : api_Config) : Option arq_Arq := (if a0.Modulus = 32768 then (arq_New.j0 a0 32768) else (arq_New.j0 a0 128))
set_option maxRecDepth 100000 in
set_option maxHeartbeats 4000000 in
theorem arq_New.calls (a0 : api_Config) (R : As) (w0 w : World)  (r : arq_Arq)  (H : arq_New.f a0 = some r) (HS : Sep.St [R] w0 w) : Calls Try.prog 17 #[Value.agg #[Value.int .i64 a0.Mode, Value.int .i64 a0.Modulus, Value.int .i64 a0.Window, Value.int .i64 a0.T1, Value.int .i64 a0.N2, Value.int .i64 a0.Hold, Value.int .i64 a0.Wait, Value.int .i64 a0.Keep, Value.int .i64 a0.Queue, Value.int .i64 a0.Size, Value.int .i64 a0.Ring, Value.int .i64 a0.Rate, Value.int .i64 a0.Bad, Value.int .i64 a0.Good, Value.bool a0.Revert, Value.bool a0.Wide]] w (Ret fun u w => ∃ (bq0 : Nat), u = Value.pointer (some ⟨bq0, 0, none⟩) ∧ Sep.St [arq_Arq.at bq0 r, R] w0 w) := by
  unfold arq_New.f at H
  refine calls_enter Try.func17 rfl rfl ?_
  have H : _ = some r := H
  refine V.seq ?_
  refine V.region ?_
  refine W.ev (Y.box HS rfl) rfl rfl rfl ?_
  rintro _ w ⟨nb1, rfl, HS⟩
  refine W.rd (X.assign rfl) rfl rfl rfl ?_
  refine W.nil ?_
  refine At.next ?_
  refine V.seq ?_
  refine V.region ?_
  refine W.rd (X.assign rfl) rfl rfl rfl ?_
  refine W.nil ?_
  refine At.next ?_
  refine V.meet (σ := Int) (fun st w => match st with | x3 => Sep.St [api_Config.at nb1 a0, R] w0 w ∧ arq_New.j0 a0 x3 = some r) (fun st => match st with | x3 => [(1, Value.pointer (some ⟨nb1, 0, none⟩)), (3, Value.int .i64 x3)]) ?_ ?_
  · refine V.seq ?_
    refine V.region ?_
    refine W.rd (X.fieldAddr 1 fo24_1 rfl) rfl rfl rfl ?_
    refine W.rd (X.loadAt 0 HS rfl Try.underlying3 rfl rfl rfl) rfl rfl rfl ?_
    refine W.rd (X.cmp (decide (a0.Modulus = 32768)) rfl rfl rfl rfl) rfl rfl rfl ?_
    refine W.nil ?_
    refine At.next ?_
    by_cases c20 : a0.Modulus = 32768
    · replace H := ite_t c20 H
      refine V.condT (sb (decide_eq_true c20)) ?_
      refine V.region ?_
      refine W.rd (X.assign rfl) rfl rfl rfl ?_
      refine W.nil ?_
      replace HS := api_Config.close a0 trivial HS
      exact At.meet (32768) ⟨rfl, rfl, trivial⟩ ⟨HS, H⟩
    · replace H := ite_f c20 H
      refine V.condF (sb (decide_eq_false c20)) ?_
      refine V.skip ?_
      replace HS := api_Config.close a0 trivial HS
      exact At.meet (128) ⟨rfl, rfl, trivial⟩ ⟨HS, H⟩
  · rintro x3 w ⟨HS, H⟩
    unfold arq_New.j0 at H
    refine V.seq ?_
    obtain ⟨hi6, HS⟩ := api_Config.open HS
    refine V.draw (es := [3, 6, 9, 15, 19, 20, 22]) (bl := [21, 23]) (f := [(7, Value.int .i64 x3), (8, Value.pointer (some ⟨nb1, 0 + 3, none⟩)), (9, Value.int .i64 a0.T1), (11, Value.pointer (some ⟨nb1, 0 + 4, none⟩)), (12, Value.int .i64 a0.N2), (14, Value.pointer (some ⟨nb1, 0 + 9, none⟩)), (15, Value.int .i64 a0.Size), (17, Value.int .i64 x3), (18, Value.pointer (some ⟨nb1, 0 + 2, none⟩)), (19, Value.int .i64 a0.Window), (20, Value.pointer (some ⟨nb1, 0 + 8, none⟩)), (21, Value.int .i64 a0.Queue), (23, Value.int .i64 x3), (24, Value.pointer (some ⟨nb1, 0 + 2, none⟩)), (25, Value.int .i64 a0.Window)]) (fun w => Sep.St [blk nb1 (#[Value.int .i64 a0.Mode, Value.int .i64 a0.Modulus, Value.int .i64 a0.Window, Value.int .i64 a0.T1, Value.int .i64 a0.N2, Value.int .i64 a0.Hold, Value.int .i64 a0.Wait, Value.int .i64 a0.Keep, Value.int .i64 a0.Queue, Value.int .i64 a0.Size, Value.int .i64 a0.Ring, Value.int .i64 a0.Rate, Value.int .i64 a0.Bad, Value.int .i64 a0.Good, Value.bool a0.Revert, Value.bool a0.Wide]) 24, R] w0 w) mo HS.drew rfl ?_
    refine T.event _ [(9, Value.int .i64 a0.T1)] rfl rfl ⟨.m1 3 rfl (.l rfl rfl) (fun w HS => X.move rfl) rfl rfl rfl rfl rfl, .m1 1 rfl (.l rfl rfl) (fun w HS => X.fieldAddr 3 fo24_3 rfl) rfl rfl rfl rfl rfl, .m1 8 rfl (.r rfl rfl) (fun w HS => X.loadAt 0 HS rfl Try.underlying3 rfl rfl rfl) rfl rfl rfl rfl rfl, .m1 1 rfl (.l rfl rfl) (fun w HS => X.fieldAddr 4 fo24_4 rfl) rfl rfl rfl rfl rfl, .m1 11 rfl (.r rfl rfl) (fun w HS => X.loadAt 0 HS rfl Try.underlying3 rfl rfl rfl) rfl rfl rfl rfl rfl, .m1 1 rfl (.l rfl rfl) (fun w HS => X.fieldAddr 9 fo24_9 rfl) rfl rfl rfl rfl rfl, .m1 14 rfl (.r rfl rfl) (fun w HS => X.loadAt 0 HS rfl Try.underlying3 rfl rfl rfl) rfl rfl rfl rfl rfl, .m1 3 rfl (.l rfl rfl) (fun w HS => X.move rfl) rfl rfl rfl rfl rfl, .m1 1 rfl (.l rfl rfl) (fun w HS => X.fieldAddr 2 fo24_2 rfl) rfl rfl rfl rfl rfl, .m1 18 rfl (.r rfl rfl) (fun w HS => X.loadAt 0 HS rfl Try.underlying3 rfl rfl rfl) rfl rfl rfl rfl rfl, .m1 1 rfl (.l rfl rfl) (fun w HS => X.fieldAddr 8 fo24_8 rfl) rfl rfl rfl rfl rfl, .m1 20 rfl (.r rfl rfl) (fun w HS => X.loadAt 0 HS rfl Try.underlying3 rfl rfl rfl) rfl rfl rfl rfl rfl, .m1 3 rfl (.l rfl rfl) (fun w HS => X.move rfl) rfl rfl rfl rfl rfl, .m1 1 rfl (.l rfl rfl) (fun w HS => X.fieldAddr 2 fo24_2 rfl) rfl rfl rfl rfl rfl, .m1 24 rfl (.r rfl rfl) (fun w HS => X.loadAt 0 HS rfl Try.underlying3 rfl rfl rfl) rfl rfl rfl rfl rfl, trivial⟩ rfl ⟨.inr ⟨rfl, rfl⟩, trivial⟩ (Or.inl rfl) (by intro d hd; cases hd; exact ⟨by decide, rfl, rfl⟩) [21, 23] [1, 2] rfl rfl (fun w HS => ?_)
    obtain ⟨t7, A8, H⟩ := bind_s H
    refine ⟨_, Y.call Try.func41 (by kernel_rfl) rfl (vs := [Value.int .i64 a0.T1, Value.int .i64 (1), Value.int .i64 (1048576)]) rfl (arq_cut.calls a0.T1 1 1048576 _ w0 _  t7  A8 (Sep.St.tailJoin (m := []) (r := [blk nb1 (#[Value.int .i64 a0.Mode, Value.int .i64 a0.Modulus, Value.int .i64 a0.Window, Value.int .i64 a0.T1, Value.int .i64 a0.N2, Value.int .i64 a0.Hold, Value.int .i64 a0.Wait, Value.int .i64 a0.Keep, Value.int .i64 a0.Queue, Value.int .i64 a0.Size, Value.int .i64 a0.Ring, Value.int .i64 a0.Rate, Value.int .i64 a0.Bad, Value.int .i64 a0.Good, Value.bool a0.Revert, Value.bool a0.Wide]) 24, R]) HS)), ?_⟩
    rintro _ w ⟨rfl, HS⟩
    replace HS := Sep.St.tailOpen (m := []) (r := [blk nb1 (#[Value.int .i64 a0.Mode, Value.int .i64 a0.Modulus, Value.int .i64 a0.Window, Value.int .i64 a0.T1, Value.int .i64 a0.N2, Value.int .i64 a0.Hold, Value.int .i64 a0.Wait, Value.int .i64 a0.Keep, Value.int .i64 a0.Queue, Value.int .i64 a0.Size, Value.int .i64 a0.Ring, Value.int .i64 a0.Rate, Value.int .i64 a0.Bad, Value.int .i64 a0.Good, Value.bool a0.Revert, Value.bool a0.Wide]) 24, R]) HS
    refine ⟨[(10, Value.int .i64 t7)], _, ⟨.inl ⟨rfl, rfl⟩, trivial⟩, ?_, HS⟩
    refine T.event _ [(12, Value.int .i64 a0.N2)] rfl rfl ⟨.m1 3 rfl (.l rfl rfl) (fun w HS => X.move rfl) rfl rfl rfl rfl rfl, .m1 1 rfl (.l rfl rfl) (fun w HS => X.fieldAddr 4 fo24_4 rfl) rfl rfl rfl rfl rfl, .m1 11 rfl (.r rfl rfl) (fun w HS => X.loadAt 0 HS rfl Try.underlying3 rfl rfl rfl) rfl rfl rfl rfl rfl, .m1 1 rfl (.l rfl rfl) (fun w HS => X.fieldAddr 9 fo24_9 rfl) rfl rfl rfl rfl rfl, .m1 14 rfl (.r rfl rfl) (fun w HS => X.loadAt 0 HS rfl Try.underlying3 rfl rfl rfl) rfl rfl rfl rfl rfl, .m1 3 rfl (.l rfl rfl) (fun w HS => X.move rfl) rfl rfl rfl rfl rfl, .m1 1 rfl (.l rfl rfl) (fun w HS => X.fieldAddr 2 fo24_2 rfl) rfl rfl rfl rfl rfl, .m1 18 rfl (.r rfl rfl) (fun w HS => X.loadAt 0 HS rfl Try.underlying3 rfl rfl rfl) rfl rfl rfl rfl rfl, .m1 1 rfl (.l rfl rfl) (fun w HS => X.fieldAddr 8 fo24_8 rfl) rfl rfl rfl rfl rfl, .m1 20 rfl (.r rfl rfl) (fun w HS => X.loadAt 0 HS rfl Try.underlying3 rfl rfl rfl) rfl rfl rfl rfl rfl, .m1 3 rfl (.l rfl rfl) (fun w HS => X.move rfl) rfl rfl rfl rfl rfl, .m1 1 rfl (.l rfl rfl) (fun w HS => X.fieldAddr 2 fo24_2 rfl) rfl rfl rfl rfl rfl, .m1 24 rfl (.r rfl rfl) (fun w HS => X.loadAt 0 HS rfl Try.underlying3 rfl rfl rfl) rfl rfl rfl rfl rfl, trivial⟩ rfl ⟨.inr ⟨rfl, rfl⟩, trivial⟩ (Or.inl rfl) (by intro d hd; cases hd; exact ⟨by decide, rfl, rfl⟩) [21, 23] [4, 5] rfl rfl (fun w HS => ?_)
    obtain ⟨t9, A10, H⟩ := bind_s H
    refine ⟨_, Y.call Try.func41 (by kernel_rfl) rfl (vs := [Value.int .i64 a0.N2, Value.int .i64 (1), Value.int .i64 (100)]) rfl (arq_cut.calls a0.N2 1 100 _ w0 _  t9  A10 (Sep.St.tailJoin (m := []) (r := [blk nb1 (#[Value.int .i64 a0.Mode, Value.int .i64 a0.Modulus, Value.int .i64 a0.Window, Value.int .i64 a0.T1, Value.int .i64 a0.N2, Value.int .i64 a0.Hold, Value.int .i64 a0.Wait, Value.int .i64 a0.Keep, Value.int .i64 a0.Queue, Value.int .i64 a0.Size, Value.int .i64 a0.Ring, Value.int .i64 a0.Rate, Value.int .i64 a0.Bad, Value.int .i64 a0.Good, Value.bool a0.Revert, Value.bool a0.Wide]) 24, R]) HS)), ?_⟩
    rintro _ w ⟨rfl, HS⟩
    replace HS := Sep.St.tailOpen (m := []) (r := [blk nb1 (#[Value.int .i64 a0.Mode, Value.int .i64 a0.Modulus, Value.int .i64 a0.Window, Value.int .i64 a0.T1, Value.int .i64 a0.N2, Value.int .i64 a0.Hold, Value.int .i64 a0.Wait, Value.int .i64 a0.Keep, Value.int .i64 a0.Queue, Value.int .i64 a0.Size, Value.int .i64 a0.Ring, Value.int .i64 a0.Rate, Value.int .i64 a0.Bad, Value.int .i64 a0.Good, Value.bool a0.Revert, Value.bool a0.Wide]) 24, R]) HS
    refine ⟨[(13, Value.int .i64 t9)], _, ⟨.inl ⟨rfl, rfl⟩, trivial⟩, ?_, HS⟩
    refine T.event _ [(15, Value.int .i64 a0.Size)] rfl rfl ⟨.m1 3 rfl (.l rfl rfl) (fun w HS => X.move rfl) rfl rfl rfl rfl rfl, .m1 1 rfl (.l rfl rfl) (fun w HS => X.fieldAddr 9 fo24_9 rfl) rfl rfl rfl rfl rfl, .m1 14 rfl (.r rfl rfl) (fun w HS => X.loadAt 0 HS rfl Try.underlying3 rfl rfl rfl) rfl rfl rfl rfl rfl, .m1 3 rfl (.l rfl rfl) (fun w HS => X.move rfl) rfl rfl rfl rfl rfl, .m1 1 rfl (.l rfl rfl) (fun w HS => X.fieldAddr 2 fo24_2 rfl) rfl rfl rfl rfl rfl, .m1 18 rfl (.r rfl rfl) (fun w HS => X.loadAt 0 HS rfl Try.underlying3 rfl rfl rfl) rfl rfl rfl rfl rfl, .m1 1 rfl (.l rfl rfl) (fun w HS => X.fieldAddr 8 fo24_8 rfl) rfl rfl rfl rfl rfl, .m1 20 rfl (.r rfl rfl) (fun w HS => X.loadAt 0 HS rfl Try.underlying3 rfl rfl rfl) rfl rfl rfl rfl rfl, .m1 3 rfl (.l rfl rfl) (fun w HS => X.move rfl) rfl rfl rfl rfl rfl, .m1 1 rfl (.l rfl rfl) (fun w HS => X.fieldAddr 2 fo24_2 rfl) rfl rfl rfl rfl rfl, .m1 24 rfl (.r rfl rfl) (fun w HS => X.loadAt 0 HS rfl Try.underlying3 rfl rfl rfl) rfl rfl rfl rfl rfl, trivial⟩ rfl ⟨.inr ⟨rfl, rfl⟩, trivial⟩ (Or.inl rfl) (by intro d hd; cases hd; exact ⟨by decide, rfl, rfl⟩) [21, 23] [7, 8] rfl rfl (fun w HS => ?_)
    obtain ⟨t11, A12, H⟩ := bind_s H
    refine ⟨_, Y.call Try.func41 (by kernel_rfl) rfl (vs := [Value.int .i64 a0.Size, Value.int .i64 (1), Value.int .i64 (1000)]) rfl (arq_cut.calls a0.Size 1 1000 _ w0 _  t11  A12 (Sep.St.tailJoin (m := []) (r := [blk nb1 (#[Value.int .i64 a0.Mode, Value.int .i64 a0.Modulus, Value.int .i64 a0.Window, Value.int .i64 a0.T1, Value.int .i64 a0.N2, Value.int .i64 a0.Hold, Value.int .i64 a0.Wait, Value.int .i64 a0.Keep, Value.int .i64 a0.Queue, Value.int .i64 a0.Size, Value.int .i64 a0.Ring, Value.int .i64 a0.Rate, Value.int .i64 a0.Bad, Value.int .i64 a0.Good, Value.bool a0.Revert, Value.bool a0.Wide]) 24, R]) HS)), ?_⟩
    rintro _ w ⟨rfl, HS⟩
    replace HS := Sep.St.tailOpen (m := []) (r := [blk nb1 (#[Value.int .i64 a0.Mode, Value.int .i64 a0.Modulus, Value.int .i64 a0.Window, Value.int .i64 a0.T1, Value.int .i64 a0.N2, Value.int .i64 a0.Hold, Value.int .i64 a0.Wait, Value.int .i64 a0.Keep, Value.int .i64 a0.Queue, Value.int .i64 a0.Size, Value.int .i64 a0.Ring, Value.int .i64 a0.Rate, Value.int .i64 a0.Bad, Value.int .i64 a0.Good, Value.bool a0.Revert, Value.bool a0.Wide]) 24, R]) HS
    refine ⟨[(16, Value.int .i64 t11)], _, ⟨.inl ⟨rfl, rfl⟩, trivial⟩, ?_, HS⟩
    refine T.event _ [(17, Value.int .i64 x3), (19, Value.int .i64 a0.Window), (21, Value.int .i64 a0.Queue)] rfl rfl ⟨.m1 3 rfl (.l rfl rfl) (fun w HS => X.move rfl) rfl rfl rfl rfl rfl, .m1 3 rfl (.l rfl rfl) (fun w HS => X.move rfl) rfl rfl rfl rfl rfl, .m1 1 rfl (.l rfl rfl) (fun w HS => X.fieldAddr 2 fo24_2 rfl) rfl rfl rfl rfl rfl, .m1 18 rfl (.r rfl rfl) (fun w HS => X.loadAt 0 HS rfl Try.underlying3 rfl rfl rfl) rfl rfl rfl rfl rfl, .m1 1 rfl (.l rfl rfl) (fun w HS => X.fieldAddr 8 fo24_8 rfl) rfl rfl rfl rfl rfl, .m1 20 rfl (.r rfl rfl) (fun w HS => X.loadAt 0 HS rfl Try.underlying3 rfl rfl rfl) rfl rfl rfl rfl rfl, .m1 3 rfl (.l rfl rfl) (fun w HS => X.move rfl) rfl rfl rfl rfl rfl, .m1 1 rfl (.l rfl rfl) (fun w HS => X.fieldAddr 2 fo24_2 rfl) rfl rfl rfl rfl rfl, .m1 24 rfl (.r rfl rfl) (fun w HS => X.loadAt 0 HS rfl Try.underlying3 rfl rfl rfl) rfl rfl rfl rfl rfl, trivial⟩ rfl ⟨.inr ⟨rfl, rfl⟩, ⟨.inr ⟨rfl, rfl⟩, ⟨.inr ⟨rfl, rfl⟩, trivial⟩⟩⟩ (Or.inl rfl) (by intro d hd; cases hd; exact ⟨by decide, rfl, rfl⟩) [21, 23] [10, 11, 12, 13, 14] rfl rfl (fun w HS => ?_)
    obtain ⟨t13, A14, H⟩ := bind_s H
    refine ⟨_, Y.call Try.func42 (by kernel_rfl) rfl (vs := [Value.int .i64 x3, Value.int .i64 a0.Window, Value.int .i64 a0.Queue]) rfl (backlog_New.calls x3 a0.Window a0.Queue _ w0 _  t13  A14 (Sep.St.tailJoin (m := []) (r := [blk nb1 (#[Value.int .i64 a0.Mode, Value.int .i64 a0.Modulus, Value.int .i64 a0.Window, Value.int .i64 a0.T1, Value.int .i64 a0.N2, Value.int .i64 a0.Hold, Value.int .i64 a0.Wait, Value.int .i64 a0.Keep, Value.int .i64 a0.Queue, Value.int .i64 a0.Size, Value.int .i64 a0.Ring, Value.int .i64 a0.Rate, Value.int .i64 a0.Bad, Value.int .i64 a0.Good, Value.bool a0.Revert, Value.bool a0.Wide]) 24, R]) HS)), ?_⟩
    rintro _ w ⟨bt13_0, rfl, HS⟩
    replace HS := Sep.St.tailOpen (m := [backlog_Log.at bt13_0 t13]) (r := [blk nb1 (#[Value.int .i64 a0.Mode, Value.int .i64 a0.Modulus, Value.int .i64 a0.Window, Value.int .i64 a0.T1, Value.int .i64 a0.N2, Value.int .i64 a0.Hold, Value.int .i64 a0.Wait, Value.int .i64 a0.Keep, Value.int .i64 a0.Queue, Value.int .i64 a0.Size, Value.int .i64 a0.Ring, Value.int .i64 a0.Rate, Value.int .i64 a0.Bad, Value.int .i64 a0.Good, Value.bool a0.Revert, Value.bool a0.Wide]) 24, R]) HS
    refine ⟨[(22, Value.pointer (some ⟨bt13_0, 0, none⟩))], _, ⟨.inl ⟨rfl, rfl⟩, trivial⟩, ?_, HS⟩
    refine T.event _ [(23, Value.int .i64 x3), (25, Value.int .i64 a0.Window)] rfl rfl ⟨.m1 3 rfl (.l rfl rfl) (fun w HS => X.move rfl) rfl rfl rfl rfl rfl, .m1 3 rfl (.l rfl rfl) (fun w HS => X.move rfl) rfl rfl rfl rfl rfl, .m1 1 rfl (.l rfl rfl) (fun w HS => X.fieldAddr 2 fo24_2 rfl) rfl rfl rfl rfl rfl, .m1 24 rfl (.r rfl rfl) (fun w HS => X.loadAt 1 HS rfl Try.underlying3 rfl rfl rfl) rfl rfl rfl rfl rfl, trivial⟩ rfl ⟨.inr ⟨rfl, rfl⟩, ⟨.inr ⟨rfl, rfl⟩, trivial⟩⟩ (Or.inl rfl) (by intro d hd; cases hd; exact ⟨by decide, rfl, rfl⟩) [21, 23] [16, 17, 18] rfl rfl (fun w HS => ?_)
    obtain ⟨t15, A16, H⟩ := bind_s H
    refine ⟨_, Y.call Try.func43 (by kernel_rfl) rfl (vs := [Value.int .i64 x3, Value.int .i64 a0.Window]) rfl (reorder_New.calls x3 a0.Window _ w0 _  t15  A16 (Sep.St.tailJoin (m := []) (r := [backlog_Log.at bt13_0 t13, blk nb1 (#[Value.int .i64 a0.Mode, Value.int .i64 a0.Modulus, Value.int .i64 a0.Window, Value.int .i64 a0.T1, Value.int .i64 a0.N2, Value.int .i64 a0.Hold, Value.int .i64 a0.Wait, Value.int .i64 a0.Keep, Value.int .i64 a0.Queue, Value.int .i64 a0.Size, Value.int .i64 a0.Ring, Value.int .i64 a0.Rate, Value.int .i64 a0.Bad, Value.int .i64 a0.Good, Value.bool a0.Revert, Value.bool a0.Wide]) 24, R]) HS)), ?_⟩
    rintro _ w ⟨bt15_0, rfl, HS⟩
    replace HS := Sep.St.tailOpen (m := [reorder_Order.at bt15_0 t15]) (r := [backlog_Log.at bt13_0 t13, blk nb1 (#[Value.int .i64 a0.Mode, Value.int .i64 a0.Modulus, Value.int .i64 a0.Window, Value.int .i64 a0.T1, Value.int .i64 a0.N2, Value.int .i64 a0.Hold, Value.int .i64 a0.Wait, Value.int .i64 a0.Keep, Value.int .i64 a0.Queue, Value.int .i64 a0.Size, Value.int .i64 a0.Ring, Value.int .i64 a0.Rate, Value.int .i64 a0.Bad, Value.int .i64 a0.Good, Value.bool a0.Revert, Value.bool a0.Wide]) 24, R]) HS
    refine ⟨[(26, Value.pointer (some ⟨bt15_0, 0, none⟩))], _, ⟨.inl ⟨rfl, rfl⟩, trivial⟩, ?_, HS⟩
    refine T.event _ [] rfl rfl ⟨.m1 3 rfl (.l rfl rfl) (fun w HS => X.move rfl) rfl rfl rfl rfl rfl, trivial⟩ rfl trivial (Or.inl rfl) (by intro d hd; cases hd; exact ⟨by decide, rfl, rfl⟩) [23] [] rfl rfl (fun w HS => ?_)
    obtain ⟨t17, A18, H⟩ := bind_s H
    refine ⟨_, Y.call Try.func44 (by kernel_rfl) rfl (vs := [Value.int .u32 (0)]) rfl (clock_New.calls 0 _ w0 _  t17  A18 (Sep.St.tailJoin (m := []) (r := [reorder_Order.at bt15_0 t15, backlog_Log.at bt13_0 t13, blk nb1 (#[Value.int .i64 a0.Mode, Value.int .i64 a0.Modulus, Value.int .i64 a0.Window, Value.int .i64 a0.T1, Value.int .i64 a0.N2, Value.int .i64 a0.Hold, Value.int .i64 a0.Wait, Value.int .i64 a0.Keep, Value.int .i64 a0.Queue, Value.int .i64 a0.Size, Value.int .i64 a0.Ring, Value.int .i64 a0.Rate, Value.int .i64 a0.Bad, Value.int .i64 a0.Good, Value.bool a0.Revert, Value.bool a0.Wide]) 24, R]) HS)), ?_⟩
    rintro _ w ⟨bt17_0, rfl, HS⟩
    replace HS := Sep.St.tailOpen (m := [clock_Set.at bt17_0 t17]) (r := [reorder_Order.at bt15_0 t15, backlog_Log.at bt13_0 t13, blk nb1 (#[Value.int .i64 a0.Mode, Value.int .i64 a0.Modulus, Value.int .i64 a0.Window, Value.int .i64 a0.T1, Value.int .i64 a0.N2, Value.int .i64 a0.Hold, Value.int .i64 a0.Wait, Value.int .i64 a0.Keep, Value.int .i64 a0.Queue, Value.int .i64 a0.Size, Value.int .i64 a0.Ring, Value.int .i64 a0.Rate, Value.int .i64 a0.Bad, Value.int .i64 a0.Good, Value.bool a0.Revert, Value.bool a0.Wide]) 24, R]) HS
    refine ⟨[(27, Value.pointer (some ⟨bt17_0, 0, none⟩)), (28, Value.agg #[Value.int .i64 x3, Value.int .i64 t7, Value.int .i64 t9, Value.int .i64 t11, Value.int .i64 (0), Value.int .i64 (0), Value.int .i64 (0), Value.bool false, Value.pointer (some ⟨bt13_0, 0, none⟩), Value.pointer (some ⟨bt15_0, 0, none⟩), Value.pointer (some ⟨bt17_0, 0, none⟩), Value.slice none 0 0, Value.slice none 0 0, Value.int .i64 (0), Value.int .i64 (0), Value.int .i64 (0)])], _, ⟨.inl ⟨rfl, rfl⟩, ⟨.inr ⟨by decide, rfl⟩, trivial⟩⟩, ?_, HS⟩
    refine T.event _ [(28, Value.agg #[Value.int .i64 x3, Value.int .i64 t7, Value.int .i64 t9, Value.int .i64 t11, Value.int .i64 (0), Value.int .i64 (0), Value.int .i64 (0), Value.bool false, Value.pointer (some ⟨bt13_0, 0, none⟩), Value.pointer (some ⟨bt15_0, 0, none⟩), Value.pointer (some ⟨bt17_0, 0, none⟩), Value.slice none 0 0, Value.slice none 0 0, Value.int .i64 (0), Value.int .i64 (0), Value.int .i64 (0)])] rfl rfl ⟨.m1 3 rfl (.l rfl rfl) (fun w HS => X.move rfl) rfl rfl rfl rfl rfl, ⟨_, _, [(7, Value.int .i64 x3), (10, Value.int .i64 t7), (13, Value.int .i64 t9), (16, Value.int .i64 t11), (22, Value.pointer (some ⟨bt13_0, 0, none⟩)), (26, Value.pointer (some ⟨bt15_0, 0, none⟩)), (27, Value.pointer (some ⟨bt17_0, 0, none⟩))], 28, rfl, rfl, ⟨.inr ⟨rfl, rfl⟩, ⟨.inr ⟨rfl, rfl⟩, ⟨.inr ⟨rfl, rfl⟩, ⟨.inr ⟨rfl, rfl⟩, ⟨.inr ⟨rfl, rfl⟩, ⟨.inr ⟨rfl, rfl⟩, ⟨.inr ⟨rfl, rfl⟩, trivial⟩⟩⟩⟩⟩⟩⟩, .run rfl (fun w HS => X.build (vs := #[(0, Value.int .i64 x3), (1, Value.int .i64 t7), (2, Value.int .i64 t9), (3, Value.int .i64 t11), (8, Value.pointer (some ⟨bt13_0, 0, none⟩)), (9, Value.pointer (some ⟨bt15_0, 0, none⟩)), (10, Value.pointer (some ⟨bt17_0, 0, none⟩))]) (v := Value.agg #[Value.int .i64 x3, Value.int .i64 t7, Value.int .i64 t9, Value.int .i64 t11, Value.int .i64 (0), Value.int .i64 (0), Value.int .i64 (0), Value.bool false, Value.pointer (some ⟨bt13_0, 0, none⟩), Value.pointer (some ⟨bt15_0, 0, none⟩), Value.pointer (some ⟨bt17_0, 0, none⟩), Value.slice none 0 0, Value.slice none 0 0, Value.int .i64 (0), Value.int .i64 (0), Value.int .i64 (0)]) (fun a ha => by simp only [List.map_toArray, List.map_cons, List.map_nil]; rw [ha.ev (x := .tmp 7) (v := Value.int .i64 x3) rfl]; rw [ha.ev (x := .tmp 10) (v := Value.int .i64 t7) rfl]; rw [ha.ev (x := .tmp 13) (v := Value.int .i64 t9) rfl]; rw [ha.ev (x := .tmp 16) (v := Value.int .i64 t11) rfl]; rw [ha.ev (x := .tmp 22) (v := Value.pointer (some ⟨bt13_0, 0, none⟩)) rfl]; rw [ha.ev (x := .tmp 26) (v := Value.pointer (some ⟨bt15_0, 0, none⟩)) rfl]; rw [ha.ev (x := .tmp 27) (v := Value.pointer (some ⟨bt17_0, 0, none⟩)) rfl]; try rfl) (fun _ => by kernel_rfl)), rfl, rfl, rfl⟩, trivial⟩ rfl ⟨.inr ⟨rfl, rfl⟩, trivial⟩ (Or.inl rfl) (by intro d hd; cases hd; exact ⟨by decide, rfl, rfl⟩) [] [0, 21] rfl rfl (fun w HS => ?_)
    refine ⟨_, Y.box HS rfl, ?_⟩
    rintro _ w ⟨nb19, rfl, HS⟩
    refine ⟨[(29, Value.pointer (some ⟨nb19, 0, none⟩)), (2, Value.pointer (some ⟨nb19, 0, none⟩))], _, ⟨.inl ⟨rfl, rfl⟩, ⟨.inr ⟨by decide, rfl⟩, trivial⟩⟩, ?_, HS⟩
    refine T.fin [(2, Value.pointer (some ⟨nb19, 0, none⟩))] rfl ⟨.m1 29 rfl (.r rfl rfl) (fun w HS => X.assign rfl) rfl rfl rfl rfl rfl, trivial⟩ ⟨.inr ⟨rfl, rfl⟩, trivial⟩ (fun w HS => ?_)
    refine At.next ?_
    refine V.ret ?_
    replace HS := row_nil' (e := 39) 1 none (St.put (A := tie (El.sl (El.int .u8)) ([]) (([] : List (List Int)))) (fun _ => tie.nil) HS)
    have HS : Sep.St [row 39 1 (.slice none (([] : List (List Int))).length 0) (([] : List (List Int))).length ([]), tie (El.sl (El.int .u8)) ([]) (([] : List (List Int))), blk nb19 (#[Value.int .i64 x3, Value.int .i64 t7, Value.int .i64 t9, Value.int .i64 t11, Value.int .i64 (0), Value.int .i64 (0), Value.int .i64 (0), Value.bool false, Value.pointer (some ⟨bt13_0, 0, none⟩), Value.pointer (some ⟨bt15_0, 0, none⟩), Value.pointer (some ⟨bt17_0, 0, none⟩), Value.slice none 0 0, Value.slice none 0 0, Value.int .i64 (0), Value.int .i64 (0), Value.int .i64 (0)]) 82, clock_Set.at bt17_0 t17, reorder_Order.at bt15_0 t15, backlog_Log.at bt13_0 t13, blk nb1 (#[Value.int .i64 a0.Mode, Value.int .i64 a0.Modulus, Value.int .i64 a0.Window, Value.int .i64 a0.T1, Value.int .i64 a0.N2, Value.int .i64 a0.Hold, Value.int .i64 a0.Wait, Value.int .i64 a0.Keep, Value.int .i64 a0.Queue, Value.int .i64 a0.Size, Value.int .i64 a0.Ring, Value.int .i64 a0.Rate, Value.int .i64 a0.Bad, Value.int .i64 a0.Good, Value.bool a0.Revert, Value.bool a0.Wide]) 24, R] w0 w := HS
    replace HS := row_nil' (e := 3) 1 none HS
    have HS : Sep.St [row 3 1 (.slice none ([] : List Int).length 0) ([] : List Int).length (([] : List Int).map (Value.int .i64)), row 39 1 (.slice none (([] : List (List Int))).length 0) (([] : List (List Int))).length ([]), tie (El.sl (El.int .u8)) ([]) (([] : List (List Int))), blk nb19 (#[Value.int .i64 x3, Value.int .i64 t7, Value.int .i64 t9, Value.int .i64 t11, Value.int .i64 (0), Value.int .i64 (0), Value.int .i64 (0), Value.bool false, Value.pointer (some ⟨bt13_0, 0, none⟩), Value.pointer (some ⟨bt15_0, 0, none⟩), Value.pointer (some ⟨bt17_0, 0, none⟩), Value.slice none 0 0, Value.slice none 0 0, Value.int .i64 (0), Value.int .i64 (0), Value.int .i64 (0)]) 82, clock_Set.at bt17_0 t17, reorder_Order.at bt15_0 t15, backlog_Log.at bt13_0 t13, blk nb1 (#[Value.int .i64 a0.Mode, Value.int .i64 a0.Modulus, Value.int .i64 a0.Window, Value.int .i64 a0.T1, Value.int .i64 a0.N2, Value.int .i64 a0.Hold, Value.int .i64 a0.Wait, Value.int .i64 a0.Keep, Value.int .i64 a0.Queue, Value.int .i64 a0.Size, Value.int .i64 a0.Ring, Value.int .i64 a0.Rate, Value.int .i64 a0.Bad, Value.int .i64 a0.Good, Value.bool a0.Revert, Value.bool a0.Wide]) 24, R] w0 w := HS
    replace HS := HS.re [3, 6, 5, 4, 1, 2, 0, 7, 8] (by kernel_rfl)
    replace HS := arq_Arq.close (({ m := x3, t1 := t7, n2 := t9, size := t11, state := 0, tag := 0, tries := 0, rejected := false, log := t13, order := t15, timers := t17, out := ([] : List (List Int)), inds := ([] : List Int), sent := 0, acked := 0, lost := 0 } : arq_Arq)) trivial HS
    replace HS := HS.sel [0, 2] [1] (by kernel_rfl)
    cases H
    exact At.ret1 rfl rfl ⟨_, rfl, nb19, rfl, HS⟩

/-! ### signalman/serial.round: function 73 -/
def serial_round.f (a0 : Int) (a1 : Int) : Option (Int × Int) := (if ¬ (imax (1) (imin a1 (1073741824)) = 0) then (if (a0.tmod (imax (1) (imin a1 (1073741824)))) < 0 then some (w64 ((a0.tmod (imax (1) (imin a1 (1073741824)))) + (imax (1) (imin a1 (1073741824)))), imax (1) (imin a1 (1073741824))) else some (a0.tmod (imax (1) (imin a1 (1073741824))), imax (1) (imin a1 (1073741824)))) else none)
set_option maxRecDepth 100000 in
set_option maxHeartbeats 4000000 in
theorem serial_round.calls (a0 : Int) (a1 : Int) (R : As) (w0 w : World)  (r : Int × Int)  (H : serial_round.f a0 a1 = some r) (HS : Sep.St [R] w0 w) : Calls Try.prog 73 #[Value.int .i64 a0, Value.int .i64 a1] w (Ret fun u w => u = Value.tuple #[Value.int .i64 r.1, Value.int .i64 r.2] ∧ Sep.St [R] w0 w) := by
  unfold serial_round.f at H
  refine calls_enter Try.func73 rfl rfl ?_
  have H : _ = some r := H
  refine V.seq ?_
  refine V.region ?_
  refine W.rd (X.assign rfl) rfl rfl rfl ?_
  refine W.rd (X.assign rfl) rfl rfl rfl ?_
  refine W.nil ?_
  refine At.next ?_
  refine V.seq ?_
  refine V.region ?_
  refine W.rd (X.move rfl) rfl rfl rfl ?_
  refine W.rd (X.min2 rfl rfl) rfl rfl rfl ?_
  refine W.rd (X.max2 rfl rfl) rfl rfl rfl ?_
  refine W.rd (X.assign rfl) rfl rfl rfl ?_
  refine W.nil ?_
  refine At.next ?_
  refine V.seq ?_
  refine V.region ?_
  refine W.rd (X.move rfl) rfl rfl rfl ?_
  refine W.rd (X.move rfl) rfl rfl rfl ?_
  obtain ⟨c1, H⟩ := ite_n H
  refine W.rd (X.rem rfl rfl c1) rfl rfl rfl ?_
  refine W.rd (X.assign rfl) rfl rfl rfl ?_
  refine W.nil ?_
  refine At.next ?_
  refine V.seq ?_
  refine V.seq ?_
  refine V.region ?_
  refine W.rd (X.move rfl) rfl rfl rfl ?_
  refine W.rd (X.cmp (decide ((a0.tmod (imax (1) (imin a1 (1073741824)))) < 0)) rfl rfl rfl rfl) rfl rfl rfl ?_
  refine W.nil ?_
  refine At.next ?_
  by_cases c2 : (a0.tmod (imax (1) (imin a1 (1073741824)))) < 0
  · replace H := ite_t c2 H
    refine V.condT (sb (decide_eq_true c2)) ?_
    refine V.region ?_
    refine W.rd (X.move rfl) rfl rfl rfl ?_
    refine W.rd (X.move rfl) rfl rfl rfl ?_
    refine W.rd (X.add rfl rfl) rfl rfl rfl ?_
    refine W.rd (X.assign rfl) rfl rfl rfl ?_
    refine W.nil ?_
    refine At.next ?_
    refine V.seq ?_
    refine V.region ?_
    refine W.rd (X.move rfl) rfl rfl rfl ?_
    refine W.rd (X.move rfl) rfl rfl rfl ?_
    refine W.rd (X.assign rfl) rfl rfl rfl ?_
    refine W.rd (X.assign rfl) rfl rfl rfl ?_
    refine W.nil ?_
    refine At.next ?_
    refine V.ret ?_
    cases H
    exact At.ret2 rfl rfl rfl ⟨_, rfl, rfl, HS⟩
  · replace H := ite_f c2 H
    refine V.condF (sb (decide_eq_false c2)) ?_
    refine V.skip ?_
    refine At.next ?_
    refine V.seq ?_
    refine V.region ?_
    refine W.rd (X.move rfl) rfl rfl rfl ?_
    refine W.rd (X.move rfl) rfl rfl rfl ?_
    refine W.rd (X.assign rfl) rfl rfl rfl ?_
    refine W.rd (X.assign rfl) rfl rfl rfl ?_
    refine W.nil ?_
    refine At.next ?_
    refine V.ret ?_
    cases H
    exact At.ret2 rfl rfl rfl ⟨_, rfl, rfl, HS⟩

/-! ### signalman/serial.Next: function 45 -/
def serial_Next.f (a0 : Int) (a1 : Int) : Option Int := ((serial_round.f a0 a1).bind fun t1 => ((serial_round.f (w64 (t1.1 + 1)) t1.2).bind fun t3 => some t3.1))
set_option maxRecDepth 100000 in
set_option maxHeartbeats 4000000 in
theorem serial_Next.calls (a0 : Int) (a1 : Int) (R : As) (w0 w : World)  (r : Int)  (H : serial_Next.f a0 a1 = some r) (HS : Sep.St [R] w0 w) : Calls Try.prog 45 #[Value.int .i64 a0, Value.int .i64 a1] w (Ret fun u w => u = Value.int .i64 r ∧ Sep.St [R] w0 w) := by
  unfold serial_Next.f at H
  refine calls_enter Try.func45 rfl rfl ?_
  have H : _ = some r := H
  refine V.seq ?_
  refine V.region ?_
  refine W.rd (X.assign rfl) rfl rfl rfl ?_
  refine W.nil ?_
  refine At.next ?_
  refine V.seq ?_
  refine V.region ?_
  refine W.rd (X.move rfl) rfl rfl rfl ?_
  refine W.rd (X.move rfl) rfl rfl rfl ?_
  obtain ⟨t1, A2, H⟩ := bind_s H
  refine W.ev (Y.call Try.func73 (by kernel_rfl) rfl (vs := [Value.int .i64 a0, Value.int .i64 a1]) rfl (serial_round.calls a0 a1 _ w0 _  t1  A2 (Sep.St.tailJoin (m := []) (r := [R]) HS))) rfl rfl rfl ?_
  rintro _ w ⟨rfl, HS⟩
  replace HS := Sep.St.tailOpen (m := []) (r := [R]) HS
  refine W.rd (X.move rfl) rfl rfl rfl ?_
  refine W.rd (X.extract rfl rfl) rfl rfl rfl ?_
  refine W.rd (X.extract rfl rfl) rfl rfl rfl ?_
  refine W.rd (X.assign rfl) rfl rfl rfl ?_
  refine W.rd (X.assign rfl) rfl rfl rfl ?_
  refine W.nil ?_
  refine At.next ?_
  refine V.seq ?_
  refine V.region ?_
  refine W.rd (X.move rfl) rfl rfl rfl ?_
  refine W.rd (X.add rfl rfl) rfl rfl rfl ?_
  refine W.rd (X.move rfl) rfl rfl rfl ?_
  obtain ⟨t3, A4, H⟩ := bind_s H
  refine W.ev (Y.call Try.func73 (by kernel_rfl) rfl (vs := [Value.int .i64 (w64 (t1.1 + 1)), Value.int .i64 t1.2]) rfl (serial_round.calls (w64 (t1.1 + 1)) t1.2 _ w0 _  t3  A4 (Sep.St.tailJoin (m := []) (r := [R]) HS))) rfl rfl rfl ?_
  rintro _ w ⟨rfl, HS⟩
  replace HS := Sep.St.tailOpen (m := []) (r := [R]) HS
  refine W.rd (X.move rfl) rfl rfl rfl ?_
  refine W.rd (X.extract rfl rfl) rfl rfl rfl ?_
  refine W.rd (X.extract rfl rfl) rfl rfl rfl ?_
  refine W.rd (X.assign rfl) rfl rfl rfl ?_
  refine W.nil ?_
  refine At.next ?_
  refine V.seq ?_
  refine V.region ?_
  refine W.rd (X.move rfl) rfl rfl rfl ?_
  refine W.rd (X.assign rfl) rfl rfl rfl ?_
  refine W.nil ?_
  refine At.next ?_
  refine V.ret ?_
  cases H
  exact At.ret1 rfl rfl ⟨_, rfl, rfl, HS⟩

/-! ### signalman/control.modulus: function 84 -/
def control_modulus.f (a0 : Int) : Option Bool := (if a0 = 128 then some true else some (decide (a0 = 32768)))
set_option maxRecDepth 100000 in
set_option maxHeartbeats 4000000 in
theorem control_modulus.calls (a0 : Int) (R : As) (w0 w : World)  (r : Bool)  (H : control_modulus.f a0 = some r) (HS : Sep.St [R] w0 w) : Calls Try.prog 84 #[Value.int .i64 a0] w (Ret fun u w => u = Value.bool r ∧ Sep.St [R] w0 w) := by
  unfold control_modulus.f at H
  refine calls_enter Try.func84 rfl rfl ?_
  have H : _ = some r := H
  refine V.seq ?_
  refine V.region ?_
  refine W.rd (X.assign rfl) rfl rfl rfl ?_
  refine W.nil ?_
  refine At.next ?_
  refine V.seq ?_
  refine V.region ?_
  refine W.rd (X.move rfl) rfl rfl rfl ?_
  refine W.rd (X.cmp (decide (a0 = 128)) rfl rfl rfl rfl) rfl rfl rfl ?_
  refine W.rd (X.move rfl) rfl rfl rfl ?_
  by_cases c1 : a0 = 128
  · replace H := ite_t c1 H
    refine W.pass 5 rfl (sb (decide_eq_true c1)) rfl rfl ?_
    refine W.pass 5 rfl (sb (decide_eq_true c1)) rfl rfl ?_
    refine W.rd (X.pickT (sb (decide_eq_true c1)) rfl) rfl rfl rfl ?_
    refine W.rd (X.assign rfl) rfl rfl rfl ?_
    refine W.nil ?_
    refine At.next ?_
    refine V.ret ?_
    cases H
    exact At.ret1 rfl rfl ⟨_, rfl, rfl, HS⟩
  · replace H := ite_f c1 H
    refine W.want 5 rfl (sb (decide_eq_false c1)) ?_
    refine W.rd (X.move rfl) rfl rfl rfl ?_
    refine W.want 5 rfl (sb (decide_eq_false c1)) ?_
    refine W.rd (X.cmp (decide (a0 = 32768)) rfl rfl rfl rfl) rfl rfl rfl ?_
    refine W.rd (X.pickF (sb (decide_eq_false c1)) rfl) rfl rfl rfl ?_
    refine W.rd (X.assign rfl) rfl rfl rfl ?_
    refine W.nil ?_
    refine At.next ?_
    refine V.ret ?_
    cases H
    exact At.ret1 rfl rfl ⟨_, rfl, rfl, HS⟩

/-! ### signalman/control.of: function 109 -/
def control_of.f (a0 : Int) (a1 : Int) : Option Bool := (if a0 ≥ 0 then some (decide (a0 < a1)) else some false)
set_option maxRecDepth 100000 in
set_option maxHeartbeats 4000000 in
theorem control_of.calls (a0 : Int) (a1 : Int) (R : As) (w0 w : World)  (r : Bool)  (H : control_of.f a0 a1 = some r) (HS : Sep.St [R] w0 w) : Calls Try.prog 109 #[Value.int .i64 a0, Value.int .i64 a1] w (Ret fun u w => u = Value.bool r ∧ Sep.St [R] w0 w) := by
  unfold control_of.f at H
  refine calls_enter Try.func109 rfl rfl ?_
  have H : _ = some r := H
  refine V.seq ?_
  refine V.region ?_
  refine W.rd (X.assign rfl) rfl rfl rfl ?_
  refine W.nil ?_
  refine At.next ?_
  refine V.seq ?_
  refine V.region ?_
  refine W.rd (X.move rfl) rfl rfl rfl ?_
  refine W.rd (X.cmp (decide (a0 ≥ 0)) rfl rfl rfl rfl) rfl rfl rfl ?_
  refine W.rd (X.move rfl) rfl rfl rfl ?_
  by_cases c1 : a0 ≥ 0
  · replace H := ite_t c1 H
    refine W.want 7 rfl (sb (decide_eq_true c1)) ?_
    refine W.rd (X.move rfl) rfl rfl rfl ?_
    refine W.want 7 rfl (sb (decide_eq_true c1)) ?_
    refine W.rd (X.move rfl) rfl rfl rfl ?_
    refine W.want 7 rfl (sb (decide_eq_true c1)) ?_
    refine W.rd (X.cmp (decide (a0 < a1)) rfl rfl rfl rfl) rfl rfl rfl ?_
    refine W.rd (X.pickT (sb (decide_eq_true c1)) rfl) rfl rfl rfl ?_
    refine W.rd (X.assign rfl) rfl rfl rfl ?_
    refine W.nil ?_
    refine At.next ?_
    refine V.ret ?_
    cases H
    exact At.ret1 rfl rfl ⟨_, rfl, rfl, HS⟩
  · replace H := ite_f c1 H
    refine W.pass 7 rfl (sb (decide_eq_false c1)) rfl rfl ?_
    refine W.pass 7 rfl (sb (decide_eq_false c1)) rfl rfl ?_
    refine W.pass 7 rfl (sb (decide_eq_false c1)) rfl rfl ?_
    refine W.rd (X.pickF (sb (decide_eq_false c1)) rfl) rfl rfl rfl ?_
    refine W.rd (X.assign rfl) rfl rfl rfl ?_
    refine W.nil ?_
    refine At.next ?_
    refine V.ret ?_
    cases H
    exact At.ret1 rfl rfl ⟨_, rfl, rfl, HS⟩

structure api_Ctl where
  Kind : Int
  Ns : Int
  Nr : Int
  Poll : Bool
deriving DecidableEq, Inhabited

def api_Ctl.at (b : Nat) (x : api_Ctl) : As := fun h => True ∧ Sp [blk b (#[Value.int .i64 x.Kind, Value.int .i64 x.Ns, Value.int .i64 x.Nr, Value.bool x.Poll]) 42] h
theorem api_Ctl.open {b : Nat} {x : api_Ctl} {L : List As} {w0 w : World} (hs : Sep.St (api_Ctl.at b x :: L) w0 w) : True ∧ Sep.St (blk b (#[Value.int .i64 x.Kind, Value.int .i64 x.Ns, Value.int .i64 x.Nr, Value.bool x.Poll]) 42 :: L) w0 w := by
  have h1 := St.pure.1 (show St ((fun h => True ∧ (fun h => Sp [blk b (#[Value.int .i64 x.Kind, Value.int .i64 x.Ns, Value.int .i64 x.Nr, Value.bool x.Poll]) 42] h) h) :: L) w0 w from hs)
  obtain ⟨hi, hs⟩ := h1
  exact ⟨hi, St.open (m := [blk b (#[Value.int .i64 x.Kind, Value.int .i64 x.Ns, Value.int .i64 x.Nr, Value.bool x.Poll]) 42]) hs⟩
theorem api_Ctl.close {b : Nat} (x : api_Ctl)  {L : List As} {w0 w : World} (hi : True) (hs : Sep.St (blk b (#[Value.int .i64 x.Kind, Value.int .i64 x.Ns, Value.int .i64 x.Nr, Value.bool x.Poll]) 42 :: L) w0 w) : Sep.St (api_Ctl.at b x :: L) w0 w := by
  have h2 := St.join (m := [blk b (#[Value.int .i64 x.Kind, Value.int .i64 x.Ns, Value.int .i64 x.Nr, Value.bool x.Poll]) 42]) hs
  exact h2.mono fun h hh => ⟨hi, hh⟩

/-! ### signalman/control.Right: function 106 -/
mutual
def control_Right.j0 (a0 : api_Ctl) (a1 : Int) (x12 : Bool) : Option Bool := (if x12 = true then (if a0.Ns = 0 then ((control_of.f a0.Nr a1).bind fun t18 => some t18) else some false) else (if a0.Kind ≥ 3 then (if a0.Kind ≤ 7 then (if a0.Ns = 0 then some (decide (a0.Nr = 0)) else some false) else some false) else some false))
end
def control_Right.f (a0 : api_Ctl) (a1 : Int) : Option Bool := ((control_modulus.f a1).bind fun t2 => (if t2 = true then (if a0.Kind = 0 then ((control_of.f a0.Ns a1).bind fun t6 => (if t6 = true then ((control_of.f a0.Nr a1).bind fun t9 => some t9) else some false)) else (if a0.Kind = 1 then (control_Right.j0 a0 a1 true) else (control_Right.j0 a0 a1 (decide (a0.Kind = 2))))) else some false))
set_option maxRecDepth 100000 in
set_option maxHeartbeats 4000000 in
theorem control_Right.calls (a0 : api_Ctl) (a1 : Int) (R : As) (w0 w : World)  (r : Bool)  (H : control_Right.f a0 a1 = some r) (HS : Sep.St [R] w0 w) : Calls Try.prog 106 #[Value.agg #[Value.int .i64 a0.Kind, Value.int .i64 a0.Ns, Value.int .i64 a0.Nr, Value.bool a0.Poll], Value.int .i64 a1] w (Ret fun u w => u = Value.bool r ∧ Sep.St [R] w0 w) := by
  unfold control_Right.f at H
  refine calls_enter Try.func106 rfl rfl ?_
  have H : _ = some r := H
  refine V.seq ?_
  refine V.region ?_
  refine W.ev (Y.box HS rfl) rfl rfl rfl ?_
  rintro _ w ⟨nb1, rfl, HS⟩
  refine W.rd (X.assign rfl) rfl rfl rfl ?_
  refine W.nil ?_
  refine At.next ?_
  refine V.seq ?_
  refine V.block ?_
  refine V.seq ?_
  refine V.region ?_
  refine W.rd (X.move rfl) rfl rfl rfl ?_
  obtain ⟨t2, A3, H⟩ := bind_s H
  refine W.ev (Y.call Try.func84 (by kernel_rfl) rfl (vs := [Value.int .i64 a1]) rfl (control_modulus.calls a1 _ w0 _  t2  A3 (Sep.St.tailJoin (m := []) (r := [blk nb1 (#[Value.int .i64 a0.Kind, Value.int .i64 a0.Ns, Value.int .i64 a0.Nr, Value.bool a0.Poll]) 42, R]) HS))) rfl rfl rfl ?_
  rintro _ w ⟨rfl, HS⟩
  replace HS := Sep.St.tailOpen (m := []) (r := [blk nb1 (#[Value.int .i64 a0.Kind, Value.int .i64 a0.Ns, Value.int .i64 a0.Nr, Value.bool a0.Poll]) 42, R]) HS
  refine W.rd (X.not rfl) rfl rfl rfl ?_
  refine W.rd (X.assign rfl) rfl rfl rfl ?_
  refine W.nil ?_
  refine At.next ?_
  by_cases c4 : t2 = true
  · replace H := ite_t c4 H
    refine V.condF (sb (n_t c4)) ?_
    refine V.seq ?_
    refine V.region ?_
    refine W.rd (X.fieldAddr 0 fo42_0 rfl) rfl rfl rfl ?_
    refine W.rd (X.loadAt 0 HS rfl Try.underlying3 rfl rfl rfl) rfl rfl rfl ?_
    refine W.rd (X.cmp (decide (a0.Kind = 0)) rfl rfl rfl rfl) rfl rfl rfl ?_
    refine W.rd (X.assign rfl) rfl rfl rfl ?_
    refine W.nil ?_
    refine At.next ?_
    by_cases c5 : a0.Kind = 0
    · replace H := ite_t c5 H
      refine V.condT (sb (decide_eq_true c5)) ?_
      refine V.seq ?_
      refine V.region ?_
      refine W.rd (X.fieldAddr 1 fo42_1 rfl) rfl rfl rfl ?_
      refine W.rd (X.loadAt 0 HS rfl Try.underlying3 rfl rfl rfl) rfl rfl rfl ?_
      refine W.rd (X.move rfl) rfl rfl rfl ?_
      obtain ⟨t6, A7, H⟩ := bind_s H
      refine W.ev (Y.call Try.func109 (by kernel_rfl) rfl (vs := [Value.int .i64 a0.Ns, Value.int .i64 a1]) rfl (control_of.calls a0.Ns a1 _ w0 _  t6  A7 (Sep.St.tailJoin (m := []) (r := [blk nb1 (#[Value.int .i64 a0.Kind, Value.int .i64 a0.Ns, Value.int .i64 a0.Nr, Value.bool a0.Poll]) 42, R]) HS))) rfl rfl rfl ?_
      rintro _ w ⟨rfl, HS⟩
      replace HS := Sep.St.tailOpen (m := []) (r := [blk nb1 (#[Value.int .i64 a0.Kind, Value.int .i64 a0.Ns, Value.int .i64 a0.Nr, Value.bool a0.Poll]) 42, R]) HS
      refine W.rd (X.move rfl) rfl rfl rfl ?_
      by_cases c8 : t6 = true
      · replace H := ite_t c8 H
        refine W.want 17 rfl (sb c8) ?_
        refine W.rd (X.fieldAddr 2 fo42_2 rfl) rfl rfl rfl ?_
        refine W.want 17 rfl (sb c8) ?_
        refine W.rd (X.loadAt 0 HS rfl Try.underlying3 rfl rfl rfl) rfl rfl rfl ?_
        refine W.want 17 rfl (sb c8) ?_
        refine W.rd (X.move rfl) rfl rfl rfl ?_
        refine W.want 17 rfl (sb c8) ?_
        obtain ⟨t9, A10, H⟩ := bind_s H
        refine W.ev (Y.call Try.func109 (by kernel_rfl) rfl (vs := [Value.int .i64 a0.Nr, Value.int .i64 a1]) rfl (control_of.calls a0.Nr a1 _ w0 _  t9  A10 (Sep.St.tailJoin (m := []) (r := [blk nb1 (#[Value.int .i64 a0.Kind, Value.int .i64 a0.Ns, Value.int .i64 a0.Nr, Value.bool a0.Poll]) 42, R]) HS))) rfl rfl rfl ?_
        rintro _ w ⟨rfl, HS⟩
        replace HS := Sep.St.tailOpen (m := []) (r := [blk nb1 (#[Value.int .i64 a0.Kind, Value.int .i64 a0.Ns, Value.int .i64 a0.Nr, Value.bool a0.Poll]) 42, R]) HS
        refine W.rd (X.pickT (sb c8) rfl) rfl rfl rfl ?_
        refine W.rd (X.assign rfl) rfl rfl rfl ?_
        refine W.nil ?_
        refine At.next ?_
        refine V.ret ?_
        refine At.blockRet ?_
        refine At.thenRet ?_
        replace HS := HS.sel [1] [0] (by kernel_rfl)
        cases H
        exact At.ret1 rfl rfl ⟨_, rfl, rfl, HS⟩
      · replace H := ite_f c8 H
        refine W.pass 17 rfl (sb (b_f c8)) rfl rfl ?_
        refine W.pass 17 rfl (sb (b_f c8)) rfl rfl ?_
        refine W.pass 17 rfl (sb (b_f c8)) rfl rfl ?_
        refine W.pass 17 rfl (sb (b_f c8)) rfl rfl ?_
        refine W.rd (X.pickF (sb (b_f c8)) rfl) rfl rfl rfl ?_
        refine W.rd (X.assign rfl) rfl rfl rfl ?_
        refine W.nil ?_
        refine At.next ?_
        refine V.ret ?_
        refine At.blockRet ?_
        refine At.thenRet ?_
        replace HS := HS.sel [1] [0] (by kernel_rfl)
        cases H
        exact At.ret1 rfl rfl ⟨_, rfl, rfl, HS⟩
    · replace H := ite_f c5 H
      refine V.condF (sb (decide_eq_false c5)) ?_
      refine V.meet (σ := Bool) (fun st w => match st with | x12 => Sep.St [api_Ctl.at nb1 a0, R] w0 w ∧ control_Right.j0 a0 a1 x12 = some r) (fun st => match st with | x12 => [(1, Value.int .i64 a1), (2, Value.pointer (some ⟨nb1, 0, none⟩)), (23, Value.bool x12)]) ?_ ?_
      · refine V.region ?_
        refine W.rd (X.fieldAddr 0 fo42_0 rfl) rfl rfl rfl ?_
        refine W.rd (X.loadAt 0 HS rfl Try.underlying3 rfl rfl rfl) rfl rfl rfl ?_
        refine W.rd (X.cmp (decide (a0.Kind = 1)) rfl rfl rfl rfl) rfl rfl rfl ?_
        refine W.rd (X.move rfl) rfl rfl rfl ?_
        by_cases c25 : a0.Kind = 1
        · replace H := ite_t c25 H
          refine W.pass 27 rfl (sb (decide_eq_true c25)) rfl rfl ?_
          refine W.pass 27 rfl (sb (decide_eq_true c25)) rfl rfl ?_
          refine W.pass 27 rfl (sb (decide_eq_true c25)) rfl rfl ?_
          refine W.rd (X.pickT (sb (decide_eq_true c25)) rfl) rfl rfl rfl ?_
          refine W.rd (X.assign rfl) rfl rfl rfl ?_
          refine W.nil ?_
          replace HS := api_Ctl.close a0 trivial HS
          exact At.meet true ⟨rfl, rfl, rfl, trivial⟩ ⟨HS, H⟩
        · replace H := ite_f c25 H
          refine W.want 27 rfl (sb (decide_eq_false c25)) ?_
          refine W.rd (X.fieldAddr 0 fo42_0 rfl) rfl rfl rfl ?_
          refine W.want 27 rfl (sb (decide_eq_false c25)) ?_
          refine W.rd (X.loadAt 0 HS rfl Try.underlying3 rfl rfl rfl) rfl rfl rfl ?_
          refine W.want 27 rfl (sb (decide_eq_false c25)) ?_
          refine W.rd (X.cmp (decide (a0.Kind = 2)) rfl rfl rfl rfl) rfl rfl rfl ?_
          refine W.rd (X.pickF (sb (decide_eq_false c25)) rfl) rfl rfl rfl ?_
          refine W.rd (X.assign rfl) rfl rfl rfl ?_
          refine W.nil ?_
          replace HS := api_Ctl.close a0 trivial HS
          exact At.meet (decide (a0.Kind = 2)) ⟨rfl, rfl, rfl, trivial⟩ ⟨HS, H⟩
      · rintro x12 w ⟨HS, H⟩
        unfold control_Right.j0 at H
        by_cases c14 : x12 = true
        · replace H := ite_t c14 H
          refine V.condT (sb c14) ?_
          refine V.seq ?_
          refine V.region ?_
          obtain ⟨hi16, HS⟩ := api_Ctl.open HS
          refine W.rd (X.fieldAddr 1 fo42_1 rfl) rfl rfl rfl ?_
          refine W.rd (X.loadAt 0 HS rfl Try.underlying3 rfl rfl rfl) rfl rfl rfl ?_
          refine W.rd (X.cmp (decide (a0.Ns = 0)) rfl rfl rfl rfl) rfl rfl rfl ?_
          refine W.rd (X.move rfl) rfl rfl rfl ?_
          by_cases c17 : a0.Ns = 0
          · replace H := ite_t c17 H
            refine W.want 35 rfl (sb (decide_eq_true c17)) ?_
            refine W.rd (X.fieldAddr 2 fo42_2 rfl) rfl rfl rfl ?_
            refine W.want 35 rfl (sb (decide_eq_true c17)) ?_
            refine W.rd (X.loadAt 0 HS rfl Try.underlying3 rfl rfl rfl) rfl rfl rfl ?_
            refine W.want 35 rfl (sb (decide_eq_true c17)) ?_
            refine W.rd (X.move rfl) rfl rfl rfl ?_
            refine W.want 35 rfl (sb (decide_eq_true c17)) ?_
            obtain ⟨t18, A19, H⟩ := bind_s H
            refine W.ev (Y.call Try.func109 (by kernel_rfl) rfl (vs := [Value.int .i64 a0.Nr, Value.int .i64 a1]) rfl (control_of.calls a0.Nr a1 _ w0 _  t18  A19 (Sep.St.tailJoin (m := []) (r := [blk nb1 (#[Value.int .i64 a0.Kind, Value.int .i64 a0.Ns, Value.int .i64 a0.Nr, Value.bool a0.Poll]) 42, R]) HS))) rfl rfl rfl ?_
            rintro _ w ⟨rfl, HS⟩
            replace HS := Sep.St.tailOpen (m := []) (r := [blk nb1 (#[Value.int .i64 a0.Kind, Value.int .i64 a0.Ns, Value.int .i64 a0.Nr, Value.bool a0.Poll]) 42, R]) HS
            refine W.rd (X.pickT (sb (decide_eq_true c17)) rfl) rfl rfl rfl ?_
            refine W.rd (X.assign rfl) rfl rfl rfl ?_
            refine W.nil ?_
            refine At.next ?_
            refine V.ret ?_
            refine At.blockRet ?_
            refine At.thenRet ?_
            replace HS := HS.sel [1] [0] (by kernel_rfl)
            cases H
            exact At.ret1 rfl rfl ⟨_, rfl, rfl, HS⟩
          · replace H := ite_f c17 H
            refine W.pass 35 rfl (sb (decide_eq_false c17)) rfl rfl ?_
            refine W.pass 35 rfl (sb (decide_eq_false c17)) rfl rfl ?_
            refine W.pass 35 rfl (sb (decide_eq_false c17)) rfl rfl ?_
            refine W.pass 35 rfl (sb (decide_eq_false c17)) rfl rfl ?_
            refine W.rd (X.pickF (sb (decide_eq_false c17)) rfl) rfl rfl rfl ?_
            refine W.rd (X.assign rfl) rfl rfl rfl ?_
            refine W.nil ?_
            refine At.next ?_
            refine V.ret ?_
            refine At.blockRet ?_
            refine At.thenRet ?_
            replace HS := HS.sel [1] [0] (by kernel_rfl)
            cases H
            exact At.ret1 rfl rfl ⟨_, rfl, rfl, HS⟩
        · replace H := ite_f c14 H
          refine V.condF (sb (b_f c14)) ?_
          refine V.skip ?_
          refine At.blockEnd ?_
          refine At.next ?_
          refine V.seq ?_
          refine V.region ?_
          obtain ⟨hi21, HS⟩ := api_Ctl.open HS
          refine W.rd (X.fieldAddr 0 fo42_0 rfl) rfl rfl rfl ?_
          refine W.rd (X.loadAt 0 HS rfl Try.underlying3 rfl rfl rfl) rfl rfl rfl ?_
          refine W.rd (X.cmp (decide (a0.Kind ≥ 3)) rfl rfl rfl rfl) rfl rfl rfl ?_
          refine W.rd (X.move rfl) rfl rfl rfl ?_
          by_cases c22 : a0.Kind ≥ 3
          · replace H := ite_t c22 H
            refine W.want 44 rfl (sb (decide_eq_true c22)) ?_
            refine W.rd (X.fieldAddr 0 fo42_0 rfl) rfl rfl rfl ?_
            refine W.want 44 rfl (sb (decide_eq_true c22)) ?_
            refine W.rd (X.loadAt 0 HS rfl Try.underlying3 rfl rfl rfl) rfl rfl rfl ?_
            refine W.want 44 rfl (sb (decide_eq_true c22)) ?_
            refine W.rd (X.cmp (decide (a0.Kind ≤ 7)) rfl rfl rfl rfl) rfl rfl rfl ?_
            refine W.rd (X.pickT (sb (decide_eq_true c22)) rfl) rfl rfl rfl ?_
            refine W.rd (X.move rfl) rfl rfl rfl ?_
            by_cases c23 : a0.Kind ≤ 7
            · replace H := ite_t c23 H
              refine W.want 49 rfl (sb (decide_eq_true c23)) ?_
              refine W.rd (X.fieldAddr 1 fo42_1 rfl) rfl rfl rfl ?_
              refine W.want 49 rfl (sb (decide_eq_true c23)) ?_
              refine W.rd (X.loadAt 0 HS rfl Try.underlying3 rfl rfl rfl) rfl rfl rfl ?_
              refine W.want 49 rfl (sb (decide_eq_true c23)) ?_
              refine W.rd (X.cmp (decide (a0.Ns = 0)) rfl rfl rfl rfl) rfl rfl rfl ?_
              refine W.rd (X.pickT (sb (decide_eq_true c23)) rfl) rfl rfl rfl ?_
              refine W.rd (X.move rfl) rfl rfl rfl ?_
              by_cases c24 : a0.Ns = 0
              · replace H := ite_t c24 H
                refine W.want 54 rfl (sb (decide_eq_true c24)) ?_
                refine W.rd (X.fieldAddr 2 fo42_2 rfl) rfl rfl rfl ?_
                refine W.want 54 rfl (sb (decide_eq_true c24)) ?_
                refine W.rd (X.loadAt 0 HS rfl Try.underlying3 rfl rfl rfl) rfl rfl rfl ?_
                refine W.want 54 rfl (sb (decide_eq_true c24)) ?_
                refine W.rd (X.cmp (decide (a0.Nr = 0)) rfl rfl rfl rfl) rfl rfl rfl ?_
                refine W.rd (X.pickT (sb (decide_eq_true c24)) rfl) rfl rfl rfl ?_
                refine W.rd (X.assign rfl) rfl rfl rfl ?_
                refine W.nil ?_
                refine At.next ?_
                refine V.ret ?_
                replace HS := HS.sel [1] [0] (by kernel_rfl)
                cases H
                exact At.ret1 rfl rfl ⟨_, rfl, rfl, HS⟩
              · replace H := ite_f c24 H
                refine W.pass 54 rfl (sb (decide_eq_false c24)) rfl rfl ?_
                refine W.pass 54 rfl (sb (decide_eq_false c24)) rfl rfl ?_
                refine W.pass 54 rfl (sb (decide_eq_false c24)) rfl rfl ?_
                refine W.rd (X.pickF (sb (decide_eq_false c24)) rfl) rfl rfl rfl ?_
                refine W.rd (X.assign rfl) rfl rfl rfl ?_
                refine W.nil ?_
                refine At.next ?_
                refine V.ret ?_
                replace HS := HS.sel [1] [0] (by kernel_rfl)
                cases H
                exact At.ret1 rfl rfl ⟨_, rfl, rfl, HS⟩
            · replace H := ite_f c23 H
              refine W.pass 49 rfl (sb (decide_eq_false c23)) rfl rfl ?_
              refine W.pass 49 rfl (sb (decide_eq_false c23)) rfl rfl ?_
              refine W.pass 49 rfl (sb (decide_eq_false c23)) rfl rfl ?_
              refine W.rd (X.pickF (sb (decide_eq_false c23)) rfl) rfl rfl rfl ?_
              refine W.rd (X.move rfl) rfl rfl rfl ?_
              refine W.pass 54 rfl rfl rfl rfl ?_
              refine W.pass 54 rfl rfl rfl rfl ?_
              refine W.pass 54 rfl rfl rfl rfl ?_
              refine W.rd (X.pickF rfl rfl) rfl rfl rfl ?_
              refine W.rd (X.assign rfl) rfl rfl rfl ?_
              refine W.nil ?_
              refine At.next ?_
              refine V.ret ?_
              replace HS := HS.sel [1] [0] (by kernel_rfl)
              cases H
              exact At.ret1 rfl rfl ⟨_, rfl, rfl, HS⟩
          · replace H := ite_f c22 H
            refine W.pass 44 rfl (sb (decide_eq_false c22)) rfl rfl ?_
            refine W.pass 44 rfl (sb (decide_eq_false c22)) rfl rfl ?_
            refine W.pass 44 rfl (sb (decide_eq_false c22)) rfl rfl ?_
            refine W.rd (X.pickF (sb (decide_eq_false c22)) rfl) rfl rfl rfl ?_
            refine W.rd (X.move rfl) rfl rfl rfl ?_
            refine W.pass 49 rfl rfl rfl rfl ?_
            refine W.pass 49 rfl rfl rfl rfl ?_
            refine W.pass 49 rfl rfl rfl rfl ?_
            refine W.rd (X.pickF rfl rfl) rfl rfl rfl ?_
            refine W.rd (X.move rfl) rfl rfl rfl ?_
            refine W.pass 54 rfl rfl rfl rfl ?_
            refine W.pass 54 rfl rfl rfl rfl ?_
            refine W.pass 54 rfl rfl rfl rfl ?_
            refine W.rd (X.pickF rfl rfl) rfl rfl rfl ?_
            refine W.rd (X.assign rfl) rfl rfl rfl ?_
            refine W.nil ?_
            refine At.next ?_
            refine V.ret ?_
            replace HS := HS.sel [1] [0] (by kernel_rfl)
            cases H
            exact At.ret1 rfl rfl ⟨_, rfl, rfl, HS⟩
  · replace H := ite_f c4 H
    refine V.condT (sb (n_f (b_f c4))) ?_
    refine V.seq ?_
    refine V.region ?_
    refine W.rd (X.assign rfl) rfl rfl rfl ?_
    refine W.nil ?_
    refine At.next ?_
    refine V.ret ?_
    refine At.blockRet ?_
    refine At.thenRet ?_
    replace HS := HS.sel [1] [0] (by kernel_rfl)
    cases H
    exact At.ret1 rfl rfl ⟨_, rfl, rfl, HS⟩

/-! ### signalman/control.bit: function 107 -/
def control_bit.f (a0 : Bool) : Option Int := (if a0 = true then some (1) else some (0))
set_option maxRecDepth 100000 in
set_option maxHeartbeats 4000000 in
theorem control_bit.calls (a0 : Bool) (R : As) (w0 w : World)  (r : Int)  (H : control_bit.f a0 = some r) (HS : Sep.St [R] w0 w) : Calls Try.prog 107 #[Value.bool a0] w (Ret fun u w => u = Value.int .i64 r ∧ Sep.St [R] w0 w) := by
  unfold control_bit.f at H
  refine calls_enter Try.func107 rfl rfl ?_
  have H : _ = some r := H
  refine V.seq ?_
  refine V.region ?_
  refine W.rd (X.assign rfl) rfl rfl rfl ?_
  refine W.nil ?_
  refine At.next ?_
  refine V.seq ?_
  refine V.seq ?_
  refine V.region ?_
  refine W.rd (X.move rfl) rfl rfl rfl ?_
  refine W.nil ?_
  refine At.next ?_
  by_cases c1 : a0 = true
  · replace H := ite_t c1 H
    refine V.condT (sb c1) ?_
    refine V.seq ?_
    refine V.region ?_
    refine W.rd (X.assign rfl) rfl rfl rfl ?_
    refine W.nil ?_
    refine At.next ?_
    refine V.ret ?_
    refine At.thenRet ?_
    cases H
    exact At.ret1 rfl rfl ⟨_, rfl, rfl, HS⟩
  · replace H := ite_f c1 H
    refine V.condF (sb (b_f c1)) ?_
    refine V.skip ?_
    refine At.next ?_
    refine V.seq ?_
    refine V.region ?_
    refine W.rd (X.assign rfl) rfl rfl rfl ?_
    refine W.nil ?_
    refine At.next ?_
    refine V.ret ?_
    cases H
    exact At.ret1 rfl rfl ⟨_, rfl, rfl, HS⟩

/-! ### signalman/control.put: function 87 -/
def control_put.f (a0 : List Int) (a1 : Int) (a2 : Int) : Option (List Int) := (if (a0.length : Int) + ([IntKind.u8.wrap a1] : List Int).length ≤ 1099511627776 then (if a2 = 32768 then (if ((a0 ++ ([IntKind.u8.wrap a1] : List Int)).length : Int) + (([IntKind.u8.wrap (a1.fdiv (2 ^ (min (8 : Int).toNat IntKind.i64.bits)))] : List Int)).length ≤ 1099511627776 then some ((a0 ++ ([IntKind.u8.wrap a1] : List Int)) ++ ([IntKind.u8.wrap (a1.fdiv (2 ^ (min (8 : Int).toNat IntKind.i64.bits)))] : List Int)) else none) else some (a0 ++ ([IntKind.u8.wrap a1] : List Int))) else none)
set_option maxRecDepth 100000 in
set_option maxHeartbeats 4000000 in
theorem control_put.calls (a0 : List Int) (a1 : Int) (a2 : Int) (R : As) (w0 w : World) (sa0 : Option Addr) (sc0 : Nat) (r : List Int)  (H : control_put.f a0 a1 a2 = some r) (HS : Sep.St [row 5 1 (.slice sa0 a0.length sc0) a0.length (a0.map (Value.int .u8)), R] w0 w) : Calls Try.prog 87 #[Value.slice sa0 a0.length sc0, Value.int .i64 a1, Value.int .i64 a2] w (Ret fun u w => ∃ (aq0 : Option Addr) (cq0 : Nat), u = Value.slice aq0 r.length cq0 ∧ Sep.St [row 5 1 (.slice aq0 r.length cq0) r.length (r.map (Value.int .u8)), R] w0 w) := by
  unfold control_put.f at H
  refine calls_enter Try.func87 rfl rfl ?_
  have H : _ = some r := H
  refine V.seq ?_
  refine V.region ?_
  refine W.rd (X.assign rfl) rfl rfl rfl ?_
  refine W.nil ?_
  refine At.next ?_
  refine V.seq ?_
  refine V.region ?_
  refine W.rd (X.move rfl) rfl rfl rfl ?_
  refine W.rd (X.move rfl) rfl rfl rfl ?_
  refine W.rd (X.conv Try.underlying3 Try.underlying5 rfl) rfl rfl rfl ?_
  refine W.ev (Y.litB (e := 5) (sz := 1) (vs := #[(0, Value.int .u8 (IntKind.u8.wrap a1))]) [Value.int .u8 (IntKind.u8.wrap a1)] HS (fun a ha => by simp only [List.map_toArray, List.map_cons, List.map_nil]; rw [ha.ev (x := .tmp 9) (v := Value.int .u8 (IntKind.u8.wrap a1)) rfl]; try rfl) rfl (by decide) (fun _ => by kernel_rfl)) rfl rfl rfl ?_
  rintro _ w ⟨lb3, rfl, HS⟩
  have HS : Sep.St [row 5 1 (.slice (some ⟨lb3, 0, none⟩) ([IntKind.u8.wrap a1] : List Int).length 1) ([IntKind.u8.wrap a1] : List Int).length (([IntKind.u8.wrap a1] : List Int).map (Value.int .u8)), row 5 1 (.slice sa0 a0.length sc0) a0.length (a0.map (Value.int .u8)), R] w0 w := HS
  obtain ⟨c4, H⟩ := ite_n H
  refine W.ev (Y.appF (Value.int .u8) (fun _ => rfl) 1 Try.underlying39 ap5 rfl HS rfl rfl rfl (rdC.at 0 row_rd HS rfl) (by omega) (by omega)) rfl rfl rfl ?_
  rintro _ w ⟨ra5, rc6, rfl, HS⟩
  refine W.rd (X.assign rfl) rfl rfl rfl ?_
  refine W.nil ?_
  refine At.next ?_
  refine V.seq ?_
  refine V.seq ?_
  refine V.region ?_
  refine W.rd (X.move rfl) rfl rfl rfl ?_
  refine W.rd (X.cmp (decide (a2 = 32768)) rfl rfl rfl rfl) rfl rfl rfl ?_
  refine W.nil ?_
  refine At.next ?_
  by_cases c7 : a2 = 32768
  · replace H := ite_t c7 H
    refine V.condT (sb (decide_eq_true c7)) ?_
    refine V.region ?_
    refine W.rd (X.move rfl) rfl rfl rfl ?_
    refine W.rd (X.move rfl) rfl rfl rfl ?_
    refine W.rd (X.shr rfl rfl (by decide)) rfl rfl rfl ?_
    refine W.rd (X.conv Try.underlying3 Try.underlying5 rfl) rfl rfl rfl ?_
    refine W.ev (Y.litB (e := 5) (sz := 1) (vs := #[(0, Value.int .u8 (IntKind.u8.wrap (a1.fdiv (2 ^ (min (8 : Int).toNat IntKind.i64.bits)))))]) [Value.int .u8 (IntKind.u8.wrap (a1.fdiv (2 ^ (min (8 : Int).toNat IntKind.i64.bits))))] HS (fun a ha => by simp only [List.map_toArray, List.map_cons, List.map_nil]; rw [ha.ev (x := .tmp 17) (v := Value.int .u8 (IntKind.u8.wrap (a1.fdiv (2 ^ (min (8 : Int).toNat IntKind.i64.bits))))) rfl]; try rfl) rfl (by decide) (fun _ => by kernel_rfl)) rfl rfl rfl ?_
    rintro _ w ⟨lb10, rfl, HS⟩
    have HS : Sep.St [row 5 1 (.slice (some ⟨lb10, 0, none⟩) (([IntKind.u8.wrap (a1.fdiv (2 ^ (min (8 : Int).toNat IntKind.i64.bits)))] : List Int)).length 1) (([IntKind.u8.wrap (a1.fdiv (2 ^ (min (8 : Int).toNat IntKind.i64.bits)))] : List Int)).length ((([IntKind.u8.wrap (a1.fdiv (2 ^ (min (8 : Int).toNat IntKind.i64.bits)))] : List Int)).map (Value.int .u8)), row 5 1 (.slice (some ⟨lb3, 0, none⟩) ([IntKind.u8.wrap a1] : List Int).length 1) ([IntKind.u8.wrap a1] : List Int).length (([IntKind.u8.wrap a1] : List Int).map (Value.int .u8)), row 5 1 (.slice ra5 (a0 ++ ([IntKind.u8.wrap a1] : List Int)).length rc6) (a0 ++ ([IntKind.u8.wrap a1] : List Int)).length ((a0 ++ ([IntKind.u8.wrap a1] : List Int)).map (Value.int .u8)), R] w0 w := HS
    obtain ⟨c11, H⟩ := ite_n H
    refine W.ev (Y.appF (Value.int .u8) (fun _ => rfl) 2 Try.underlying39 ap5 rfl HS rfl rfl rfl (rdC.at 0 row_rd HS rfl) (by omega) (by omega)) rfl rfl rfl ?_
    rintro _ w ⟨ra12, rc13, rfl, HS⟩
    refine W.rd (X.assign rfl) rfl rfl rfl ?_
    refine W.nil ?_
    refine At.next ?_
    refine V.seq ?_
    refine V.region ?_
    refine W.rd (X.move rfl) rfl rfl rfl ?_
    refine W.rd (X.assign rfl) rfl rfl rfl ?_
    refine W.nil ?_
    refine At.next ?_
    refine V.ret ?_
    replace HS := HS.sel [2, 3] [0, 1] (by kernel_rfl)
    cases H
    exact At.ret1 rfl rfl ⟨_, rfl, ra12, rc13, rfl, HS⟩
  · replace H := ite_f c7 H
    refine V.condF (sb (decide_eq_false c7)) ?_
    refine V.skip ?_
    refine At.next ?_
    refine V.seq ?_
    refine V.region ?_
    refine W.rd (X.move rfl) rfl rfl rfl ?_
    refine W.rd (X.assign rfl) rfl rfl rfl ?_
    refine W.nil ?_
    refine At.next ?_
    refine V.ret ?_
    replace HS := HS.sel [1, 2] [0] (by kernel_rfl)
    cases H
    exact At.ret1 rfl rfl ⟨_, rfl, ra5, rc6, rfl, HS⟩

/-! ### signalman/control.plain: function 86 -/
def control_plain.f  : Option (List Int) := some ([111, 99, 67, 15, 135] : List Int)
set_option maxRecDepth 100000 in
set_option maxHeartbeats 4000000 in
theorem control_plain.calls  (R : As) (w0 w : World)  (r : List Int)  (H : control_plain.f  = some r) (HS : Sep.St [R] w0 w) : Calls Try.prog 86 #[] w (Ret fun u w => ∃ (aq0 : Option Addr) (cq0 : Nat), u = Value.slice aq0 r.length cq0 ∧ Sep.St [row 5 1 (.slice aq0 r.length cq0) r.length (r.map (Value.int .u8)), R] w0 w) := by
  unfold control_plain.f at H
  refine calls_enter Try.func86 rfl rfl ?_
  have H : _ = some r := H
  refine V.seq ?_
  refine V.region ?_
  refine W.rd (X.assign rfl) rfl rfl rfl ?_
  refine W.nil ?_
  refine At.next ?_
  refine V.seq ?_
  refine V.region ?_
  refine W.ev (Y.litB (e := 5) (sz := 1) (vs := #[(0, Value.int .u8 (111)), (1, Value.int .u8 (99)), (2, Value.int .u8 (67)), (3, Value.int .u8 (15)), (4, Value.int .u8 (135))]) [Value.int .u8 (111), Value.int .u8 (99), Value.int .u8 (67), Value.int .u8 (15), Value.int .u8 (135)] HS (fun a ha => by simp only [List.map_toArray, List.map_cons, List.map_nil]; try rfl) rfl (by decide) (fun _ => by kernel_rfl)) rfl rfl rfl ?_
  rintro _ w ⟨lb3, rfl, HS⟩
  have HS : Sep.St [row 5 1 (.slice (some ⟨lb3, 0, none⟩) ([111, 99, 67, 15, 135] : List Int).length 5) ([111, 99, 67, 15, 135] : List Int).length (([111, 99, 67, 15, 135] : List Int).map (Value.int .u8)), R] w0 w := HS
  refine W.rd (X.assign rfl) rfl rfl rfl ?_
  refine W.nil ?_
  refine At.next ?_
  refine V.ret ?_
  cases H
  exact At.ret1 rfl rfl ⟨_, rfl, (some ⟨lb3, 0, none⟩), 5, rfl, HS⟩

/-! ### signalman/control.Bytes: function 97 -/
def control_Bytes.f (a0 : api_Ctl) (a1 : Int) : Option (List Int) := ((control_Right.f a0 a1).bind fun t3 => (if t3 = true then ((control_bit.f a0.Poll).bind fun t6 => (if a0.Kind = 0 then ((control_put.f ([] : List Int) (w64 (2 * a0.Ns)) a1).bind fun t9 => ((control_put.f t9 (w64 ((w64 (2 * a0.Nr)) + t6)) a1).bind fun t11 => some t11)) else (if a0.Kind = 1 then ((control_put.f ([] : List Int) 1 a1).bind fun t14 => ((control_put.f t14 (w64 ((w64 (2 * a0.Nr)) + t6)) a1).bind fun t16 => some t16)) else (if a0.Kind = 2 then ((control_put.f ([] : List Int) 9 a1).bind fun t19 => ((control_put.f t19 (w64 ((w64 (2 * a0.Nr)) + t6)) a1).bind fun t21 => some t21)) else ((control_plain.f ).bind fun t23 => (if 0 ≤ w64 (a0.Kind - 3) ∧ w64 (a0.Kind - 3) < (t23.length : Int) then some (([ior .u8 (t23.getD (w64 (a0.Kind - 3)).toNat 0) (IntKind.u8.wrap (w64 (t6 * 16)))] : List Int)) else none)))))) else some ([] : List Int)))
set_option maxRecDepth 100000 in
set_option maxHeartbeats 4000000 in
theorem control_Bytes.calls (a0 : api_Ctl) (a1 : Int) (R : As) (w0 w : World)  (r : List Int)  (H : control_Bytes.f a0 a1 = some r) (HS : Sep.St [R] w0 w) : Calls Try.prog 97 #[Value.agg #[Value.int .i64 a0.Kind, Value.int .i64 a0.Ns, Value.int .i64 a0.Nr, Value.bool a0.Poll], Value.int .i64 a1] w (Ret fun u w => ∃ (aq0 : Option Addr) (cq0 : Nat), u = Value.slice aq0 r.length cq0 ∧ Sep.St [row 5 1 (.slice aq0 r.length cq0) r.length (r.map (Value.int .u8)), R] w0 w) := by
  unfold control_Bytes.f at H
  refine calls_enter Try.func97 rfl rfl ?_
  have H : _ = some r := H
  refine V.seq ?_
  refine V.region ?_
  refine W.ev (Y.box HS rfl) rfl rfl rfl ?_
  rintro _ w ⟨nb1, rfl, HS⟩
  refine W.rd (X.assign rfl) rfl rfl rfl ?_
  refine W.nil ?_
  refine At.next ?_
  refine V.seq ?_
  refine V.seq ?_
  refine V.region ?_
  refine W.rd (X.loadSt 0 [Value.int .i64 a0.Kind, Value.int .i64 a0.Ns, Value.int .i64 a0.Nr, Value.bool a0.Poll] HS rfl Try.underlying42 rfl inf42 rfl rfl) rfl rfl rfl ?_
  refine W.rd (X.move rfl) rfl rfl rfl ?_
  obtain ⟨t3, A4, H⟩ := bind_s H
  refine W.ev (Y.call Try.func106 (by kernel_rfl) rfl (vs := [Value.agg #[Value.int .i64 a0.Kind, Value.int .i64 a0.Ns, Value.int .i64 a0.Nr, Value.bool a0.Poll], Value.int .i64 a1]) rfl (control_Right.calls a0 a1 _ w0 _  t3  A4 (Sep.St.tailJoin (m := []) (r := [blk nb1 (#[Value.int .i64 a0.Kind, Value.int .i64 a0.Ns, Value.int .i64 a0.Nr, Value.bool a0.Poll]) 42, R]) HS))) rfl rfl rfl ?_
  rintro _ w ⟨rfl, HS⟩
  replace HS := Sep.St.tailOpen (m := []) (r := [blk nb1 (#[Value.int .i64 a0.Kind, Value.int .i64 a0.Ns, Value.int .i64 a0.Nr, Value.bool a0.Poll]) 42, R]) HS
  refine W.rd (X.not rfl) rfl rfl rfl ?_
  refine W.nil ?_
  refine At.next ?_
  by_cases c5 : t3 = true
  · replace H := ite_t c5 H
    refine V.condF (sb (n_t c5)) ?_
    refine V.skip ?_
    refine At.next ?_
    refine V.seq ?_
    refine V.region ?_
    refine W.rd (X.fieldAddr 3 fo42_3 rfl) rfl rfl rfl ?_
    refine W.rd (X.loadAt 0 HS rfl Try.underlying4 rfl rfl rfl) rfl rfl rfl ?_
    obtain ⟨t6, A7, H⟩ := bind_s H
    refine W.ev (Y.call Try.func107 (by kernel_rfl) rfl (vs := [Value.bool a0.Poll]) rfl (control_bit.calls a0.Poll _ w0 _  t6  A7 (Sep.St.tailJoin (m := []) (r := [blk nb1 (#[Value.int .i64 a0.Kind, Value.int .i64 a0.Ns, Value.int .i64 a0.Nr, Value.bool a0.Poll]) 42, R]) HS))) rfl rfl rfl ?_
    rintro _ w ⟨rfl, HS⟩
    replace HS := Sep.St.tailOpen (m := []) (r := [blk nb1 (#[Value.int .i64 a0.Kind, Value.int .i64 a0.Ns, Value.int .i64 a0.Nr, Value.bool a0.Poll]) 42, R]) HS
    refine W.rd (X.assign rfl) rfl rfl rfl ?_
    refine W.nil ?_
    refine At.next ?_
    refine V.seq ?_
    refine V.seq ?_
    refine V.region ?_
    refine W.rd (X.fieldAddr 0 fo42_0 rfl) rfl rfl rfl ?_
    refine W.rd (X.loadAt 0 HS rfl Try.underlying3 rfl rfl rfl) rfl rfl rfl ?_
    refine W.nil ?_
    refine At.next ?_
    refine V.block ?_
    refine V.seq ?_
    refine V.region ?_
    refine W.rd (X.cmp (decide (a0.Kind = 0)) rfl rfl rfl rfl) rfl rfl rfl ?_
    refine W.rd (X.assign rfl) rfl rfl rfl ?_
    refine W.nil ?_
    refine At.next ?_
    by_cases c8 : a0.Kind = 0
    · replace H := ite_t c8 H
      refine V.condT (sb (decide_eq_true c8)) ?_
      refine V.seq ?_
      refine V.draw (es := [4, 11]) (bl := [12]) (f := [(17, Value.pointer (some ⟨nb1, 0 + 1, none⟩)), (18, Value.int .i64 a0.Ns), (19, Value.int .i64 (w64 (2 * a0.Ns))), (20, Value.int .i64 a1), (22, Value.pointer (some ⟨nb1, 0 + 2, none⟩)), (23, Value.int .i64 a0.Nr), (24, Value.int .i64 (w64 (2 * a0.Nr))), (25, Value.int .i64 t6), (26, Value.int .i64 (w64 ((w64 (2 * a0.Nr)) + t6))), (27, Value.int .i64 a1)]) (fun w => Sep.St [blk nb1 (#[Value.int .i64 a0.Kind, Value.int .i64 a0.Ns, Value.int .i64 a0.Nr, Value.bool a0.Poll]) 42, R] w0 w) mo HS.drew rfl ?_
      refine T.event _ [(19, Value.int .i64 (w64 (2 * a0.Ns))), (20, Value.int .i64 a1)] rfl rfl ⟨.m1 2 rfl (.l rfl rfl) (fun w HS => X.fieldAddr 1 fo42_1 rfl) rfl rfl rfl rfl rfl, .m1 17 rfl (.r rfl rfl) (fun w HS => X.loadAt 0 HS rfl Try.underlying3 rfl rfl rfl) rfl rfl rfl rfl rfl, .m1 18 rfl (.r rfl rfl) (fun w HS => X.mul rfl rfl) rfl rfl rfl rfl rfl, .m1 1 rfl (.l rfl rfl) (fun w HS => X.move rfl) rfl rfl rfl rfl rfl, .m1 2 rfl (.l rfl rfl) (fun w HS => X.fieldAddr 2 fo42_2 rfl) rfl rfl rfl rfl rfl, .m1 22 rfl (.r rfl rfl) (fun w HS => X.loadAt 0 HS rfl Try.underlying3 rfl rfl rfl) rfl rfl rfl rfl rfl, .m1 23 rfl (.r rfl rfl) (fun w HS => X.mul rfl rfl) rfl rfl rfl rfl rfl, .m1 5 rfl (.l rfl rfl) (fun w HS => X.move rfl) rfl rfl rfl rfl rfl, .m2 24 25 rfl (.r rfl rfl) (.r rfl rfl) (fun w HS => X.add rfl rfl) rfl rfl rfl rfl rfl, .m1 1 rfl (.l rfl rfl) (fun w HS => X.move rfl) rfl rfl rfl rfl rfl, trivial⟩ rfl ⟨.inr ⟨rfl, rfl⟩, ⟨.inr ⟨rfl, rfl⟩, trivial⟩⟩ (Or.inl rfl) (by intro d hd; cases hd; exact ⟨by decide, rfl, rfl⟩) [12] [0, 1, 2, 3] rfl rfl (fun w HS => ?_)
      replace HS := row_nil' (e := 5) 1 none HS
      have HS : Sep.St [row 5 1 (.slice none ([] : List Int).length 0) ([] : List Int).length (([] : List Int).map (Value.int .u8)), blk nb1 (#[Value.int .i64 a0.Kind, Value.int .i64 a0.Ns, Value.int .i64 a0.Nr, Value.bool a0.Poll]) 42, R] w0 w := HS
      obtain ⟨t9, A10, H⟩ := bind_s H
      refine ⟨_, Y.call Try.func87 (by kernel_rfl) rfl (vs := [Value.slice none ([] : List Int).length 0, Value.int .i64 (w64 (2 * a0.Ns)), Value.int .i64 a1]) rfl (control_put.calls ([] : List Int) (w64 (2 * a0.Ns)) a1 _ w0 _ none 0 t9  A10 (Sep.St.tailJoin (m := [row 5 1 (.slice none ([] : List Int).length 0) ([] : List Int).length (([] : List Int).map (Value.int .u8))]) (r := [blk nb1 (#[Value.int .i64 a0.Kind, Value.int .i64 a0.Ns, Value.int .i64 a0.Nr, Value.bool a0.Poll]) 42, R]) HS)), ?_⟩
      rintro _ w ⟨at9_0, ct9_0, rfl, HS⟩
      replace HS := Sep.St.tailOpen (m := [row 5 1 (.slice at9_0 t9.length ct9_0) t9.length (t9.map (Value.int .u8))]) (r := [blk nb1 (#[Value.int .i64 a0.Kind, Value.int .i64 a0.Ns, Value.int .i64 a0.Nr, Value.bool a0.Poll]) 42, R]) HS
      refine ⟨[(21, Value.slice at9_0 t9.length ct9_0)], _, ⟨.inl ⟨rfl, rfl⟩, trivial⟩, ?_, HS⟩
      refine T.event _ [(21, Value.slice at9_0 t9.length ct9_0), (26, Value.int .i64 (w64 ((w64 (2 * a0.Nr)) + t6))), (27, Value.int .i64 a1)] rfl rfl ⟨.m1 2 rfl (.l rfl rfl) (fun w HS => X.fieldAddr 2 fo42_2 rfl) rfl rfl rfl rfl rfl, .m1 22 rfl (.r rfl rfl) (fun w HS => X.loadAt 1 HS rfl Try.underlying3 rfl rfl rfl) rfl rfl rfl rfl rfl, .m1 23 rfl (.r rfl rfl) (fun w HS => X.mul rfl rfl) rfl rfl rfl rfl rfl, .m1 5 rfl (.l rfl rfl) (fun w HS => X.move rfl) rfl rfl rfl rfl rfl, .m2 24 25 rfl (.r rfl rfl) (.r rfl rfl) (fun w HS => X.add rfl rfl) rfl rfl rfl rfl rfl, .m1 1 rfl (.l rfl rfl) (fun w HS => X.move rfl) rfl rfl rfl rfl rfl, trivial⟩ rfl ⟨.inr ⟨rfl, rfl⟩, ⟨.inr ⟨rfl, rfl⟩, ⟨.inr ⟨rfl, rfl⟩, trivial⟩⟩⟩ (Or.inl rfl) (by intro d hd; cases hd; exact ⟨by decide, rfl, rfl⟩) [] [5, 6, 7, 8, 9, 10] rfl rfl (fun w HS => ?_)
      obtain ⟨t11, A12, H⟩ := bind_s H
      refine ⟨_, Y.call Try.func87 (by kernel_rfl) rfl (vs := [Value.slice at9_0 t9.length ct9_0, Value.int .i64 (w64 ((w64 (2 * a0.Nr)) + t6)), Value.int .i64 a1]) rfl (control_put.calls t9 (w64 ((w64 (2 * a0.Nr)) + t6)) a1 _ w0 _ at9_0 ct9_0 t11  A12 (Sep.St.tailJoin (m := [row 5 1 (.slice at9_0 t9.length ct9_0) t9.length (t9.map (Value.int .u8))]) (r := [blk nb1 (#[Value.int .i64 a0.Kind, Value.int .i64 a0.Ns, Value.int .i64 a0.Nr, Value.bool a0.Poll]) 42, R]) HS)), ?_⟩
      rintro _ w ⟨at11_0, ct11_0, rfl, HS⟩
      replace HS := Sep.St.tailOpen (m := [row 5 1 (.slice at11_0 t11.length ct11_0) t11.length (t11.map (Value.int .u8))]) (r := [blk nb1 (#[Value.int .i64 a0.Kind, Value.int .i64 a0.Ns, Value.int .i64 a0.Nr, Value.bool a0.Poll]) 42, R]) HS
      refine ⟨[(28, Value.slice at11_0 t11.length ct11_0), (4, Value.slice at11_0 t11.length ct11_0)], _, ⟨.inl ⟨rfl, rfl⟩, ⟨.inr ⟨by decide, rfl⟩, trivial⟩⟩, ?_, HS⟩
      refine T.fin [(4, Value.slice at11_0 t11.length ct11_0)] rfl ⟨.m1 28 rfl (.r rfl rfl) (fun w HS => X.assign rfl) rfl rfl rfl rfl rfl, trivial⟩ ⟨.inr ⟨rfl, rfl⟩, trivial⟩ (fun w HS => ?_)
      refine At.next ?_
      refine V.ret ?_
      refine At.blockRet ?_
      refine At.thenRet ?_
      replace HS := HS.sel [0, 2] [1] (by kernel_rfl)
      cases H
      exact At.ret1 rfl rfl ⟨_, rfl, at11_0, ct11_0, rfl, HS⟩
    · replace H := ite_f c8 H
      refine V.condF (sb (decide_eq_false c8)) ?_
      refine V.seq ?_
      refine V.region ?_
      refine W.rd (X.cmp (decide (a0.Kind = 1)) rfl rfl rfl rfl) rfl rfl rfl ?_
      refine W.rd (X.assign rfl) rfl rfl rfl ?_
      refine W.nil ?_
      refine At.next ?_
      by_cases c13 : a0.Kind = 1
      · replace H := ite_t c13 H
        refine V.condT (sb (decide_eq_true c13)) ?_
        refine V.seq ?_
        refine V.draw (es := [1, 8]) (bl := [9]) (f := [(31, Value.int .i64 a1), (33, Value.pointer (some ⟨nb1, 0 + 2, none⟩)), (34, Value.int .i64 a0.Nr), (35, Value.int .i64 (w64 (2 * a0.Nr))), (36, Value.int .i64 t6), (37, Value.int .i64 (w64 ((w64 (2 * a0.Nr)) + t6))), (38, Value.int .i64 a1)]) (fun w => Sep.St [blk nb1 (#[Value.int .i64 a0.Kind, Value.int .i64 a0.Ns, Value.int .i64 a0.Nr, Value.bool a0.Poll]) 42, R] w0 w) mo HS.drew rfl ?_
        refine T.event _ [(31, Value.int .i64 a1)] rfl rfl ⟨.m1 1 rfl (.l rfl rfl) (fun w HS => X.move rfl) rfl rfl rfl rfl rfl, .m1 2 rfl (.l rfl rfl) (fun w HS => X.fieldAddr 2 fo42_2 rfl) rfl rfl rfl rfl rfl, .m1 33 rfl (.r rfl rfl) (fun w HS => X.loadAt 0 HS rfl Try.underlying3 rfl rfl rfl) rfl rfl rfl rfl rfl, .m1 34 rfl (.r rfl rfl) (fun w HS => X.mul rfl rfl) rfl rfl rfl rfl rfl, .m1 5 rfl (.l rfl rfl) (fun w HS => X.move rfl) rfl rfl rfl rfl rfl, .m2 35 36 rfl (.r rfl rfl) (.r rfl rfl) (fun w HS => X.add rfl rfl) rfl rfl rfl rfl rfl, .m1 1 rfl (.l rfl rfl) (fun w HS => X.move rfl) rfl rfl rfl rfl rfl, trivial⟩ rfl ⟨.inr ⟨rfl, rfl⟩, trivial⟩ (Or.inl rfl) (by intro d hd; cases hd; exact ⟨by decide, rfl, rfl⟩) [9] [0] rfl rfl (fun w HS => ?_)
        replace HS := row_nil' (e := 5) 1 none HS
        have HS : Sep.St [row 5 1 (.slice none ([] : List Int).length 0) ([] : List Int).length (([] : List Int).map (Value.int .u8)), blk nb1 (#[Value.int .i64 a0.Kind, Value.int .i64 a0.Ns, Value.int .i64 a0.Nr, Value.bool a0.Poll]) 42, R] w0 w := HS
        obtain ⟨t14, A15, H⟩ := bind_s H
        refine ⟨_, Y.call Try.func87 (by kernel_rfl) rfl (vs := [Value.slice none ([] : List Int).length 0, Value.int .i64 (1), Value.int .i64 a1]) rfl (control_put.calls ([] : List Int) 1 a1 _ w0 _ none 0 t14  A15 (Sep.St.tailJoin (m := [row 5 1 (.slice none ([] : List Int).length 0) ([] : List Int).length (([] : List Int).map (Value.int .u8))]) (r := [blk nb1 (#[Value.int .i64 a0.Kind, Value.int .i64 a0.Ns, Value.int .i64 a0.Nr, Value.bool a0.Poll]) 42, R]) HS)), ?_⟩
        rintro _ w ⟨at14_0, ct14_0, rfl, HS⟩
        replace HS := Sep.St.tailOpen (m := [row 5 1 (.slice at14_0 t14.length ct14_0) t14.length (t14.map (Value.int .u8))]) (r := [blk nb1 (#[Value.int .i64 a0.Kind, Value.int .i64 a0.Ns, Value.int .i64 a0.Nr, Value.bool a0.Poll]) 42, R]) HS
        refine ⟨[(32, Value.slice at14_0 t14.length ct14_0)], _, ⟨.inl ⟨rfl, rfl⟩, trivial⟩, ?_, HS⟩
        refine T.event _ [(32, Value.slice at14_0 t14.length ct14_0), (37, Value.int .i64 (w64 ((w64 (2 * a0.Nr)) + t6))), (38, Value.int .i64 a1)] rfl rfl ⟨.m1 2 rfl (.l rfl rfl) (fun w HS => X.fieldAddr 2 fo42_2 rfl) rfl rfl rfl rfl rfl, .m1 33 rfl (.r rfl rfl) (fun w HS => X.loadAt 1 HS rfl Try.underlying3 rfl rfl rfl) rfl rfl rfl rfl rfl, .m1 34 rfl (.r rfl rfl) (fun w HS => X.mul rfl rfl) rfl rfl rfl rfl rfl, .m1 5 rfl (.l rfl rfl) (fun w HS => X.move rfl) rfl rfl rfl rfl rfl, .m2 35 36 rfl (.r rfl rfl) (.r rfl rfl) (fun w HS => X.add rfl rfl) rfl rfl rfl rfl rfl, .m1 1 rfl (.l rfl rfl) (fun w HS => X.move rfl) rfl rfl rfl rfl rfl, trivial⟩ rfl ⟨.inr ⟨rfl, rfl⟩, ⟨.inr ⟨rfl, rfl⟩, ⟨.inr ⟨rfl, rfl⟩, trivial⟩⟩⟩ (Or.inl rfl) (by intro d hd; cases hd; exact ⟨by decide, rfl, rfl⟩) [] [2, 3, 4, 5, 6, 7] rfl rfl (fun w HS => ?_)
        obtain ⟨t16, A17, H⟩ := bind_s H
        refine ⟨_, Y.call Try.func87 (by kernel_rfl) rfl (vs := [Value.slice at14_0 t14.length ct14_0, Value.int .i64 (w64 ((w64 (2 * a0.Nr)) + t6)), Value.int .i64 a1]) rfl (control_put.calls t14 (w64 ((w64 (2 * a0.Nr)) + t6)) a1 _ w0 _ at14_0 ct14_0 t16  A17 (Sep.St.tailJoin (m := [row 5 1 (.slice at14_0 t14.length ct14_0) t14.length (t14.map (Value.int .u8))]) (r := [blk nb1 (#[Value.int .i64 a0.Kind, Value.int .i64 a0.Ns, Value.int .i64 a0.Nr, Value.bool a0.Poll]) 42, R]) HS)), ?_⟩
        rintro _ w ⟨at16_0, ct16_0, rfl, HS⟩
        replace HS := Sep.St.tailOpen (m := [row 5 1 (.slice at16_0 t16.length ct16_0) t16.length (t16.map (Value.int .u8))]) (r := [blk nb1 (#[Value.int .i64 a0.Kind, Value.int .i64 a0.Ns, Value.int .i64 a0.Nr, Value.bool a0.Poll]) 42, R]) HS
        refine ⟨[(39, Value.slice at16_0 t16.length ct16_0), (4, Value.slice at16_0 t16.length ct16_0)], _, ⟨.inl ⟨rfl, rfl⟩, ⟨.inr ⟨by decide, rfl⟩, trivial⟩⟩, ?_, HS⟩
        refine T.fin [(4, Value.slice at16_0 t16.length ct16_0)] rfl ⟨.m1 39 rfl (.r rfl rfl) (fun w HS => X.assign rfl) rfl rfl rfl rfl rfl, trivial⟩ ⟨.inr ⟨rfl, rfl⟩, trivial⟩ (fun w HS => ?_)
        refine At.next ?_
        refine V.ret ?_
        refine At.blockRet ?_
        refine At.thenRet ?_
        replace HS := HS.sel [0, 2] [1] (by kernel_rfl)
        cases H
        exact At.ret1 rfl rfl ⟨_, rfl, at16_0, ct16_0, rfl, HS⟩
      · replace H := ite_f c13 H
        refine V.condF (sb (decide_eq_false c13)) ?_
        refine V.seq ?_
        refine V.region ?_
        refine W.rd (X.cmp (decide (a0.Kind = 2)) rfl rfl rfl rfl) rfl rfl rfl ?_
        refine W.rd (X.assign rfl) rfl rfl rfl ?_
        refine W.nil ?_
        refine At.next ?_
        by_cases c18 : a0.Kind = 2
        · replace H := ite_t c18 H
          refine V.condT (sb (decide_eq_true c18)) ?_
          refine V.seq ?_
          refine V.draw (es := [1, 8]) (bl := [9]) (f := [(42, Value.int .i64 a1), (44, Value.pointer (some ⟨nb1, 0 + 2, none⟩)), (45, Value.int .i64 a0.Nr), (46, Value.int .i64 (w64 (2 * a0.Nr))), (47, Value.int .i64 t6), (48, Value.int .i64 (w64 ((w64 (2 * a0.Nr)) + t6))), (49, Value.int .i64 a1)]) (fun w => Sep.St [blk nb1 (#[Value.int .i64 a0.Kind, Value.int .i64 a0.Ns, Value.int .i64 a0.Nr, Value.bool a0.Poll]) 42, R] w0 w) mo HS.drew rfl ?_
          refine T.event _ [(42, Value.int .i64 a1)] rfl rfl ⟨.m1 1 rfl (.l rfl rfl) (fun w HS => X.move rfl) rfl rfl rfl rfl rfl, .m1 2 rfl (.l rfl rfl) (fun w HS => X.fieldAddr 2 fo42_2 rfl) rfl rfl rfl rfl rfl, .m1 44 rfl (.r rfl rfl) (fun w HS => X.loadAt 0 HS rfl Try.underlying3 rfl rfl rfl) rfl rfl rfl rfl rfl, .m1 45 rfl (.r rfl rfl) (fun w HS => X.mul rfl rfl) rfl rfl rfl rfl rfl, .m1 5 rfl (.l rfl rfl) (fun w HS => X.move rfl) rfl rfl rfl rfl rfl, .m2 46 47 rfl (.r rfl rfl) (.r rfl rfl) (fun w HS => X.add rfl rfl) rfl rfl rfl rfl rfl, .m1 1 rfl (.l rfl rfl) (fun w HS => X.move rfl) rfl rfl rfl rfl rfl, trivial⟩ rfl ⟨.inr ⟨rfl, rfl⟩, trivial⟩ (Or.inl rfl) (by intro d hd; cases hd; exact ⟨by decide, rfl, rfl⟩) [9] [0] rfl rfl (fun w HS => ?_)
          replace HS := row_nil' (e := 5) 1 none HS
          have HS : Sep.St [row 5 1 (.slice none ([] : List Int).length 0) ([] : List Int).length (([] : List Int).map (Value.int .u8)), blk nb1 (#[Value.int .i64 a0.Kind, Value.int .i64 a0.Ns, Value.int .i64 a0.Nr, Value.bool a0.Poll]) 42, R] w0 w := HS
          obtain ⟨t19, A20, H⟩ := bind_s H
          refine ⟨_, Y.call Try.func87 (by kernel_rfl) rfl (vs := [Value.slice none ([] : List Int).length 0, Value.int .i64 (9), Value.int .i64 a1]) rfl (control_put.calls ([] : List Int) 9 a1 _ w0 _ none 0 t19  A20 (Sep.St.tailJoin (m := [row 5 1 (.slice none ([] : List Int).length 0) ([] : List Int).length (([] : List Int).map (Value.int .u8))]) (r := [blk nb1 (#[Value.int .i64 a0.Kind, Value.int .i64 a0.Ns, Value.int .i64 a0.Nr, Value.bool a0.Poll]) 42, R]) HS)), ?_⟩
          rintro _ w ⟨at19_0, ct19_0, rfl, HS⟩
          replace HS := Sep.St.tailOpen (m := [row 5 1 (.slice at19_0 t19.length ct19_0) t19.length (t19.map (Value.int .u8))]) (r := [blk nb1 (#[Value.int .i64 a0.Kind, Value.int .i64 a0.Ns, Value.int .i64 a0.Nr, Value.bool a0.Poll]) 42, R]) HS
          refine ⟨[(43, Value.slice at19_0 t19.length ct19_0)], _, ⟨.inl ⟨rfl, rfl⟩, trivial⟩, ?_, HS⟩
          refine T.event _ [(43, Value.slice at19_0 t19.length ct19_0), (48, Value.int .i64 (w64 ((w64 (2 * a0.Nr)) + t6))), (49, Value.int .i64 a1)] rfl rfl ⟨.m1 2 rfl (.l rfl rfl) (fun w HS => X.fieldAddr 2 fo42_2 rfl) rfl rfl rfl rfl rfl, .m1 44 rfl (.r rfl rfl) (fun w HS => X.loadAt 1 HS rfl Try.underlying3 rfl rfl rfl) rfl rfl rfl rfl rfl, .m1 45 rfl (.r rfl rfl) (fun w HS => X.mul rfl rfl) rfl rfl rfl rfl rfl, .m1 5 rfl (.l rfl rfl) (fun w HS => X.move rfl) rfl rfl rfl rfl rfl, .m2 46 47 rfl (.r rfl rfl) (.r rfl rfl) (fun w HS => X.add rfl rfl) rfl rfl rfl rfl rfl, .m1 1 rfl (.l rfl rfl) (fun w HS => X.move rfl) rfl rfl rfl rfl rfl, trivial⟩ rfl ⟨.inr ⟨rfl, rfl⟩, ⟨.inr ⟨rfl, rfl⟩, ⟨.inr ⟨rfl, rfl⟩, trivial⟩⟩⟩ (Or.inl rfl) (by intro d hd; cases hd; exact ⟨by decide, rfl, rfl⟩) [] [2, 3, 4, 5, 6, 7] rfl rfl (fun w HS => ?_)
          obtain ⟨t21, A22, H⟩ := bind_s H
          refine ⟨_, Y.call Try.func87 (by kernel_rfl) rfl (vs := [Value.slice at19_0 t19.length ct19_0, Value.int .i64 (w64 ((w64 (2 * a0.Nr)) + t6)), Value.int .i64 a1]) rfl (control_put.calls t19 (w64 ((w64 (2 * a0.Nr)) + t6)) a1 _ w0 _ at19_0 ct19_0 t21  A22 (Sep.St.tailJoin (m := [row 5 1 (.slice at19_0 t19.length ct19_0) t19.length (t19.map (Value.int .u8))]) (r := [blk nb1 (#[Value.int .i64 a0.Kind, Value.int .i64 a0.Ns, Value.int .i64 a0.Nr, Value.bool a0.Poll]) 42, R]) HS)), ?_⟩
          rintro _ w ⟨at21_0, ct21_0, rfl, HS⟩
          replace HS := Sep.St.tailOpen (m := [row 5 1 (.slice at21_0 t21.length ct21_0) t21.length (t21.map (Value.int .u8))]) (r := [blk nb1 (#[Value.int .i64 a0.Kind, Value.int .i64 a0.Ns, Value.int .i64 a0.Nr, Value.bool a0.Poll]) 42, R]) HS
          refine ⟨[(50, Value.slice at21_0 t21.length ct21_0), (4, Value.slice at21_0 t21.length ct21_0)], _, ⟨.inl ⟨rfl, rfl⟩, ⟨.inr ⟨by decide, rfl⟩, trivial⟩⟩, ?_, HS⟩
          refine T.fin [(4, Value.slice at21_0 t21.length ct21_0)] rfl ⟨.m1 50 rfl (.r rfl rfl) (fun w HS => X.assign rfl) rfl rfl rfl rfl rfl, trivial⟩ ⟨.inr ⟨rfl, rfl⟩, trivial⟩ (fun w HS => ?_)
          refine At.next ?_
          refine V.ret ?_
          refine At.blockRet ?_
          refine At.thenRet ?_
          replace HS := HS.sel [0, 2] [1] (by kernel_rfl)
          cases H
          exact At.ret1 rfl rfl ⟨_, rfl, at21_0, ct21_0, rfl, HS⟩
        · replace H := ite_f c18 H
          refine V.condF (sb (decide_eq_false c18)) ?_
          refine V.skip ?_
          refine At.blockEnd ?_
          refine At.next ?_
          refine V.seq ?_
          refine V.draw (es := [0, 10]) (bl := [4, 5, 9, 11]) (f := [(52, Value.pointer (some ⟨nb1, 0 + 0, none⟩)), (53, Value.int .i64 a0.Kind), (54, Value.int .i64 (w64 (a0.Kind - 3))), (57, Value.int .i64 t6), (58, Value.int .i64 (w64 (t6 * 16))), (59, Value.int .u8 (IntKind.u8.wrap (w64 (t6 * 16))))]) (fun w => Sep.St [blk nb1 (#[Value.int .i64 a0.Kind, Value.int .i64 a0.Ns, Value.int .i64 a0.Nr, Value.bool a0.Poll]) 42, R] w0 w) mo HS.drew rfl ?_
          refine T.event _ [] rfl rfl ⟨.m1 2 rfl (.l rfl rfl) (fun w HS => X.fieldAddr 0 fo42_0 rfl) rfl rfl rfl rfl rfl, .m1 52 rfl (.r rfl rfl) (fun w HS => X.loadAt 0 HS rfl Try.underlying3 rfl rfl rfl) rfl rfl rfl rfl rfl, .m1 53 rfl (.r rfl rfl) (fun w HS => X.sub rfl rfl) rfl rfl rfl rfl rfl, .m1 5 rfl (.l rfl rfl) (fun w HS => X.move rfl) rfl rfl rfl rfl rfl, .m1 57 rfl (.r rfl rfl) (fun w HS => X.mul rfl rfl) rfl rfl rfl rfl rfl, .m1 58 rfl (.r rfl rfl) (fun w HS => X.conv Try.underlying3 Try.underlying5 rfl) rfl rfl rfl rfl rfl, trivial⟩ rfl trivial (Or.inl rfl) (by intro d hd; cases hd; exact ⟨by decide, rfl, rfl⟩) [11] [] rfl rfl (fun w HS => ?_)
          obtain ⟨t23, A24, H⟩ := bind_s H
          refine ⟨_, Y.call Try.func86 (by kernel_rfl) rfl (vs := []) rfl (control_plain.calls  _ w0 _  t23  A24 (Sep.St.tailJoin (m := []) (r := [blk nb1 (#[Value.int .i64 a0.Kind, Value.int .i64 a0.Ns, Value.int .i64 a0.Nr, Value.bool a0.Poll]) 42, R]) HS)), ?_⟩
          rintro _ w ⟨at23_0, ct23_0, rfl, HS⟩
          replace HS := Sep.St.tailOpen (m := [row 5 1 (.slice at23_0 t23.length ct23_0) t23.length (t23.map (Value.int .u8))]) (r := [blk nb1 (#[Value.int .i64 a0.Kind, Value.int .i64 a0.Ns, Value.int .i64 a0.Nr, Value.bool a0.Poll]) 42, R]) HS
          obtain ⟨c25, H⟩ := ite_n H
          obtain ⟨eb26, eo27, hh⟩ := (rdC.at 0 row_rd HS rfl).some (by decide) c25.1 c25.2; subst hh
          refine ⟨[(51, Value.slice (some ⟨eb26, eo27, none⟩) t23.length ct23_0), (55, Value.pointer (some ⟨eb26, eo27 + (w64 (a0.Kind - 3)).toNat * 1, none⟩)), (56, Value.int .u8 (t23.getD (w64 (a0.Kind - 3)).toNat 0)), (60, Value.int .u8 (ior .u8 (t23.getD (w64 (a0.Kind - 3)).toNat 0) (IntKind.u8.wrap (w64 (t6 * 16)))))], _, ⟨.inl ⟨rfl, rfl⟩, ⟨.inr ⟨by decide, rfl⟩, ⟨.inr ⟨by decide, rfl⟩, ⟨.inr ⟨by decide, rfl⟩, trivial⟩⟩⟩⟩, ?_, HS⟩
          refine T.event _ [(60, Value.int .u8 (ior .u8 (t23.getD (w64 (a0.Kind - 3)).toNat 0) (IntKind.u8.wrap (w64 (t6 * 16)))))] rfl rfl ⟨.m1 2 rfl (.l rfl rfl) (fun w HS => X.fieldAddr 0 fo42_0 rfl) rfl rfl rfl rfl rfl, .m1 52 rfl (.r rfl rfl) (fun w HS => X.loadAt 1 HS rfl Try.underlying3 rfl rfl rfl) rfl rfl rfl rfl rfl, .m1 53 rfl (.r rfl rfl) (fun w HS => X.sub rfl rfl) rfl rfl rfl rfl rfl, .m2 51 54 rfl (.r rfl rfl) (.r rfl rfl) (fun w HS => X.indexSl Try.underlying39 inf5 rfl rfl c25.1 c25.2) rfl rfl rfl rfl rfl, .m1 55 rfl (.r rfl rfl) (fun w HS => X.load Try.underlying5 rfl rfl ((rdC.at 0 row_rd HS rfl).cellI c25.1 c25.2)) rfl rfl rfl rfl rfl, .m1 5 rfl (.l rfl rfl) (fun w HS => X.move rfl) rfl rfl rfl rfl rfl, .m1 57 rfl (.r rfl rfl) (fun w HS => X.mul rfl rfl) rfl rfl rfl rfl rfl, .m1 58 rfl (.r rfl rfl) (fun w HS => X.conv Try.underlying3 Try.underlying5 rfl) rfl rfl rfl rfl rfl, .m2 56 59 rfl (.r rfl rfl) (.r rfl rfl) (fun w HS => X.or rfl rfl) rfl rfl rfl rfl rfl, trivial⟩ rfl ⟨.inr ⟨rfl, rfl⟩, trivial⟩ (Or.inl rfl) (by intro d hd; cases hd; exact ⟨by decide, rfl, rfl⟩) [] [1, 2, 3, 4, 5, 6, 7, 8, 9] rfl rfl (fun w HS => ?_)
          refine ⟨_, Y.litB (e := 5) (sz := 1) (vs := #[(0, Value.int .u8 (ior .u8 (t23.getD (w64 (a0.Kind - 3)).toNat 0) (IntKind.u8.wrap (w64 (t6 * 16)))))]) [Value.int .u8 (ior .u8 (t23.getD (w64 (a0.Kind - 3)).toNat 0) (IntKind.u8.wrap (w64 (t6 * 16))))] HS (fun a ha => by simp only [List.map_toArray, List.map_cons, List.map_nil]; rw [ha.ev (x := .tmp 60) (v := Value.int .u8 (ior .u8 (t23.getD (w64 (a0.Kind - 3)).toNat 0) (IntKind.u8.wrap (w64 (t6 * 16))))) rfl]; try rfl) rfl (by decide) (fun _ => by kernel_rfl), ?_⟩
          rintro _ w ⟨lb30, rfl, HS⟩
          have HS : Sep.St [row 5 1 (.slice (some ⟨lb30, 0, none⟩) (([ior .u8 (t23.getD (w64 (a0.Kind - 3)).toNat 0) (IntKind.u8.wrap (w64 (t6 * 16)))] : List Int)).length 1) (([ior .u8 (t23.getD (w64 (a0.Kind - 3)).toNat 0) (IntKind.u8.wrap (w64 (t6 * 16)))] : List Int)).length ((([ior .u8 (t23.getD (w64 (a0.Kind - 3)).toNat 0) (IntKind.u8.wrap (w64 (t6 * 16)))] : List Int)).map (Value.int .u8)), row 5 1 (.slice (some ⟨eb26, eo27, none⟩) t23.length ct23_0) t23.length (t23.map (Value.int .u8)), blk nb1 (#[Value.int .i64 a0.Kind, Value.int .i64 a0.Ns, Value.int .i64 a0.Nr, Value.bool a0.Poll]) 42, R] w0 w := HS
          refine ⟨[(61, Value.slice (some ⟨lb30, 0, none⟩) (([ior .u8 (t23.getD (w64 (a0.Kind - 3)).toNat 0) (IntKind.u8.wrap (w64 (t6 * 16)))] : List Int)).length 1), (4, Value.slice (some ⟨lb30, 0, none⟩) (([ior .u8 (t23.getD (w64 (a0.Kind - 3)).toNat 0) (IntKind.u8.wrap (w64 (t6 * 16)))] : List Int)).length 1)], _, ⟨.inl ⟨rfl, rfl⟩, ⟨.inr ⟨by decide, rfl⟩, trivial⟩⟩, ?_, HS⟩
          refine T.fin [(4, Value.slice (some ⟨lb30, 0, none⟩) (([ior .u8 (t23.getD (w64 (a0.Kind - 3)).toNat 0) (IntKind.u8.wrap (w64 (t6 * 16)))] : List Int)).length 1)] rfl ⟨.m1 61 rfl (.r rfl rfl) (fun w HS => X.assign rfl) rfl rfl rfl rfl rfl, trivial⟩ ⟨.inr ⟨rfl, rfl⟩, trivial⟩ (fun w HS => ?_)
          refine At.next ?_
          refine V.ret ?_
          replace HS := HS.sel [0, 3] [1, 2] (by kernel_rfl)
          cases H
          exact At.ret1 rfl rfl ⟨_, rfl, (some ⟨lb30, 0, none⟩), 1, rfl, HS⟩
  · replace H := ite_f c5 H
    refine V.condT (sb (n_f (b_f c5))) ?_
    refine V.seq ?_
    refine V.region ?_
    refine W.rd (X.assign rfl) rfl rfl rfl ?_
    refine W.nil ?_
    refine At.next ?_
    refine V.ret ?_
    refine At.thenRet ?_
    replace HS := row_nil' (e := 5) 1 none HS
    have HS : Sep.St [row 5 1 (.slice none ([] : List Int).length 0) ([] : List Int).length (([] : List Int).map (Value.int .u8)), blk nb1 (#[Value.int .i64 a0.Kind, Value.int .i64 a0.Ns, Value.int .i64 a0.Nr, Value.bool a0.Poll]) 42, R] w0 w := HS
    replace HS := HS.sel [0, 2] [1] (by kernel_rfl)
    cases H
    exact At.ret1 rfl rfl ⟨_, rfl, none, 0, rfl, HS⟩

/-! ### slices.Grow[[]byte,byte]: function 105 -/
def slices_Grow_Sbytebyte.f (a1 : Int) : Option (List Int) := (if a1 < 0 then none else (if (w64 (a1 - (w64 (0 - 0)))) > 0 then (if w64 (a1 - (w64 (0 - 0))) ≤ 1099511627776 then some ([] : List Int) else none) else some ([] : List Int)))
set_option maxRecDepth 100000 in
set_option maxHeartbeats 4000000 in
theorem slices_Grow_Sbytebyte.calls (a1 : Int) (R : As) (w0 w : World)  (r : List Int)  (H : slices_Grow_Sbytebyte.f a1 = some r) (HS : Sep.St [R] w0 w) : Calls Try.prog 105 #[Value.slice none 0 0, Value.int .i64 a1] w (Ret fun u w => ∃ (aq0 : Option Addr) (cq0 : Nat), u = Value.slice aq0 r.length cq0 ∧ Sep.St [row 5 1 (.slice aq0 r.length cq0) r.length (r.map (Value.int .u8)), R] w0 w) := by
  unfold slices_Grow_Sbytebyte.f at H
  refine calls_enter Try.func105 rfl rfl ?_
  have H : _ = some r := H
  refine V.seq ?_
  refine V.region ?_
  refine W.rd (X.assign rfl) rfl rfl rfl ?_
  refine W.nil ?_
  refine At.next ?_
  refine V.seq ?_
  refine V.seq ?_
  refine V.region ?_
  refine W.rd (X.move rfl) rfl rfl rfl ?_
  refine W.rd (X.cmp (decide (a1 < 0)) rfl rfl rfl rfl) rfl rfl rfl ?_
  refine W.nil ?_
  refine At.next ?_
  by_cases c1 : a1 < 0
  · replace H := ite_t c1 H
    refine V.condT (sb (decide_eq_true c1)) ?_
    exact nomatch H
  · replace H := ite_f c1 H
    refine V.condF (sb (decide_eq_false c1)) ?_
    refine V.skip ?_
    refine At.next ?_
    refine V.seq ?_
    refine V.seq ?_
    refine V.region ?_
    refine W.rd (X.move rfl) rfl rfl rfl ?_
    refine W.rd (X.move rfl) rfl rfl rfl ?_
    refine W.rd (X.cap Try.underlying39 rfl) rfl rfl rfl ?_
    refine W.rd (X.move rfl) rfl rfl rfl ?_
    refine W.rd (X.lenSl Try.underlying39 rfl) rfl rfl rfl ?_
    refine W.rd (X.sub rfl rfl) rfl rfl rfl ?_
    refine W.rd (X.sub rfl rfl) rfl rfl rfl ?_
    refine W.rd (X.assign rfl) rfl rfl rfl ?_
    refine W.nil ?_
    refine At.next ?_
    refine V.seq ?_
    refine V.region ?_
    refine W.rd (X.move rfl) rfl rfl rfl ?_
    refine W.rd (X.cmp (decide ((w64 (a1 - (w64 (0 - 0)))) > 0)) rfl rfl rfl rfl) rfl rfl rfl ?_
    refine W.nil ?_
    refine At.next ?_
    by_cases c2 : (w64 (a1 - (w64 (0 - 0)))) > 0
    · replace H := ite_t c2 H
      refine V.condT (sb (decide_eq_true c2)) ?_
      refine V.region ?_
      refine W.rd (X.move rfl) rfl rfl rfl ?_
      refine W.rd (X.move rfl) rfl rfl rfl ?_
      refine W.rd (X.cap Try.underlying39 rfl) rfl rfl rfl ?_
      refine W.rd (X.nilH Try.underlying39 inf5 rfl rfl) rfl rfl rfl ?_
      refine W.rd (X.move rfl) rfl rfl rfl ?_
      obtain ⟨c3, H⟩ := ite_n H
      refine W.ev (Y.appN (kk := (w64 (a1 - (w64 (0 - 0)))).toNat) (kI := w64 (a1 - (w64 (0 - 0)))) Try.underlying39 Try.underlying3 ap5 rfl HS rfl rfl (by omega) (by omega) (by omega) (by decide)) rfl rfl rfl ?_
      rintro _ w ⟨ig4, ic5, iR6, rfl, hc7, hm8, hf9, HS⟩
      refine W.rd (X.move rfl) rfl rfl rfl ?_
      refine W.rd (X.lenSl Try.underlying39 rfl) rfl rfl rfl ?_
      refine W.rd (X.rawH (j := (0 : Int)) Try.underlying39 inf5 rfl rfl ⟨(by omega), (by omega)⟩) rfl rfl rfl ?_
      refine W.rd (X.assign rfl) rfl rfl rfl ?_
      refine W.nil ?_
      refine At.next ?_
      refine V.seq ?_
      refine V.region ?_
      refine W.rd (X.move rfl) rfl rfl rfl ?_
      refine W.rd (X.assign rfl) rfl rfl rfl ?_
      refine W.nil ?_
      refine At.next ?_
      refine V.ret ?_
      refine At.again 4 (v := Value.slice (some ⟨ig4, 0, none⟩) ([] : List Int).length ic5) rfl ?_
      replace HS := HS.row_shut (m := ([] : List Int).length) (c := ic5) (off := 0) (cs := ([] : List Int).map (Value.int .u8)) (Nat.zero_le _) (by omega) (by omega) (by simp) rfl
      cases H
      exact At.ret1 rfl rfl ⟨_, rfl, (some ⟨ig4, 0, none⟩), ic5, rfl, HS⟩
    · replace H := ite_f c2 H
      refine V.condF (sb (decide_eq_false c2)) ?_
      refine V.skip ?_
      refine At.next ?_
      refine V.seq ?_
      refine V.region ?_
      refine W.rd (X.move rfl) rfl rfl rfl ?_
      refine W.rd (X.assign rfl) rfl rfl rfl ?_
      refine W.nil ?_
      refine At.next ?_
      refine V.ret ?_
      replace HS := row_nil' (e := 5) 1 none HS
      have HS : Sep.St [row 5 1 (.slice none ([] : List Int).length 0) ([] : List Int).length (([] : List Int).map (Value.int .u8)), R] w0 w := HS
      cases H
      exact At.ret1 rfl rfl ⟨_, rfl, none, 0, rfl, HS⟩

/-! ### slices.Concat[[]byte,byte]: function 96 -/
mutual
def slices_Concat_Sbytebyte.l0 : Nat → (List (List Int)) → Int → Int → Option (List Int)
  | 0, _, _, _ => none
  | k + 1, a0, x2, x3 => (if x3 < (a0.length : Int) then (if 0 ≤ x3 ∧ x3 < (a0.length : Int) then (if (w64 (x2 + ((a0.getD x3.toNat []).length : Int))) < 0 then none else (slices_Concat_Sbytebyte.l0 k a0 (w64 (x2 + ((a0.getD x3.toNat []).length : Int))) (w64 (x3 + 1)))) else none) else ((slices_Grow_Sbytebyte.f x2).bind fun t17 => (slices_Concat_Sbytebyte.l1 k a0 0 t17)))
def slices_Concat_Sbytebyte.l1 : Nat → (List (List Int)) → Int → (List Int) → Option (List Int)
  | 0, _, _, _ => none
  | k + 1, a0, x20, x23 => (if x20 < (a0.length : Int) then (if 0 ≤ x20 ∧ x20 < (a0.length : Int) then (if (x23.length : Int) + (a0.getD x20.toNat []).length ≤ 1099511627776 then (slices_Concat_Sbytebyte.l1 k a0 (w64 (x20 + 1)) (x23 ++ (a0.getD x20.toNat []))) else none) else none) else some x23)
end
def slices_Concat_Sbytebyte.f (k : Nat) (a0 : List (List Int)) : Option (List Int) := (slices_Concat_Sbytebyte.l0 k a0 0 0)
set_option maxRecDepth 100000 in
set_option maxHeartbeats 4000000 in
theorem slices_Concat_Sbytebyte.calls (k : Nat) (a0 : List (List Int)) (R : As) (w0 w : World) (sa0 : Option Addr) (sc0 : Nat) (sd0 : List Value) (r : List Int) (hr0 : rdC R 1 (.slice sa0 a0.length sc0) a0.length sd0) (ht0 : ∀ h, R h → tie (El.sl (El.int .u8)) sd0 a0 h) (H : slices_Concat_Sbytebyte.f k a0 = some r) (HS : Sep.St [R] w0 w) : Calls Try.prog 96 #[Value.slice sa0 a0.length sc0] w (Ret fun u w => ∃ (aq0 : Option Addr) (cq0 : Nat), u = Value.slice aq0 r.length cq0 ∧ Sep.St [row 5 1 (.slice aq0 r.length cq0) r.length (r.map (Value.int .u8)), R] w0 w) := by
  unfold slices_Concat_Sbytebyte.f at H
  refine calls_enter Try.func96 rfl rfl ?_
  have H : _ = some r := H
  replace HS := St.more 0 HS rfl ht0 tie.pers
  refine V.seq ?_
  refine V.region ?_
  refine W.rd (X.assign rfl) rfl rfl rfl ?_
  refine W.nil ?_
  refine At.next ?_
  refine V.seq ?_
  refine V.region ?_
  refine W.rd (X.assign rfl) rfl rfl rfl ?_
  refine W.nil ?_
  refine At.next ?_
  refine V.seq ?_
  refine V.seq ?_
  refine V.region ?_
  refine W.rd (X.move rfl) rfl rfl rfl ?_
  refine W.rd (X.lenSl Try.underlying30 rfl) rfl rfl rfl ?_
  refine W.rd (X.move rfl) rfl rfl rfl ?_
  refine W.nil ?_
  refine At.next ?_
  refine V.block ?_
  refine V.loop (σ := Int × Int) (fun kq (st : Int × Int) w => match st with | (x2, x3) => Sep.St [tie (El.sl (El.int .u8)) sd0 a0, R] w0 w ∧ slices_Concat_Sbytebyte.l0 kq a0 x2 x3 = some r ∧ kq ≤ k) (fun st => match st with | (x2, x3) => [(0, Value.slice sa0 a0.length sc0), (3, Value.int .i64 x2), (9, Value.slice sa0 a0.length sc0), (10, Value.int .i64 (a0.length : Int)), (11, Value.int .i64 x3)]) k (0, 0) ⟨rfl, rfl, rfl, rfl, rfl, trivial⟩ ⟨HS, H, Nat.le_refl _⟩ ?_
  rintro kq4 ⟨x2, x3⟩ w ⟨HS, H, hk5⟩
  cases kq4 with
  | zero => exact absurd H (by simp [slices_Concat_Sbytebyte.l0])
  | succ kq4 =>
    simp only [slices_Concat_Sbytebyte.l0] at H
    refine V.seq ?_
    refine V.region ?_
    refine W.rd (X.cmp (decide (x3 < (a0.length : Int))) rfl rfl rfl rfl) rfl rfl rfl ?_
    refine W.nil ?_
    refine At.next ?_
    refine V.seq ?_
    by_cases c6 : x3 < (a0.length : Int)
    · replace H := ite_t c6 H
      refine V.condT (sb (decide_eq_true c6)) ?_
      refine V.skip ?_
      refine At.next ?_
      refine V.seq ?_
      refine V.block ?_
      refine V.seq ?_
      refine V.region ?_
      obtain ⟨c7, H⟩ := ite_n H
      obtain ⟨eb8, eo9, hh⟩ := (rdC.at 1 hr0 HS rfl).some (by decide) c7.1 c7.2; subst hh
      refine W.rd (X.indexSl Try.underlying30 inf39 rfl rfl c7.1 c7.2) rfl rfl rfl ?_
      obtain ⟨ec10, hc11, HS⟩ := St.tie_at 0 HS rfl ([]) c7.1 c7.2
      obtain ⟨ea12, em13, he15, HN⟩ := St.sl_openF (Value.int .u8) (fun t => tie_int t) HS; clear HS; subst he15; have HS := HN
      refine W.rd (X.load Try.underlying39 rfl rfl ((rdC.at 2 hr0 HS rfl).cellEl0 (hc11 0 _ rfl))) rfl rfl rfl ?_
      refine W.rd (X.assign rfl) rfl rfl rfl ?_
      refine W.nil ?_
      refine At.next ?_
      refine V.seq ?_
      refine V.region ?_
      refine W.rd (X.move rfl) rfl rfl rfl ?_
      refine W.rd (X.move rfl) rfl rfl rfl ?_
      refine W.rd (X.lenSl Try.underlying39 rfl) rfl rfl rfl ?_
      refine W.rd (X.add rfl rfl) rfl rfl rfl ?_
      refine W.rd (X.assign rfl) rfl rfl rfl ?_
      refine W.nil ?_
      refine At.next ?_
      refine V.seq ?_
      refine V.region ?_
      refine W.rd (X.move rfl) rfl rfl rfl ?_
      refine W.rd (X.cmp (decide ((w64 (x2 + ((a0.getD x3.toNat []).length : Int))) < 0)) rfl rfl rfl rfl) rfl rfl rfl ?_
      refine W.nil ?_
      refine At.next ?_
      by_cases c16 : (w64 (x2 + ((a0.getD x3.toNat []).length : Int))) < 0
      · replace H := ite_t c16 H
        refine V.condT (sb (decide_eq_true c16)) ?_
        exact nomatch H
      · replace H := ite_f c16 H
        refine V.condF (sb (decide_eq_false c16)) ?_
        refine V.skip ?_
        refine At.blockEnd ?_
        refine At.next ?_
        refine V.region ?_
        refine W.rd (X.add rfl rfl) rfl rfl rfl ?_
        refine W.rd (X.move rfl) rfl rfl rfl ?_
        refine W.nil ?_
        replace HS := HS.sel [1, 2] [0] (by kernel_rfl)
        exact At.round kq4 (by omega) (w64 (x2 + ((a0.getD x3.toNat []).length : Int)), w64 (x3 + 1)) ⟨rfl, rfl, rfl, rfl, rfl, trivial⟩ ⟨HS, H, by omega⟩
    · replace H := ite_f c6 H
      refine V.condF (sb (decide_eq_false c6)) ?_
      refine V.exit ?_
      refine At.thenExit ?_
      refine At.thenExit ?_
      refine At.blockExit ?_
      refine At.next ?_
      refine V.seq ?_
      refine V.region ?_
      refine W.rd (X.move rfl) rfl rfl rfl ?_
      obtain ⟨t17, A18, H⟩ := bind_s H
      refine W.ev (Y.call Try.func105 (by kernel_rfl) rfl (vs := [Value.slice none 0 0, Value.int .i64 x2]) rfl (slices_Grow_Sbytebyte.calls x2 _ w0 _  t17  A18 (Sep.St.tailJoin (m := []) (r := [tie (El.sl (El.int .u8)) sd0 a0, R]) HS))) rfl rfl rfl ?_
      rintro _ w ⟨at17_0, ct17_0, rfl, HS⟩
      replace HS := Sep.St.tailOpen (m := [row 5 1 (.slice at17_0 t17.length ct17_0) t17.length (t17.map (Value.int .u8))]) (r := [tie (El.sl (El.int .u8)) sd0 a0, R]) HS
      refine W.rd (X.assign rfl) rfl rfl rfl ?_
      refine W.nil ?_
      refine At.next ?_
      refine V.seq ?_
      refine V.seq ?_
      refine V.region ?_
      refine W.rd (X.move rfl) rfl rfl rfl ?_
      refine W.rd (X.lenSl Try.underlying30 rfl) rfl rfl rfl ?_
      refine W.rd (X.move rfl) rfl rfl rfl ?_
      refine W.nil ?_
      refine At.next ?_
      refine V.block ?_
      refine V.loop (σ := Int × Option Addr × Nat × List Int) (fun kq (st : Int × Option Addr × Nat × List Int) w => match st with | (x20, ra21, rc22, x23) => Sep.St [row 5 1 (.slice ra21 x23.length rc22) x23.length (x23.map (Value.int .u8)), tie (El.sl (El.int .u8)) sd0 a0, R] w0 w ∧ slices_Concat_Sbytebyte.l1 kq a0 x20 x23 = some r ∧ kq ≤ kq4) (fun st => match st with | (x20, ra21, rc22, x23) => [(6, Value.slice ra21 x23.length rc22), (25, Value.slice sa0 a0.length sc0), (26, Value.int .i64 (a0.length : Int)), (27, Value.int .i64 x20)]) kq4 (0, at17_0, ct17_0, t17) ⟨rfl, rfl, rfl, rfl, trivial⟩ ⟨HS, H, Nat.le_refl _⟩ ?_
      rintro kq24 ⟨x20, ra21, rc22, x23⟩ w ⟨HS, H, hk25⟩
      cases kq24 with
      | zero => exact absurd H (by simp [slices_Concat_Sbytebyte.l1])
      | succ kq24 =>
        simp only [slices_Concat_Sbytebyte.l1] at H
        refine V.seq ?_
        refine V.region ?_
        refine W.rd (X.cmp (decide (x20 < (a0.length : Int))) rfl rfl rfl rfl) rfl rfl rfl ?_
        refine W.nil ?_
        refine At.next ?_
        refine V.seq ?_
        by_cases c26 : x20 < (a0.length : Int)
        · replace H := ite_t c26 H
          refine V.condT (sb (decide_eq_true c26)) ?_
          refine V.skip ?_
          refine At.next ?_
          refine V.seq ?_
          refine V.block ?_
          refine V.seq ?_
          refine V.region ?_
          obtain ⟨c27, H⟩ := ite_n H
          obtain ⟨eb28, eo29, hh⟩ := (rdC.at 2 hr0 HS rfl).some (by decide) c27.1 c27.2; subst hh
          refine W.rd (X.indexSl Try.underlying30 inf39 rfl rfl c27.1 c27.2) rfl rfl rfl ?_
          obtain ⟨ec30, hc31, HS⟩ := St.tie_at 1 HS rfl ([]) c27.1 c27.2
          obtain ⟨ea32, em33, he35, HN⟩ := St.sl_openF (Value.int .u8) (fun t => tie_int t) HS; clear HS; subst he35; have HS := HN
          refine W.rd (X.load Try.underlying39 rfl rfl ((rdC.at 3 hr0 HS rfl).cellEl0 (hc31 0 _ rfl))) rfl rfl rfl ?_
          refine W.rd (X.assign rfl) rfl rfl rfl ?_
          refine W.nil ?_
          refine At.next ?_
          refine V.region ?_
          refine W.rd (X.move rfl) rfl rfl rfl ?_
          refine W.rd (X.move rfl) rfl rfl rfl ?_
          obtain ⟨c36, H⟩ := ite_n H
          refine W.ev (Y.appF (Value.int .u8) (fun _ => rfl) 1 Try.underlying39 ap5 rfl HS rfl rfl rfl (rdC.at 0 fsl.rd HS rfl) (by omega) (by omega)) rfl rfl rfl ?_
          rintro _ w ⟨ra37, rc38, rfl, HS⟩
          refine W.rd (X.assign rfl) rfl rfl rfl ?_
          refine W.nil ?_
          refine At.blockEnd ?_
          refine At.next ?_
          refine V.region ?_
          refine W.rd (X.add rfl rfl) rfl rfl rfl ?_
          refine W.rd (X.move rfl) rfl rfl rfl ?_
          refine W.nil ?_
          replace HS := HS.sel [1, 2, 3] [0] (by kernel_rfl)
          exact At.round kq24 (by omega) (w64 (x20 + 1), ra37, rc38, x23 ++ (a0.getD x20.toNat [])) ⟨rfl, rfl, rfl, rfl, trivial⟩ ⟨HS, H, by omega⟩
        · replace H := ite_f c26 H
          refine V.condF (sb (decide_eq_false c26)) ?_
          refine V.exit ?_
          refine At.thenExit ?_
          refine At.thenExit ?_
          refine At.blockExit ?_
          refine At.next ?_
          refine V.seq ?_
          refine V.region ?_
          refine W.rd (X.move rfl) rfl rfl rfl ?_
          refine W.rd (X.assign rfl) rfl rfl rfl ?_
          refine W.nil ?_
          refine At.next ?_
          refine V.ret ?_
          replace HS := HS.sel [0, 2] [1] (by kernel_rfl)
          cases H
          exact At.ret1 rfl rfl ⟨_, rfl, ra21, rc22, rfl, HS⟩

/-! ### (*signalman/arq.Arq).put: function 74 -/
def arq_Arq_put.f (k : Nat) (a0 : arq_Arq) (a1 : Int) (a2 : api_Ctl) (a3 : List Int) : Option arq_Arq := ((control_Bytes.f a2 a0.m).bind fun t7 => ((slices_Concat_Sbytebyte.f k ([([IntKind.u8.wrap (a1.fdiv (2 ^ (min (8 : Int).toNat IntKind.i64.bits))), IntKind.u8.wrap a1] : List Int), t7, a3] : List (List Int))).bind fun t12 => (if (a0.out.length : Int) + (([t12] : List (List Int))).length ≤ 1099511627776 then some (({ m := a0.m, t1 := a0.t1, n2 := a0.n2, size := a0.size, state := a0.state, tag := a0.tag, tries := a0.tries, rejected := a0.rejected, log := a0.log, order := a0.order, timers := a0.timers, out := a0.out ++ ([t12] : List (List Int)), inds := a0.inds, sent := a0.sent, acked := a0.acked, lost := a0.lost } : arq_Arq)) else none)))
set_option maxRecDepth 100000 in
set_option maxHeartbeats 4000000 in
theorem arq_Arq_put.calls (k : Nat) (a0 : arq_Arq) (a1 : Int) (a2 : api_Ctl) (a3 : List Int) (R : As) (w0 w : World) (b0 : Nat) (sa3 : Option Addr) (sc3 : Nat) (r : arq_Arq)  (H : arq_Arq_put.f k a0 a1 a2 a3 = some r) (HS : Sep.St [arq_Arq.at b0 a0, fsl 1 (.slice sa3 a3.length sc3) a3.length (a3.map (Value.int .u8)), R] w0 w) : Calls Try.prog 74 #[Value.pointer (some ⟨b0, 0, none⟩), Value.int .i64 a1, Value.agg #[Value.int .i64 a2.Kind, Value.int .i64 a2.Ns, Value.int .i64 a2.Nr, Value.bool a2.Poll], Value.slice sa3 a3.length sc3] w (Ret fun u w => u = Value.tuple #[] ∧ Sep.St [arq_Arq.at b0 r, R] w0 w) := by
  unfold arq_Arq_put.f at H
  refine calls_enter Try.func74 rfl rfl ?_
  have H : _ = some r := H
  refine V.seq ?_
  refine V.region ?_
  refine W.ev (Y.box HS rfl) rfl rfl rfl ?_
  rintro _ w ⟨nb1, rfl, HS⟩
  refine W.nil ?_
  refine At.next ?_
  replace HS := HS.front 1 rfl
  obtain ⟨b8_2, b9_2, b10_2, a11_2, c11_2, d11_2, a12_2, c12_2, hi3, HS⟩ := arq_Arq.open HS
  refine V.draw (es := [10, 16, 18, 19, 20, 21, 24]) (bl := [22, 23]) (f := [(8, Value.pointer (some ⟨b0, 0, none⟩)), (9, Value.pointer (some ⟨b0, 0, none⟩)), (10, Value.pointer (some ⟨b0, 0, none⟩)), (11, Value.pointer (some ⟨b0, 0 + 11, none⟩)), (12, Value.slice a11_2 a0.out.length c11_2), (13, Value.int .i64 a1), (14, Value.int .i64 (a1.fdiv (2 ^ (min (8 : Int).toNat IntKind.i64.bits)))), (15, Value.int .u8 (IntKind.u8.wrap (a1.fdiv (2 ^ (min (8 : Int).toNat IntKind.i64.bits))))), (16, Value.int .i64 a1), (17, Value.int .u8 (IntKind.u8.wrap a1)), (19, Value.agg #[Value.int .i64 a2.Kind, Value.int .i64 a2.Ns, Value.int .i64 a2.Nr, Value.bool a2.Poll]), (20, Value.pointer (some ⟨b0, 0, none⟩)), (21, Value.pointer (some ⟨b0, 0, none⟩)), (22, Value.pointer (some ⟨b0, 0 + 0, none⟩)), (23, Value.int .i64 a0.m), (25, Value.slice sa3 a3.length sc3)]) (fun w => Sep.St [blk b0 (#[Value.int .i64 a0.m, Value.int .i64 a0.t1, Value.int .i64 a0.n2, Value.int .i64 a0.size, Value.int .i64 a0.state, Value.int .i64 a0.tag, Value.int .i64 a0.tries, Value.bool a0.rejected, Value.pointer (some ⟨b8_2, 0, none⟩), Value.pointer (some ⟨b9_2, 0, none⟩), Value.pointer (some ⟨b10_2, 0, none⟩), Value.slice a11_2 a0.out.length c11_2, Value.slice a12_2 a0.inds.length c12_2, Value.int .i64 a0.sent, Value.int .i64 a0.acked, Value.int .i64 a0.lost]) 82, backlog_Log.at b8_2 a0.log, reorder_Order.at b9_2 a0.order, clock_Set.at b10_2 a0.timers, row 39 1 (.slice a11_2 a0.out.length c11_2) a0.out.length d11_2, tie (El.sl (El.int .u8)) d11_2 a0.out, row 3 1 (.slice a12_2 a0.inds.length c12_2) a0.inds.length (a0.inds.map (Value.int .i64)), blk nb1 (#[Value.int .i64 a2.Kind, Value.int .i64 a2.Ns, Value.int .i64 a2.Nr, Value.bool a2.Poll]) 42, fsl 1 (.slice sa3 a3.length sc3) a3.length (a3.map (Value.int .u8)), R] w0 w) mo HS.drew rfl ?_
  refine T.two rfl rfl ⟨.m1 0 rfl (.l rfl rfl) (fun w HS => X.move rfl) rfl rfl rfl rfl rfl, .m1 0 rfl (.l rfl rfl) (fun w HS => X.move rfl) rfl rfl rfl rfl rfl, .m1 9 rfl (.r rfl rfl) (fun w HS => X.nilCheck rfl) rfl rfl rfl rfl rfl, .m1 10 rfl (.r rfl rfl) (fun w HS => X.fieldAddr 11 fo82_11 rfl) rfl rfl rfl rfl rfl, .m1 11 rfl (.r rfl rfl) (fun w HS => X.loadAt 0 HS rfl Try.underlying30 rfl rfl rfl) rfl rfl rfl rfl rfl, .m1 1 rfl (.l rfl rfl) (fun w HS => X.move rfl) rfl rfl rfl rfl rfl, .m1 13 rfl (.r rfl rfl) (fun w HS => X.shr rfl rfl (by decide)) rfl rfl rfl rfl rfl, .m1 14 rfl (.r rfl rfl) (fun w HS => X.conv Try.underlying3 Try.underlying5 rfl) rfl rfl rfl rfl rfl, .m1 1 rfl (.l rfl rfl) (fun w HS => X.move rfl) rfl rfl rfl rfl rfl, .m1 16 rfl (.r rfl rfl) (fun w HS => X.conv Try.underlying3 Try.underlying5 rfl) rfl rfl rfl rfl rfl, .m1 6 rfl (.l rfl rfl) (fun w HS => X.loadSt 7 [Value.int .i64 a2.Kind, Value.int .i64 a2.Ns, Value.int .i64 a2.Nr, Value.bool a2.Poll] HS rfl Try.underlying42 rfl inf42 rfl rfl) rfl rfl rfl rfl rfl, .m1 0 rfl (.l rfl rfl) (fun w HS => X.move rfl) rfl rfl rfl rfl rfl, .m1 20 rfl (.r rfl rfl) (fun w HS => X.nilCheck rfl) rfl rfl rfl rfl rfl, .m1 21 rfl (.r rfl rfl) (fun w HS => X.fieldAddr 0 fo82_0 rfl) rfl rfl rfl rfl rfl, .m1 22 rfl (.r rfl rfl) (fun w HS => X.loadAt 0 HS rfl Try.underlying3 rfl rfl rfl) rfl rfl rfl rfl rfl, .m1 3 rfl (.l rfl rfl) (fun w HS => X.move rfl) rfl rfl rfl rfl rfl, trivial⟩ (T.step (es := [16, 18, 19, 20, 21, 24]) _ [(15, Value.int .u8 (IntKind.u8.wrap (a1.fdiv (2 ^ (min (8 : Int).toNat IntKind.i64.bits))))), (17, Value.int .u8 (IntKind.u8.wrap a1))] rfl ⟨.inr ⟨rfl, rfl⟩, ⟨.inr ⟨rfl, rfl⟩, trivial⟩⟩ (Or.inl rfl) (by intro d hd; cases hd; exact ⟨by decide, rfl, rfl⟩) [22, 23] [5, 6, 7, 8, 9] rfl rfl rfl rfl rfl (fun w HS => ?_)) (T.step (es := [10, 18, 19, 20, 21, 24]) _ [(19, Value.agg #[Value.int .i64 a2.Kind, Value.int .i64 a2.Ns, Value.int .i64 a2.Nr, Value.bool a2.Poll]), (23, Value.int .i64 a0.m)] rfl ⟨.inr ⟨rfl, rfl⟩, ⟨.inr ⟨rfl, rfl⟩, trivial⟩⟩ (Or.inl rfl) (by intro d hd; cases hd; exact ⟨by decide, rfl, rfl⟩) [22, 23] [11, 12, 13, 14, 15] rfl rfl rfl rfl rfl (fun w HS => ?_))
  · have HS : Sep.St [blk b0 (#[Value.int .i64 a0.m, Value.int .i64 a0.t1, Value.int .i64 a0.n2, Value.int .i64 a0.size, Value.int .i64 a0.state, Value.int .i64 a0.tag, Value.int .i64 a0.tries, Value.bool a0.rejected, Value.pointer (some ⟨b8_2, 0, none⟩), Value.pointer (some ⟨b9_2, 0, none⟩), Value.pointer (some ⟨b10_2, 0, none⟩), Value.slice a11_2 a0.out.length c11_2, Value.slice a12_2 a0.inds.length c12_2, Value.int .i64 a0.sent, Value.int .i64 a0.acked, Value.int .i64 a0.lost]) 82, backlog_Log.at b8_2 a0.log, reorder_Order.at b9_2 a0.order, clock_Set.at b10_2 a0.timers, row 39 1 (.slice a11_2 a0.out.length c11_2) a0.out.length d11_2, tie (El.sl (El.int .u8)) d11_2 a0.out, row 3 1 (.slice a12_2 a0.inds.length c12_2) a0.inds.length (a0.inds.map (Value.int .i64)), blk nb1 (#[Value.int .i64 a2.Kind, Value.int .i64 a2.Ns, Value.int .i64 a2.Nr, Value.bool a2.Poll]) 42, fsl 1 (.slice sa3 a3.length sc3) a3.length (a3.map (Value.int .u8)), R] w0 w := HS
    refine ⟨_, Y.litB (e := 5) (sz := 1) (vs := #[(0, Value.int .u8 (IntKind.u8.wrap (a1.fdiv (2 ^ (min (8 : Int).toNat IntKind.i64.bits))))), (1, Value.int .u8 (IntKind.u8.wrap a1))]) [Value.int .u8 (IntKind.u8.wrap (a1.fdiv (2 ^ (min (8 : Int).toNat IntKind.i64.bits)))), Value.int .u8 (IntKind.u8.wrap a1)] HS (fun a ha => by simp only [List.map_toArray, List.map_cons, List.map_nil]; rw [ha.ev (x := .tmp 15) (v := Value.int .u8 (IntKind.u8.wrap (a1.fdiv (2 ^ (min (8 : Int).toNat IntKind.i64.bits))))) rfl]; rw [ha.ev (x := .tmp 17) (v := Value.int .u8 (IntKind.u8.wrap a1)) rfl]; try rfl) rfl (by decide) (fun _ => by kernel_rfl), ?_⟩
    rintro _ w ⟨lb6, rfl, HS⟩
    have HS : Sep.St [row 5 1 (.slice (some ⟨lb6, 0, none⟩) (([IntKind.u8.wrap (a1.fdiv (2 ^ (min (8 : Int).toNat IntKind.i64.bits))), IntKind.u8.wrap a1] : List Int)).length 2) (([IntKind.u8.wrap (a1.fdiv (2 ^ (min (8 : Int).toNat IntKind.i64.bits))), IntKind.u8.wrap a1] : List Int)).length ((([IntKind.u8.wrap (a1.fdiv (2 ^ (min (8 : Int).toNat IntKind.i64.bits))), IntKind.u8.wrap a1] : List Int)).map (Value.int .u8)), blk b0 (#[Value.int .i64 a0.m, Value.int .i64 a0.t1, Value.int .i64 a0.n2, Value.int .i64 a0.size, Value.int .i64 a0.state, Value.int .i64 a0.tag, Value.int .i64 a0.tries, Value.bool a0.rejected, Value.pointer (some ⟨b8_2, 0, none⟩), Value.pointer (some ⟨b9_2, 0, none⟩), Value.pointer (some ⟨b10_2, 0, none⟩), Value.slice a11_2 a0.out.length c11_2, Value.slice a12_2 a0.inds.length c12_2, Value.int .i64 a0.sent, Value.int .i64 a0.acked, Value.int .i64 a0.lost]) 82, backlog_Log.at b8_2 a0.log, reorder_Order.at b9_2 a0.order, clock_Set.at b10_2 a0.timers, row 39 1 (.slice a11_2 a0.out.length c11_2) a0.out.length d11_2, tie (El.sl (El.int .u8)) d11_2 a0.out, row 3 1 (.slice a12_2 a0.inds.length c12_2) a0.inds.length (a0.inds.map (Value.int .i64)), blk nb1 (#[Value.int .i64 a2.Kind, Value.int .i64 a2.Ns, Value.int .i64 a2.Nr, Value.bool a2.Poll]) 42, fsl 1 (.slice sa3 a3.length sc3) a3.length (a3.map (Value.int .u8)), R] w0 w := HS
    refine ⟨[(18, Value.slice (some ⟨lb6, 0, none⟩) (([IntKind.u8.wrap (a1.fdiv (2 ^ (min (8 : Int).toNat IntKind.i64.bits))), IntKind.u8.wrap a1] : List Int)).length 2)], _, ⟨.inl ⟨rfl, rfl⟩, trivial⟩, ?_, HS⟩
    refine T.event _ [(19, Value.agg #[Value.int .i64 a2.Kind, Value.int .i64 a2.Ns, Value.int .i64 a2.Nr, Value.bool a2.Poll]), (23, Value.int .i64 a0.m)] rfl rfl ⟨.m1 0 rfl (.l rfl rfl) (fun w HS => X.move rfl) rfl rfl rfl rfl rfl, .m1 0 rfl (.l rfl rfl) (fun w HS => X.move rfl) rfl rfl rfl rfl rfl, .m1 9 rfl (.r rfl rfl) (fun w HS => X.nilCheck rfl) rfl rfl rfl rfl rfl, .m1 10 rfl (.r rfl rfl) (fun w HS => X.fieldAddr 11 fo82_11 rfl) rfl rfl rfl rfl rfl, .m1 11 rfl (.r rfl rfl) (fun w HS => X.loadAt 1 HS rfl Try.underlying30 rfl rfl rfl) rfl rfl rfl rfl rfl, .m1 6 rfl (.l rfl rfl) (fun w HS => X.loadSt 8 [Value.int .i64 a2.Kind, Value.int .i64 a2.Ns, Value.int .i64 a2.Nr, Value.bool a2.Poll] HS rfl Try.underlying42 rfl inf42 rfl rfl) rfl rfl rfl rfl rfl, .m1 0 rfl (.l rfl rfl) (fun w HS => X.move rfl) rfl rfl rfl rfl rfl, .m1 20 rfl (.r rfl rfl) (fun w HS => X.nilCheck rfl) rfl rfl rfl rfl rfl, .m1 21 rfl (.r rfl rfl) (fun w HS => X.fieldAddr 0 fo82_0 rfl) rfl rfl rfl rfl rfl, .m1 22 rfl (.r rfl rfl) (fun w HS => X.loadAt 1 HS rfl Try.underlying3 rfl rfl rfl) rfl rfl rfl rfl rfl, .m1 3 rfl (.l rfl rfl) (fun w HS => X.move rfl) rfl rfl rfl rfl rfl, trivial⟩ rfl ⟨.inr ⟨rfl, rfl⟩, ⟨.inr ⟨rfl, rfl⟩, trivial⟩⟩ (Or.inl rfl) (by intro d hd; cases hd; exact ⟨by decide, rfl, rfl⟩) [22, 23] [11, 12, 13, 14, 15] rfl rfl (fun w HS => ?_)
    obtain ⟨t7, A8, H⟩ := bind_s H
    refine ⟨_, Y.call Try.func97 (by kernel_rfl) rfl (vs := [Value.agg #[Value.int .i64 a2.Kind, Value.int .i64 a2.Ns, Value.int .i64 a2.Nr, Value.bool a2.Poll], Value.int .i64 a0.m]) rfl (control_Bytes.calls a2 a0.m _ w0 _  t7  A8 (Sep.St.tailJoin (m := []) (r := [row 5 1 (.slice (some ⟨lb6, 0, none⟩) (([IntKind.u8.wrap (a1.fdiv (2 ^ (min (8 : Int).toNat IntKind.i64.bits))), IntKind.u8.wrap a1] : List Int)).length 2) (([IntKind.u8.wrap (a1.fdiv (2 ^ (min (8 : Int).toNat IntKind.i64.bits))), IntKind.u8.wrap a1] : List Int)).length ((([IntKind.u8.wrap (a1.fdiv (2 ^ (min (8 : Int).toNat IntKind.i64.bits))), IntKind.u8.wrap a1] : List Int)).map (Value.int .u8)), blk b0 (#[Value.int .i64 a0.m, Value.int .i64 a0.t1, Value.int .i64 a0.n2, Value.int .i64 a0.size, Value.int .i64 a0.state, Value.int .i64 a0.tag, Value.int .i64 a0.tries, Value.bool a0.rejected, Value.pointer (some ⟨b8_2, 0, none⟩), Value.pointer (some ⟨b9_2, 0, none⟩), Value.pointer (some ⟨b10_2, 0, none⟩), Value.slice a11_2 a0.out.length c11_2, Value.slice a12_2 a0.inds.length c12_2, Value.int .i64 a0.sent, Value.int .i64 a0.acked, Value.int .i64 a0.lost]) 82, backlog_Log.at b8_2 a0.log, reorder_Order.at b9_2 a0.order, clock_Set.at b10_2 a0.timers, row 39 1 (.slice a11_2 a0.out.length c11_2) a0.out.length d11_2, tie (El.sl (El.int .u8)) d11_2 a0.out, row 3 1 (.slice a12_2 a0.inds.length c12_2) a0.inds.length (a0.inds.map (Value.int .i64)), blk nb1 (#[Value.int .i64 a2.Kind, Value.int .i64 a2.Ns, Value.int .i64 a2.Nr, Value.bool a2.Poll]) 42, fsl 1 (.slice sa3 a3.length sc3) a3.length (a3.map (Value.int .u8)), R]) HS)), ?_⟩
    rintro _ w ⟨at7_0, ct7_0, rfl, HS⟩
    replace HS := Sep.St.tailOpen (m := [row 5 1 (.slice at7_0 t7.length ct7_0) t7.length (t7.map (Value.int .u8))]) (r := [row 5 1 (.slice (some ⟨lb6, 0, none⟩) (([IntKind.u8.wrap (a1.fdiv (2 ^ (min (8 : Int).toNat IntKind.i64.bits))), IntKind.u8.wrap a1] : List Int)).length 2) (([IntKind.u8.wrap (a1.fdiv (2 ^ (min (8 : Int).toNat IntKind.i64.bits))), IntKind.u8.wrap a1] : List Int)).length ((([IntKind.u8.wrap (a1.fdiv (2 ^ (min (8 : Int).toNat IntKind.i64.bits))), IntKind.u8.wrap a1] : List Int)).map (Value.int .u8)), blk b0 (#[Value.int .i64 a0.m, Value.int .i64 a0.t1, Value.int .i64 a0.n2, Value.int .i64 a0.size, Value.int .i64 a0.state, Value.int .i64 a0.tag, Value.int .i64 a0.tries, Value.bool a0.rejected, Value.pointer (some ⟨b8_2, 0, none⟩), Value.pointer (some ⟨b9_2, 0, none⟩), Value.pointer (some ⟨b10_2, 0, none⟩), Value.slice a11_2 a0.out.length c11_2, Value.slice a12_2 a0.inds.length c12_2, Value.int .i64 a0.sent, Value.int .i64 a0.acked, Value.int .i64 a0.lost]) 82, backlog_Log.at b8_2 a0.log, reorder_Order.at b9_2 a0.order, clock_Set.at b10_2 a0.timers, row 39 1 (.slice a11_2 a0.out.length c11_2) a0.out.length d11_2, tie (El.sl (El.int .u8)) d11_2 a0.out, row 3 1 (.slice a12_2 a0.inds.length c12_2) a0.inds.length (a0.inds.map (Value.int .i64)), blk nb1 (#[Value.int .i64 a2.Kind, Value.int .i64 a2.Ns, Value.int .i64 a2.Nr, Value.bool a2.Poll]) 42, fsl 1 (.slice sa3 a3.length sc3) a3.length (a3.map (Value.int .u8)), R]) HS
    refine ⟨[(24, Value.slice at7_0 t7.length ct7_0)], _, ⟨.inl ⟨rfl, rfl⟩, trivial⟩, ?_, HS⟩
    refine T.event _ [(18, Value.slice (some ⟨lb6, 0, none⟩) (([IntKind.u8.wrap (a1.fdiv (2 ^ (min (8 : Int).toNat IntKind.i64.bits))), IntKind.u8.wrap a1] : List Int)).length 2), (24, Value.slice at7_0 t7.length ct7_0), (25, Value.slice sa3 a3.length sc3)] rfl rfl ⟨.m1 0 rfl (.l rfl rfl) (fun w HS => X.move rfl) rfl rfl rfl rfl rfl, .m1 0 rfl (.l rfl rfl) (fun w HS => X.move rfl) rfl rfl rfl rfl rfl, .m1 9 rfl (.r rfl rfl) (fun w HS => X.nilCheck rfl) rfl rfl rfl rfl rfl, .m1 10 rfl (.r rfl rfl) (fun w HS => X.fieldAddr 11 fo82_11 rfl) rfl rfl rfl rfl rfl, .m1 11 rfl (.r rfl rfl) (fun w HS => X.loadAt 2 HS rfl Try.underlying30 rfl rfl rfl) rfl rfl rfl rfl rfl, .m1 3 rfl (.l rfl rfl) (fun w HS => X.move rfl) rfl rfl rfl rfl rfl, trivial⟩ rfl ⟨.inr ⟨rfl, rfl⟩, ⟨.inr ⟨rfl, rfl⟩, ⟨.inr ⟨rfl, rfl⟩, trivial⟩⟩⟩ (Or.inl rfl) (by intro d hd; cases hd; exact ⟨by decide, rfl, rfl⟩) [22, 23] [17] rfl rfl (fun w HS => ?_)
    replace HS := HS.front 1 rfl
    replace HS := St.row_freeze HS
    replace HS := HS.front 1 rfl
    replace HS := St.row_freeze HS
    refine ⟨_, Y.litB (e := 39) (sz := 1) (vs := #[(0, Value.slice (some ⟨lb6, 0, none⟩) (([IntKind.u8.wrap (a1.fdiv (2 ^ (min (8 : Int).toNat IntKind.i64.bits))), IntKind.u8.wrap a1] : List Int)).length 2), (1, Value.slice at7_0 t7.length ct7_0), (2, Value.slice sa3 a3.length sc3)]) [Value.slice (some ⟨lb6, 0, none⟩) (([IntKind.u8.wrap (a1.fdiv (2 ^ (min (8 : Int).toNat IntKind.i64.bits))), IntKind.u8.wrap a1] : List Int)).length 2, Value.slice at7_0 t7.length ct7_0, Value.slice sa3 a3.length sc3] HS (fun a ha => by simp only [List.map_toArray, List.map_cons, List.map_nil]; rw [ha.ev (x := .tmp 18) (v := Value.slice (some ⟨lb6, 0, none⟩) (([IntKind.u8.wrap (a1.fdiv (2 ^ (min (8 : Int).toNat IntKind.i64.bits))), IntKind.u8.wrap a1] : List Int)).length 2) rfl]; rw [ha.ev (x := .tmp 24) (v := Value.slice at7_0 t7.length ct7_0) rfl]; rw [ha.ev (x := .tmp 25) (v := Value.slice sa3 a3.length sc3) rfl]; try rfl) rfl (by decide) (fun _ => by kernel_rfl), ?_⟩
    rintro _ w ⟨lb9, rfl, HS⟩
    have HS : Sep.St [row 39 1 (.slice (some ⟨lb9, 0, none⟩) (([([IntKind.u8.wrap (a1.fdiv (2 ^ (min (8 : Int).toNat IntKind.i64.bits))), IntKind.u8.wrap a1] : List Int), t7, a3] : List (List Int))).length 3) (([([IntKind.u8.wrap (a1.fdiv (2 ^ (min (8 : Int).toNat IntKind.i64.bits))), IntKind.u8.wrap a1] : List Int), t7, a3] : List (List Int))).length ([Value.slice (some ⟨lb6, 0, none⟩) (([IntKind.u8.wrap (a1.fdiv (2 ^ (min (8 : Int).toNat IntKind.i64.bits))), IntKind.u8.wrap a1] : List Int)).length 2, Value.slice at7_0 t7.length ct7_0, Value.slice sa3 a3.length sc3]), fsl 1 (.slice at7_0 t7.length ct7_0) t7.length (t7.map (Value.int .u8)), fsl 1 (.slice (some ⟨lb6, 0, none⟩) (([IntKind.u8.wrap (a1.fdiv (2 ^ (min (8 : Int).toNat IntKind.i64.bits))), IntKind.u8.wrap a1] : List Int)).length 2) (([IntKind.u8.wrap (a1.fdiv (2 ^ (min (8 : Int).toNat IntKind.i64.bits))), IntKind.u8.wrap a1] : List Int)).length ((([IntKind.u8.wrap (a1.fdiv (2 ^ (min (8 : Int).toNat IntKind.i64.bits))), IntKind.u8.wrap a1] : List Int)).map (Value.int .u8)), blk b0 (#[Value.int .i64 a0.m, Value.int .i64 a0.t1, Value.int .i64 a0.n2, Value.int .i64 a0.size, Value.int .i64 a0.state, Value.int .i64 a0.tag, Value.int .i64 a0.tries, Value.bool a0.rejected, Value.pointer (some ⟨b8_2, 0, none⟩), Value.pointer (some ⟨b9_2, 0, none⟩), Value.pointer (some ⟨b10_2, 0, none⟩), Value.slice a11_2 a0.out.length c11_2, Value.slice a12_2 a0.inds.length c12_2, Value.int .i64 a0.sent, Value.int .i64 a0.acked, Value.int .i64 a0.lost]) 82, backlog_Log.at b8_2 a0.log, reorder_Order.at b9_2 a0.order, clock_Set.at b10_2 a0.timers, row 39 1 (.slice a11_2 a0.out.length c11_2) a0.out.length d11_2, tie (El.sl (El.int .u8)) d11_2 a0.out, row 3 1 (.slice a12_2 a0.inds.length c12_2) a0.inds.length (a0.inds.map (Value.int .i64)), blk nb1 (#[Value.int .i64 a2.Kind, Value.int .i64 a2.Ns, Value.int .i64 a2.Nr, Value.bool a2.Poll]) 42, fsl 1 (.slice sa3 a3.length sc3) a3.length (a3.map (Value.int .u8)), R] w0 w := HS
    replace HS := St.put (A := tie (El.sl (El.int .u8)) ([]) (([] : List (List Int)))) (fun _ => tie.nil) HS
    replace HS := HS.more 12 rfl (fun _ t => t) fsl.pers
    replace HS := St.put (A := tie (El.int .u8) (a3.map (Value.int .u8)) a3) (fun _ => int_tie) HS
    replace HS := St.swap HS
    replace HS := St.sl_close (E := (El.int .u8)) HS
    replace HS := HS.front 1 rfl
    replace HS := HS.front 1 rfl
    replace HS := St.tie_cons HS
    replace HS := HS.more 2 rfl (fun _ t => t) fsl.pers
    replace HS := St.put (A := tie (El.int .u8) (t7.map (Value.int .u8)) t7) (fun _ => int_tie) HS
    replace HS := St.swap HS
    replace HS := St.sl_close (E := (El.int .u8)) HS
    replace HS := HS.front 1 rfl
    replace HS := HS.front 1 rfl
    replace HS := St.tie_cons HS
    replace HS := HS.more 3 rfl (fun _ t => t) fsl.pers
    replace HS := St.put (A := tie (El.int .u8) ((([IntKind.u8.wrap (a1.fdiv (2 ^ (min (8 : Int).toNat IntKind.i64.bits))), IntKind.u8.wrap a1] : List Int)).map (Value.int .u8)) (([IntKind.u8.wrap (a1.fdiv (2 ^ (min (8 : Int).toNat IntKind.i64.bits))), IntKind.u8.wrap a1] : List Int))) (fun _ => int_tie) HS
    replace HS := St.swap HS
    replace HS := St.sl_close (E := (El.int .u8)) HS
    replace HS := HS.front 1 rfl
    replace HS := HS.front 1 rfl
    replace HS := St.tie_cons HS
    refine ⟨[(26, Value.slice (some ⟨lb9, 0, none⟩) (([([IntKind.u8.wrap (a1.fdiv (2 ^ (min (8 : Int).toNat IntKind.i64.bits))), IntKind.u8.wrap a1] : List Int), t7, a3] : List (List Int))).length 3)], _, ⟨.inl ⟨rfl, rfl⟩, trivial⟩, ?_, HS⟩
    refine T.event _ [(26, Value.slice (some ⟨lb9, 0, none⟩) (([([IntKind.u8.wrap (a1.fdiv (2 ^ (min (8 : Int).toNat IntKind.i64.bits))), IntKind.u8.wrap a1] : List Int), t7, a3] : List (List Int))).length 3)] rfl rfl ⟨.m1 0 rfl (.l rfl rfl) (fun w HS => X.move rfl) rfl rfl rfl rfl rfl, .m1 0 rfl (.l rfl rfl) (fun w HS => X.move rfl) rfl rfl rfl rfl rfl, .m1 9 rfl (.r rfl rfl) (fun w HS => X.nilCheck rfl) rfl rfl rfl rfl rfl, .m1 10 rfl (.r rfl rfl) (fun w HS => X.fieldAddr 11 fo82_11 rfl) rfl rfl rfl rfl rfl, .m1 11 rfl (.r rfl rfl) (fun w HS => X.loadAt 4 HS rfl Try.underlying30 rfl rfl rfl) rfl rfl rfl rfl rfl, trivial⟩ rfl ⟨.inr ⟨rfl, rfl⟩, trivial⟩ (Or.inl rfl) (by intro d hd; cases hd; exact ⟨by decide, rfl, rfl⟩) [22, 23] [] rfl rfl (fun w HS => ?_)
    obtain ⟨t12, A13, H⟩ := bind_s H
    refine ⟨_, Y.call Try.func96 (by kernel_rfl) rfl (vs := [Value.slice (some ⟨lb9, 0, none⟩) (([([IntKind.u8.wrap (a1.fdiv (2 ^ (min (8 : Int).toNat IntKind.i64.bits))), IntKind.u8.wrap a1] : List Int), t7, a3] : List (List Int))).length 3]) rfl (slices_Concat_Sbytebyte.calls k ([([IntKind.u8.wrap (a1.fdiv (2 ^ (min (8 : Int).toNat IntKind.i64.bits))), IntKind.u8.wrap a1] : List Int), t7, a3] : List (List Int)) _ w0 _ (some ⟨lb9, 0, none⟩) 3 ([Value.slice (some ⟨lb6, 0, none⟩) (([IntKind.u8.wrap (a1.fdiv (2 ^ (min (8 : Int).toNat IntKind.i64.bits))), IntKind.u8.wrap a1] : List Int)).length 2, Value.slice at7_0 t7.length ct7_0, Value.slice sa3 a3.length sc3]) t12 (rdC.part 1 row_rd rfl) (fun h hh => let ⟨_, l, t⟩ := Sp.has 0 hh rfl; tie.mono t l) A13 (Sep.St.tailJoin (m := []) (r := [tie (El.sl (El.int .u8)) ([Value.slice (some ⟨lb6, 0, none⟩) (([IntKind.u8.wrap (a1.fdiv (2 ^ (min (8 : Int).toNat IntKind.i64.bits))), IntKind.u8.wrap a1] : List Int)).length 2, Value.slice at7_0 t7.length ct7_0, Value.slice sa3 a3.length sc3]) (([([IntKind.u8.wrap (a1.fdiv (2 ^ (min (8 : Int).toNat IntKind.i64.bits))), IntKind.u8.wrap a1] : List Int), t7, a3] : List (List Int))), row 39 1 (.slice (some ⟨lb9, 0, none⟩) (([([IntKind.u8.wrap (a1.fdiv (2 ^ (min (8 : Int).toNat IntKind.i64.bits))), IntKind.u8.wrap a1] : List Int), t7, a3] : List (List Int))).length 3) (([([IntKind.u8.wrap (a1.fdiv (2 ^ (min (8 : Int).toNat IntKind.i64.bits))), IntKind.u8.wrap a1] : List Int), t7, a3] : List (List Int))).length ([Value.slice (some ⟨lb6, 0, none⟩) (([IntKind.u8.wrap (a1.fdiv (2 ^ (min (8 : Int).toNat IntKind.i64.bits))), IntKind.u8.wrap a1] : List Int)).length 2, Value.slice at7_0 t7.length ct7_0, Value.slice sa3 a3.length sc3]), fsl 1 (.slice at7_0 t7.length ct7_0) t7.length (t7.map (Value.int .u8)), fsl 1 (.slice (some ⟨lb6, 0, none⟩) (([IntKind.u8.wrap (a1.fdiv (2 ^ (min (8 : Int).toNat IntKind.i64.bits))), IntKind.u8.wrap a1] : List Int)).length 2) (([IntKind.u8.wrap (a1.fdiv (2 ^ (min (8 : Int).toNat IntKind.i64.bits))), IntKind.u8.wrap a1] : List Int)).length ((([IntKind.u8.wrap (a1.fdiv (2 ^ (min (8 : Int).toNat IntKind.i64.bits))), IntKind.u8.wrap a1] : List Int)).map (Value.int .u8)), blk b0 (#[Value.int .i64 a0.m, Value.int .i64 a0.t1, Value.int .i64 a0.n2, Value.int .i64 a0.size, Value.int .i64 a0.state, Value.int .i64 a0.tag, Value.int .i64 a0.tries, Value.bool a0.rejected, Value.pointer (some ⟨b8_2, 0, none⟩), Value.pointer (some ⟨b9_2, 0, none⟩), Value.pointer (some ⟨b10_2, 0, none⟩), Value.slice a11_2 a0.out.length c11_2, Value.slice a12_2 a0.inds.length c12_2, Value.int .i64 a0.sent, Value.int .i64 a0.acked, Value.int .i64 a0.lost]) 82, backlog_Log.at b8_2 a0.log, reorder_Order.at b9_2 a0.order, clock_Set.at b10_2 a0.timers, row 39 1 (.slice a11_2 a0.out.length c11_2) a0.out.length d11_2, tie (El.sl (El.int .u8)) d11_2 a0.out, row 3 1 (.slice a12_2 a0.inds.length c12_2) a0.inds.length (a0.inds.map (Value.int .i64)), blk nb1 (#[Value.int .i64 a2.Kind, Value.int .i64 a2.Ns, Value.int .i64 a2.Nr, Value.bool a2.Poll]) 42, fsl 1 (.slice sa3 a3.length sc3) a3.length (a3.map (Value.int .u8)), R]) HS)), ?_⟩
    rintro _ w ⟨at12_0, ct12_0, rfl, HS⟩
    replace HS := Sep.St.tailOpen (m := [row 5 1 (.slice at12_0 t12.length ct12_0) t12.length (t12.map (Value.int .u8))]) (r := [tie (El.sl (El.int .u8)) ([Value.slice (some ⟨lb6, 0, none⟩) (([IntKind.u8.wrap (a1.fdiv (2 ^ (min (8 : Int).toNat IntKind.i64.bits))), IntKind.u8.wrap a1] : List Int)).length 2, Value.slice at7_0 t7.length ct7_0, Value.slice sa3 a3.length sc3]) (([([IntKind.u8.wrap (a1.fdiv (2 ^ (min (8 : Int).toNat IntKind.i64.bits))), IntKind.u8.wrap a1] : List Int), t7, a3] : List (List Int))), row 39 1 (.slice (some ⟨lb9, 0, none⟩) (([([IntKind.u8.wrap (a1.fdiv (2 ^ (min (8 : Int).toNat IntKind.i64.bits))), IntKind.u8.wrap a1] : List Int), t7, a3] : List (List Int))).length 3) (([([IntKind.u8.wrap (a1.fdiv (2 ^ (min (8 : Int).toNat IntKind.i64.bits))), IntKind.u8.wrap a1] : List Int), t7, a3] : List (List Int))).length ([Value.slice (some ⟨lb6, 0, none⟩) (([IntKind.u8.wrap (a1.fdiv (2 ^ (min (8 : Int).toNat IntKind.i64.bits))), IntKind.u8.wrap a1] : List Int)).length 2, Value.slice at7_0 t7.length ct7_0, Value.slice sa3 a3.length sc3]), fsl 1 (.slice at7_0 t7.length ct7_0) t7.length (t7.map (Value.int .u8)), fsl 1 (.slice (some ⟨lb6, 0, none⟩) (([IntKind.u8.wrap (a1.fdiv (2 ^ (min (8 : Int).toNat IntKind.i64.bits))), IntKind.u8.wrap a1] : List Int)).length 2) (([IntKind.u8.wrap (a1.fdiv (2 ^ (min (8 : Int).toNat IntKind.i64.bits))), IntKind.u8.wrap a1] : List Int)).length ((([IntKind.u8.wrap (a1.fdiv (2 ^ (min (8 : Int).toNat IntKind.i64.bits))), IntKind.u8.wrap a1] : List Int)).map (Value.int .u8)), blk b0 (#[Value.int .i64 a0.m, Value.int .i64 a0.t1, Value.int .i64 a0.n2, Value.int .i64 a0.size, Value.int .i64 a0.state, Value.int .i64 a0.tag, Value.int .i64 a0.tries, Value.bool a0.rejected, Value.pointer (some ⟨b8_2, 0, none⟩), Value.pointer (some ⟨b9_2, 0, none⟩), Value.pointer (some ⟨b10_2, 0, none⟩), Value.slice a11_2 a0.out.length c11_2, Value.slice a12_2 a0.inds.length c12_2, Value.int .i64 a0.sent, Value.int .i64 a0.acked, Value.int .i64 a0.lost]) 82, backlog_Log.at b8_2 a0.log, reorder_Order.at b9_2 a0.order, clock_Set.at b10_2 a0.timers, row 39 1 (.slice a11_2 a0.out.length c11_2) a0.out.length d11_2, tie (El.sl (El.int .u8)) d11_2 a0.out, row 3 1 (.slice a12_2 a0.inds.length c12_2) a0.inds.length (a0.inds.map (Value.int .i64)), blk nb1 (#[Value.int .i64 a2.Kind, Value.int .i64 a2.Ns, Value.int .i64 a2.Nr, Value.bool a2.Poll]) 42, fsl 1 (.slice sa3 a3.length sc3) a3.length (a3.map (Value.int .u8)), R]) HS
    refine ⟨[(27, Value.slice at12_0 t12.length ct12_0)], _, ⟨.inl ⟨rfl, rfl⟩, trivial⟩, ?_, HS⟩
    refine T.event _ [(27, Value.slice at12_0 t12.length ct12_0)] rfl rfl ⟨.m1 0 rfl (.l rfl rfl) (fun w HS => X.move rfl) rfl rfl rfl rfl rfl, .m1 0 rfl (.l rfl rfl) (fun w HS => X.move rfl) rfl rfl rfl rfl rfl, .m1 9 rfl (.r rfl rfl) (fun w HS => X.nilCheck rfl) rfl rfl rfl rfl rfl, .m1 10 rfl (.r rfl rfl) (fun w HS => X.fieldAddr 11 fo82_11 rfl) rfl rfl rfl rfl rfl, .m1 11 rfl (.r rfl rfl) (fun w HS => X.loadAt 5 HS rfl Try.underlying30 rfl rfl rfl) rfl rfl rfl rfl rfl, trivial⟩ rfl ⟨.inr ⟨rfl, rfl⟩, trivial⟩ (Or.inl rfl) (by intro d hd; cases hd; exact ⟨by decide, rfl, rfl⟩) [22, 23] [] rfl rfl (fun w HS => ?_)
    replace HS := St.row_freeze HS
    refine ⟨_, Y.litB (e := 39) (sz := 1) (vs := #[(0, Value.slice at12_0 t12.length ct12_0)]) [Value.slice at12_0 t12.length ct12_0] HS (fun a ha => by simp only [List.map_toArray, List.map_cons, List.map_nil]; rw [ha.ev (x := .tmp 27) (v := Value.slice at12_0 t12.length ct12_0) rfl]; try rfl) rfl (by decide) (fun _ => by kernel_rfl), ?_⟩
    rintro _ w ⟨lb14, rfl, HS⟩
    have HS : Sep.St [row 39 1 (.slice (some ⟨lb14, 0, none⟩) (([t12] : List (List Int))).length 1) (([t12] : List (List Int))).length ([Value.slice at12_0 t12.length ct12_0]), fsl 1 (.slice at12_0 t12.length ct12_0) t12.length (t12.map (Value.int .u8)), tie (El.sl (El.int .u8)) ([Value.slice (some ⟨lb6, 0, none⟩) (([IntKind.u8.wrap (a1.fdiv (2 ^ (min (8 : Int).toNat IntKind.i64.bits))), IntKind.u8.wrap a1] : List Int)).length 2, Value.slice at7_0 t7.length ct7_0, Value.slice sa3 a3.length sc3]) (([([IntKind.u8.wrap (a1.fdiv (2 ^ (min (8 : Int).toNat IntKind.i64.bits))), IntKind.u8.wrap a1] : List Int), t7, a3] : List (List Int))), row 39 1 (.slice (some ⟨lb9, 0, none⟩) (([([IntKind.u8.wrap (a1.fdiv (2 ^ (min (8 : Int).toNat IntKind.i64.bits))), IntKind.u8.wrap a1] : List Int), t7, a3] : List (List Int))).length 3) (([([IntKind.u8.wrap (a1.fdiv (2 ^ (min (8 : Int).toNat IntKind.i64.bits))), IntKind.u8.wrap a1] : List Int), t7, a3] : List (List Int))).length ([Value.slice (some ⟨lb6, 0, none⟩) (([IntKind.u8.wrap (a1.fdiv (2 ^ (min (8 : Int).toNat IntKind.i64.bits))), IntKind.u8.wrap a1] : List Int)).length 2, Value.slice at7_0 t7.length ct7_0, Value.slice sa3 a3.length sc3]), fsl 1 (.slice at7_0 t7.length ct7_0) t7.length (t7.map (Value.int .u8)), fsl 1 (.slice (some ⟨lb6, 0, none⟩) (([IntKind.u8.wrap (a1.fdiv (2 ^ (min (8 : Int).toNat IntKind.i64.bits))), IntKind.u8.wrap a1] : List Int)).length 2) (([IntKind.u8.wrap (a1.fdiv (2 ^ (min (8 : Int).toNat IntKind.i64.bits))), IntKind.u8.wrap a1] : List Int)).length ((([IntKind.u8.wrap (a1.fdiv (2 ^ (min (8 : Int).toNat IntKind.i64.bits))), IntKind.u8.wrap a1] : List Int)).map (Value.int .u8)), blk b0 (#[Value.int .i64 a0.m, Value.int .i64 a0.t1, Value.int .i64 a0.n2, Value.int .i64 a0.size, Value.int .i64 a0.state, Value.int .i64 a0.tag, Value.int .i64 a0.tries, Value.bool a0.rejected, Value.pointer (some ⟨b8_2, 0, none⟩), Value.pointer (some ⟨b9_2, 0, none⟩), Value.pointer (some ⟨b10_2, 0, none⟩), Value.slice a11_2 a0.out.length c11_2, Value.slice a12_2 a0.inds.length c12_2, Value.int .i64 a0.sent, Value.int .i64 a0.acked, Value.int .i64 a0.lost]) 82, backlog_Log.at b8_2 a0.log, reorder_Order.at b9_2 a0.order, clock_Set.at b10_2 a0.timers, row 39 1 (.slice a11_2 a0.out.length c11_2) a0.out.length d11_2, tie (El.sl (El.int .u8)) d11_2 a0.out, row 3 1 (.slice a12_2 a0.inds.length c12_2) a0.inds.length (a0.inds.map (Value.int .i64)), blk nb1 (#[Value.int .i64 a2.Kind, Value.int .i64 a2.Ns, Value.int .i64 a2.Nr, Value.bool a2.Poll]) 42, fsl 1 (.slice sa3 a3.length sc3) a3.length (a3.map (Value.int .u8)), R] w0 w := HS
    replace HS := St.put (A := tie (El.sl (El.int .u8)) ([]) (([] : List (List Int)))) (fun _ => tie.nil) HS
    replace HS := HS.more 2 rfl (fun _ t => t) fsl.pers
    replace HS := St.put (A := tie (El.int .u8) (t12.map (Value.int .u8)) t12) (fun _ => int_tie) HS
    replace HS := St.swap HS
    replace HS := St.sl_close (E := (El.int .u8)) HS
    replace HS := HS.front 1 rfl
    replace HS := HS.front 1 rfl
    replace HS := St.tie_cons HS
    refine ⟨[(28, Value.slice (some ⟨lb14, 0, none⟩) (([t12] : List (List Int))).length 1)], _, ⟨.inl ⟨rfl, rfl⟩, trivial⟩, ?_, HS⟩
    refine T.event _ [(12, Value.slice a11_2 a0.out.length c11_2), (28, Value.slice (some ⟨lb14, 0, none⟩) (([t12] : List (List Int))).length 1)] rfl rfl ⟨.m1 0 rfl (.l rfl rfl) (fun w HS => X.move rfl) rfl rfl rfl rfl rfl, .m1 0 rfl (.l rfl rfl) (fun w HS => X.move rfl) rfl rfl rfl rfl rfl, .m1 9 rfl (.r rfl rfl) (fun w HS => X.nilCheck rfl) rfl rfl rfl rfl rfl, .m1 10 rfl (.r rfl rfl) (fun w HS => X.fieldAddr 11 fo82_11 rfl) rfl rfl rfl rfl rfl, .m1 11 rfl (.r rfl rfl) (fun w HS => X.loadAt 7 HS rfl Try.underlying30 rfl rfl rfl) rfl rfl rfl rfl rfl, trivial⟩ rfl ⟨.inr ⟨rfl, rfl⟩, ⟨.inr ⟨rfl, rfl⟩, trivial⟩⟩ (Or.inl rfl) (by intro d hd; cases hd; exact ⟨by decide, rfl, rfl⟩) [] [1, 2, 3, 4] rfl rfl (fun w HS => ?_)
    obtain ⟨c17, H⟩ := ite_n H
    refine ⟨_, Y.app (xs := a0.out) (ys := ([t12] : List (List Int))) 11 Try.underlying30 ap39 rfl (by decide) HS rfl rfl rfl (rdC.at 1 row_rd HS rfl) (St.tie_one 0 HS rfl) (by omega) (by omega), ?_⟩
    rintro _ w ⟨ra18, rc19, rfl, HS⟩
    replace HS := HS.front 12 rfl
    replace HS := St.tie_app 1 HS rfl
    refine ⟨[(29, Value.slice ra18 (a0.out ++ ([t12] : List (List Int))).length rc19), (30, Value.pointer (some ⟨b0, 0, none⟩)), (31, Value.pointer (some ⟨b0, 0 + 11, none⟩))], _, ⟨.inl ⟨rfl, rfl⟩, ⟨.inr ⟨by decide, rfl⟩, ⟨.inr ⟨by decide, rfl⟩, trivial⟩⟩⟩, ?_, HS⟩
    refine T.event _ [(29, Value.slice ra18 (a0.out ++ ([t12] : List (List Int))).length rc19), (31, Value.pointer (some ⟨b0, 0 + 11, none⟩))] rfl rfl ⟨.m1 0 rfl (.l rfl rfl) (fun w HS => X.move rfl) rfl rfl rfl rfl rfl, .m1 8 rfl (.r rfl rfl) (fun w HS => X.nilCheck rfl) rfl rfl rfl rfl rfl, .m1 30 rfl (.r rfl rfl) (fun w HS => X.fieldAddr 11 fo82_11 rfl) rfl rfl rfl rfl rfl, trivial⟩ rfl ⟨.inr ⟨rfl, rfl⟩, ⟨.inr ⟨rfl, rfl⟩, trivial⟩⟩ (Or.inl rfl) (by intro d hd; cases hd) [] [0, 22, 23] rfl rfl (fun w HS => ?_)
    refine ⟨_, Y.storeAt 8 HS rfl inf30 rfl rfl rfl rfl rfl rfl, ?_⟩
    rintro _ w HS
    refine ⟨[], _, trivial, ?_, HS⟩
    refine T.fin [] rfl trivial trivial (fun w HS => ?_)
    replace HS := HS.re [8, 9, 10, 11, 12, 0, 13, 1, 2, 3, 4, 5, 6, 7, 14, 15, 16] (by kernel_rfl)
    replace HS := arq_Arq.close (({ m := a0.m, t1 := a0.t1, n2 := a0.n2, size := a0.size, state := a0.state, tag := a0.tag, tries := a0.tries, rejected := a0.rejected, log := a0.log, order := a0.order, timers := a0.timers, out := a0.out ++ ([t12] : List (List Int)), inds := a0.inds, sent := a0.sent, acked := a0.acked, lost := a0.lost } : arq_Arq)) trivial HS
    replace HS := HS.sel [0, 10] [1, 2, 3, 4, 5, 6, 7, 8, 9] (by kernel_rfl)
    cases H
    exact At.end0 rfl ⟨_, rfl, rfl, HS⟩
  · have HS : Sep.St [blk b0 (#[Value.int .i64 a0.m, Value.int .i64 a0.t1, Value.int .i64 a0.n2, Value.int .i64 a0.size, Value.int .i64 a0.state, Value.int .i64 a0.tag, Value.int .i64 a0.tries, Value.bool a0.rejected, Value.pointer (some ⟨b8_2, 0, none⟩), Value.pointer (some ⟨b9_2, 0, none⟩), Value.pointer (some ⟨b10_2, 0, none⟩), Value.slice a11_2 a0.out.length c11_2, Value.slice a12_2 a0.inds.length c12_2, Value.int .i64 a0.sent, Value.int .i64 a0.acked, Value.int .i64 a0.lost]) 82, backlog_Log.at b8_2 a0.log, reorder_Order.at b9_2 a0.order, clock_Set.at b10_2 a0.timers, row 39 1 (.slice a11_2 a0.out.length c11_2) a0.out.length d11_2, tie (El.sl (El.int .u8)) d11_2 a0.out, row 3 1 (.slice a12_2 a0.inds.length c12_2) a0.inds.length (a0.inds.map (Value.int .i64)), blk nb1 (#[Value.int .i64 a2.Kind, Value.int .i64 a2.Ns, Value.int .i64 a2.Nr, Value.bool a2.Poll]) 42, fsl 1 (.slice sa3 a3.length sc3) a3.length (a3.map (Value.int .u8)), R] w0 w := HS
    obtain ⟨t20, A21, H⟩ := bind_s H
    refine ⟨_, Y.call Try.func97 (by kernel_rfl) rfl (vs := [Value.agg #[Value.int .i64 a2.Kind, Value.int .i64 a2.Ns, Value.int .i64 a2.Nr, Value.bool a2.Poll], Value.int .i64 a0.m]) rfl (control_Bytes.calls a2 a0.m _ w0 _  t20  A21 (Sep.St.tailJoin (m := []) (r := [blk b0 (#[Value.int .i64 a0.m, Value.int .i64 a0.t1, Value.int .i64 a0.n2, Value.int .i64 a0.size, Value.int .i64 a0.state, Value.int .i64 a0.tag, Value.int .i64 a0.tries, Value.bool a0.rejected, Value.pointer (some ⟨b8_2, 0, none⟩), Value.pointer (some ⟨b9_2, 0, none⟩), Value.pointer (some ⟨b10_2, 0, none⟩), Value.slice a11_2 a0.out.length c11_2, Value.slice a12_2 a0.inds.length c12_2, Value.int .i64 a0.sent, Value.int .i64 a0.acked, Value.int .i64 a0.lost]) 82, backlog_Log.at b8_2 a0.log, reorder_Order.at b9_2 a0.order, clock_Set.at b10_2 a0.timers, row 39 1 (.slice a11_2 a0.out.length c11_2) a0.out.length d11_2, tie (El.sl (El.int .u8)) d11_2 a0.out, row 3 1 (.slice a12_2 a0.inds.length c12_2) a0.inds.length (a0.inds.map (Value.int .i64)), blk nb1 (#[Value.int .i64 a2.Kind, Value.int .i64 a2.Ns, Value.int .i64 a2.Nr, Value.bool a2.Poll]) 42, fsl 1 (.slice sa3 a3.length sc3) a3.length (a3.map (Value.int .u8)), R]) HS)), ?_⟩
    rintro _ w ⟨at20_0, ct20_0, rfl, HS⟩
    replace HS := Sep.St.tailOpen (m := [row 5 1 (.slice at20_0 t20.length ct20_0) t20.length (t20.map (Value.int .u8))]) (r := [blk b0 (#[Value.int .i64 a0.m, Value.int .i64 a0.t1, Value.int .i64 a0.n2, Value.int .i64 a0.size, Value.int .i64 a0.state, Value.int .i64 a0.tag, Value.int .i64 a0.tries, Value.bool a0.rejected, Value.pointer (some ⟨b8_2, 0, none⟩), Value.pointer (some ⟨b9_2, 0, none⟩), Value.pointer (some ⟨b10_2, 0, none⟩), Value.slice a11_2 a0.out.length c11_2, Value.slice a12_2 a0.inds.length c12_2, Value.int .i64 a0.sent, Value.int .i64 a0.acked, Value.int .i64 a0.lost]) 82, backlog_Log.at b8_2 a0.log, reorder_Order.at b9_2 a0.order, clock_Set.at b10_2 a0.timers, row 39 1 (.slice a11_2 a0.out.length c11_2) a0.out.length d11_2, tie (El.sl (El.int .u8)) d11_2 a0.out, row 3 1 (.slice a12_2 a0.inds.length c12_2) a0.inds.length (a0.inds.map (Value.int .i64)), blk nb1 (#[Value.int .i64 a2.Kind, Value.int .i64 a2.Ns, Value.int .i64 a2.Nr, Value.bool a2.Poll]) 42, fsl 1 (.slice sa3 a3.length sc3) a3.length (a3.map (Value.int .u8)), R]) HS
    refine ⟨[(24, Value.slice at20_0 t20.length ct20_0)], _, ⟨.inl ⟨rfl, rfl⟩, trivial⟩, ?_, HS⟩
    refine T.event _ [(15, Value.int .u8 (IntKind.u8.wrap (a1.fdiv (2 ^ (min (8 : Int).toNat IntKind.i64.bits))))), (17, Value.int .u8 (IntKind.u8.wrap a1))] rfl rfl ⟨.m1 0 rfl (.l rfl rfl) (fun w HS => X.move rfl) rfl rfl rfl rfl rfl, .m1 0 rfl (.l rfl rfl) (fun w HS => X.move rfl) rfl rfl rfl rfl rfl, .m1 9 rfl (.r rfl rfl) (fun w HS => X.nilCheck rfl) rfl rfl rfl rfl rfl, .m1 10 rfl (.r rfl rfl) (fun w HS => X.fieldAddr 11 fo82_11 rfl) rfl rfl rfl rfl rfl, .m1 11 rfl (.r rfl rfl) (fun w HS => X.loadAt 1 HS rfl Try.underlying30 rfl rfl rfl) rfl rfl rfl rfl rfl, .m1 1 rfl (.l rfl rfl) (fun w HS => X.move rfl) rfl rfl rfl rfl rfl, .m1 13 rfl (.r rfl rfl) (fun w HS => X.shr rfl rfl (by decide)) rfl rfl rfl rfl rfl, .m1 14 rfl (.r rfl rfl) (fun w HS => X.conv Try.underlying3 Try.underlying5 rfl) rfl rfl rfl rfl rfl, .m1 1 rfl (.l rfl rfl) (fun w HS => X.move rfl) rfl rfl rfl rfl rfl, .m1 16 rfl (.r rfl rfl) (fun w HS => X.conv Try.underlying3 Try.underlying5 rfl) rfl rfl rfl rfl rfl, .m1 3 rfl (.l rfl rfl) (fun w HS => X.move rfl) rfl rfl rfl rfl rfl, trivial⟩ rfl ⟨.inr ⟨rfl, rfl⟩, ⟨.inr ⟨rfl, rfl⟩, trivial⟩⟩ (Or.inl rfl) (by intro d hd; cases hd; exact ⟨by decide, rfl, rfl⟩) [22, 23] [5, 6, 7, 8, 9] rfl rfl (fun w HS => ?_)
    refine ⟨_, Y.litB (e := 5) (sz := 1) (vs := #[(0, Value.int .u8 (IntKind.u8.wrap (a1.fdiv (2 ^ (min (8 : Int).toNat IntKind.i64.bits))))), (1, Value.int .u8 (IntKind.u8.wrap a1))]) [Value.int .u8 (IntKind.u8.wrap (a1.fdiv (2 ^ (min (8 : Int).toNat IntKind.i64.bits)))), Value.int .u8 (IntKind.u8.wrap a1)] HS (fun a ha => by simp only [List.map_toArray, List.map_cons, List.map_nil]; rw [ha.ev (x := .tmp 15) (v := Value.int .u8 (IntKind.u8.wrap (a1.fdiv (2 ^ (min (8 : Int).toNat IntKind.i64.bits))))) rfl]; rw [ha.ev (x := .tmp 17) (v := Value.int .u8 (IntKind.u8.wrap a1)) rfl]; try rfl) rfl (by decide) (fun _ => by kernel_rfl), ?_⟩
    rintro _ w ⟨lb24, rfl, HS⟩
    have HS : Sep.St [row 5 1 (.slice (some ⟨lb24, 0, none⟩) (([IntKind.u8.wrap (a1.fdiv (2 ^ (min (8 : Int).toNat IntKind.i64.bits))), IntKind.u8.wrap a1] : List Int)).length 2) (([IntKind.u8.wrap (a1.fdiv (2 ^ (min (8 : Int).toNat IntKind.i64.bits))), IntKind.u8.wrap a1] : List Int)).length ((([IntKind.u8.wrap (a1.fdiv (2 ^ (min (8 : Int).toNat IntKind.i64.bits))), IntKind.u8.wrap a1] : List Int)).map (Value.int .u8)), row 5 1 (.slice at20_0 t20.length ct20_0) t20.length (t20.map (Value.int .u8)), blk b0 (#[Value.int .i64 a0.m, Value.int .i64 a0.t1, Value.int .i64 a0.n2, Value.int .i64 a0.size, Value.int .i64 a0.state, Value.int .i64 a0.tag, Value.int .i64 a0.tries, Value.bool a0.rejected, Value.pointer (some ⟨b8_2, 0, none⟩), Value.pointer (some ⟨b9_2, 0, none⟩), Value.pointer (some ⟨b10_2, 0, none⟩), Value.slice a11_2 a0.out.length c11_2, Value.slice a12_2 a0.inds.length c12_2, Value.int .i64 a0.sent, Value.int .i64 a0.acked, Value.int .i64 a0.lost]) 82, backlog_Log.at b8_2 a0.log, reorder_Order.at b9_2 a0.order, clock_Set.at b10_2 a0.timers, row 39 1 (.slice a11_2 a0.out.length c11_2) a0.out.length d11_2, tie (El.sl (El.int .u8)) d11_2 a0.out, row 3 1 (.slice a12_2 a0.inds.length c12_2) a0.inds.length (a0.inds.map (Value.int .i64)), blk nb1 (#[Value.int .i64 a2.Kind, Value.int .i64 a2.Ns, Value.int .i64 a2.Nr, Value.bool a2.Poll]) 42, fsl 1 (.slice sa3 a3.length sc3) a3.length (a3.map (Value.int .u8)), R] w0 w := HS
    refine ⟨[(18, Value.slice (some ⟨lb24, 0, none⟩) (([IntKind.u8.wrap (a1.fdiv (2 ^ (min (8 : Int).toNat IntKind.i64.bits))), IntKind.u8.wrap a1] : List Int)).length 2)], _, ⟨.inl ⟨rfl, rfl⟩, trivial⟩, ?_, HS⟩
    refine T.event _ [(18, Value.slice (some ⟨lb24, 0, none⟩) (([IntKind.u8.wrap (a1.fdiv (2 ^ (min (8 : Int).toNat IntKind.i64.bits))), IntKind.u8.wrap a1] : List Int)).length 2), (24, Value.slice at20_0 t20.length ct20_0), (25, Value.slice sa3 a3.length sc3)] rfl rfl ⟨.m1 0 rfl (.l rfl rfl) (fun w HS => X.move rfl) rfl rfl rfl rfl rfl, .m1 0 rfl (.l rfl rfl) (fun w HS => X.move rfl) rfl rfl rfl rfl rfl, .m1 9 rfl (.r rfl rfl) (fun w HS => X.nilCheck rfl) rfl rfl rfl rfl rfl, .m1 10 rfl (.r rfl rfl) (fun w HS => X.fieldAddr 11 fo82_11 rfl) rfl rfl rfl rfl rfl, .m1 11 rfl (.r rfl rfl) (fun w HS => X.loadAt 2 HS rfl Try.underlying30 rfl rfl rfl) rfl rfl rfl rfl rfl, .m1 3 rfl (.l rfl rfl) (fun w HS => X.move rfl) rfl rfl rfl rfl rfl, trivial⟩ rfl ⟨.inr ⟨rfl, rfl⟩, ⟨.inr ⟨rfl, rfl⟩, ⟨.inr ⟨rfl, rfl⟩, trivial⟩⟩⟩ (Or.inl rfl) (by intro d hd; cases hd; exact ⟨by decide, rfl, rfl⟩) [22, 23] [17] rfl rfl (fun w HS => ?_)
    replace HS := St.row_freeze HS
    replace HS := HS.front 1 rfl
    replace HS := St.row_freeze HS
    refine ⟨_, Y.litB (e := 39) (sz := 1) (vs := #[(0, Value.slice (some ⟨lb24, 0, none⟩) (([IntKind.u8.wrap (a1.fdiv (2 ^ (min (8 : Int).toNat IntKind.i64.bits))), IntKind.u8.wrap a1] : List Int)).length 2), (1, Value.slice at20_0 t20.length ct20_0), (2, Value.slice sa3 a3.length sc3)]) [Value.slice (some ⟨lb24, 0, none⟩) (([IntKind.u8.wrap (a1.fdiv (2 ^ (min (8 : Int).toNat IntKind.i64.bits))), IntKind.u8.wrap a1] : List Int)).length 2, Value.slice at20_0 t20.length ct20_0, Value.slice sa3 a3.length sc3] HS (fun a ha => by simp only [List.map_toArray, List.map_cons, List.map_nil]; rw [ha.ev (x := .tmp 18) (v := Value.slice (some ⟨lb24, 0, none⟩) (([IntKind.u8.wrap (a1.fdiv (2 ^ (min (8 : Int).toNat IntKind.i64.bits))), IntKind.u8.wrap a1] : List Int)).length 2) rfl]; rw [ha.ev (x := .tmp 24) (v := Value.slice at20_0 t20.length ct20_0) rfl]; rw [ha.ev (x := .tmp 25) (v := Value.slice sa3 a3.length sc3) rfl]; try rfl) rfl (by decide) (fun _ => by kernel_rfl), ?_⟩
    rintro _ w ⟨lb25, rfl, HS⟩
    have HS : Sep.St [row 39 1 (.slice (some ⟨lb25, 0, none⟩) (([([IntKind.u8.wrap (a1.fdiv (2 ^ (min (8 : Int).toNat IntKind.i64.bits))), IntKind.u8.wrap a1] : List Int), t20, a3] : List (List Int))).length 3) (([([IntKind.u8.wrap (a1.fdiv (2 ^ (min (8 : Int).toNat IntKind.i64.bits))), IntKind.u8.wrap a1] : List Int), t20, a3] : List (List Int))).length ([Value.slice (some ⟨lb24, 0, none⟩) (([IntKind.u8.wrap (a1.fdiv (2 ^ (min (8 : Int).toNat IntKind.i64.bits))), IntKind.u8.wrap a1] : List Int)).length 2, Value.slice at20_0 t20.length ct20_0, Value.slice sa3 a3.length sc3]), fsl 1 (.slice at20_0 t20.length ct20_0) t20.length (t20.map (Value.int .u8)), fsl 1 (.slice (some ⟨lb24, 0, none⟩) (([IntKind.u8.wrap (a1.fdiv (2 ^ (min (8 : Int).toNat IntKind.i64.bits))), IntKind.u8.wrap a1] : List Int)).length 2) (([IntKind.u8.wrap (a1.fdiv (2 ^ (min (8 : Int).toNat IntKind.i64.bits))), IntKind.u8.wrap a1] : List Int)).length ((([IntKind.u8.wrap (a1.fdiv (2 ^ (min (8 : Int).toNat IntKind.i64.bits))), IntKind.u8.wrap a1] : List Int)).map (Value.int .u8)), blk b0 (#[Value.int .i64 a0.m, Value.int .i64 a0.t1, Value.int .i64 a0.n2, Value.int .i64 a0.size, Value.int .i64 a0.state, Value.int .i64 a0.tag, Value.int .i64 a0.tries, Value.bool a0.rejected, Value.pointer (some ⟨b8_2, 0, none⟩), Value.pointer (some ⟨b9_2, 0, none⟩), Value.pointer (some ⟨b10_2, 0, none⟩), Value.slice a11_2 a0.out.length c11_2, Value.slice a12_2 a0.inds.length c12_2, Value.int .i64 a0.sent, Value.int .i64 a0.acked, Value.int .i64 a0.lost]) 82, backlog_Log.at b8_2 a0.log, reorder_Order.at b9_2 a0.order, clock_Set.at b10_2 a0.timers, row 39 1 (.slice a11_2 a0.out.length c11_2) a0.out.length d11_2, tie (El.sl (El.int .u8)) d11_2 a0.out, row 3 1 (.slice a12_2 a0.inds.length c12_2) a0.inds.length (a0.inds.map (Value.int .i64)), blk nb1 (#[Value.int .i64 a2.Kind, Value.int .i64 a2.Ns, Value.int .i64 a2.Nr, Value.bool a2.Poll]) 42, fsl 1 (.slice sa3 a3.length sc3) a3.length (a3.map (Value.int .u8)), R] w0 w := HS
    replace HS := St.put (A := tie (El.sl (El.int .u8)) ([]) (([] : List (List Int)))) (fun _ => tie.nil) HS
    replace HS := HS.more 12 rfl (fun _ t => t) fsl.pers
    replace HS := St.put (A := tie (El.int .u8) (a3.map (Value.int .u8)) a3) (fun _ => int_tie) HS
    replace HS := St.swap HS
    replace HS := St.sl_close (E := (El.int .u8)) HS
    replace HS := HS.front 1 rfl
    replace HS := HS.front 1 rfl
    replace HS := St.tie_cons HS
    replace HS := HS.more 2 rfl (fun _ t => t) fsl.pers
    replace HS := St.put (A := tie (El.int .u8) (t20.map (Value.int .u8)) t20) (fun _ => int_tie) HS
    replace HS := St.swap HS
    replace HS := St.sl_close (E := (El.int .u8)) HS
    replace HS := HS.front 1 rfl
    replace HS := HS.front 1 rfl
    replace HS := St.tie_cons HS
    replace HS := HS.more 3 rfl (fun _ t => t) fsl.pers
    replace HS := St.put (A := tie (El.int .u8) ((([IntKind.u8.wrap (a1.fdiv (2 ^ (min (8 : Int).toNat IntKind.i64.bits))), IntKind.u8.wrap a1] : List Int)).map (Value.int .u8)) (([IntKind.u8.wrap (a1.fdiv (2 ^ (min (8 : Int).toNat IntKind.i64.bits))), IntKind.u8.wrap a1] : List Int))) (fun _ => int_tie) HS
    replace HS := St.swap HS
    replace HS := St.sl_close (E := (El.int .u8)) HS
    replace HS := HS.front 1 rfl
    replace HS := HS.front 1 rfl
    replace HS := St.tie_cons HS
    refine ⟨[(26, Value.slice (some ⟨lb25, 0, none⟩) (([([IntKind.u8.wrap (a1.fdiv (2 ^ (min (8 : Int).toNat IntKind.i64.bits))), IntKind.u8.wrap a1] : List Int), t20, a3] : List (List Int))).length 3)], _, ⟨.inl ⟨rfl, rfl⟩, trivial⟩, ?_, HS⟩
    refine T.event _ [(26, Value.slice (some ⟨lb25, 0, none⟩) (([([IntKind.u8.wrap (a1.fdiv (2 ^ (min (8 : Int).toNat IntKind.i64.bits))), IntKind.u8.wrap a1] : List Int), t20, a3] : List (List Int))).length 3)] rfl rfl ⟨.m1 0 rfl (.l rfl rfl) (fun w HS => X.move rfl) rfl rfl rfl rfl rfl, .m1 0 rfl (.l rfl rfl) (fun w HS => X.move rfl) rfl rfl rfl rfl rfl, .m1 9 rfl (.r rfl rfl) (fun w HS => X.nilCheck rfl) rfl rfl rfl rfl rfl, .m1 10 rfl (.r rfl rfl) (fun w HS => X.fieldAddr 11 fo82_11 rfl) rfl rfl rfl rfl rfl, .m1 11 rfl (.r rfl rfl) (fun w HS => X.loadAt 4 HS rfl Try.underlying30 rfl rfl rfl) rfl rfl rfl rfl rfl, trivial⟩ rfl ⟨.inr ⟨rfl, rfl⟩, trivial⟩ (Or.inl rfl) (by intro d hd; cases hd; exact ⟨by decide, rfl, rfl⟩) [22, 23] [] rfl rfl (fun w HS => ?_)
    obtain ⟨t28, A29, H⟩ := bind_s H
    refine ⟨_, Y.call Try.func96 (by kernel_rfl) rfl (vs := [Value.slice (some ⟨lb25, 0, none⟩) (([([IntKind.u8.wrap (a1.fdiv (2 ^ (min (8 : Int).toNat IntKind.i64.bits))), IntKind.u8.wrap a1] : List Int), t20, a3] : List (List Int))).length 3]) rfl (slices_Concat_Sbytebyte.calls k ([([IntKind.u8.wrap (a1.fdiv (2 ^ (min (8 : Int).toNat IntKind.i64.bits))), IntKind.u8.wrap a1] : List Int), t20, a3] : List (List Int)) _ w0 _ (some ⟨lb25, 0, none⟩) 3 ([Value.slice (some ⟨lb24, 0, none⟩) (([IntKind.u8.wrap (a1.fdiv (2 ^ (min (8 : Int).toNat IntKind.i64.bits))), IntKind.u8.wrap a1] : List Int)).length 2, Value.slice at20_0 t20.length ct20_0, Value.slice sa3 a3.length sc3]) t28 (rdC.part 1 row_rd rfl) (fun h hh => let ⟨_, l, t⟩ := Sp.has 0 hh rfl; tie.mono t l) A29 (Sep.St.tailJoin (m := []) (r := [tie (El.sl (El.int .u8)) ([Value.slice (some ⟨lb24, 0, none⟩) (([IntKind.u8.wrap (a1.fdiv (2 ^ (min (8 : Int).toNat IntKind.i64.bits))), IntKind.u8.wrap a1] : List Int)).length 2, Value.slice at20_0 t20.length ct20_0, Value.slice sa3 a3.length sc3]) (([([IntKind.u8.wrap (a1.fdiv (2 ^ (min (8 : Int).toNat IntKind.i64.bits))), IntKind.u8.wrap a1] : List Int), t20, a3] : List (List Int))), row 39 1 (.slice (some ⟨lb25, 0, none⟩) (([([IntKind.u8.wrap (a1.fdiv (2 ^ (min (8 : Int).toNat IntKind.i64.bits))), IntKind.u8.wrap a1] : List Int), t20, a3] : List (List Int))).length 3) (([([IntKind.u8.wrap (a1.fdiv (2 ^ (min (8 : Int).toNat IntKind.i64.bits))), IntKind.u8.wrap a1] : List Int), t20, a3] : List (List Int))).length ([Value.slice (some ⟨lb24, 0, none⟩) (([IntKind.u8.wrap (a1.fdiv (2 ^ (min (8 : Int).toNat IntKind.i64.bits))), IntKind.u8.wrap a1] : List Int)).length 2, Value.slice at20_0 t20.length ct20_0, Value.slice sa3 a3.length sc3]), fsl 1 (.slice at20_0 t20.length ct20_0) t20.length (t20.map (Value.int .u8)), fsl 1 (.slice (some ⟨lb24, 0, none⟩) (([IntKind.u8.wrap (a1.fdiv (2 ^ (min (8 : Int).toNat IntKind.i64.bits))), IntKind.u8.wrap a1] : List Int)).length 2) (([IntKind.u8.wrap (a1.fdiv (2 ^ (min (8 : Int).toNat IntKind.i64.bits))), IntKind.u8.wrap a1] : List Int)).length ((([IntKind.u8.wrap (a1.fdiv (2 ^ (min (8 : Int).toNat IntKind.i64.bits))), IntKind.u8.wrap a1] : List Int)).map (Value.int .u8)), blk b0 (#[Value.int .i64 a0.m, Value.int .i64 a0.t1, Value.int .i64 a0.n2, Value.int .i64 a0.size, Value.int .i64 a0.state, Value.int .i64 a0.tag, Value.int .i64 a0.tries, Value.bool a0.rejected, Value.pointer (some ⟨b8_2, 0, none⟩), Value.pointer (some ⟨b9_2, 0, none⟩), Value.pointer (some ⟨b10_2, 0, none⟩), Value.slice a11_2 a0.out.length c11_2, Value.slice a12_2 a0.inds.length c12_2, Value.int .i64 a0.sent, Value.int .i64 a0.acked, Value.int .i64 a0.lost]) 82, backlog_Log.at b8_2 a0.log, reorder_Order.at b9_2 a0.order, clock_Set.at b10_2 a0.timers, row 39 1 (.slice a11_2 a0.out.length c11_2) a0.out.length d11_2, tie (El.sl (El.int .u8)) d11_2 a0.out, row 3 1 (.slice a12_2 a0.inds.length c12_2) a0.inds.length (a0.inds.map (Value.int .i64)), blk nb1 (#[Value.int .i64 a2.Kind, Value.int .i64 a2.Ns, Value.int .i64 a2.Nr, Value.bool a2.Poll]) 42, fsl 1 (.slice sa3 a3.length sc3) a3.length (a3.map (Value.int .u8)), R]) HS)), ?_⟩
    rintro _ w ⟨at28_0, ct28_0, rfl, HS⟩
    replace HS := Sep.St.tailOpen (m := [row 5 1 (.slice at28_0 t28.length ct28_0) t28.length (t28.map (Value.int .u8))]) (r := [tie (El.sl (El.int .u8)) ([Value.slice (some ⟨lb24, 0, none⟩) (([IntKind.u8.wrap (a1.fdiv (2 ^ (min (8 : Int).toNat IntKind.i64.bits))), IntKind.u8.wrap a1] : List Int)).length 2, Value.slice at20_0 t20.length ct20_0, Value.slice sa3 a3.length sc3]) (([([IntKind.u8.wrap (a1.fdiv (2 ^ (min (8 : Int).toNat IntKind.i64.bits))), IntKind.u8.wrap a1] : List Int), t20, a3] : List (List Int))), row 39 1 (.slice (some ⟨lb25, 0, none⟩) (([([IntKind.u8.wrap (a1.fdiv (2 ^ (min (8 : Int).toNat IntKind.i64.bits))), IntKind.u8.wrap a1] : List Int), t20, a3] : List (List Int))).length 3) (([([IntKind.u8.wrap (a1.fdiv (2 ^ (min (8 : Int).toNat IntKind.i64.bits))), IntKind.u8.wrap a1] : List Int), t20, a3] : List (List Int))).length ([Value.slice (some ⟨lb24, 0, none⟩) (([IntKind.u8.wrap (a1.fdiv (2 ^ (min (8 : Int).toNat IntKind.i64.bits))), IntKind.u8.wrap a1] : List Int)).length 2, Value.slice at20_0 t20.length ct20_0, Value.slice sa3 a3.length sc3]), fsl 1 (.slice at20_0 t20.length ct20_0) t20.length (t20.map (Value.int .u8)), fsl 1 (.slice (some ⟨lb24, 0, none⟩) (([IntKind.u8.wrap (a1.fdiv (2 ^ (min (8 : Int).toNat IntKind.i64.bits))), IntKind.u8.wrap a1] : List Int)).length 2) (([IntKind.u8.wrap (a1.fdiv (2 ^ (min (8 : Int).toNat IntKind.i64.bits))), IntKind.u8.wrap a1] : List Int)).length ((([IntKind.u8.wrap (a1.fdiv (2 ^ (min (8 : Int).toNat IntKind.i64.bits))), IntKind.u8.wrap a1] : List Int)).map (Value.int .u8)), blk b0 (#[Value.int .i64 a0.m, Value.int .i64 a0.t1, Value.int .i64 a0.n2, Value.int .i64 a0.size, Value.int .i64 a0.state, Value.int .i64 a0.tag, Value.int .i64 a0.tries, Value.bool a0.rejected, Value.pointer (some ⟨b8_2, 0, none⟩), Value.pointer (some ⟨b9_2, 0, none⟩), Value.pointer (some ⟨b10_2, 0, none⟩), Value.slice a11_2 a0.out.length c11_2, Value.slice a12_2 a0.inds.length c12_2, Value.int .i64 a0.sent, Value.int .i64 a0.acked, Value.int .i64 a0.lost]) 82, backlog_Log.at b8_2 a0.log, reorder_Order.at b9_2 a0.order, clock_Set.at b10_2 a0.timers, row 39 1 (.slice a11_2 a0.out.length c11_2) a0.out.length d11_2, tie (El.sl (El.int .u8)) d11_2 a0.out, row 3 1 (.slice a12_2 a0.inds.length c12_2) a0.inds.length (a0.inds.map (Value.int .i64)), blk nb1 (#[Value.int .i64 a2.Kind, Value.int .i64 a2.Ns, Value.int .i64 a2.Nr, Value.bool a2.Poll]) 42, fsl 1 (.slice sa3 a3.length sc3) a3.length (a3.map (Value.int .u8)), R]) HS
    refine ⟨[(27, Value.slice at28_0 t28.length ct28_0)], _, ⟨.inl ⟨rfl, rfl⟩, trivial⟩, ?_, HS⟩
    refine T.event _ [(27, Value.slice at28_0 t28.length ct28_0)] rfl rfl ⟨.m1 0 rfl (.l rfl rfl) (fun w HS => X.move rfl) rfl rfl rfl rfl rfl, .m1 0 rfl (.l rfl rfl) (fun w HS => X.move rfl) rfl rfl rfl rfl rfl, .m1 9 rfl (.r rfl rfl) (fun w HS => X.nilCheck rfl) rfl rfl rfl rfl rfl, .m1 10 rfl (.r rfl rfl) (fun w HS => X.fieldAddr 11 fo82_11 rfl) rfl rfl rfl rfl rfl, .m1 11 rfl (.r rfl rfl) (fun w HS => X.loadAt 5 HS rfl Try.underlying30 rfl rfl rfl) rfl rfl rfl rfl rfl, trivial⟩ rfl ⟨.inr ⟨rfl, rfl⟩, trivial⟩ (Or.inl rfl) (by intro d hd; cases hd; exact ⟨by decide, rfl, rfl⟩) [22, 23] [] rfl rfl (fun w HS => ?_)
    replace HS := St.row_freeze HS
    refine ⟨_, Y.litB (e := 39) (sz := 1) (vs := #[(0, Value.slice at28_0 t28.length ct28_0)]) [Value.slice at28_0 t28.length ct28_0] HS (fun a ha => by simp only [List.map_toArray, List.map_cons, List.map_nil]; rw [ha.ev (x := .tmp 27) (v := Value.slice at28_0 t28.length ct28_0) rfl]; try rfl) rfl (by decide) (fun _ => by kernel_rfl), ?_⟩
    rintro _ w ⟨lb30, rfl, HS⟩
    have HS : Sep.St [row 39 1 (.slice (some ⟨lb30, 0, none⟩) (([t28] : List (List Int))).length 1) (([t28] : List (List Int))).length ([Value.slice at28_0 t28.length ct28_0]), fsl 1 (.slice at28_0 t28.length ct28_0) t28.length (t28.map (Value.int .u8)), tie (El.sl (El.int .u8)) ([Value.slice (some ⟨lb24, 0, none⟩) (([IntKind.u8.wrap (a1.fdiv (2 ^ (min (8 : Int).toNat IntKind.i64.bits))), IntKind.u8.wrap a1] : List Int)).length 2, Value.slice at20_0 t20.length ct20_0, Value.slice sa3 a3.length sc3]) (([([IntKind.u8.wrap (a1.fdiv (2 ^ (min (8 : Int).toNat IntKind.i64.bits))), IntKind.u8.wrap a1] : List Int), t20, a3] : List (List Int))), row 39 1 (.slice (some ⟨lb25, 0, none⟩) (([([IntKind.u8.wrap (a1.fdiv (2 ^ (min (8 : Int).toNat IntKind.i64.bits))), IntKind.u8.wrap a1] : List Int), t20, a3] : List (List Int))).length 3) (([([IntKind.u8.wrap (a1.fdiv (2 ^ (min (8 : Int).toNat IntKind.i64.bits))), IntKind.u8.wrap a1] : List Int), t20, a3] : List (List Int))).length ([Value.slice (some ⟨lb24, 0, none⟩) (([IntKind.u8.wrap (a1.fdiv (2 ^ (min (8 : Int).toNat IntKind.i64.bits))), IntKind.u8.wrap a1] : List Int)).length 2, Value.slice at20_0 t20.length ct20_0, Value.slice sa3 a3.length sc3]), fsl 1 (.slice at20_0 t20.length ct20_0) t20.length (t20.map (Value.int .u8)), fsl 1 (.slice (some ⟨lb24, 0, none⟩) (([IntKind.u8.wrap (a1.fdiv (2 ^ (min (8 : Int).toNat IntKind.i64.bits))), IntKind.u8.wrap a1] : List Int)).length 2) (([IntKind.u8.wrap (a1.fdiv (2 ^ (min (8 : Int).toNat IntKind.i64.bits))), IntKind.u8.wrap a1] : List Int)).length ((([IntKind.u8.wrap (a1.fdiv (2 ^ (min (8 : Int).toNat IntKind.i64.bits))), IntKind.u8.wrap a1] : List Int)).map (Value.int .u8)), blk b0 (#[Value.int .i64 a0.m, Value.int .i64 a0.t1, Value.int .i64 a0.n2, Value.int .i64 a0.size, Value.int .i64 a0.state, Value.int .i64 a0.tag, Value.int .i64 a0.tries, Value.bool a0.rejected, Value.pointer (some ⟨b8_2, 0, none⟩), Value.pointer (some ⟨b9_2, 0, none⟩), Value.pointer (some ⟨b10_2, 0, none⟩), Value.slice a11_2 a0.out.length c11_2, Value.slice a12_2 a0.inds.length c12_2, Value.int .i64 a0.sent, Value.int .i64 a0.acked, Value.int .i64 a0.lost]) 82, backlog_Log.at b8_2 a0.log, reorder_Order.at b9_2 a0.order, clock_Set.at b10_2 a0.timers, row 39 1 (.slice a11_2 a0.out.length c11_2) a0.out.length d11_2, tie (El.sl (El.int .u8)) d11_2 a0.out, row 3 1 (.slice a12_2 a0.inds.length c12_2) a0.inds.length (a0.inds.map (Value.int .i64)), blk nb1 (#[Value.int .i64 a2.Kind, Value.int .i64 a2.Ns, Value.int .i64 a2.Nr, Value.bool a2.Poll]) 42, fsl 1 (.slice sa3 a3.length sc3) a3.length (a3.map (Value.int .u8)), R] w0 w := HS
    replace HS := St.put (A := tie (El.sl (El.int .u8)) ([]) (([] : List (List Int)))) (fun _ => tie.nil) HS
    replace HS := HS.more 2 rfl (fun _ t => t) fsl.pers
    replace HS := St.put (A := tie (El.int .u8) (t28.map (Value.int .u8)) t28) (fun _ => int_tie) HS
    replace HS := St.swap HS
    replace HS := St.sl_close (E := (El.int .u8)) HS
    replace HS := HS.front 1 rfl
    replace HS := HS.front 1 rfl
    replace HS := St.tie_cons HS
    refine ⟨[(28, Value.slice (some ⟨lb30, 0, none⟩) (([t28] : List (List Int))).length 1)], _, ⟨.inl ⟨rfl, rfl⟩, trivial⟩, ?_, HS⟩
    refine T.event _ [(12, Value.slice a11_2 a0.out.length c11_2), (28, Value.slice (some ⟨lb30, 0, none⟩) (([t28] : List (List Int))).length 1)] rfl rfl ⟨.m1 0 rfl (.l rfl rfl) (fun w HS => X.move rfl) rfl rfl rfl rfl rfl, .m1 0 rfl (.l rfl rfl) (fun w HS => X.move rfl) rfl rfl rfl rfl rfl, .m1 9 rfl (.r rfl rfl) (fun w HS => X.nilCheck rfl) rfl rfl rfl rfl rfl, .m1 10 rfl (.r rfl rfl) (fun w HS => X.fieldAddr 11 fo82_11 rfl) rfl rfl rfl rfl rfl, .m1 11 rfl (.r rfl rfl) (fun w HS => X.loadAt 7 HS rfl Try.underlying30 rfl rfl rfl) rfl rfl rfl rfl rfl, trivial⟩ rfl ⟨.inr ⟨rfl, rfl⟩, ⟨.inr ⟨rfl, rfl⟩, trivial⟩⟩ (Or.inl rfl) (by intro d hd; cases hd; exact ⟨by decide, rfl, rfl⟩) [] [1, 2, 3, 4] rfl rfl (fun w HS => ?_)
    obtain ⟨c33, H⟩ := ite_n H
    refine ⟨_, Y.app (xs := a0.out) (ys := ([t28] : List (List Int))) 11 Try.underlying30 ap39 rfl (by decide) HS rfl rfl rfl (rdC.at 1 row_rd HS rfl) (St.tie_one 0 HS rfl) (by omega) (by omega), ?_⟩
    rintro _ w ⟨ra34, rc35, rfl, HS⟩
    replace HS := HS.front 12 rfl
    replace HS := St.tie_app 1 HS rfl
    refine ⟨[(29, Value.slice ra34 (a0.out ++ ([t28] : List (List Int))).length rc35), (30, Value.pointer (some ⟨b0, 0, none⟩)), (31, Value.pointer (some ⟨b0, 0 + 11, none⟩))], _, ⟨.inl ⟨rfl, rfl⟩, ⟨.inr ⟨by decide, rfl⟩, ⟨.inr ⟨by decide, rfl⟩, trivial⟩⟩⟩, ?_, HS⟩
    refine T.event _ [(29, Value.slice ra34 (a0.out ++ ([t28] : List (List Int))).length rc35), (31, Value.pointer (some ⟨b0, 0 + 11, none⟩))] rfl rfl ⟨.m1 0 rfl (.l rfl rfl) (fun w HS => X.move rfl) rfl rfl rfl rfl rfl, .m1 8 rfl (.r rfl rfl) (fun w HS => X.nilCheck rfl) rfl rfl rfl rfl rfl, .m1 30 rfl (.r rfl rfl) (fun w HS => X.fieldAddr 11 fo82_11 rfl) rfl rfl rfl rfl rfl, trivial⟩ rfl ⟨.inr ⟨rfl, rfl⟩, ⟨.inr ⟨rfl, rfl⟩, trivial⟩⟩ (Or.inl rfl) (by intro d hd; cases hd) [] [0, 22, 23] rfl rfl (fun w HS => ?_)
    refine ⟨_, Y.storeAt 8 HS rfl inf30 rfl rfl rfl rfl rfl rfl, ?_⟩
    rintro _ w HS
    refine ⟨[], _, trivial, ?_, HS⟩
    refine T.fin [] rfl trivial trivial (fun w HS => ?_)
    replace HS := HS.re [8, 9, 10, 11, 12, 0, 13, 1, 2, 3, 4, 5, 6, 7, 14, 15, 16] (by kernel_rfl)
    replace HS := arq_Arq.close (({ m := a0.m, t1 := a0.t1, n2 := a0.n2, size := a0.size, state := a0.state, tag := a0.tag, tries := a0.tries, rejected := a0.rejected, log := a0.log, order := a0.order, timers := a0.timers, out := a0.out ++ ([t28] : List (List Int)), inds := a0.inds, sent := a0.sent, acked := a0.acked, lost := a0.lost } : arq_Arq)) trivial HS
    replace HS := HS.sel [0, 10] [1, 2, 3, 4, 5, 6, 7, 8, 9] (by kernel_rfl)
    cases H
    exact At.end0 rfl ⟨_, rfl, rfl, HS⟩

/-! ### (*signalman/arq.Arq).tell: function 46 -/
def arq_Arq_tell.f (k : Nat) (a0 : arq_Arq) (a1 : api_Ctl) : Option arq_Arq := ((arq_Arq_put.f k a0 a0.tag a1 ([] : List Int)).bind fun t4 => some t4)
set_option maxRecDepth 100000 in
set_option maxHeartbeats 4000000 in
theorem arq_Arq_tell.calls (k : Nat) (a0 : arq_Arq) (a1 : api_Ctl) (R : As) (w0 w : World) (b0 : Nat) (r : arq_Arq)  (H : arq_Arq_tell.f k a0 a1 = some r) (HS : Sep.St [arq_Arq.at b0 a0, R] w0 w) : Calls Try.prog 46 #[Value.pointer (some ⟨b0, 0, none⟩), Value.agg #[Value.int .i64 a1.Kind, Value.int .i64 a1.Ns, Value.int .i64 a1.Nr, Value.bool a1.Poll]] w (Ret fun u w => u = Value.tuple #[] ∧ Sep.St [arq_Arq.at b0 r, R] w0 w) := by
  unfold arq_Arq_tell.f at H
  refine calls_enter Try.func46 rfl rfl ?_
  have H : _ = some r := H
  refine V.seq ?_
  refine V.region ?_
  refine W.ev (Y.box HS rfl) rfl rfl rfl ?_
  rintro _ w ⟨nb1, rfl, HS⟩
  refine W.nil ?_
  refine At.next ?_
  replace HS := HS.front 1 rfl
  obtain ⟨b8_2, b9_2, b10_2, a11_2, c11_2, d11_2, a12_2, c12_2, hi3, HS⟩ := arq_Arq.open HS
  refine V.draw (es := [6]) (bl := []) (f := [(4, Value.pointer (some ⟨b0, 0, none⟩)), (5, Value.pointer (some ⟨b0, 0, none⟩)), (6, Value.pointer (some ⟨b0, 0, none⟩)), (7, Value.pointer (some ⟨b0, 0 + 5, none⟩)), (8, Value.int .i64 a0.tag), (9, Value.agg #[Value.int .i64 a1.Kind, Value.int .i64 a1.Ns, Value.int .i64 a1.Nr, Value.bool a1.Poll])]) (fun w => Sep.St [blk b0 (#[Value.int .i64 a0.m, Value.int .i64 a0.t1, Value.int .i64 a0.n2, Value.int .i64 a0.size, Value.int .i64 a0.state, Value.int .i64 a0.tag, Value.int .i64 a0.tries, Value.bool a0.rejected, Value.pointer (some ⟨b8_2, 0, none⟩), Value.pointer (some ⟨b9_2, 0, none⟩), Value.pointer (some ⟨b10_2, 0, none⟩), Value.slice a11_2 a0.out.length c11_2, Value.slice a12_2 a0.inds.length c12_2, Value.int .i64 a0.sent, Value.int .i64 a0.acked, Value.int .i64 a0.lost]) 82, backlog_Log.at b8_2 a0.log, reorder_Order.at b9_2 a0.order, clock_Set.at b10_2 a0.timers, row 39 1 (.slice a11_2 a0.out.length c11_2) a0.out.length d11_2, tie (El.sl (El.int .u8)) d11_2 a0.out, row 3 1 (.slice a12_2 a0.inds.length c12_2) a0.inds.length (a0.inds.map (Value.int .i64)), blk nb1 (#[Value.int .i64 a1.Kind, Value.int .i64 a1.Ns, Value.int .i64 a1.Nr, Value.bool a1.Poll]) 42, R] w0 w) mo HS.drew rfl ?_
  refine T.event _ [(4, Value.pointer (some ⟨b0, 0, none⟩)), (8, Value.int .i64 a0.tag), (9, Value.agg #[Value.int .i64 a1.Kind, Value.int .i64 a1.Ns, Value.int .i64 a1.Nr, Value.bool a1.Poll])] rfl rfl ⟨.m1 0 rfl (.l rfl rfl) (fun w HS => X.move rfl) rfl rfl rfl rfl rfl, .m1 0 rfl (.l rfl rfl) (fun w HS => X.move rfl) rfl rfl rfl rfl rfl, .m1 5 rfl (.r rfl rfl) (fun w HS => X.nilCheck rfl) rfl rfl rfl rfl rfl, .m1 6 rfl (.r rfl rfl) (fun w HS => X.fieldAddr 5 fo82_5 rfl) rfl rfl rfl rfl rfl, .m1 7 rfl (.r rfl rfl) (fun w HS => X.loadAt 0 HS rfl Try.underlying3 rfl rfl rfl) rfl rfl rfl rfl rfl, .m1 3 rfl (.l rfl rfl) (fun w HS => X.loadSt 7 [Value.int .i64 a1.Kind, Value.int .i64 a1.Ns, Value.int .i64 a1.Nr, Value.bool a1.Poll] HS rfl Try.underlying42 rfl inf42 rfl rfl) rfl rfl rfl rfl rfl, trivial⟩ rfl ⟨.inr ⟨rfl, rfl⟩, ⟨.inr ⟨rfl, rfl⟩, ⟨.inr ⟨rfl, rfl⟩, trivial⟩⟩⟩ (Or.inl rfl) (by intro d hd; cases hd; exact ⟨by decide, rfl, rfl⟩) [] [0, 1, 2, 3, 4, 5] rfl rfl (fun w HS => ?_)
  replace HS := arq_Arq.close a0 trivial HS
  replace HS := row_nil' (e := 5) 1 none HS
  have HS : Sep.St [row 5 1 (.slice none ([] : List Int).length 0) ([] : List Int).length (([] : List Int).map (Value.int .u8)), arq_Arq.at b0 a0, blk nb1 (#[Value.int .i64 a1.Kind, Value.int .i64 a1.Ns, Value.int .i64 a1.Nr, Value.bool a1.Poll]) 42, R] w0 w := HS
  replace HS := St.row_freeze HS
  obtain ⟨t4, A5, H⟩ := bind_s H
  replace HS := HS.re [1, 0, 2, 3] (by kernel_rfl)
  refine ⟨_, Y.call Try.func74 (by kernel_rfl) rfl (vs := [Value.pointer (some ⟨b0, 0, none⟩), Value.int .i64 a0.tag, Value.agg #[Value.int .i64 a1.Kind, Value.int .i64 a1.Ns, Value.int .i64 a1.Nr, Value.bool a1.Poll], Value.slice none ([] : List Int).length 0]) rfl (arq_Arq_put.calls k a0 a0.tag a1 ([] : List Int) _ w0 _ b0 none 0 t4  A5 (Sep.St.tailJoin (m := [arq_Arq.at b0 a0, fsl 1 (.slice none ([] : List Int).length 0) ([] : List Int).length (([] : List Int).map (Value.int .u8))]) (r := [blk nb1 (#[Value.int .i64 a1.Kind, Value.int .i64 a1.Ns, Value.int .i64 a1.Nr, Value.bool a1.Poll]) 42, R]) HS)), ?_⟩
  rintro _ w ⟨rfl, HS⟩
  replace HS := Sep.St.tailOpen (m := [arq_Arq.at b0 t4]) (r := [blk nb1 (#[Value.int .i64 a1.Kind, Value.int .i64 a1.Ns, Value.int .i64 a1.Nr, Value.bool a1.Poll]) 42, R]) HS
  refine ⟨[(10, Value.tuple #[])], _, ⟨.inl ⟨rfl, rfl⟩, trivial⟩, ?_, HS⟩
  refine T.fin [] rfl trivial trivial (fun w HS => ?_)
  replace HS := HS.sel [0, 2] [1] (by kernel_rfl)
  cases H
  exact At.end0 rfl ⟨_, rfl, rfl, HS⟩

/-! ### signalman/clock.has: function 79 -/
def clock_has.f (a0 : Int) : Option Bool := (if a0 ≥ 0 then some (decide (a0 < 32)) else some false)
set_option maxRecDepth 100000 in
set_option maxHeartbeats 4000000 in
theorem clock_has.calls (a0 : Int) (R : As) (w0 w : World)  (r : Bool)  (H : clock_has.f a0 = some r) (HS : Sep.St [R] w0 w) : Calls Try.prog 79 #[Value.int .i64 a0] w (Ret fun u w => u = Value.bool r ∧ Sep.St [R] w0 w) := by
  unfold clock_has.f at H
  refine calls_enter Try.func79 rfl rfl ?_
  have H : _ = some r := H
  refine V.seq ?_
  refine V.region ?_
  refine W.rd (X.assign rfl) rfl rfl rfl ?_
  refine W.nil ?_
  refine At.next ?_
  refine V.seq ?_
  refine V.region ?_
  refine W.rd (X.move rfl) rfl rfl rfl ?_
  refine W.rd (X.cmp (decide (a0 ≥ 0)) rfl rfl rfl rfl) rfl rfl rfl ?_
  refine W.rd (X.move rfl) rfl rfl rfl ?_
  by_cases c1 : a0 ≥ 0
  · replace H := ite_t c1 H
    refine W.want 5 rfl (sb (decide_eq_true c1)) ?_
    refine W.rd (X.move rfl) rfl rfl rfl ?_
    refine W.want 5 rfl (sb (decide_eq_true c1)) ?_
    refine W.rd (X.cmp (decide (a0 < 32)) rfl rfl rfl rfl) rfl rfl rfl ?_
    refine W.rd (X.pickT (sb (decide_eq_true c1)) rfl) rfl rfl rfl ?_
    refine W.rd (X.assign rfl) rfl rfl rfl ?_
    refine W.nil ?_
    refine At.next ?_
    refine V.ret ?_
    cases H
    exact At.ret1 rfl rfl ⟨_, rfl, rfl, HS⟩
  · replace H := ite_f c1 H
    refine W.pass 5 rfl (sb (decide_eq_false c1)) rfl rfl ?_
    refine W.pass 5 rfl (sb (decide_eq_false c1)) rfl rfl ?_
    refine W.rd (X.pickF (sb (decide_eq_false c1)) rfl) rfl rfl rfl ?_
    refine W.rd (X.assign rfl) rfl rfl rfl ?_
    refine W.nil ?_
    refine At.next ?_
    refine V.ret ?_
    cases H
    exact At.ret1 rfl rfl ⟨_, rfl, rfl, HS⟩

/-! ### (*signalman/clock.Set).Start: function 75 -/
mutual
def clock_Set_Start.j0 (a1 : Int) (x2 : clock_Set) : Option (Bool × clock_Set) := ((clock_has.f a1).bind fun t4 => some (t4, x2))
end
def clock_Set_Start.f (a0 : clock_Set) (a1 : Int) (a2 : Int) : Option (Bool × clock_Set) := ((clock_has.f a1).bind fun t6 => (if t6 = true then (if 0 ≤ a1 ∧ a1 < 32 then (clock_Set_Start.j0 a1 ({ now := a0.now, left := a0.left.set a1.toNat (imax (1) (imin a2 (1073741824))) } : clock_Set)) else none) else (clock_Set_Start.j0 a1 a0)))
set_option maxRecDepth 100000 in
set_option maxHeartbeats 4000000 in
theorem clock_Set_Start.calls (a0 : clock_Set) (a1 : Int) (a2 : Int) (R : As) (w0 w : World) (b0 : Nat) (r : Bool × clock_Set)  (H : clock_Set_Start.f a0 a1 a2 = some r) (HS : Sep.St [clock_Set.at b0 a0, R] w0 w) : Calls Try.prog 75 #[Value.pointer (some ⟨b0, 0, none⟩), Value.int .i64 a1, Value.int .i64 a2] w (Ret fun u w => u = Value.bool r.1 ∧ Sep.St [clock_Set.at b0 r.2, R] w0 w) := by
  unfold clock_Set_Start.f at H
  refine calls_enter Try.func75 rfl rfl ?_
  have H : _ = some r := H
  refine V.seq ?_
  refine V.region ?_
  refine W.rd (X.assign rfl) rfl rfl rfl ?_
  refine W.nil ?_
  refine At.next ?_
  refine V.meet (σ := clock_Set) (fun st w => match st with | x2 => Sep.St [clock_Set.at b0 x2, R] w0 w ∧ clock_Set_Start.j0 a1 x2 = some r) (fun st => match st with | x2 => [(1, Value.int .i64 a1)]) ?_ ?_
  · refine V.seq ?_
    refine V.region ?_
    refine W.rd (X.move rfl) rfl rfl rfl ?_
    obtain ⟨t6, A7, H⟩ := bind_s H
    refine W.ev (Y.call Try.func79 (by kernel_rfl) rfl (vs := [Value.int .i64 a1]) rfl (clock_has.calls a1 _ w0 _  t6  A7 (Sep.St.tailJoin (m := []) (r := [clock_Set.at b0 a0, R]) HS))) rfl rfl rfl ?_
    rintro _ w ⟨rfl, HS⟩
    replace HS := Sep.St.tailOpen (m := []) (r := [clock_Set.at b0 a0, R]) HS
    refine W.nil ?_
    refine At.next ?_
    by_cases c8 : t6 = true
    · replace H := ite_t c8 H
      refine V.condT (sb c8) ?_
      refine V.region ?_
      refine W.rd (X.move rfl) rfl rfl rfl ?_
      refine W.rd (X.move rfl) rfl rfl rfl ?_
      refine W.rd (X.move rfl) rfl rfl rfl ?_
      refine W.rd (X.min2 rfl rfl) rfl rfl rfl ?_
      refine W.rd (X.max2 rfl rfl) rfl rfl rfl ?_
      refine W.rd (X.nilCheck rfl) rfl rfl rfl ?_
      obtain ⟨hi10, HS⟩ := clock_Set.open HS
      refine W.rd (X.fieldAddr 1 fo109_1 rfl) rfl rfl rfl ?_
      obtain ⟨c11, H⟩ := ite_n H
      refine W.rd (X.indexAr Try.underlying107 inf3 rfl rfl c11.1 c11.2) rfl rfl rfl ?_
      refine W.ev_none (Y.storeArr 0 HS rfl rfl inf3 rfl rfl c11.1 c11.2 (by first | exact hi10 | (simp only [List.length_set]; exact hi10))) rfl rfl ?_
      rintro _ w HS
      refine W.nil ?_
      replace HS := clock_Set.close (({ now := a0.now, left := a0.left.set a1.toNat (imax (1) (imin a2 (1073741824))) } : clock_Set)) (by first | exact hi10 | (simp only [List.length_set]; exact hi10)) HS
      exact At.meet (({ now := a0.now, left := a0.left.set a1.toNat (imax (1) (imin a2 (1073741824))) } : clock_Set)) ⟨rfl, trivial⟩ ⟨HS, H⟩
    · replace H := ite_f c8 H
      refine V.condF (sb (b_f c8)) ?_
      refine V.skip ?_
      exact At.meet a0 ⟨rfl, trivial⟩ ⟨HS, H⟩
  · rintro x2 w ⟨HS, H⟩
    unfold clock_Set_Start.j0 at H
    refine V.seq ?_
    refine V.region ?_
    refine W.rd (X.move rfl) rfl rfl rfl ?_
    obtain ⟨t4, A5, H⟩ := bind_s H
    refine W.ev (Y.call Try.func79 (by kernel_rfl) rfl (vs := [Value.int .i64 a1]) rfl (clock_has.calls a1 _ w0 _  t4  A5 (Sep.St.tailJoin (m := []) (r := [clock_Set.at b0 x2, R]) HS))) rfl rfl rfl ?_
    rintro _ w ⟨rfl, HS⟩
    replace HS := Sep.St.tailOpen (m := []) (r := [clock_Set.at b0 x2, R]) HS
    refine W.rd (X.assign rfl) rfl rfl rfl ?_
    refine W.nil ?_
    refine At.next ?_
    refine V.ret ?_
    cases H
    exact At.ret1 rfl rfl ⟨_, rfl, rfl, HS⟩

/-! ### (*signalman/arq.Arq).start: function 47 -/
def arq_Arq_start.f (a0 : arq_Arq) : Option arq_Arq := ((clock_Set_Start.f a0.timers 0 a0.t1).bind fun t3 => some ({ m := a0.m, t1 := a0.t1, n2 := a0.n2, size := a0.size, state := a0.state, tag := a0.tag, tries := a0.tries, rejected := a0.rejected, log := a0.log, order := a0.order, timers := t3.2, out := a0.out, inds := a0.inds, sent := a0.sent, acked := a0.acked, lost := a0.lost } : arq_Arq))
set_option maxRecDepth 100000 in
set_option maxHeartbeats 4000000 in
theorem arq_Arq_start.calls (a0 : arq_Arq) (R : As) (w0 w : World) (b0 : Nat) (r : arq_Arq)  (H : arq_Arq_start.f a0 = some r) (HS : Sep.St [arq_Arq.at b0 a0, R] w0 w) : Calls Try.prog 47 #[Value.pointer (some ⟨b0, 0, none⟩)] w (Ret fun u w => u = Value.tuple #[] ∧ Sep.St [arq_Arq.at b0 r, R] w0 w) := by
  unfold arq_Arq_start.f at H
  refine calls_enter Try.func47 rfl rfl ?_
  have H : _ = some r := H
  obtain ⟨b8_1, b9_1, b10_1, a11_1, c11_1, d11_1, a12_1, c12_1, hi2, HS⟩ := arq_Arq.open HS
  refine V.draw (es := [8]) (bl := []) (f := [(2, Value.pointer (some ⟨b0, 0, none⟩)), (3, Value.pointer (some ⟨b0, 0, none⟩)), (4, Value.pointer (some ⟨b0, 0 + 10, none⟩)), (5, Value.pointer (some ⟨b10_1, 0, none⟩)), (6, Value.pointer (some ⟨b0, 0, none⟩)), (7, Value.pointer (some ⟨b0, 0, none⟩)), (8, Value.pointer (some ⟨b0, 0 + 1, none⟩)), (9, Value.int .i64 a0.t1)]) (fun w => Sep.St [blk b0 (#[Value.int .i64 a0.m, Value.int .i64 a0.t1, Value.int .i64 a0.n2, Value.int .i64 a0.size, Value.int .i64 a0.state, Value.int .i64 a0.tag, Value.int .i64 a0.tries, Value.bool a0.rejected, Value.pointer (some ⟨b8_1, 0, none⟩), Value.pointer (some ⟨b9_1, 0, none⟩), Value.pointer (some ⟨b10_1, 0, none⟩), Value.slice a11_1 a0.out.length c11_1, Value.slice a12_1 a0.inds.length c12_1, Value.int .i64 a0.sent, Value.int .i64 a0.acked, Value.int .i64 a0.lost]) 82, backlog_Log.at b8_1 a0.log, reorder_Order.at b9_1 a0.order, clock_Set.at b10_1 a0.timers, row 39 1 (.slice a11_1 a0.out.length c11_1) a0.out.length d11_1, tie (El.sl (El.int .u8)) d11_1 a0.out, row 3 1 (.slice a12_1 a0.inds.length c12_1) a0.inds.length (a0.inds.map (Value.int .i64)), R] w0 w) mo HS.drew rfl ?_
  refine T.event _ [(5, Value.pointer (some ⟨b10_1, 0, none⟩)), (9, Value.int .i64 a0.t1)] rfl rfl ⟨.m1 0 rfl (.l rfl rfl) (fun w HS => X.move rfl) rfl rfl rfl rfl rfl, .m1 2 rfl (.r rfl rfl) (fun w HS => X.nilCheck rfl) rfl rfl rfl rfl rfl, .m1 3 rfl (.r rfl rfl) (fun w HS => X.fieldAddr 10 fo82_10 rfl) rfl rfl rfl rfl rfl, .m1 4 rfl (.r rfl rfl) (fun w HS => X.loadAt 0 HS rfl Try.underlying78 rfl rfl rfl) rfl rfl rfl rfl rfl, .m1 0 rfl (.l rfl rfl) (fun w HS => X.move rfl) rfl rfl rfl rfl rfl, .m1 6 rfl (.r rfl rfl) (fun w HS => X.nilCheck rfl) rfl rfl rfl rfl rfl, .m1 7 rfl (.r rfl rfl) (fun w HS => X.fieldAddr 1 fo82_1 rfl) rfl rfl rfl rfl rfl, .m1 8 rfl (.r rfl rfl) (fun w HS => X.loadAt 0 HS rfl Try.underlying3 rfl rfl rfl) rfl rfl rfl rfl rfl, trivial⟩ rfl ⟨.inr ⟨rfl, rfl⟩, ⟨.inr ⟨rfl, rfl⟩, trivial⟩⟩ (Or.inl rfl) (by intro d hd; cases hd; exact ⟨by decide, rfl, rfl⟩) [] [0, 1, 2, 3, 4, 5, 6, 7] rfl rfl (fun w HS => ?_)
  obtain ⟨t3, A4, H⟩ := bind_s H
  replace HS := HS.re [3, 0, 1, 2, 4, 5, 6, 7] (by kernel_rfl)
  refine ⟨_, Y.call Try.func75 (by kernel_rfl) rfl (vs := [Value.pointer (some ⟨b10_1, 0, none⟩), Value.int .i64 (0), Value.int .i64 a0.t1]) rfl (clock_Set_Start.calls a0.timers 0 a0.t1 _ w0 _ b10_1 t3  A4 (Sep.St.tailJoin (m := [clock_Set.at b10_1 a0.timers]) (r := [blk b0 (#[Value.int .i64 a0.m, Value.int .i64 a0.t1, Value.int .i64 a0.n2, Value.int .i64 a0.size, Value.int .i64 a0.state, Value.int .i64 a0.tag, Value.int .i64 a0.tries, Value.bool a0.rejected, Value.pointer (some ⟨b8_1, 0, none⟩), Value.pointer (some ⟨b9_1, 0, none⟩), Value.pointer (some ⟨b10_1, 0, none⟩), Value.slice a11_1 a0.out.length c11_1, Value.slice a12_1 a0.inds.length c12_1, Value.int .i64 a0.sent, Value.int .i64 a0.acked, Value.int .i64 a0.lost]) 82, backlog_Log.at b8_1 a0.log, reorder_Order.at b9_1 a0.order, row 39 1 (.slice a11_1 a0.out.length c11_1) a0.out.length d11_1, tie (El.sl (El.int .u8)) d11_1 a0.out, row 3 1 (.slice a12_1 a0.inds.length c12_1) a0.inds.length (a0.inds.map (Value.int .i64)), R]) HS)), ?_⟩
  rintro _ w ⟨rfl, HS⟩
  replace HS := Sep.St.tailOpen (m := [clock_Set.at b10_1 t3.2]) (r := [blk b0 (#[Value.int .i64 a0.m, Value.int .i64 a0.t1, Value.int .i64 a0.n2, Value.int .i64 a0.size, Value.int .i64 a0.state, Value.int .i64 a0.tag, Value.int .i64 a0.tries, Value.bool a0.rejected, Value.pointer (some ⟨b8_1, 0, none⟩), Value.pointer (some ⟨b9_1, 0, none⟩), Value.pointer (some ⟨b10_1, 0, none⟩), Value.slice a11_1 a0.out.length c11_1, Value.slice a12_1 a0.inds.length c12_1, Value.int .i64 a0.sent, Value.int .i64 a0.acked, Value.int .i64 a0.lost]) 82, backlog_Log.at b8_1 a0.log, reorder_Order.at b9_1 a0.order, row 39 1 (.slice a11_1 a0.out.length c11_1) a0.out.length d11_1, tie (El.sl (El.int .u8)) d11_1 a0.out, row 3 1 (.slice a12_1 a0.inds.length c12_1) a0.inds.length (a0.inds.map (Value.int .i64)), R]) HS
  refine ⟨[(10, Value.bool t3.1)], _, ⟨.inl ⟨rfl, rfl⟩, trivial⟩, ?_, HS⟩
  refine T.fin [] rfl trivial trivial (fun w HS => ?_)
  replace HS := HS.re [1, 2, 3, 0, 4, 5, 6, 7] (by kernel_rfl)
  replace HS := arq_Arq.close ({ m := a0.m, t1 := a0.t1, n2 := a0.n2, size := a0.size, state := a0.state, tag := a0.tag, tries := a0.tries, rejected := a0.rejected, log := a0.log, order := a0.order, timers := t3.2, out := a0.out, inds := a0.inds, sent := a0.sent, acked := a0.acked, lost := a0.lost } : arq_Arq) trivial HS
  cases H
  exact At.end0 rfl ⟨_, rfl, rfl, HS⟩
end Go.Proofs.Ytnlcafmkmfnobaa

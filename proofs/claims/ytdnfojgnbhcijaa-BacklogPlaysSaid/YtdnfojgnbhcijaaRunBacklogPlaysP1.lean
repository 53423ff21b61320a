/- BacklogPlays: the functions that its law reaches, as plain functions, and that the machine's calls come to what these say. Conditions: those that stand at each. -/
import Derived.Test.YtdnfojgnbhcijaaProg
import Derived.Test.YtdnfojgnbhcijaaMore
set_option linter.all false
namespace Go.Proofs.Ytdnfojgnbhcijaa
open Go.RowKit Go.Proofs.Ytdnfojgnbhcijaa.Sep Go.Proofs.Ytdnfojgnbhcijaa.Walk
theorem inf3 : (Try.prog.info? 3).map (·.size) = some 1 := by kernel_rfl
theorem inf27 : (Try.prog.info? 27).map (·.size) = some 1 := by kernel_rfl
theorem inf44 : (Try.prog.info? 44).map (·.size) = some 3 := by kernel_rfl
theorem inf52 : (Try.prog.info? 52).map (·.size) = some 1 := by kernel_rfl
theorem inf59 : (Try.prog.info? 59).map (·.size) = some 1 := by kernel_rfl
theorem inf63 : (Try.prog.info? 63).map (·.size) = some 2 := by kernel_rfl
theorem fo44_0 : fieldOff Try.prog 44 0 = some 0 := by kernel_rfl
theorem fo44_1 : fieldOff Try.prog 44 1 = some 1 := by kernel_rfl
theorem fo44_2 : fieldOff Try.prog 44 2 = some 2 := by kernel_rfl
theorem fo54_0 : fieldOff Try.prog 54 0 = some 0 := by kernel_rfl
theorem fo54_1 : fieldOff Try.prog 54 1 = some 1 := by kernel_rfl
theorem fo54_2 : fieldOff Try.prog 54 2 = some 2 := by kernel_rfl
theorem fo54_3 : fieldOff Try.prog 54 3 = some 3 := by kernel_rfl
theorem fo54_4 : fieldOff Try.prog 54 4 = some 4 := by kernel_rfl
theorem fo54_5 : fieldOff Try.prog 54 5 = some 5 := by kernel_rfl
theorem fo61_0 : fieldOff Try.prog 61 0 = some 0 := by kernel_rfl
theorem fo61_1 : fieldOff Try.prog 61 1 = some 1 := by kernel_rfl
theorem fo61_2 : fieldOff Try.prog 61 2 = some 2 := by kernel_rfl
theorem fo61_3 : fieldOff Try.prog 61 3 = some 3 := by kernel_rfl
theorem fo61_4 : fieldOff Try.prog 61 4 = some 4 := by kernel_rfl
theorem fo61_5 : fieldOff Try.prog 61 5 = some 5 := by kernel_rfl
theorem fo63_0 : fieldOff Try.prog 63 0 = some 0 := by kernel_rfl
theorem fo63_1 : fieldOff Try.prog 63 1 = some 1 := by kernel_rfl
theorem ap3 : (Try.prog.info? 3).map (fun i => (i.zero, i.size, i.bytes)) = some (some (.int .i64 0), 1, 8) := by kernel_rfl
theorem ap5 : (Try.prog.info? 5).map (fun i => (i.zero, i.size, i.bytes)) = some (some (.int .u8 0), 1, 1) := by kernel_rfl
theorem ap27 : (Try.prog.info? 27).map (fun i => (i.zero, i.size, i.bytes)) = some (some (.slice none 0 0), 1, 24) := by kernel_rfl
theorem ap63 : (Try.prog.info? 63).map (fun i => (i.zero, i.size, i.bytes)) = some (some (.agg #[.int .i64 0, .slice none 0 0]), 2, 32) := by kernel_rfl
theorem ze44 : (Try.prog.info? 44).bind (·.zero) = some (Value.agg (#[Value.int .i64 (0), Value.int .i64 (0), Value.slice none 0 0])) := by kernel_rfl
theorem ze63 : (Try.prog.info? 63).bind (·.zero) = some (Value.agg (#[Value.int .i64 (0), Value.slice none 0 0])) := by kernel_rfl
theorem mo : Try.prog.follows .mixedOrders = true := by kernel_rfl

/-! ### signalman/backlog.Cut: function 27 -/
def backlog_Cut.f (a0 : Int) (a1 : Int) : Option (Int × Int) := some (imax (8) (imin (a0) (32768)), imax (1) (imin (a1) (w64 ((imax (8) (imin (a0) (32768))).tdiv (8)))))
set_option maxRecDepth 100000 in
set_option maxHeartbeats 4000000 in
theorem backlog_Cut.calls (a0 : Int) (a1 : Int) (R : As) (w0 w : World)  (r : Int × Int)  (H : backlog_Cut.f a0 a1 = some r) (HS : Sep.St [R] w0 w) : Calls Try.prog 27 #[Value.int .i64 (a0), Value.int .i64 (a1)] w (Ret fun u w => u = Value.tuple #[Value.int .i64 (r.1), Value.int .i64 (r.2)] ∧ Sep.St [R] w0 w) := by
  unfold backlog_Cut.f at H
  refine calls_enter Try.func27 rfl rfl ?_
  have H : _ = some r := H
  refine V.seq ?_
  refine V.region ?_
  refine W.rd (X.assign rfl) rfl rfl rfl ?_
  refine W.rd (X.assign rfl) rfl rfl rfl ?_
  refine W.nil ?_
  refine At.next ?_
  refine V.keep [(0, Value.int .i64 (a0)), (1, Value.int .i64 (a1))] ⟨rfl, rfl, trivial⟩ ?_
  refine V.seq ?_
  refine V.region ?_
  refine W.rd (X.move rfl) rfl rfl rfl ?_
  refine W.rd (X.min2 rfl rfl) rfl rfl rfl ?_
  refine W.rd (X.max2 rfl rfl) rfl rfl rfl ?_
  refine W.rd (X.assign rfl) rfl rfl rfl ?_
  refine W.nil ?_
  refine At.next ?_
  refine V.keep [(0, Value.int .i64 (imax (8) (imin (a0) (32768)))), (1, Value.int .i64 (a1))] ⟨rfl, rfl, trivial⟩ ?_
  refine V.seq ?_
  refine V.region ?_
  refine W.rd (X.move rfl) rfl rfl rfl ?_
  refine W.rd (X.move rfl) rfl rfl rfl ?_
  refine W.rd (X.move rfl) rfl rfl rfl ?_
  refine W.rd (X.quo rfl rfl (by decide)) rfl rfl rfl ?_
  refine W.rd (X.min2 rfl rfl) rfl rfl rfl ?_
  refine W.rd (X.max2 rfl rfl) rfl rfl rfl ?_
  refine W.rd (X.assign rfl) rfl rfl rfl ?_
  refine W.rd (X.assign rfl) rfl rfl rfl ?_
  refine W.nil ?_
  refine At.next ?_
  refine V.keep [(4, Value.int .i64 (imax (8) (imin (a0) (32768)))), (5, Value.int .i64 (imax (1) (imin (a1) (w64 ((imax (8) (imin (a0) (32768))).tdiv (8))))))] ⟨rfl, rfl, trivial⟩ ?_
  refine V.ret ?_
  cases H
  exact At.ret2 rfl rfl rfl ⟨_, rfl, rfl, HS⟩

structure backlog_Log where
  m : Int
  window : Int
  queue : Int
  first : Int
  out : Int
  l : List (List Int)
deriving DecidableEq, Inhabited

def backlog_Log.at (b : Nat) (x : backlog_Log) : As := fun h => (True) ∧ ∃ a5 : Option Addr, ∃ c5 : Nat, ∃ d5 : List Value, Sp [blk b (#[Value.int .i64 ((x.m)), Value.int .i64 ((x.window)), Value.int .i64 ((x.queue)), Value.int .i64 ((x.first)), Value.int .i64 ((x.out)), Value.slice a5 ((x.l)).length c5]) 54, row 27 1 (.slice a5 ((x.l)).length c5) ((x.l)).length d5, tie (El.sl (El.int .u8)) d5 ((x.l))] h
theorem backlog_Log.open {b : Nat} {x : backlog_Log} {L : List As} {w0 w : World} (hs : Sep.St (backlog_Log.at b x :: L) w0 w) : ∃ a5 : Option Addr, ∃ c5 : Nat, ∃ d5 : List Value, (True) ∧ Sep.St (blk b (#[Value.int .i64 ((x.m)), Value.int .i64 ((x.window)), Value.int .i64 ((x.queue)), Value.int .i64 ((x.first)), Value.int .i64 ((x.out)), Value.slice a5 ((x.l)).length c5]) 54 :: row 27 1 (.slice a5 ((x.l)).length c5) ((x.l)).length d5 :: tie (El.sl (El.int .u8)) d5 ((x.l)) :: L) w0 w := by
  have h1 := St.pure.1 (show St ((fun h => (True) ∧ (fun h => ∃ a5 : Option Addr, ∃ c5 : Nat, ∃ d5 : List Value, Sp [blk b (#[Value.int .i64 ((x.m)), Value.int .i64 ((x.window)), Value.int .i64 ((x.queue)), Value.int .i64 ((x.first)), Value.int .i64 ((x.out)), Value.slice a5 ((x.l)).length c5]) 54, row 27 1 (.slice a5 ((x.l)).length c5) ((x.l)).length d5, tie (El.sl (El.int .u8)) d5 ((x.l))] h) h) :: L) w0 w from hs)
  obtain ⟨hi, hs⟩ := h1
  obtain ⟨a5, hs⟩ := St.ex.1 (show St ((fun h => ∃ a5 : Option Addr, (fun h => ∃ c5 : Nat, ∃ d5 : List Value, Sp [blk b (#[Value.int .i64 ((x.m)), Value.int .i64 ((x.window)), Value.int .i64 ((x.queue)), Value.int .i64 ((x.first)), Value.int .i64 ((x.out)), Value.slice a5 ((x.l)).length c5]) 54, row 27 1 (.slice a5 ((x.l)).length c5) ((x.l)).length d5, tie (El.sl (El.int .u8)) d5 ((x.l))] h) h) :: L) w0 w from hs)
  obtain ⟨c5, hs⟩ := St.ex.1 (show St ((fun h => ∃ c5 : Nat, (fun h => ∃ d5 : List Value, Sp [blk b (#[Value.int .i64 ((x.m)), Value.int .i64 ((x.window)), Value.int .i64 ((x.queue)), Value.int .i64 ((x.first)), Value.int .i64 ((x.out)), Value.slice a5 ((x.l)).length c5]) 54, row 27 1 (.slice a5 ((x.l)).length c5) ((x.l)).length d5, tie (El.sl (El.int .u8)) d5 ((x.l))] h) h) :: L) w0 w from hs)
  obtain ⟨d5, hs⟩ := St.ex.1 (show St ((fun h => ∃ d5 : List Value, (fun h => Sp [blk b (#[Value.int .i64 ((x.m)), Value.int .i64 ((x.window)), Value.int .i64 ((x.queue)), Value.int .i64 ((x.first)), Value.int .i64 ((x.out)), Value.slice a5 ((x.l)).length c5]) 54, row 27 1 (.slice a5 ((x.l)).length c5) ((x.l)).length d5, tie (El.sl (El.int .u8)) d5 ((x.l))] h) h) :: L) w0 w from hs)
  exact ⟨a5, c5, d5, hi, St.open (m := [blk b (#[Value.int .i64 ((x.m)), Value.int .i64 ((x.window)), Value.int .i64 ((x.queue)), Value.int .i64 ((x.first)), Value.int .i64 ((x.out)), Value.slice a5 ((x.l)).length c5]) 54, row 27 1 (.slice a5 ((x.l)).length c5) ((x.l)).length d5, tie (El.sl (El.int .u8)) d5 ((x.l))]) hs⟩
theorem backlog_Log.close {b : Nat} (x : backlog_Log) {a5 : Option Addr} {c5 : Nat} {d5 : List Value} {L : List As} {w0 w : World} (hi : True) (hs : Sep.St (blk b (#[Value.int .i64 ((x.m)), Value.int .i64 ((x.window)), Value.int .i64 ((x.queue)), Value.int .i64 ((x.first)), Value.int .i64 ((x.out)), Value.slice a5 ((x.l)).length c5]) 54 :: row 27 1 (.slice a5 ((x.l)).length c5) ((x.l)).length d5 :: tie (El.sl (El.int .u8)) d5 ((x.l)) :: L) w0 w) : Sep.St (backlog_Log.at b x :: L) w0 w := by
  have h2 := St.join (m := [blk b (#[Value.int .i64 ((x.m)), Value.int .i64 ((x.window)), Value.int .i64 ((x.queue)), Value.int .i64 ((x.first)), Value.int .i64 ((x.out)), Value.slice a5 ((x.l)).length c5]) 54, row 27 1 (.slice a5 ((x.l)).length c5) ((x.l)).length d5, tie (El.sl (El.int .u8)) d5 ((x.l))]) hs
  exact h2.mono fun h hh => ⟨hi, _, _, _, hh⟩

/-! ### signalman/backlog.New: function 8 -/
def backlog_New.f (a0 : Int) (a1 : Int) (a2 : Int) : Option (backlog_Log) := ((backlog_Cut.f a0 a1).bind fun t1 => some (({ m := t1.1, window := t1.2, queue := imax (0) (imin (a2) (1000)), first := 0, out := 0, l := ([] : List (List Int)) } : backlog_Log)))
set_option maxRecDepth 100000 in
set_option maxHeartbeats 4000000 in
theorem backlog_New.calls (a0 : Int) (a1 : Int) (a2 : Int) (R : As) (w0 w : World)  (r : backlog_Log)  (H : backlog_New.f a0 a1 a2 = some r) (HS : Sep.St [R] w0 w) : Calls Try.prog 8 #[Value.int .i64 (a0), Value.int .i64 (a1), Value.int .i64 (a2)] w (Ret fun u w => ∃ (bq0 : Nat), u = Value.pointer (some ⟨bq0, 0, none⟩) ∧ Sep.St [backlog_Log.at bq0 (r), R] w0 w) := by
  unfold backlog_New.f at H
  refine calls_enter Try.func8 rfl rfl ?_
  have H : _ = some r := H
  refine V.seq ?_
  refine V.region ?_
  refine W.rd (X.assign rfl) rfl rfl rfl ?_
  refine W.nil ?_
  refine At.next ?_
  refine V.keep [(0, Value.int .i64 (a0)), (1, Value.int .i64 (a1)), (2, Value.int .i64 (a2))] ⟨rfl, rfl, rfl, trivial⟩ ?_
  refine V.seq ?_
  refine V.region ?_
  refine W.rd (X.move rfl) rfl rfl rfl ?_
  refine W.rd (X.move rfl) rfl rfl rfl ?_
  obtain ⟨t1, A2, H⟩ := bind_s H
  refine W.ev (Y.call Try.func27 (by kernel_rfl) rfl (vs := [Value.int .i64 (a0), Value.int .i64 (a1)]) rfl (backlog_Cut.calls a0 a1 _ w0 _  t1  A2 (Sep.St.tailJoin (m := []) (r := [R]) HS))) rfl rfl rfl ?_
  rintro _ w ⟨rfl, HS⟩
  replace HS := Sep.St.tailOpen (m := []) (r := [R]) HS
  have HS : Sep.St [R] w0 w := HS
  refine W.rd (X.move rfl) rfl rfl rfl ?_
  refine W.rd (X.extract rfl rfl) rfl rfl rfl ?_
  refine W.rd (X.extract rfl rfl) rfl rfl rfl ?_
  refine W.rd (X.assign rfl) rfl rfl rfl ?_
  refine W.rd (X.assign rfl) rfl rfl rfl ?_
  refine W.nil ?_
  refine At.next ?_
  refine V.keep [(0, Value.int .i64 (t1.1)), (1, Value.int .i64 (t1.2)), (2, Value.int .i64 (a2))] ⟨rfl, rfl, rfl, trivial⟩ ?_
  refine V.seq ?_
  refine V.region ?_
  refine W.rd (X.move rfl) rfl rfl rfl ?_
  refine W.rd (X.move rfl) rfl rfl rfl ?_
  refine W.rd (X.move rfl) rfl rfl rfl ?_
  refine W.rd (X.min2 rfl rfl) rfl rfl rfl ?_
  refine W.rd (X.max2 rfl rfl) rfl rfl rfl ?_
  refine W.rd (X.build (vs := #[(0, Value.int .i64 (t1.1)), (1, Value.int .i64 (t1.2)), (2, Value.int .i64 (imax (0) (imin (a2) (1000))))]) (v := Value.agg #[Value.int .i64 (t1.1), Value.int .i64 (t1.2), Value.int .i64 (imax (0) (imin (a2) (1000))), Value.int .i64 (0), Value.int .i64 (0), Value.slice none 0 0]) (fun a ha => by simp only [List.map_toArray, List.map_cons, List.map_nil]; rw [ha.ev (x := .tmp 13) (v := Value.int .i64 (t1.1)) rfl]; rw [ha.ev (x := .tmp 14) (v := Value.int .i64 (t1.2)) rfl]; rw [ha.ev (x := .tmp 17) (v := Value.int .i64 (imax (0) (imin (a2) (1000)))) rfl]; try rfl) (fun _ => by kernel_rfl)) rfl rfl rfl ?_
  refine W.ev (Y.box HS rfl) rfl rfl rfl ?_
  rintro _ w ⟨nb3, rfl, HS⟩
  have HS : Sep.St [blk nb3 (#[Value.int .i64 (t1.1), Value.int .i64 (t1.2), Value.int .i64 (imax (0) (imin (a2) (1000))), Value.int .i64 (0), Value.int .i64 (0), Value.slice none 0 0]) 54, R] w0 w := HS
  refine W.rd (X.assign rfl) rfl rfl rfl ?_
  refine W.nil ?_
  refine At.next ?_
  refine V.keep [(6, Value.pointer (some ⟨nb3, 0, none⟩))] ⟨rfl, trivial⟩ ?_
  refine V.ret ?_
  replace HS := row_nil' (e := 27) 1 none (St.put (A := tie (El.sl (El.int .u8)) ([]) (([] : List (List Int)))) (fun _ => tie.nil) HS)
  have HS : Sep.St [row 27 1 (.slice none (([] : List (List Int))).length 0) (([] : List (List Int))).length ([]), tie (El.sl (El.int .u8)) ([]) (([] : List (List Int))), blk nb3 (#[Value.int .i64 (t1.1), Value.int .i64 (t1.2), Value.int .i64 (imax (0) (imin (a2) (1000))), Value.int .i64 (0), Value.int .i64 (0), Value.slice none 0 0]) 54, R] w0 w := HS
  replace HS := HS.re [2, 0, 1, 3] (by kernel_rfl)
  have HS : Sep.St [blk nb3 (#[Value.int .i64 (t1.1), Value.int .i64 (t1.2), Value.int .i64 (imax (0) (imin (a2) (1000))), Value.int .i64 (0), Value.int .i64 (0), Value.slice none (([] : List (List Int))).length 0]) 54, row 27 1 (.slice none (([] : List (List Int))).length 0) (([] : List (List Int))).length ([]), tie (El.sl (El.int .u8)) ([]) (([] : List (List Int))), R] w0 w := HS
  replace HS := backlog_Log.close (({ m := t1.1, window := t1.2, queue := imax (0) (imin (a2) (1000)), first := 0, out := 0, l := ([] : List (List Int)) } : backlog_Log)) trivial HS
  have HS : Sep.St [backlog_Log.at nb3 (({ m := t1.1, window := t1.2, queue := imax (0) (imin (a2) (1000)), first := 0, out := 0, l := ([] : List (List Int)) } : backlog_Log)), R] w0 w := HS
  cases H
  exact At.ret1 rfl rfl ⟨_, rfl, nb3, rfl, HS⟩

/-! ### (*signalman/backlog.Log).number: function 29 -/
def backlog_Log_number.f (a0 : backlog_Log) (a1 : Int) : Option (Int) := (if ¬ ((a0).m = 0) then some ((w64 (((a0).first) + a1)).tmod ((a0).m)) else none)
set_option maxRecDepth 100000 in
set_option maxHeartbeats 4000000 in
theorem backlog_Log_number.calls (a0 : backlog_Log) (a1 : Int) (R : As) (w0 w : World) (b0 : Nat) (a5_p0 : Option Addr) (c5_p0 : Nat) (d5_p0 : List Value) (r : Int)  (H : backlog_Log_number.f a0 a1 = some r) (HS : Sep.St [blk b0 (#[Value.int .i64 ((a0).m), Value.int .i64 ((a0).window), Value.int .i64 ((a0).queue), Value.int .i64 ((a0).first), Value.int .i64 ((a0).out), Value.slice a5_p0 ((a0).l).length c5_p0]) 54, row 27 1 (.slice a5_p0 ((a0).l).length c5_p0) ((a0).l).length d5_p0, tie (El.sl (El.int .u8)) d5_p0 ((a0).l), R] w0 w) : Calls Try.prog 29 #[Value.pointer (some ⟨b0, 0, none⟩), Value.int .i64 (a1)] w (Ret fun u w => u = Value.int .i64 (r) ∧ Sep.St [blk b0 (#[Value.int .i64 ((a0).m), Value.int .i64 ((a0).window), Value.int .i64 ((a0).queue), Value.int .i64 ((a0).first), Value.int .i64 ((a0).out), Value.slice a5_p0 ((a0).l).length c5_p0]) 54, row 27 1 (.slice a5_p0 ((a0).l).length c5_p0) ((a0).l).length d5_p0, tie (El.sl (El.int .u8)) d5_p0 ((a0).l), R] w0 w) := by
  unfold backlog_Log_number.f at H
  refine calls_enter Try.func29 rfl rfl ?_
  have H : _ = some r := H
  refine V.seq ?_
  refine V.region ?_
  refine W.rd (X.assign rfl) rfl rfl rfl ?_
  refine W.nil ?_
  refine At.next ?_
  refine V.keep [(0, Value.pointer (some ⟨b0, 0, none⟩)), (1, Value.int .i64 (a1))] ⟨rfl, rfl, trivial⟩ ?_
  refine V.seq ?_
  obtain ⟨c1, H⟩ := ite_n H
  refine V.draw (es := []) (bl := []) (f := [(5, Value.pointer (some ⟨b0, 0, none⟩)), (6, Value.pointer (some ⟨b0, 0, none⟩)), (7, Value.pointer (some ⟨b0, 0 + 3, none⟩)), (8, Value.int .i64 ((a0).first)), (9, Value.int .i64 (a1)), (10, Value.int .i64 (w64 (((a0).first) + a1))), (11, Value.pointer (some ⟨b0, 0, none⟩)), (12, Value.pointer (some ⟨b0, 0, none⟩)), (13, Value.pointer (some ⟨b0, 0 + 0, none⟩)), (14, Value.int .i64 ((a0).m)), (15, Value.int .i64 ((w64 (((a0).first) + a1)).tmod ((a0).m))), (4, Value.int .i64 ((w64 (((a0).first) + a1)).tmod ((a0).m)))]) (fun w => Sep.St [blk b0 (#[Value.int .i64 ((a0).m), Value.int .i64 ((a0).window), Value.int .i64 ((a0).queue), Value.int .i64 ((a0).first), Value.int .i64 ((a0).out), Value.slice a5_p0 ((a0).l).length c5_p0]) 54, row 27 1 (.slice a5_p0 ((a0).l).length c5_p0) ((a0).l).length d5_p0, tie (El.sl (El.int .u8)) d5_p0 ((a0).l), R] w0 w) mo HS.drew rfl ?_
  refine T.fin [(4, Value.int .i64 ((w64 (((a0).first) + a1)).tmod ((a0).m)))] rfl ⟨⟨_, Value.pointer (some ⟨b0, 0, none⟩), [(0, Value.pointer (some ⟨b0, 0, none⟩))], 5, rfl, rfl, ⟨.inl ⟨rfl, rfl⟩, trivial⟩, .run rfl (fun w HS => X.move rfl), rfl, rfl, rfl⟩, ⟨_, Value.pointer (some ⟨b0, 0, none⟩), [(5, Value.pointer (some ⟨b0, 0, none⟩))], 6, rfl, rfl, ⟨.inr ⟨rfl, rfl⟩, trivial⟩, .run rfl (fun w HS => X.nilCheck rfl), rfl, rfl, rfl⟩, ⟨_, Value.pointer (some ⟨b0, 0 + 3, none⟩), [(6, Value.pointer (some ⟨b0, 0, none⟩))], 7, rfl, rfl, ⟨.inr ⟨rfl, rfl⟩, trivial⟩, .run rfl (fun w HS => X.fieldAddr 3 fo54_3 rfl), rfl, rfl, rfl⟩, ⟨_, Value.int .i64 ((a0).first), [(7, Value.pointer (some ⟨b0, 0 + 3, none⟩))], 8, rfl, rfl, ⟨.inr ⟨rfl, rfl⟩, trivial⟩, .run rfl (fun w HS => X.loadAt 0 HS rfl Try.underlying3 rfl rfl rfl), rfl, rfl, rfl⟩, ⟨_, Value.int .i64 (a1), [(1, Value.int .i64 (a1))], 9, rfl, rfl, ⟨.inl ⟨rfl, rfl⟩, trivial⟩, .run rfl (fun w HS => X.move rfl), rfl, rfl, rfl⟩, ⟨_, Value.int .i64 (w64 (((a0).first) + a1)), [(8, Value.int .i64 ((a0).first)), (9, Value.int .i64 (a1))], 10, rfl, rfl, ⟨.inr ⟨rfl, rfl⟩, ⟨.inr ⟨rfl, rfl⟩, trivial⟩⟩, .run rfl (fun w HS => X.add rfl rfl), rfl, rfl, rfl⟩, ⟨_, Value.pointer (some ⟨b0, 0, none⟩), [(0, Value.pointer (some ⟨b0, 0, none⟩))], 11, rfl, rfl, ⟨.inl ⟨rfl, rfl⟩, trivial⟩, .run rfl (fun w HS => X.move rfl), rfl, rfl, rfl⟩, ⟨_, Value.pointer (some ⟨b0, 0, none⟩), [(11, Value.pointer (some ⟨b0, 0, none⟩))], 12, rfl, rfl, ⟨.inr ⟨rfl, rfl⟩, trivial⟩, .run rfl (fun w HS => X.nilCheck rfl), rfl, rfl, rfl⟩, ⟨_, Value.pointer (some ⟨b0, 0 + 0, none⟩), [(12, Value.pointer (some ⟨b0, 0, none⟩))], 13, rfl, rfl, ⟨.inr ⟨rfl, rfl⟩, trivial⟩, .run rfl (fun w HS => X.fieldAddr 0 fo54_0 rfl), rfl, rfl, rfl⟩, ⟨_, Value.int .i64 ((a0).m), [(13, Value.pointer (some ⟨b0, 0 + 0, none⟩))], 14, rfl, rfl, ⟨.inr ⟨rfl, rfl⟩, trivial⟩, .run rfl (fun w HS => X.loadAt 0 HS rfl Try.underlying3 rfl rfl rfl), rfl, rfl, rfl⟩, ⟨_, Value.int .i64 ((w64 (((a0).first) + a1)).tmod ((a0).m)), [(10, Value.int .i64 (w64 (((a0).first) + a1))), (14, Value.int .i64 ((a0).m))], 15, rfl, rfl, ⟨.inr ⟨rfl, rfl⟩, ⟨.inr ⟨rfl, rfl⟩, trivial⟩⟩, .run rfl (fun w HS => X.rem rfl rfl c1), rfl, rfl, rfl⟩, ⟨_, Value.int .i64 ((w64 (((a0).first) + a1)).tmod ((a0).m)), [(15, Value.int .i64 ((w64 (((a0).first) + a1)).tmod ((a0).m)))], 4, rfl, rfl, ⟨.inr ⟨rfl, rfl⟩, trivial⟩, .run rfl (fun w HS => X.assign rfl), rfl, rfl, rfl⟩, trivial⟩ ⟨.inr ⟨rfl, rfl⟩, trivial⟩ (fun w HS => ?_)
  have HS : Sep.St [blk b0 (#[Value.int .i64 ((a0).m), Value.int .i64 ((a0).window), Value.int .i64 ((a0).queue), Value.int .i64 ((a0).first), Value.int .i64 ((a0).out), Value.slice a5_p0 ((a0).l).length c5_p0]) 54, row 27 1 (.slice a5_p0 ((a0).l).length c5_p0) ((a0).l).length d5_p0, tie (El.sl (El.int .u8)) d5_p0 ((a0).l), R] w0 w := HS
  refine At.next ?_
  refine V.keep [(4, Value.int .i64 ((w64 (((a0).first) + a1)).tmod ((a0).m)))] ⟨rfl, trivial⟩ ?_
  refine V.ret ?_
  cases H
  exact At.ret1 rfl rfl ⟨_, rfl, rfl, HS⟩

/-! ### slices.Clone[[]byte,byte]: function 28 -/
def slices_Clone_Sbytebyte.f (a0 : List Int) : Option (List Int) := (if ((([] : List Int)).length : Int) + (a0).length ≤ 1099511627776 then some (([] : List Int) ++ a0) else none)
set_option maxRecDepth 100000 in
set_option maxHeartbeats 4000000 in
theorem slices_Clone_Sbytebyte.calls (a0 : List Int) (R : As) (w0 w : World) (sa0 : Option Addr) (sc0 : Nat) (r : List Int) (hr0 : rdC R 1 (.slice sa0 (a0).length sc0) (a0).length ((a0).map (Value.int .u8))) (H : slices_Clone_Sbytebyte.f a0 = some r) (HS : Sep.St [R] w0 w) : Calls Try.prog 28 #[Value.slice sa0 (a0).length sc0] w (Ret fun u w => ∃ (aq0 : Option Addr) (cq0 : Nat), u = Value.slice aq0 (r).length cq0 ∧ Sep.St [row 5 1 (.slice aq0 (r).length cq0) (r).length ((r).map (Value.int .u8)), R] w0 w) := by
  unfold slices_Clone_Sbytebyte.f at H
  refine calls_enter Try.func28 rfl rfl ?_
  have H : _ = some r := H
  refine V.seq ?_
  refine V.region ?_
  refine W.rd (X.assign rfl) rfl rfl rfl ?_
  refine W.nil ?_
  refine At.next ?_
  refine V.keep [(0, Value.slice sa0 (a0).length sc0)] ⟨rfl, trivial⟩ ?_
  refine V.seq ?_
  refine V.seq ?_
  refine V.region ?_
  refine W.rd (X.move rfl) rfl rfl rfl ?_
  refine W.rd (X.eqSl Try.underlying27 rfl rfl) rfl rfl rfl ?_
  refine W.nil ?_
  refine At.next ?_
  refine V.keep [(0, Value.slice sa0 (a0).length sc0), (4, Value.bool ((sa0).isNone))] ⟨rfl, rfl, trivial⟩ ?_
  by_cases cg1 : (sa0).isNone = false
  · refine V.condF (sb cg1) ?_
    refine V.skip ?_
    refine At.next ?_
    refine V.keep [(0, Value.slice sa0 (a0).length sc0)] ⟨rfl, trivial⟩ ?_
    refine V.seq ?_
    refine V.region ?_
    refine W.ev (Y.lit (e := 5) (sz := 1) (vs := #[]) [] HS (fun a ha => by simp only [List.map_toArray, List.map_cons, List.map_nil]; try rfl) rfl (by decide) (fun _ => by kernel_rfl)) rfl rfl rfl ?_
    rintro _ w ⟨ra4, rc5, rfl, HS⟩
    have HS : Sep.St [row 5 1 (.slice ra4 (([] : List Int)).length rc5) (([] : List Int)).length ((([] : List Int)).map (Value.int .u8)), R] w0 w := HS
    refine W.rd (X.move rfl) rfl rfl rfl ?_
    obtain ⟨c7, H⟩ := ite_n H
    refine W.ev (Y.appF (Value.int .u8) (fun _ => rfl) 0 Try.underlying27 ap5 rfl HS rfl rfl rfl (rdC.at 1 hr0 HS rfl) (by omega) (by omega)) rfl rfl rfl ?_
    rintro _ w ⟨ra8, rc9, rfl, HS⟩
    have HS : Sep.St [row 5 1 (.slice ra8 (([] : List Int) ++ a0).length rc9) (([] : List Int) ++ a0).length ((([] : List Int) ++ a0).map (Value.int .u8)), R] w0 w := HS
    refine W.rd (X.assign rfl) rfl rfl rfl ?_
    refine W.nil ?_
    refine At.next ?_
    refine V.keep [(2, Value.slice ra8 (([] : List Int) ++ a0).length rc9)] ⟨rfl, trivial⟩ ?_
    refine V.ret ?_
    cases H
    exact At.ret1 rfl rfl ⟨_, rfl, ra8, rc9, rfl, HS⟩
  · have hN2 : (sa0).isNone = true := by simpa using cg1
    have hz3 : a0 = [] := List.eq_nil_of_length_eq_zero ((rdC.at 0 hr0 HS rfl).nil (Option.isNone_iff_eq_none.1 hN2)).1
    have H : some (([] : List Int)) = some r := by simpa [hz3] using H
    refine V.condT (sb hN2) ?_
    refine V.seq ?_
    refine V.region ?_
    refine W.rd (X.assign rfl) rfl rfl rfl ?_
    refine W.nil ?_
    refine At.next ?_
    refine V.keep [(2, Value.slice none 0 0)] ⟨rfl, trivial⟩ ?_
    refine V.ret ?_
    refine At.thenRet ?_
    replace HS := row_nil' (e := 5) 1 none HS
    have HS : Sep.St [row 5 1 (.slice none (([] : List Int)).length 0) (([] : List Int)).length ((([] : List Int)).map (Value.int .u8)), R] w0 w := HS
    cases H
    exact At.ret1 rfl rfl ⟨_, rfl, none, 0, rfl, HS⟩

/-! ### (*signalman/backlog.Log).Next: function 10 -/
mutual
def backlog_Log_Next.j0 (a0 : backlog_Log) (x2 : Bool) : Option (Int × List Int × Bool × backlog_Log) := (if x2 = true then some (0, ([] : List Int), false, a0) else (if 0 ≤ (a0).out ∧ (a0).out < (((a0).l).length : Int) then ((backlog_Log_number.f ({ m := (a0).m, window := (a0).window, queue := (a0).queue, first := (a0).first, out := w64 (((a0).out) + 1), l := (a0).l } : backlog_Log) ((a0).out)).bind fun t16 => ((slices_Clone_Sbytebyte.f (((a0).l).getD ((a0).out).toNat [])).bind fun t18 => some (t16, t18, true, ({ m := (a0).m, window := (a0).window, queue := (a0).queue, first := (a0).first, out := w64 (((a0).out) + 1), l := (a0).l } : backlog_Log)))) else none))
end
def backlog_Log_Next.f (a0 : backlog_Log) : Option (Int × List Int × Bool × backlog_Log) := (if ((a0).out) = (((a0).l).length : Int) then (backlog_Log_Next.j0 a0 true) else (backlog_Log_Next.j0 a0 (decide (((a0).out) = ((a0).window)))))
set_option maxRecDepth 100000 in
set_option maxHeartbeats 4000000 in
theorem backlog_Log_Next.calls (a0 : backlog_Log) (R : As) (w0 w : World) (b0 : Nat) (r : Int × List Int × Bool × backlog_Log)  (H : backlog_Log_Next.f a0 = some r) (HS : Sep.St [backlog_Log.at b0 (a0), R] w0 w) : Calls Try.prog 10 #[Value.pointer (some ⟨b0, 0, none⟩)] w (Ret fun u w => ∃ (aq1 : Option Addr) (cq1 : Nat), u = Value.tuple #[Value.int .i64 (r.1), Value.slice aq1 (r.2.1).length cq1, Value.bool (r.2.2.1)] ∧ Sep.St [row 5 1 (.slice aq1 (r.2.1).length cq1) (r.2.1).length ((r.2.1).map (Value.int .u8)), backlog_Log.at b0 (r.2.2.2), R] w0 w) := by
  unfold backlog_Log_Next.f at H
  refine calls_enter Try.func10 rfl rfl ?_
  have H : _ = some r := H
  refine V.seq ?_
  refine V.region ?_
  refine W.rd (X.assign rfl) rfl rfl rfl ?_
  refine W.rd (X.assign rfl) rfl rfl rfl ?_
  refine W.rd (X.assign rfl) rfl rfl rfl ?_
  refine W.nil ?_
  refine At.next ?_
  refine V.keep [(0, Value.pointer (some ⟨b0, 0, none⟩))] ⟨rfl, trivial⟩ ?_
  refine V.seq ?_
  refine V.meet (σ := Bool) (fun st w => match st with | x2 => Sep.St [backlog_Log.at b0 (a0), R] w0 w ∧ backlog_Log_Next.j0 a0 x2 = some r) (fun st => match st with | x2 => [(0, Value.pointer (some ⟨b0, 0, none⟩)), (26, Value.bool (x2))]) ?_ ?_
  · obtain ⟨a5_20, c5_20, d5_20, hi21, HS⟩ := backlog_Log.open HS
    have HS : Sep.St [blk b0 (#[Value.int .i64 ((a0).m), Value.int .i64 ((a0).window), Value.int .i64 ((a0).queue), Value.int .i64 ((a0).first), Value.int .i64 ((a0).out), Value.slice a5_20 ((a0).l).length c5_20]) 54, row 27 1 (.slice a5_20 ((a0).l).length c5_20) ((a0).l).length d5_20, tie (El.sl (El.int .u8)) d5_20 ((a0).l), R] w0 w := HS
    by_cases c22 : ((a0).out) = (((a0).l).length : Int)
    · replace H := ite_t c22 H
      refine V.draw (es := []) (bl := []) (f := [(6, Value.pointer (some ⟨b0, 0, none⟩)), (7, Value.pointer (some ⟨b0, 0, none⟩)), (8, Value.pointer (some ⟨b0, 0 + 4, none⟩)), (9, Value.int .i64 ((a0).out)), (10, Value.pointer (some ⟨b0, 0, none⟩)), (11, Value.pointer (some ⟨b0, 0, none⟩)), (12, Value.pointer (some ⟨b0, 0 + 5, none⟩)), (13, Value.slice a5_20 ((a0).l).length c5_20), (14, Value.int .i64 ((((a0).l).length : Int))), (15, Value.bool (decide (((a0).out) = (((a0).l).length : Int)))), (16, Value.bool (decide (((a0).out) = (((a0).l).length : Int)))), (17, undef), (18, undef), (19, undef), (20, undef), (21, undef), (22, undef), (23, undef), (24, undef), (25, undef), (26, Value.bool (true))]) (fun w => Sep.St [blk b0 (#[Value.int .i64 ((a0).m), Value.int .i64 ((a0).window), Value.int .i64 ((a0).queue), Value.int .i64 ((a0).first), Value.int .i64 ((a0).out), Value.slice a5_20 ((a0).l).length c5_20]) 54, row 27 1 (.slice a5_20 ((a0).l).length c5_20) ((a0).l).length d5_20, tie (El.sl (El.int .u8)) d5_20 ((a0).l), R] w0 w) mo HS.drew rfl ?_
      refine T.fin [(0, Value.pointer (some ⟨b0, 0, none⟩)), (26, Value.bool (true))] rfl ⟨⟨_, Value.pointer (some ⟨b0, 0, none⟩), [(0, Value.pointer (some ⟨b0, 0, none⟩))], 6, rfl, rfl, ⟨.inl ⟨rfl, rfl⟩, trivial⟩, .run rfl (fun w HS => X.move rfl), rfl, rfl, rfl⟩, ⟨_, Value.pointer (some ⟨b0, 0, none⟩), [(6, Value.pointer (some ⟨b0, 0, none⟩))], 7, rfl, rfl, ⟨.inr ⟨rfl, rfl⟩, trivial⟩, .run rfl (fun w HS => X.nilCheck rfl), rfl, rfl, rfl⟩, ⟨_, Value.pointer (some ⟨b0, 0 + 4, none⟩), [(7, Value.pointer (some ⟨b0, 0, none⟩))], 8, rfl, rfl, ⟨.inr ⟨rfl, rfl⟩, trivial⟩, .run rfl (fun w HS => X.fieldAddr 4 fo54_4 rfl), rfl, rfl, rfl⟩, ⟨_, Value.int .i64 ((a0).out), [(8, Value.pointer (some ⟨b0, 0 + 4, none⟩))], 9, rfl, rfl, ⟨.inr ⟨rfl, rfl⟩, trivial⟩, .run rfl (fun w HS => X.loadAt 0 HS rfl Try.underlying3 rfl rfl rfl), rfl, rfl, rfl⟩, ⟨_, Value.pointer (some ⟨b0, 0, none⟩), [(0, Value.pointer (some ⟨b0, 0, none⟩))], 10, rfl, rfl, ⟨.inl ⟨rfl, rfl⟩, trivial⟩, .run rfl (fun w HS => X.move rfl), rfl, rfl, rfl⟩, ⟨_, Value.pointer (some ⟨b0, 0, none⟩), [(10, Value.pointer (some ⟨b0, 0, none⟩))], 11, rfl, rfl, ⟨.inr ⟨rfl, rfl⟩, trivial⟩, .run rfl (fun w HS => X.nilCheck rfl), rfl, rfl, rfl⟩, ⟨_, Value.pointer (some ⟨b0, 0 + 5, none⟩), [(11, Value.pointer (some ⟨b0, 0, none⟩))], 12, rfl, rfl, ⟨.inr ⟨rfl, rfl⟩, trivial⟩, .run rfl (fun w HS => X.fieldAddr 5 fo54_5 rfl), rfl, rfl, rfl⟩, ⟨_, Value.slice a5_20 ((a0).l).length c5_20, [(12, Value.pointer (some ⟨b0, 0 + 5, none⟩))], 13, rfl, rfl, ⟨.inr ⟨rfl, rfl⟩, trivial⟩, .run rfl (fun w HS => X.loadAt 0 HS rfl Try.underlying52 rfl rfl rfl), rfl, rfl, rfl⟩, ⟨_, Value.int .i64 ((((a0).l).length : Int)), [(13, Value.slice a5_20 ((a0).l).length c5_20)], 14, rfl, rfl, ⟨.inr ⟨rfl, rfl⟩, trivial⟩, .run rfl (fun w HS => X.lenSl Try.underlying52 rfl), rfl, rfl, rfl⟩, ⟨_, Value.bool (decide (((a0).out) = (((a0).l).length : Int))), [(9, Value.int .i64 ((a0).out)), (14, Value.int .i64 ((((a0).l).length : Int)))], 15, rfl, rfl, ⟨.inr ⟨rfl, rfl⟩, ⟨.inr ⟨rfl, rfl⟩, trivial⟩⟩, .run rfl (fun w HS => X.cmp (decide (((a0).out) = (((a0).l).length : Int))) rfl rfl rfl rfl), rfl, rfl, rfl⟩, ⟨_, Value.bool (decide (((a0).out) = (((a0).l).length : Int))), [(15, Value.bool (decide (((a0).out) = (((a0).l).length : Int))))], 16, rfl, rfl, ⟨.inr ⟨rfl, rfl⟩, trivial⟩, .run rfl (fun w HS => X.move rfl), rfl, rfl, rfl⟩, ⟨_, undef, [(16, Value.bool (decide (((a0).out) = (((a0).l).length : Int))))], 17, rfl, rfl, ⟨.inr ⟨rfl, rfl⟩, trivial⟩, .pass 10 false true 16 rfl rfl (sb (decide_eq_true c22)) rfl rfl, rfl, rfl, rfl⟩, ⟨_, undef, [(16, Value.bool (decide (((a0).out) = (((a0).l).length : Int))))], 18, rfl, rfl, ⟨.inr ⟨rfl, rfl⟩, trivial⟩, .pass 10 false true 16 rfl rfl (sb (decide_eq_true c22)) rfl rfl, rfl, rfl, rfl⟩, ⟨_, undef, [(16, Value.bool (decide (((a0).out) = (((a0).l).length : Int))))], 19, rfl, rfl, ⟨.inr ⟨rfl, rfl⟩, trivial⟩, .pass 10 false true 16 rfl rfl (sb (decide_eq_true c22)) rfl rfl, rfl, rfl, rfl⟩, ⟨_, undef, [(16, Value.bool (decide (((a0).out) = (((a0).l).length : Int))))], 20, rfl, rfl, ⟨.inr ⟨rfl, rfl⟩, trivial⟩, .pass 10 false true 16 rfl rfl (sb (decide_eq_true c22)) rfl rfl, rfl, rfl, rfl⟩, ⟨_, undef, [(16, Value.bool (decide (((a0).out) = (((a0).l).length : Int))))], 21, rfl, rfl, ⟨.inr ⟨rfl, rfl⟩, trivial⟩, .pass 10 false true 16 rfl rfl (sb (decide_eq_true c22)) rfl rfl, rfl, rfl, rfl⟩, ⟨_, undef, [(16, Value.bool (decide (((a0).out) = (((a0).l).length : Int))))], 22, rfl, rfl, ⟨.inr ⟨rfl, rfl⟩, trivial⟩, .pass 10 false true 16 rfl rfl (sb (decide_eq_true c22)) rfl rfl, rfl, rfl, rfl⟩, ⟨_, undef, [(16, Value.bool (decide (((a0).out) = (((a0).l).length : Int))))], 23, rfl, rfl, ⟨.inr ⟨rfl, rfl⟩, trivial⟩, .pass 10 false true 16 rfl rfl (sb (decide_eq_true c22)) rfl rfl, rfl, rfl, rfl⟩, ⟨_, undef, [(16, Value.bool (decide (((a0).out) = (((a0).l).length : Int))))], 24, rfl, rfl, ⟨.inr ⟨rfl, rfl⟩, trivial⟩, .pass 10 false true 16 rfl rfl (sb (decide_eq_true c22)) rfl rfl, rfl, rfl, rfl⟩, ⟨_, undef, [(16, Value.bool (decide (((a0).out) = (((a0).l).length : Int))))], 25, rfl, rfl, ⟨.inr ⟨rfl, rfl⟩, trivial⟩, .pass 10 false true 16 rfl rfl (sb (decide_eq_true c22)) rfl rfl, rfl, rfl, rfl⟩, ⟨_, Value.bool (true), [(16, Value.bool (decide (((a0).out) = (((a0).l).length : Int)))), (25, undef)], 26, rfl, rfl, ⟨.inr ⟨rfl, rfl⟩, ⟨.inr ⟨rfl, rfl⟩, trivial⟩⟩, .run rfl (fun w HS => X.pickT (sb (decide_eq_true c22)) rfl), rfl, rfl, rfl⟩, trivial⟩ ⟨.inl ⟨rfl, rfl⟩, ⟨.inr ⟨rfl, rfl⟩, trivial⟩⟩ (fun w HS => ?_)
      have HS : Sep.St [blk b0 (#[Value.int .i64 ((a0).m), Value.int .i64 ((a0).window), Value.int .i64 ((a0).queue), Value.int .i64 ((a0).first), Value.int .i64 ((a0).out), Value.slice a5_20 ((a0).l).length c5_20]) 54, row 27 1 (.slice a5_20 ((a0).l).length c5_20) ((a0).l).length d5_20, tie (El.sl (El.int .u8)) d5_20 ((a0).l), R] w0 w := HS
      replace HS := backlog_Log.close (a0) trivial HS
      have HS : Sep.St [backlog_Log.at b0 (a0), R] w0 w := HS
      exact At.meet (true) ⟨rfl, rfl, trivial⟩ ⟨HS, H⟩
    · replace H := ite_f c22 H
      refine V.draw (es := []) (bl := []) (f := [(6, Value.pointer (some ⟨b0, 0, none⟩)), (7, Value.pointer (some ⟨b0, 0, none⟩)), (8, Value.pointer (some ⟨b0, 0 + 4, none⟩)), (9, Value.int .i64 ((a0).out)), (10, Value.pointer (some ⟨b0, 0, none⟩)), (11, Value.pointer (some ⟨b0, 0, none⟩)), (12, Value.pointer (some ⟨b0, 0 + 5, none⟩)), (13, Value.slice a5_20 ((a0).l).length c5_20), (14, Value.int .i64 ((((a0).l).length : Int))), (15, Value.bool (decide (((a0).out) = (((a0).l).length : Int)))), (16, Value.bool (decide (((a0).out) = (((a0).l).length : Int)))), (17, Value.pointer (some ⟨b0, 0, none⟩)), (18, Value.pointer (some ⟨b0, 0, none⟩)), (19, Value.pointer (some ⟨b0, 0 + 4, none⟩)), (20, Value.int .i64 ((a0).out)), (21, Value.pointer (some ⟨b0, 0, none⟩)), (22, Value.pointer (some ⟨b0, 0, none⟩)), (23, Value.pointer (some ⟨b0, 0 + 1, none⟩)), (24, Value.int .i64 ((a0).window)), (25, Value.bool (decide (((a0).out) = ((a0).window)))), (26, Value.bool (decide (((a0).out) = ((a0).window))))]) (fun w => Sep.St [blk b0 (#[Value.int .i64 ((a0).m), Value.int .i64 ((a0).window), Value.int .i64 ((a0).queue), Value.int .i64 ((a0).first), Value.int .i64 ((a0).out), Value.slice a5_20 ((a0).l).length c5_20]) 54, row 27 1 (.slice a5_20 ((a0).l).length c5_20) ((a0).l).length d5_20, tie (El.sl (El.int .u8)) d5_20 ((a0).l), R] w0 w) mo HS.drew rfl ?_
      refine T.fin [(0, Value.pointer (some ⟨b0, 0, none⟩)), (26, Value.bool (decide (((a0).out) = ((a0).window))))] rfl ⟨⟨_, Value.pointer (some ⟨b0, 0, none⟩), [(0, Value.pointer (some ⟨b0, 0, none⟩))], 6, rfl, rfl, ⟨.inl ⟨rfl, rfl⟩, trivial⟩, .run rfl (fun w HS => X.move rfl), rfl, rfl, rfl⟩, ⟨_, Value.pointer (some ⟨b0, 0, none⟩), [(6, Value.pointer (some ⟨b0, 0, none⟩))], 7, rfl, rfl, ⟨.inr ⟨rfl, rfl⟩, trivial⟩, .run rfl (fun w HS => X.nilCheck rfl), rfl, rfl, rfl⟩, ⟨_, Value.pointer (some ⟨b0, 0 + 4, none⟩), [(7, Value.pointer (some ⟨b0, 0, none⟩))], 8, rfl, rfl, ⟨.inr ⟨rfl, rfl⟩, trivial⟩, .run rfl (fun w HS => X.fieldAddr 4 fo54_4 rfl), rfl, rfl, rfl⟩, ⟨_, Value.int .i64 ((a0).out), [(8, Value.pointer (some ⟨b0, 0 + 4, none⟩))], 9, rfl, rfl, ⟨.inr ⟨rfl, rfl⟩, trivial⟩, .run rfl (fun w HS => X.loadAt 0 HS rfl Try.underlying3 rfl rfl rfl), rfl, rfl, rfl⟩, ⟨_, Value.pointer (some ⟨b0, 0, none⟩), [(0, Value.pointer (some ⟨b0, 0, none⟩))], 10, rfl, rfl, ⟨.inl ⟨rfl, rfl⟩, trivial⟩, .run rfl (fun w HS => X.move rfl), rfl, rfl, rfl⟩, ⟨_, Value.pointer (some ⟨b0, 0, none⟩), [(10, Value.pointer (some ⟨b0, 0, none⟩))], 11, rfl, rfl, ⟨.inr ⟨rfl, rfl⟩, trivial⟩, .run rfl (fun w HS => X.nilCheck rfl), rfl, rfl, rfl⟩, ⟨_, Value.pointer (some ⟨b0, 0 + 5, none⟩), [(11, Value.pointer (some ⟨b0, 0, none⟩))], 12, rfl, rfl, ⟨.inr ⟨rfl, rfl⟩, trivial⟩, .run rfl (fun w HS => X.fieldAddr 5 fo54_5 rfl), rfl, rfl, rfl⟩, ⟨_, Value.slice a5_20 ((a0).l).length c5_20, [(12, Value.pointer (some ⟨b0, 0 + 5, none⟩))], 13, rfl, rfl, ⟨.inr ⟨rfl, rfl⟩, trivial⟩, .run rfl (fun w HS => X.loadAt 0 HS rfl Try.underlying52 rfl rfl rfl), rfl, rfl, rfl⟩, ⟨_, Value.int .i64 ((((a0).l).length : Int)), [(13, Value.slice a5_20 ((a0).l).length c5_20)], 14, rfl, rfl, ⟨.inr ⟨rfl, rfl⟩, trivial⟩, .run rfl (fun w HS => X.lenSl Try.underlying52 rfl), rfl, rfl, rfl⟩, ⟨_, Value.bool (decide (((a0).out) = (((a0).l).length : Int))), [(9, Value.int .i64 ((a0).out)), (14, Value.int .i64 ((((a0).l).length : Int)))], 15, rfl, rfl, ⟨.inr ⟨rfl, rfl⟩, ⟨.inr ⟨rfl, rfl⟩, trivial⟩⟩, .run rfl (fun w HS => X.cmp (decide (((a0).out) = (((a0).l).length : Int))) rfl rfl rfl rfl), rfl, rfl, rfl⟩, ⟨_, Value.bool (decide (((a0).out) = (((a0).l).length : Int))), [(15, Value.bool (decide (((a0).out) = (((a0).l).length : Int))))], 16, rfl, rfl, ⟨.inr ⟨rfl, rfl⟩, trivial⟩, .run rfl (fun w HS => X.move rfl), rfl, rfl, rfl⟩, ⟨_, Value.pointer (some ⟨b0, 0, none⟩), [(0, Value.pointer (some ⟨b0, 0, none⟩)), (16, Value.bool (decide (((a0).out) = (((a0).l).length : Int))))], 17, rfl, rfl, ⟨.inl ⟨rfl, rfl⟩, ⟨.inr ⟨rfl, rfl⟩, trivial⟩⟩, .want 10 false 16 rfl rfl (sb (decide_eq_false c22)) (fun w HS => X.move rfl), rfl, rfl, rfl⟩, ⟨_, Value.pointer (some ⟨b0, 0, none⟩), [(17, Value.pointer (some ⟨b0, 0, none⟩)), (16, Value.bool (decide (((a0).out) = (((a0).l).length : Int))))], 18, rfl, rfl, ⟨.inr ⟨rfl, rfl⟩, ⟨.inr ⟨rfl, rfl⟩, trivial⟩⟩, .want 10 false 16 rfl rfl (sb (decide_eq_false c22)) (fun w HS => X.nilCheck rfl), rfl, rfl, rfl⟩, ⟨_, Value.pointer (some ⟨b0, 0 + 4, none⟩), [(18, Value.pointer (some ⟨b0, 0, none⟩)), (16, Value.bool (decide (((a0).out) = (((a0).l).length : Int))))], 19, rfl, rfl, ⟨.inr ⟨rfl, rfl⟩, ⟨.inr ⟨rfl, rfl⟩, trivial⟩⟩, .want 10 false 16 rfl rfl (sb (decide_eq_false c22)) (fun w HS => X.fieldAddr 4 fo54_4 rfl), rfl, rfl, rfl⟩, ⟨_, Value.int .i64 ((a0).out), [(19, Value.pointer (some ⟨b0, 0 + 4, none⟩)), (16, Value.bool (decide (((a0).out) = (((a0).l).length : Int))))], 20, rfl, rfl, ⟨.inr ⟨rfl, rfl⟩, ⟨.inr ⟨rfl, rfl⟩, trivial⟩⟩, .want 10 false 16 rfl rfl (sb (decide_eq_false c22)) (fun w HS => X.loadAt 0 HS rfl Try.underlying3 rfl rfl rfl), rfl, rfl, rfl⟩, ⟨_, Value.pointer (some ⟨b0, 0, none⟩), [(0, Value.pointer (some ⟨b0, 0, none⟩)), (16, Value.bool (decide (((a0).out) = (((a0).l).length : Int))))], 21, rfl, rfl, ⟨.inl ⟨rfl, rfl⟩, ⟨.inr ⟨rfl, rfl⟩, trivial⟩⟩, .want 10 false 16 rfl rfl (sb (decide_eq_false c22)) (fun w HS => X.move rfl), rfl, rfl, rfl⟩, ⟨_, Value.pointer (some ⟨b0, 0, none⟩), [(21, Value.pointer (some ⟨b0, 0, none⟩)), (16, Value.bool (decide (((a0).out) = (((a0).l).length : Int))))], 22, rfl, rfl, ⟨.inr ⟨rfl, rfl⟩, ⟨.inr ⟨rfl, rfl⟩, trivial⟩⟩, .want 10 false 16 rfl rfl (sb (decide_eq_false c22)) (fun w HS => X.nilCheck rfl), rfl, rfl, rfl⟩, ⟨_, Value.pointer (some ⟨b0, 0 + 1, none⟩), [(22, Value.pointer (some ⟨b0, 0, none⟩)), (16, Value.bool (decide (((a0).out) = (((a0).l).length : Int))))], 23, rfl, rfl, ⟨.inr ⟨rfl, rfl⟩, ⟨.inr ⟨rfl, rfl⟩, trivial⟩⟩, .want 10 false 16 rfl rfl (sb (decide_eq_false c22)) (fun w HS => X.fieldAddr 1 fo54_1 rfl), rfl, rfl, rfl⟩, ⟨_, Value.int .i64 ((a0).window), [(23, Value.pointer (some ⟨b0, 0 + 1, none⟩)), (16, Value.bool (decide (((a0).out) = (((a0).l).length : Int))))], 24, rfl, rfl, ⟨.inr ⟨rfl, rfl⟩, ⟨.inr ⟨rfl, rfl⟩, trivial⟩⟩, .want 10 false 16 rfl rfl (sb (decide_eq_false c22)) (fun w HS => X.loadAt 0 HS rfl Try.underlying3 rfl rfl rfl), rfl, rfl, rfl⟩, ⟨_, Value.bool (decide (((a0).out) = ((a0).window))), [(20, Value.int .i64 ((a0).out)), (24, Value.int .i64 ((a0).window)), (16, Value.bool (decide (((a0).out) = (((a0).l).length : Int))))], 25, rfl, rfl, ⟨.inr ⟨rfl, rfl⟩, ⟨.inr ⟨rfl, rfl⟩, ⟨.inr ⟨rfl, rfl⟩, trivial⟩⟩⟩, .want 10 false 16 rfl rfl (sb (decide_eq_false c22)) (fun w HS => X.cmp (decide (((a0).out) = ((a0).window))) rfl rfl rfl rfl), rfl, rfl, rfl⟩, ⟨_, Value.bool (decide (((a0).out) = ((a0).window))), [(16, Value.bool (decide (((a0).out) = (((a0).l).length : Int)))), (25, Value.bool (decide (((a0).out) = ((a0).window))))], 26, rfl, rfl, ⟨.inr ⟨rfl, rfl⟩, ⟨.inr ⟨rfl, rfl⟩, trivial⟩⟩, .run rfl (fun w HS => X.pickF (sb (decide_eq_false c22)) rfl), rfl, rfl, rfl⟩, trivial⟩ ⟨.inl ⟨rfl, rfl⟩, ⟨.inr ⟨rfl, rfl⟩, trivial⟩⟩ (fun w HS => ?_)
      have HS : Sep.St [blk b0 (#[Value.int .i64 ((a0).m), Value.int .i64 ((a0).window), Value.int .i64 ((a0).queue), Value.int .i64 ((a0).first), Value.int .i64 ((a0).out), Value.slice a5_20 ((a0).l).length c5_20]) 54, row 27 1 (.slice a5_20 ((a0).l).length c5_20) ((a0).l).length d5_20, tie (El.sl (El.int .u8)) d5_20 ((a0).l), R] w0 w := HS
      replace HS := backlog_Log.close (a0) trivial HS
      have HS : Sep.St [backlog_Log.at b0 (a0), R] w0 w := HS
      exact At.meet (decide (((a0).out) = ((a0).window))) ⟨rfl, rfl, trivial⟩ ⟨HS, H⟩
  · rintro x2 w ⟨HS, H⟩
    unfold backlog_Log_Next.j0 at H
    have HS : Sep.St [backlog_Log.at b0 (a0), R] w0 w := HS
    by_cases c4 : x2 = true
    · replace H := ite_t c4 H
      refine V.condT (sb c4) ?_
      refine V.seq ?_
      refine V.region ?_
      refine W.rd (X.assign rfl) rfl rfl rfl ?_
      refine W.rd (X.assign rfl) rfl rfl rfl ?_
      refine W.rd (X.assign rfl) rfl rfl rfl ?_
      refine W.nil ?_
      refine At.next ?_
      refine V.keep [(2, Value.int .i64 (0)), (3, Value.slice none 0 0), (4, Value.bool (false))] ⟨rfl, rfl, rfl, trivial⟩ ?_
      refine V.ret ?_
      refine At.thenRet ?_
      replace HS := row_nil' (e := 5) 1 none HS
      have HS : Sep.St [row 5 1 (.slice none (([] : List Int)).length 0) (([] : List Int)).length ((([] : List Int)).map (Value.int .u8)), backlog_Log.at b0 (a0), R] w0 w := HS
      cases H
      exact At.ret3 rfl rfl rfl rfl ⟨_, rfl, none, 0, rfl, HS⟩
    · replace H := ite_f c4 H
      refine V.condF (sb (b_f c4)) ?_
      refine V.skip ?_
      refine At.next ?_
      refine V.keep [(0, Value.pointer (some ⟨b0, 0, none⟩))] ⟨rfl, trivial⟩ ?_
      refine V.seq ?_
      refine V.region ?_
      refine W.rd (X.move rfl) rfl rfl rfl ?_
      refine W.rd (X.nilCheck rfl) rfl rfl rfl ?_
      obtain ⟨a5_5, c5_5, d5_5, hi6, HS⟩ := backlog_Log.open HS
      have HS : Sep.St [blk b0 (#[Value.int .i64 ((a0).m), Value.int .i64 ((a0).window), Value.int .i64 ((a0).queue), Value.int .i64 ((a0).first), Value.int .i64 ((a0).out), Value.slice a5_5 ((a0).l).length c5_5]) 54, row 27 1 (.slice a5_5 ((a0).l).length c5_5) ((a0).l).length d5_5, tie (El.sl (El.int .u8)) d5_5 ((a0).l), R] w0 w := HS
      refine W.rd (X.fieldAddr 4 fo54_4 rfl) rfl rfl rfl ?_
      refine W.rd (X.loadAt 0 HS rfl Try.underlying3 rfl rfl rfl) rfl rfl rfl ?_
      refine W.rd (X.assign rfl) rfl rfl rfl ?_
      refine W.nil ?_
      refine At.next ?_
      refine V.keep [(0, Value.pointer (some ⟨b0, 0, none⟩)), (5, Value.int .i64 ((a0).out))] ⟨rfl, rfl, trivial⟩ ?_
      refine V.seq ?_
      refine V.region ?_
      refine W.rd (X.move rfl) rfl rfl rfl ?_
      refine W.rd (X.nilCheck rfl) rfl rfl rfl ?_
      refine W.rd (X.fieldAddr 4 fo54_4 rfl) rfl rfl rfl ?_
      refine W.rd (X.loadAt 0 HS rfl Try.underlying3 rfl rfl rfl) rfl rfl rfl ?_
      refine W.rd (X.add rfl rfl) rfl rfl rfl ?_
      refine W.rd (X.nilCheck rfl) rfl rfl rfl ?_
      refine W.rd (X.fieldAddr 4 fo54_4 rfl) rfl rfl rfl ?_
      refine W.ev_none (Y.storeAt 0 HS rfl inf3 rfl rfl rfl rfl rfl rfl) rfl rfl ?_
      rintro _ w HS
      have HS : Sep.St [blk b0 (#[Value.int .i64 ((a0).m), Value.int .i64 ((a0).window), Value.int .i64 ((a0).queue), Value.int .i64 ((a0).first), Value.int .i64 (w64 (((a0).out) + 1)), Value.slice a5_5 ((a0).l).length c5_5]) 54, row 27 1 (.slice a5_5 ((a0).l).length c5_5) ((a0).l).length d5_5, tie (El.sl (El.int .u8)) d5_5 ((a0).l), R] w0 w := HS
      refine W.nil ?_
      refine At.next ?_
      refine V.keep [(0, Value.pointer (some ⟨b0, 0, none⟩)), (5, Value.int .i64 ((a0).out))] ⟨rfl, rfl, trivial⟩ ?_
      refine V.seq ?_
      obtain ⟨c7, H⟩ := ite_n H
      obtain ⟨eb8, eo9, hh⟩ := ((rdC.at 1 row_rd HS rfl)).some (by decide) c7.1 c7.2; subst hh
      obtain ⟨ec10, hc11, HS⟩ := St.tie_at 2 HS rfl ([]) c7.1 c7.2
      obtain ⟨ea12, em13, he15, HN⟩ := St.sl_openF (Value.int .u8) (fun t => tie_int t) HS; clear HS; subst he15; have HS := HN
      have HS : Sep.St [fsl 1 (.slice ea12 (((a0).l).getD ((a0).out).toNat []).length em13) (((a0).l).getD ((a0).out).toNat []).length ((((a0).l).getD ((a0).out).toNat []).map (Value.int .u8)), blk b0 (#[Value.int .i64 ((a0).m), Value.int .i64 ((a0).window), Value.int .i64 ((a0).queue), Value.int .i64 ((a0).first), Value.int .i64 (w64 (((a0).out) + 1)), Value.slice (some ⟨eb8, eo9, none⟩) ((a0).l).length c5_5]) 54, row 27 1 (.slice (some ⟨eb8, eo9, none⟩) ((a0).l).length c5_5) ((a0).l).length d5_5, tie (El.sl (El.int .u8)) d5_5 ((a0).l), R] w0 w := HS
      refine V.draw (es := [2, 10]) (bl := [11, 12, 13]) (f := [(38, Value.pointer (some ⟨b0, 0, none⟩)), (39, Value.int .i64 ((a0).out)), (41, Value.pointer (some ⟨b0, 0, none⟩)), (42, Value.pointer (some ⟨b0, 0, none⟩)), (43, Value.pointer (some ⟨b0, 0 + 5, none⟩)), (44, Value.slice (some ⟨eb8, eo9, none⟩) ((a0).l).length c5_5), (45, Value.int .i64 ((a0).out)), (46, Value.pointer (some ⟨eb8, eo9 + ((a0).out).toNat * 1, none⟩)), (47, Value.slice ea12 (((a0).l).getD ((a0).out).toNat []).length em13)]) (fun w => Sep.St [fsl 1 (.slice ea12 (((a0).l).getD ((a0).out).toNat []).length em13) (((a0).l).getD ((a0).out).toNat []).length ((((a0).l).getD ((a0).out).toNat []).map (Value.int .u8)), blk b0 (#[Value.int .i64 ((a0).m), Value.int .i64 ((a0).window), Value.int .i64 ((a0).queue), Value.int .i64 ((a0).first), Value.int .i64 (w64 (((a0).out) + 1)), Value.slice (some ⟨eb8, eo9, none⟩) ((a0).l).length c5_5]) 54, row 27 1 (.slice (some ⟨eb8, eo9, none⟩) ((a0).l).length c5_5) ((a0).l).length d5_5, tie (El.sl (El.int .u8)) d5_5 ((a0).l), R] w0 w) mo HS.drew rfl ?_
      refine T.event _ [(38, Value.pointer (some ⟨b0, 0, none⟩)), (39, Value.int .i64 ((a0).out))] rfl rfl ⟨⟨_, Value.pointer (some ⟨b0, 0, none⟩), [(0, Value.pointer (some ⟨b0, 0, none⟩))], 38, rfl, rfl, ⟨.inl ⟨rfl, rfl⟩, trivial⟩, .run rfl (fun w HS => X.move rfl), rfl, rfl, rfl⟩, ⟨_, Value.int .i64 ((a0).out), [(5, Value.int .i64 ((a0).out))], 39, rfl, rfl, ⟨.inl ⟨rfl, rfl⟩, trivial⟩, .run rfl (fun w HS => X.move rfl), rfl, rfl, rfl⟩, ⟨_, Value.pointer (some ⟨b0, 0, none⟩), [(0, Value.pointer (some ⟨b0, 0, none⟩))], 41, rfl, rfl, ⟨.inl ⟨rfl, rfl⟩, trivial⟩, .run rfl (fun w HS => X.move rfl), rfl, rfl, rfl⟩, ⟨_, Value.pointer (some ⟨b0, 0, none⟩), [(41, Value.pointer (some ⟨b0, 0, none⟩))], 42, rfl, rfl, ⟨.inr ⟨rfl, rfl⟩, trivial⟩, .run rfl (fun w HS => X.nilCheck rfl), rfl, rfl, rfl⟩, ⟨_, Value.pointer (some ⟨b0, 0 + 5, none⟩), [(42, Value.pointer (some ⟨b0, 0, none⟩))], 43, rfl, rfl, ⟨.inr ⟨rfl, rfl⟩, trivial⟩, .run rfl (fun w HS => X.fieldAddr 5 fo54_5 rfl), rfl, rfl, rfl⟩, ⟨_, Value.slice (some ⟨eb8, eo9, none⟩) ((a0).l).length c5_5, [(43, Value.pointer (some ⟨b0, 0 + 5, none⟩))], 44, rfl, rfl, ⟨.inr ⟨rfl, rfl⟩, trivial⟩, .run rfl (fun w HS => X.loadAt 1 HS rfl Try.underlying52 rfl rfl rfl), rfl, rfl, rfl⟩, ⟨_, Value.int .i64 ((a0).out), [(5, Value.int .i64 ((a0).out))], 45, rfl, rfl, ⟨.inl ⟨rfl, rfl⟩, trivial⟩, .run rfl (fun w HS => X.move rfl), rfl, rfl, rfl⟩, ⟨_, Value.pointer (some ⟨eb8, eo9 + ((a0).out).toNat * 1, none⟩), [(44, Value.slice (some ⟨eb8, eo9, none⟩) ((a0).l).length c5_5), (45, Value.int .i64 ((a0).out))], 46, rfl, rfl, ⟨.inr ⟨rfl, rfl⟩, ⟨.inr ⟨rfl, rfl⟩, trivial⟩⟩, .run rfl (fun w HS => X.indexSl Try.underlying52 inf27 rfl rfl c7.1 c7.2), rfl, rfl, rfl⟩, ⟨_, Value.slice ea12 (((a0).l).getD ((a0).out).toNat []).length em13, [(46, Value.pointer (some ⟨eb8, eo9 + ((a0).out).toNat * 1, none⟩))], 47, rfl, rfl, ⟨.inr ⟨rfl, rfl⟩, trivial⟩, .run rfl (fun w HS => X.load Try.underlying27 rfl rfl (((rdC.at 2 row_rd HS rfl)).cellEl0 (hc11 0 _ rfl))), rfl, rfl, rfl⟩, trivial⟩ rfl ⟨.inr ⟨rfl, rfl⟩, ⟨.inr ⟨rfl, rfl⟩, trivial⟩⟩ (Or.inl rfl) (by intro d hd; cases hd; exact ⟨by decide, rfl, rfl⟩) [11, 12, 13] [0, 1] rfl rfl (fun w HS => ?_)
      have HS : Sep.St [fsl 1 (.slice ea12 (((a0).l).getD ((a0).out).toNat []).length em13) (((a0).l).getD ((a0).out).toNat []).length ((((a0).l).getD ((a0).out).toNat []).map (Value.int .u8)), blk b0 (#[Value.int .i64 ((a0).m), Value.int .i64 ((a0).window), Value.int .i64 ((a0).queue), Value.int .i64 ((a0).first), Value.int .i64 (w64 (((a0).out) + 1)), Value.slice (some ⟨eb8, eo9, none⟩) ((a0).l).length c5_5]) 54, row 27 1 (.slice (some ⟨eb8, eo9, none⟩) ((a0).l).length c5_5) ((a0).l).length d5_5, tie (El.sl (El.int .u8)) d5_5 ((a0).l), R] w0 w := HS
      obtain ⟨t16, A17, H⟩ := bind_s H
      replace HS := HS.re [1, 2, 3, 0, 4] (by kernel_rfl)
      have HS : Sep.St [blk b0 (#[Value.int .i64 ((a0).m), Value.int .i64 ((a0).window), Value.int .i64 ((a0).queue), Value.int .i64 ((a0).first), Value.int .i64 (w64 (((a0).out) + 1)), Value.slice (some ⟨eb8, eo9, none⟩) ((a0).l).length c5_5]) 54, row 27 1 (.slice (some ⟨eb8, eo9, none⟩) ((a0).l).length c5_5) ((a0).l).length d5_5, tie (El.sl (El.int .u8)) d5_5 ((a0).l), fsl 1 (.slice ea12 (((a0).l).getD ((a0).out).toNat []).length em13) (((a0).l).getD ((a0).out).toNat []).length ((((a0).l).getD ((a0).out).toNat []).map (Value.int .u8)), R] w0 w := HS
      refine ⟨_, Y.call Try.func29 (by kernel_rfl) rfl (vs := [Value.pointer (some ⟨b0, 0, none⟩), Value.int .i64 ((a0).out)]) rfl (backlog_Log_number.calls ({ m := (a0).m, window := (a0).window, queue := (a0).queue, first := (a0).first, out := w64 (((a0).out) + 1), l := (a0).l } : backlog_Log) ((a0).out) _ w0 _ b0 (some ⟨eb8, eo9, none⟩) c5_5 d5_5 t16  A17 (Sep.St.tailJoin (m := [blk b0 (#[Value.int .i64 ((a0).m), Value.int .i64 ((a0).window), Value.int .i64 ((a0).queue), Value.int .i64 ((a0).first), Value.int .i64 (w64 (((a0).out) + 1)), Value.slice (some ⟨eb8, eo9, none⟩) ((a0).l).length c5_5]) 54, row 27 1 (.slice (some ⟨eb8, eo9, none⟩) ((a0).l).length c5_5) ((a0).l).length d5_5, tie (El.sl (El.int .u8)) d5_5 ((a0).l)]) (r := [fsl 1 (.slice ea12 (((a0).l).getD ((a0).out).toNat []).length em13) (((a0).l).getD ((a0).out).toNat []).length ((((a0).l).getD ((a0).out).toNat []).map (Value.int .u8)), R]) HS)), ?_⟩
      rintro _ w ⟨rfl, HS⟩
      replace HS := Sep.St.tailOpen (m := [blk b0 (#[Value.int .i64 ((a0).m), Value.int .i64 ((a0).window), Value.int .i64 ((a0).queue), Value.int .i64 ((a0).first), Value.int .i64 (w64 (((a0).out) + 1)), Value.slice (some ⟨eb8, eo9, none⟩) ((a0).l).length c5_5]) 54, row 27 1 (.slice (some ⟨eb8, eo9, none⟩) ((a0).l).length c5_5) ((a0).l).length d5_5, tie (El.sl (El.int .u8)) d5_5 ((a0).l)]) (r := [fsl 1 (.slice ea12 (((a0).l).getD ((a0).out).toNat []).length em13) (((a0).l).getD ((a0).out).toNat []).length ((((a0).l).getD ((a0).out).toNat []).map (Value.int .u8)), R]) HS
      have HS : Sep.St [blk b0 (#[Value.int .i64 ((a0).m), Value.int .i64 ((a0).window), Value.int .i64 ((a0).queue), Value.int .i64 ((a0).first), Value.int .i64 (w64 (((a0).out) + 1)), Value.slice (some ⟨eb8, eo9, none⟩) ((a0).l).length c5_5]) 54, row 27 1 (.slice (some ⟨eb8, eo9, none⟩) ((a0).l).length c5_5) ((a0).l).length d5_5, tie (El.sl (El.int .u8)) d5_5 ((a0).l), fsl 1 (.slice ea12 (((a0).l).getD ((a0).out).toNat []).length em13) (((a0).l).getD ((a0).out).toNat []).length ((((a0).l).getD ((a0).out).toNat []).map (Value.int .u8)), R] w0 w := HS
      refine ⟨[(40, Value.int .i64 (t16))], fun w => Sep.St [blk b0 (#[Value.int .i64 ((a0).m), Value.int .i64 ((a0).window), Value.int .i64 ((a0).queue), Value.int .i64 ((a0).first), Value.int .i64 (w64 (((a0).out) + 1)), Value.slice (some ⟨eb8, eo9, none⟩) ((a0).l).length c5_5]) 54, row 27 1 (.slice (some ⟨eb8, eo9, none⟩) ((a0).l).length c5_5) ((a0).l).length d5_5, tie (El.sl (El.int .u8)) d5_5 ((a0).l), fsl 1 (.slice ea12 (((a0).l).getD ((a0).out).toNat []).length em13) (((a0).l).getD ((a0).out).toNat []).length ((((a0).l).getD ((a0).out).toNat []).map (Value.int .u8)), R] w0 w, ⟨.inl ⟨rfl, rfl⟩, trivial⟩, ?_, HS⟩
      refine T.event _ [(47, Value.slice ea12 (((a0).l).getD ((a0).out).toNat []).length em13)] rfl rfl ⟨⟨_, Value.pointer (some ⟨b0, 0, none⟩), [(0, Value.pointer (some ⟨b0, 0, none⟩))], 41, rfl, rfl, ⟨.inl ⟨rfl, rfl⟩, trivial⟩, .run rfl (fun w HS => X.move rfl), rfl, rfl, rfl⟩, ⟨_, Value.pointer (some ⟨b0, 0, none⟩), [(41, Value.pointer (some ⟨b0, 0, none⟩))], 42, rfl, rfl, ⟨.inr ⟨rfl, rfl⟩, trivial⟩, .run rfl (fun w HS => X.nilCheck rfl), rfl, rfl, rfl⟩, ⟨_, Value.pointer (some ⟨b0, 0 + 5, none⟩), [(42, Value.pointer (some ⟨b0, 0, none⟩))], 43, rfl, rfl, ⟨.inr ⟨rfl, rfl⟩, trivial⟩, .run rfl (fun w HS => X.fieldAddr 5 fo54_5 rfl), rfl, rfl, rfl⟩, ⟨_, Value.slice (some ⟨eb8, eo9, none⟩) ((a0).l).length c5_5, [(43, Value.pointer (some ⟨b0, 0 + 5, none⟩))], 44, rfl, rfl, ⟨.inr ⟨rfl, rfl⟩, trivial⟩, .run rfl (fun w HS => X.loadAt 0 HS rfl Try.underlying52 rfl rfl rfl), rfl, rfl, rfl⟩, ⟨_, Value.int .i64 ((a0).out), [(5, Value.int .i64 ((a0).out))], 45, rfl, rfl, ⟨.inl ⟨rfl, rfl⟩, trivial⟩, .run rfl (fun w HS => X.move rfl), rfl, rfl, rfl⟩, ⟨_, Value.pointer (some ⟨eb8, eo9 + ((a0).out).toNat * 1, none⟩), [(44, Value.slice (some ⟨eb8, eo9, none⟩) ((a0).l).length c5_5), (45, Value.int .i64 ((a0).out))], 46, rfl, rfl, ⟨.inr ⟨rfl, rfl⟩, ⟨.inr ⟨rfl, rfl⟩, trivial⟩⟩, .run rfl (fun w HS => X.indexSl Try.underlying52 inf27 rfl rfl c7.1 c7.2), rfl, rfl, rfl⟩, ⟨_, Value.slice ea12 (((a0).l).getD ((a0).out).toNat []).length em13, [(46, Value.pointer (some ⟨eb8, eo9 + ((a0).out).toNat * 1, none⟩))], 47, rfl, rfl, ⟨.inr ⟨rfl, rfl⟩, trivial⟩, .run rfl (fun w HS => X.load Try.underlying27 rfl rfl (((rdC.at 1 row_rd HS rfl)).cellEl0 (hc11 0 _ rfl))), rfl, rfl, rfl⟩, trivial⟩ rfl ⟨.inr ⟨rfl, rfl⟩, trivial⟩ (Or.inl rfl) (by intro d hd; cases hd; exact ⟨by decide, rfl, rfl⟩) [] [3, 4, 5, 6, 7, 8, 9] rfl rfl (fun w HS => ?_)
      have HS : Sep.St [blk b0 (#[Value.int .i64 ((a0).m), Value.int .i64 ((a0).window), Value.int .i64 ((a0).queue), Value.int .i64 ((a0).first), Value.int .i64 (w64 (((a0).out) + 1)), Value.slice (some ⟨eb8, eo9, none⟩) ((a0).l).length c5_5]) 54, row 27 1 (.slice (some ⟨eb8, eo9, none⟩) ((a0).l).length c5_5) ((a0).l).length d5_5, tie (El.sl (El.int .u8)) d5_5 ((a0).l), fsl 1 (.slice ea12 (((a0).l).getD ((a0).out).toNat []).length em13) (((a0).l).getD ((a0).out).toNat []).length ((((a0).l).getD ((a0).out).toNat []).map (Value.int .u8)), R] w0 w := HS
      obtain ⟨t18, A19, H⟩ := bind_s H
      refine ⟨_, Y.call Try.func28 (by kernel_rfl) rfl (vs := [Value.slice ea12 (((a0).l).getD ((a0).out).toNat []).length em13]) rfl (slices_Clone_Sbytebyte.calls (((a0).l).getD ((a0).out).toNat []) _ w0 _ ea12 em13 t18 (rdC.part 3 fsl.rd rfl) A19 (Sep.St.tailJoin (m := []) (r := [blk b0 (#[Value.int .i64 ((a0).m), Value.int .i64 ((a0).window), Value.int .i64 ((a0).queue), Value.int .i64 ((a0).first), Value.int .i64 (w64 (((a0).out) + 1)), Value.slice (some ⟨eb8, eo9, none⟩) ((a0).l).length c5_5]) 54, row 27 1 (.slice (some ⟨eb8, eo9, none⟩) ((a0).l).length c5_5) ((a0).l).length d5_5, tie (El.sl (El.int .u8)) d5_5 ((a0).l), fsl 1 (.slice ea12 (((a0).l).getD ((a0).out).toNat []).length em13) (((a0).l).getD ((a0).out).toNat []).length ((((a0).l).getD ((a0).out).toNat []).map (Value.int .u8)), R]) HS)), ?_⟩
      rintro _ w ⟨at18_0, ct18_0, rfl, HS⟩
      replace HS := Sep.St.tailOpen (m := [row 5 1 (.slice at18_0 (t18).length ct18_0) (t18).length ((t18).map (Value.int .u8))]) (r := [blk b0 (#[Value.int .i64 ((a0).m), Value.int .i64 ((a0).window), Value.int .i64 ((a0).queue), Value.int .i64 ((a0).first), Value.int .i64 (w64 (((a0).out) + 1)), Value.slice (some ⟨eb8, eo9, none⟩) ((a0).l).length c5_5]) 54, row 27 1 (.slice (some ⟨eb8, eo9, none⟩) ((a0).l).length c5_5) ((a0).l).length d5_5, tie (El.sl (El.int .u8)) d5_5 ((a0).l), fsl 1 (.slice ea12 (((a0).l).getD ((a0).out).toNat []).length em13) (((a0).l).getD ((a0).out).toNat []).length ((((a0).l).getD ((a0).out).toNat []).map (Value.int .u8)), R]) HS
      have HS : Sep.St [row 5 1 (.slice at18_0 (t18).length ct18_0) (t18).length ((t18).map (Value.int .u8)), blk b0 (#[Value.int .i64 ((a0).m), Value.int .i64 ((a0).window), Value.int .i64 ((a0).queue), Value.int .i64 ((a0).first), Value.int .i64 (w64 (((a0).out) + 1)), Value.slice (some ⟨eb8, eo9, none⟩) ((a0).l).length c5_5]) 54, row 27 1 (.slice (some ⟨eb8, eo9, none⟩) ((a0).l).length c5_5) ((a0).l).length d5_5, tie (El.sl (El.int .u8)) d5_5 ((a0).l), fsl 1 (.slice ea12 (((a0).l).getD ((a0).out).toNat []).length em13) (((a0).l).getD ((a0).out).toNat []).length ((((a0).l).getD ((a0).out).toNat []).map (Value.int .u8)), R] w0 w := HS
      refine ⟨[(48, Value.slice at18_0 (t18).length ct18_0), (2, Value.int .i64 (t16)), (3, Value.slice at18_0 (t18).length ct18_0), (4, Value.bool (true))], fun w => Sep.St [row 5 1 (.slice at18_0 (t18).length ct18_0) (t18).length ((t18).map (Value.int .u8)), blk b0 (#[Value.int .i64 ((a0).m), Value.int .i64 ((a0).window), Value.int .i64 ((a0).queue), Value.int .i64 ((a0).first), Value.int .i64 (w64 (((a0).out) + 1)), Value.slice (some ⟨eb8, eo9, none⟩) ((a0).l).length c5_5]) 54, row 27 1 (.slice (some ⟨eb8, eo9, none⟩) ((a0).l).length c5_5) ((a0).l).length d5_5, tie (El.sl (El.int .u8)) d5_5 ((a0).l), fsl 1 (.slice ea12 (((a0).l).getD ((a0).out).toNat []).length em13) (((a0).l).getD ((a0).out).toNat []).length ((((a0).l).getD ((a0).out).toNat []).map (Value.int .u8)), R] w0 w, ⟨.inl ⟨rfl, rfl⟩, ⟨.inr ⟨by decide, rfl⟩, ⟨.inr ⟨by decide, rfl⟩, ⟨.inr ⟨by decide, rfl⟩, trivial⟩⟩⟩⟩, ?_, HS⟩
      refine T.fin [(2, Value.int .i64 (t16)), (3, Value.slice at18_0 (t18).length ct18_0), (4, Value.bool (true))] rfl ⟨⟨_, Value.int .i64 (t16), [(40, Value.int .i64 (t16))], 2, rfl, rfl, ⟨.inr ⟨rfl, rfl⟩, trivial⟩, .run rfl (fun w HS => X.assign rfl), rfl, rfl, rfl⟩, ⟨_, Value.slice at18_0 (t18).length ct18_0, [(48, Value.slice at18_0 (t18).length ct18_0)], 3, rfl, rfl, ⟨.inr ⟨rfl, rfl⟩, trivial⟩, .run rfl (fun w HS => X.assign rfl), rfl, rfl, rfl⟩, ⟨_, Value.bool (true), [], 4, rfl, rfl, trivial, .run rfl (fun w HS => X.assign rfl), rfl, rfl, rfl⟩, trivial⟩ ⟨.inr ⟨rfl, rfl⟩, ⟨.inr ⟨rfl, rfl⟩, ⟨.inr ⟨rfl, rfl⟩, trivial⟩⟩⟩ (fun w HS => ?_)
      have HS : Sep.St [row 5 1 (.slice at18_0 (t18).length ct18_0) (t18).length ((t18).map (Value.int .u8)), blk b0 (#[Value.int .i64 ((a0).m), Value.int .i64 ((a0).window), Value.int .i64 ((a0).queue), Value.int .i64 ((a0).first), Value.int .i64 (w64 (((a0).out) + 1)), Value.slice (some ⟨eb8, eo9, none⟩) ((a0).l).length c5_5]) 54, row 27 1 (.slice (some ⟨eb8, eo9, none⟩) ((a0).l).length c5_5) ((a0).l).length d5_5, tie (El.sl (El.int .u8)) d5_5 ((a0).l), fsl 1 (.slice ea12 (((a0).l).getD ((a0).out).toNat []).length em13) (((a0).l).getD ((a0).out).toNat []).length ((((a0).l).getD ((a0).out).toNat []).map (Value.int .u8)), R] w0 w := HS
      refine At.next ?_
      refine V.keep [(2, Value.int .i64 (t16)), (3, Value.slice at18_0 (t18).length ct18_0), (4, Value.bool (true))] ⟨rfl, rfl, rfl, trivial⟩ ?_
      refine V.ret ?_
      replace HS := HS.re [1, 2, 3, 0, 4, 5] (by kernel_rfl)
      have HS : Sep.St [blk b0 (#[Value.int .i64 ((a0).m), Value.int .i64 ((a0).window), Value.int .i64 ((a0).queue), Value.int .i64 ((a0).first), Value.int .i64 (w64 (((a0).out) + 1)), Value.slice (some ⟨eb8, eo9, none⟩) ((a0).l).length c5_5]) 54, row 27 1 (.slice (some ⟨eb8, eo9, none⟩) ((a0).l).length c5_5) ((a0).l).length d5_5, tie (El.sl (El.int .u8)) d5_5 ((a0).l), row 5 1 (.slice at18_0 (t18).length ct18_0) (t18).length ((t18).map (Value.int .u8)), fsl 1 (.slice ea12 (((a0).l).getD ((a0).out).toNat []).length em13) (((a0).l).getD ((a0).out).toNat []).length ((((a0).l).getD ((a0).out).toNat []).map (Value.int .u8)), R] w0 w := HS
      replace HS := backlog_Log.close (({ m := (a0).m, window := (a0).window, queue := (a0).queue, first := (a0).first, out := w64 (((a0).out) + 1), l := (a0).l } : backlog_Log)) trivial HS
      have HS : Sep.St [backlog_Log.at b0 (({ m := (a0).m, window := (a0).window, queue := (a0).queue, first := (a0).first, out := w64 (((a0).out) + 1), l := (a0).l } : backlog_Log)), row 5 1 (.slice at18_0 (t18).length ct18_0) (t18).length ((t18).map (Value.int .u8)), fsl 1 (.slice ea12 (((a0).l).getD ((a0).out).toNat []).length em13) (((a0).l).getD ((a0).out).toNat []).length ((((a0).l).getD ((a0).out).toNat []).map (Value.int .u8)), R] w0 w := HS
      replace HS := HS.sel [1, 0, 3] [2] (by kernel_rfl)
      cases H
      exact At.ret3 rfl rfl rfl rfl ⟨_, rfl, at18_0, ct18_0, rfl, HS⟩

/-! ### (*signalman/backlog.Log).Add: function 9 -/
def backlog_Log_Add.f (a0 : backlog_Log) (a1 : List Int) : Option (Int × backlog_Log) := (if (w64 ((((a0).l).length : Int) - ((a0).out))) ≥ ((a0).queue) then some (6, a0) else ((slices_Clone_Sbytebyte.f a1).bind fun t5 => (if (((a0).l).length : Int) + (([t5] : List (List Int))).length ≤ 1099511627776 then some (0, ({ m := (a0).m, window := (a0).window, queue := (a0).queue, first := (a0).first, out := (a0).out, l := ((a0).l) ++ ([t5] : List (List Int)) } : backlog_Log)) else none)))
set_option maxRecDepth 100000 in
set_option maxHeartbeats 4000000 in
theorem backlog_Log_Add.calls (a0 : backlog_Log) (a1 : List Int) (R : As) (w0 w : World) (b0 : Nat) (sa1 : Option Addr) (sc1 : Nat) (r : Int × backlog_Log) (hr1 : rdC R 1 (.slice sa1 (a1).length sc1) (a1).length ((a1).map (Value.int .u8))) (H : backlog_Log_Add.f a0 a1 = some r) (HS : Sep.St [backlog_Log.at b0 (a0), R] w0 w) : Calls Try.prog 9 #[Value.pointer (some ⟨b0, 0, none⟩), Value.slice sa1 (a1).length sc1] w (Ret fun u w => u = Value.int .i64 (r.1) ∧ Sep.St [backlog_Log.at b0 (r.2), R] w0 w) := by
  unfold backlog_Log_Add.f at H
  refine calls_enter Try.func9 rfl rfl ?_
  have H : _ = some r := H
  refine V.seq ?_
  refine V.region ?_
  refine W.rd (X.assign rfl) rfl rfl rfl ?_
  refine W.nil ?_
  refine At.next ?_
  refine V.keep [(0, Value.pointer (some ⟨b0, 0, none⟩)), (1, Value.slice sa1 (a1).length sc1)] ⟨rfl, rfl, trivial⟩ ?_
  refine V.seq ?_
  refine V.seq ?_
  obtain ⟨a5_2, c5_2, d5_2, hi3, HS⟩ := backlog_Log.open HS
  have HS : Sep.St [blk b0 (#[Value.int .i64 ((a0).m), Value.int .i64 ((a0).window), Value.int .i64 ((a0).queue), Value.int .i64 ((a0).first), Value.int .i64 ((a0).out), Value.slice a5_2 ((a0).l).length c5_2]) 54, row 27 1 (.slice a5_2 ((a0).l).length c5_2) ((a0).l).length d5_2, tie (El.sl (El.int .u8)) d5_2 ((a0).l), R] w0 w := HS
  refine V.draw (es := []) (bl := []) (f := [(5, Value.pointer (some ⟨b0, 0, none⟩)), (6, Value.pointer (some ⟨b0, 0, none⟩)), (7, Value.pointer (some ⟨b0, 0 + 5, none⟩)), (8, Value.slice a5_2 ((a0).l).length c5_2), (9, Value.int .i64 ((((a0).l).length : Int))), (10, Value.pointer (some ⟨b0, 0, none⟩)), (11, Value.pointer (some ⟨b0, 0, none⟩)), (12, Value.pointer (some ⟨b0, 0 + 4, none⟩)), (13, Value.int .i64 ((a0).out)), (14, Value.int .i64 (w64 ((((a0).l).length : Int) - ((a0).out)))), (15, Value.pointer (some ⟨b0, 0, none⟩)), (16, Value.pointer (some ⟨b0, 0, none⟩)), (17, Value.pointer (some ⟨b0, 0 + 2, none⟩)), (18, Value.int .i64 ((a0).queue)), (19, Value.bool (decide ((w64 ((((a0).l).length : Int) - ((a0).out))) ≥ ((a0).queue))))]) (fun w => Sep.St [blk b0 (#[Value.int .i64 ((a0).m), Value.int .i64 ((a0).window), Value.int .i64 ((a0).queue), Value.int .i64 ((a0).first), Value.int .i64 ((a0).out), Value.slice a5_2 ((a0).l).length c5_2]) 54, row 27 1 (.slice a5_2 ((a0).l).length c5_2) ((a0).l).length d5_2, tie (El.sl (El.int .u8)) d5_2 ((a0).l), R] w0 w) mo HS.drew rfl ?_
  refine T.fin [(0, Value.pointer (some ⟨b0, 0, none⟩)), (1, Value.slice sa1 (a1).length sc1), (19, Value.bool (decide ((w64 ((((a0).l).length : Int) - ((a0).out))) ≥ ((a0).queue))))] rfl ⟨⟨_, Value.pointer (some ⟨b0, 0, none⟩), [(0, Value.pointer (some ⟨b0, 0, none⟩))], 5, rfl, rfl, ⟨.inl ⟨rfl, rfl⟩, trivial⟩, .run rfl (fun w HS => X.move rfl), rfl, rfl, rfl⟩, ⟨_, Value.pointer (some ⟨b0, 0, none⟩), [(5, Value.pointer (some ⟨b0, 0, none⟩))], 6, rfl, rfl, ⟨.inr ⟨rfl, rfl⟩, trivial⟩, .run rfl (fun w HS => X.nilCheck rfl), rfl, rfl, rfl⟩, ⟨_, Value.pointer (some ⟨b0, 0 + 5, none⟩), [(6, Value.pointer (some ⟨b0, 0, none⟩))], 7, rfl, rfl, ⟨.inr ⟨rfl, rfl⟩, trivial⟩, .run rfl (fun w HS => X.fieldAddr 5 fo54_5 rfl), rfl, rfl, rfl⟩, ⟨_, Value.slice a5_2 ((a0).l).length c5_2, [(7, Value.pointer (some ⟨b0, 0 + 5, none⟩))], 8, rfl, rfl, ⟨.inr ⟨rfl, rfl⟩, trivial⟩, .run rfl (fun w HS => X.loadAt 0 HS rfl Try.underlying52 rfl rfl rfl), rfl, rfl, rfl⟩, ⟨_, Value.int .i64 ((((a0).l).length : Int)), [(8, Value.slice a5_2 ((a0).l).length c5_2)], 9, rfl, rfl, ⟨.inr ⟨rfl, rfl⟩, trivial⟩, .run rfl (fun w HS => X.lenSl Try.underlying52 rfl), rfl, rfl, rfl⟩, ⟨_, Value.pointer (some ⟨b0, 0, none⟩), [(0, Value.pointer (some ⟨b0, 0, none⟩))], 10, rfl, rfl, ⟨.inl ⟨rfl, rfl⟩, trivial⟩, .run rfl (fun w HS => X.move rfl), rfl, rfl, rfl⟩, ⟨_, Value.pointer (some ⟨b0, 0, none⟩), [(10, Value.pointer (some ⟨b0, 0, none⟩))], 11, rfl, rfl, ⟨.inr ⟨rfl, rfl⟩, trivial⟩, .run rfl (fun w HS => X.nilCheck rfl), rfl, rfl, rfl⟩, ⟨_, Value.pointer (some ⟨b0, 0 + 4, none⟩), [(11, Value.pointer (some ⟨b0, 0, none⟩))], 12, rfl, rfl, ⟨.inr ⟨rfl, rfl⟩, trivial⟩, .run rfl (fun w HS => X.fieldAddr 4 fo54_4 rfl), rfl, rfl, rfl⟩, ⟨_, Value.int .i64 ((a0).out), [(12, Value.pointer (some ⟨b0, 0 + 4, none⟩))], 13, rfl, rfl, ⟨.inr ⟨rfl, rfl⟩, trivial⟩, .run rfl (fun w HS => X.loadAt 0 HS rfl Try.underlying3 rfl rfl rfl), rfl, rfl, rfl⟩, ⟨_, Value.int .i64 (w64 ((((a0).l).length : Int) - ((a0).out))), [(9, Value.int .i64 ((((a0).l).length : Int))), (13, Value.int .i64 ((a0).out))], 14, rfl, rfl, ⟨.inr ⟨rfl, rfl⟩, ⟨.inr ⟨rfl, rfl⟩, trivial⟩⟩, .run rfl (fun w HS => X.sub rfl rfl), rfl, rfl, rfl⟩, ⟨_, Value.pointer (some ⟨b0, 0, none⟩), [(0, Value.pointer (some ⟨b0, 0, none⟩))], 15, rfl, rfl, ⟨.inl ⟨rfl, rfl⟩, trivial⟩, .run rfl (fun w HS => X.move rfl), rfl, rfl, rfl⟩, ⟨_, Value.pointer (some ⟨b0, 0, none⟩), [(15, Value.pointer (some ⟨b0, 0, none⟩))], 16, rfl, rfl, ⟨.inr ⟨rfl, rfl⟩, trivial⟩, .run rfl (fun w HS => X.nilCheck rfl), rfl, rfl, rfl⟩, ⟨_, Value.pointer (some ⟨b0, 0 + 2, none⟩), [(16, Value.pointer (some ⟨b0, 0, none⟩))], 17, rfl, rfl, ⟨.inr ⟨rfl, rfl⟩, trivial⟩, .run rfl (fun w HS => X.fieldAddr 2 fo54_2 rfl), rfl, rfl, rfl⟩, ⟨_, Value.int .i64 ((a0).queue), [(17, Value.pointer (some ⟨b0, 0 + 2, none⟩))], 18, rfl, rfl, ⟨.inr ⟨rfl, rfl⟩, trivial⟩, .run rfl (fun w HS => X.loadAt 0 HS rfl Try.underlying3 rfl rfl rfl), rfl, rfl, rfl⟩, ⟨_, Value.bool (decide ((w64 ((((a0).l).length : Int) - ((a0).out))) ≥ ((a0).queue))), [(14, Value.int .i64 (w64 ((((a0).l).length : Int) - ((a0).out)))), (18, Value.int .i64 ((a0).queue))], 19, rfl, rfl, ⟨.inr ⟨rfl, rfl⟩, ⟨.inr ⟨rfl, rfl⟩, trivial⟩⟩, .run rfl (fun w HS => X.cmp (decide ((w64 ((((a0).l).length : Int) - ((a0).out))) ≥ ((a0).queue))) rfl rfl rfl rfl), rfl, rfl, rfl⟩, trivial⟩ ⟨.inl ⟨rfl, rfl⟩, ⟨.inl ⟨rfl, rfl⟩, ⟨.inr ⟨rfl, rfl⟩, trivial⟩⟩⟩ (fun w HS => ?_)
  have HS : Sep.St [blk b0 (#[Value.int .i64 ((a0).m), Value.int .i64 ((a0).window), Value.int .i64 ((a0).queue), Value.int .i64 ((a0).first), Value.int .i64 ((a0).out), Value.slice a5_2 ((a0).l).length c5_2]) 54, row 27 1 (.slice a5_2 ((a0).l).length c5_2) ((a0).l).length d5_2, tie (El.sl (El.int .u8)) d5_2 ((a0).l), R] w0 w := HS
  refine At.next ?_
  refine V.keep [(0, Value.pointer (some ⟨b0, 0, none⟩)), (1, Value.slice sa1 (a1).length sc1), (19, Value.bool (decide ((w64 ((((a0).l).length : Int) - ((a0).out))) ≥ ((a0).queue))))] ⟨rfl, rfl, rfl, trivial⟩ ?_
  by_cases c4 : (w64 ((((a0).l).length : Int) - ((a0).out))) ≥ ((a0).queue)
  · replace H := ite_t c4 H
    refine V.condT (sb (decide_eq_true c4)) ?_
    refine V.seq ?_
    refine V.region ?_
    refine W.rd (X.assign rfl) rfl rfl rfl ?_
    refine W.nil ?_
    refine At.next ?_
    refine V.keep [(4, Value.int .i64 (6))] ⟨rfl, trivial⟩ ?_
    refine V.ret ?_
    refine At.thenRet ?_
    replace HS := backlog_Log.close (a0) trivial HS
    have HS : Sep.St [backlog_Log.at b0 (a0), R] w0 w := HS
    cases H
    exact At.ret1 rfl rfl ⟨_, rfl, rfl, HS⟩
  · replace H := ite_f c4 H
    refine V.condF (sb (decide_eq_false c4)) ?_
    refine V.skip ?_
    refine At.next ?_
    refine V.keep [(0, Value.pointer (some ⟨b0, 0, none⟩)), (1, Value.slice sa1 (a1).length sc1)] ⟨rfl, rfl, trivial⟩ ?_
    refine V.seq ?_
    refine V.draw (es := [6, 7, 8, 11]) (bl := [9, 10]) (f := [(20, Value.pointer (some ⟨b0, 0, none⟩)), (21, Value.pointer (some ⟨b0, 0, none⟩)), (22, Value.pointer (some ⟨b0, 0, none⟩)), (23, Value.pointer (some ⟨b0, 0 + 5, none⟩)), (24, Value.slice a5_2 ((a0).l).length c5_2), (25, Value.slice sa1 (a1).length sc1)]) (fun w => Sep.St [blk b0 (#[Value.int .i64 ((a0).m), Value.int .i64 ((a0).window), Value.int .i64 ((a0).queue), Value.int .i64 ((a0).first), Value.int .i64 ((a0).out), Value.slice a5_2 ((a0).l).length c5_2]) 54, row 27 1 (.slice a5_2 ((a0).l).length c5_2) ((a0).l).length d5_2, tie (El.sl (El.int .u8)) d5_2 ((a0).l), R] w0 w) mo HS.drew rfl ?_
    refine T.event _ [(25, Value.slice sa1 (a1).length sc1)] rfl rfl ⟨⟨_, Value.pointer (some ⟨b0, 0, none⟩), [(0, Value.pointer (some ⟨b0, 0, none⟩))], 20, rfl, rfl, ⟨.inl ⟨rfl, rfl⟩, trivial⟩, .run rfl (fun w HS => X.move rfl), rfl, rfl, rfl⟩, ⟨_, Value.pointer (some ⟨b0, 0, none⟩), [(0, Value.pointer (some ⟨b0, 0, none⟩))], 21, rfl, rfl, ⟨.inl ⟨rfl, rfl⟩, trivial⟩, .run rfl (fun w HS => X.move rfl), rfl, rfl, rfl⟩, ⟨_, Value.pointer (some ⟨b0, 0, none⟩), [(21, Value.pointer (some ⟨b0, 0, none⟩))], 22, rfl, rfl, ⟨.inr ⟨rfl, rfl⟩, trivial⟩, .run rfl (fun w HS => X.nilCheck rfl), rfl, rfl, rfl⟩, ⟨_, Value.pointer (some ⟨b0, 0 + 5, none⟩), [(22, Value.pointer (some ⟨b0, 0, none⟩))], 23, rfl, rfl, ⟨.inr ⟨rfl, rfl⟩, trivial⟩, .run rfl (fun w HS => X.fieldAddr 5 fo54_5 rfl), rfl, rfl, rfl⟩, ⟨_, Value.slice a5_2 ((a0).l).length c5_2, [(23, Value.pointer (some ⟨b0, 0 + 5, none⟩))], 24, rfl, rfl, ⟨.inr ⟨rfl, rfl⟩, trivial⟩, .run rfl (fun w HS => X.loadAt 0 HS rfl Try.underlying52 rfl rfl rfl), rfl, rfl, rfl⟩, ⟨_, Value.slice sa1 (a1).length sc1, [(1, Value.slice sa1 (a1).length sc1)], 25, rfl, rfl, ⟨.inl ⟨rfl, rfl⟩, trivial⟩, .run rfl (fun w HS => X.move rfl), rfl, rfl, rfl⟩, trivial⟩ rfl ⟨.inr ⟨rfl, rfl⟩, trivial⟩ (Or.inl rfl) (by intro d hd; cases hd; exact ⟨by decide, rfl, rfl⟩) [9, 10] [5] rfl rfl (fun w HS => ?_)
    have HS : Sep.St [blk b0 (#[Value.int .i64 ((a0).m), Value.int .i64 ((a0).window), Value.int .i64 ((a0).queue), Value.int .i64 ((a0).first), Value.int .i64 ((a0).out), Value.slice a5_2 ((a0).l).length c5_2]) 54, row 27 1 (.slice a5_2 ((a0).l).length c5_2) ((a0).l).length d5_2, tie (El.sl (El.int .u8)) d5_2 ((a0).l), R] w0 w := HS
    obtain ⟨t5, A6, H⟩ := bind_s H
    refine ⟨_, Y.call Try.func28 (by kernel_rfl) rfl (vs := [Value.slice sa1 (a1).length sc1]) rfl (slices_Clone_Sbytebyte.calls a1 _ w0 _ sa1 sc1 t5 (rdC.part 3 hr1 rfl) A6 (Sep.St.tailJoin (m := []) (r := [blk b0 (#[Value.int .i64 ((a0).m), Value.int .i64 ((a0).window), Value.int .i64 ((a0).queue), Value.int .i64 ((a0).first), Value.int .i64 ((a0).out), Value.slice a5_2 ((a0).l).length c5_2]) 54, row 27 1 (.slice a5_2 ((a0).l).length c5_2) ((a0).l).length d5_2, tie (El.sl (El.int .u8)) d5_2 ((a0).l), R]) HS)), ?_⟩
    rintro _ w ⟨at5_0, ct5_0, rfl, HS⟩
    replace HS := Sep.St.tailOpen (m := [row 5 1 (.slice at5_0 (t5).length ct5_0) (t5).length ((t5).map (Value.int .u8))]) (r := [blk b0 (#[Value.int .i64 ((a0).m), Value.int .i64 ((a0).window), Value.int .i64 ((a0).queue), Value.int .i64 ((a0).first), Value.int .i64 ((a0).out), Value.slice a5_2 ((a0).l).length c5_2]) 54, row 27 1 (.slice a5_2 ((a0).l).length c5_2) ((a0).l).length d5_2, tie (El.sl (El.int .u8)) d5_2 ((a0).l), R]) HS
    have HS : Sep.St [row 5 1 (.slice at5_0 (t5).length ct5_0) (t5).length ((t5).map (Value.int .u8)), blk b0 (#[Value.int .i64 ((a0).m), Value.int .i64 ((a0).window), Value.int .i64 ((a0).queue), Value.int .i64 ((a0).first), Value.int .i64 ((a0).out), Value.slice a5_2 ((a0).l).length c5_2]) 54, row 27 1 (.slice a5_2 ((a0).l).length c5_2) ((a0).l).length d5_2, tie (El.sl (El.int .u8)) d5_2 ((a0).l), R] w0 w := HS
    refine ⟨[(26, Value.slice at5_0 (t5).length ct5_0)], fun w => Sep.St [row 5 1 (.slice at5_0 (t5).length ct5_0) (t5).length ((t5).map (Value.int .u8)), blk b0 (#[Value.int .i64 ((a0).m), Value.int .i64 ((a0).window), Value.int .i64 ((a0).queue), Value.int .i64 ((a0).first), Value.int .i64 ((a0).out), Value.slice a5_2 ((a0).l).length c5_2]) 54, row 27 1 (.slice a5_2 ((a0).l).length c5_2) ((a0).l).length d5_2, tie (El.sl (El.int .u8)) d5_2 ((a0).l), R] w0 w, ⟨.inl ⟨rfl, rfl⟩, trivial⟩, ?_, HS⟩
    refine T.event _ [(26, Value.slice at5_0 (t5).length ct5_0)] rfl rfl ⟨⟨_, Value.pointer (some ⟨b0, 0, none⟩), [(0, Value.pointer (some ⟨b0, 0, none⟩))], 20, rfl, rfl, ⟨.inl ⟨rfl, rfl⟩, trivial⟩, .run rfl (fun w HS => X.move rfl), rfl, rfl, rfl⟩, ⟨_, Value.pointer (some ⟨b0, 0, none⟩), [(0, Value.pointer (some ⟨b0, 0, none⟩))], 21, rfl, rfl, ⟨.inl ⟨rfl, rfl⟩, trivial⟩, .run rfl (fun w HS => X.move rfl), rfl, rfl, rfl⟩, ⟨_, Value.pointer (some ⟨b0, 0, none⟩), [(21, Value.pointer (some ⟨b0, 0, none⟩))], 22, rfl, rfl, ⟨.inr ⟨rfl, rfl⟩, trivial⟩, .run rfl (fun w HS => X.nilCheck rfl), rfl, rfl, rfl⟩, ⟨_, Value.pointer (some ⟨b0, 0 + 5, none⟩), [(22, Value.pointer (some ⟨b0, 0, none⟩))], 23, rfl, rfl, ⟨.inr ⟨rfl, rfl⟩, trivial⟩, .run rfl (fun w HS => X.fieldAddr 5 fo54_5 rfl), rfl, rfl, rfl⟩, ⟨_, Value.slice a5_2 ((a0).l).length c5_2, [(23, Value.pointer (some ⟨b0, 0 + 5, none⟩))], 24, rfl, rfl, ⟨.inr ⟨rfl, rfl⟩, trivial⟩, .run rfl (fun w HS => X.loadAt 1 HS rfl Try.underlying52 rfl rfl rfl), rfl, rfl, rfl⟩, trivial⟩ rfl ⟨.inr ⟨rfl, rfl⟩, trivial⟩ (Or.inl rfl) (by intro d hd; cases hd; exact ⟨by decide, rfl, rfl⟩) [9, 10] [] rfl rfl (fun w HS => ?_)
    have HS : Sep.St [row 5 1 (.slice at5_0 (t5).length ct5_0) (t5).length ((t5).map (Value.int .u8)), blk b0 (#[Value.int .i64 ((a0).m), Value.int .i64 ((a0).window), Value.int .i64 ((a0).queue), Value.int .i64 ((a0).first), Value.int .i64 ((a0).out), Value.slice a5_2 ((a0).l).length c5_2]) 54, row 27 1 (.slice a5_2 ((a0).l).length c5_2) ((a0).l).length d5_2, tie (El.sl (El.int .u8)) d5_2 ((a0).l), R] w0 w := HS
    replace HS := St.row_freeze HS
    have HS : Sep.St [fsl 1 (.slice at5_0 (t5).length ct5_0) (t5).length ((t5).map (Value.int .u8)), blk b0 (#[Value.int .i64 ((a0).m), Value.int .i64 ((a0).window), Value.int .i64 ((a0).queue), Value.int .i64 ((a0).first), Value.int .i64 ((a0).out), Value.slice a5_2 ((a0).l).length c5_2]) 54, row 27 1 (.slice a5_2 ((a0).l).length c5_2) ((a0).l).length d5_2, tie (El.sl (El.int .u8)) d5_2 ((a0).l), R] w0 w := HS
    refine ⟨_, Y.litB (e := 27) (sz := 1) (vs := #[(0, Value.slice at5_0 (t5).length ct5_0)]) [Value.slice at5_0 (t5).length ct5_0] HS (fun a ha => by simp only [List.map_toArray, List.map_cons, List.map_nil]; rw [ha.ev (x := .tmp 26) (v := Value.slice at5_0 (t5).length ct5_0) rfl]; try rfl) rfl (by decide) (fun _ => by kernel_rfl), ?_⟩
    rintro _ w ⟨lb7, rfl, HS⟩
    have HS : Sep.St [row 27 1 (.slice (some ⟨lb7, 0, none⟩) (([t5] : List (List Int))).length 1) (([t5] : List (List Int))).length ([Value.slice at5_0 (t5).length ct5_0]), fsl 1 (.slice at5_0 (t5).length ct5_0) (t5).length ((t5).map (Value.int .u8)), blk b0 (#[Value.int .i64 ((a0).m), Value.int .i64 ((a0).window), Value.int .i64 ((a0).queue), Value.int .i64 ((a0).first), Value.int .i64 ((a0).out), Value.slice a5_2 ((a0).l).length c5_2]) 54, row 27 1 (.slice a5_2 ((a0).l).length c5_2) ((a0).l).length d5_2, tie (El.sl (El.int .u8)) d5_2 ((a0).l), R] w0 w := HS
    replace HS := St.put (A := tie (El.sl (El.int .u8)) ([]) (([] : List (List Int)))) (fun _ => tie.nil) HS
    have HS : Sep.St [tie (El.sl (El.int .u8)) ([]) (([] : List (List Int))), row 27 1 (.slice (some ⟨lb7, 0, none⟩) (([t5] : List (List Int))).length 1) (([t5] : List (List Int))).length ([Value.slice at5_0 (t5).length ct5_0]), fsl 1 (.slice at5_0 (t5).length ct5_0) (t5).length ((t5).map (Value.int .u8)), blk b0 (#[Value.int .i64 ((a0).m), Value.int .i64 ((a0).window), Value.int .i64 ((a0).queue), Value.int .i64 ((a0).first), Value.int .i64 ((a0).out), Value.slice a5_2 ((a0).l).length c5_2]) 54, row 27 1 (.slice a5_2 ((a0).l).length c5_2) ((a0).l).length d5_2, tie (El.sl (El.int .u8)) d5_2 ((a0).l), R] w0 w := HS
    replace HS := HS.more 2 rfl (fun _ t => t) fsl.pers
    have HS : Sep.St [fsl 1 (.slice at5_0 (t5).length ct5_0) (t5).length ((t5).map (Value.int .u8)), tie (El.sl (El.int .u8)) ([]) (([] : List (List Int))), row 27 1 (.slice (some ⟨lb7, 0, none⟩) (([t5] : List (List Int))).length 1) (([t5] : List (List Int))).length ([Value.slice at5_0 (t5).length ct5_0]), fsl 1 (.slice at5_0 (t5).length ct5_0) (t5).length ((t5).map (Value.int .u8)), blk b0 (#[Value.int .i64 ((a0).m), Value.int .i64 ((a0).window), Value.int .i64 ((a0).queue), Value.int .i64 ((a0).first), Value.int .i64 ((a0).out), Value.slice a5_2 ((a0).l).length c5_2]) 54, row 27 1 (.slice a5_2 ((a0).l).length c5_2) ((a0).l).length d5_2, tie (El.sl (El.int .u8)) d5_2 ((a0).l), R] w0 w := HS
    replace HS := St.put (A := tie (El.int .u8) ((t5).map (Value.int .u8)) (t5)) (fun _ => int_tie) HS
    have HS : Sep.St [tie (El.int .u8) ((t5).map (Value.int .u8)) (t5), fsl 1 (.slice at5_0 (t5).length ct5_0) (t5).length ((t5).map (Value.int .u8)), tie (El.sl (El.int .u8)) ([]) (([] : List (List Int))), row 27 1 (.slice (some ⟨lb7, 0, none⟩) (([t5] : List (List Int))).length 1) (([t5] : List (List Int))).length ([Value.slice at5_0 (t5).length ct5_0]), fsl 1 (.slice at5_0 (t5).length ct5_0) (t5).length ((t5).map (Value.int .u8)), blk b0 (#[Value.int .i64 ((a0).m), Value.int .i64 ((a0).window), Value.int .i64 ((a0).queue), Value.int .i64 ((a0).first), Value.int .i64 ((a0).out), Value.slice a5_2 ((a0).l).length c5_2]) 54, row 27 1 (.slice a5_2 ((a0).l).length c5_2) ((a0).l).length d5_2, tie (El.sl (El.int .u8)) d5_2 ((a0).l), R] w0 w := HS
    replace HS := St.swap HS
    replace HS := St.sl_close (E := (El.int .u8)) HS
    have HS : Sep.St [(El.sl (El.int .u8)).p [Value.slice at5_0 (t5).length ct5_0] (t5), tie (El.sl (El.int .u8)) ([]) (([] : List (List Int))), row 27 1 (.slice (some ⟨lb7, 0, none⟩) (([t5] : List (List Int))).length 1) (([t5] : List (List Int))).length ([Value.slice at5_0 (t5).length ct5_0]), fsl 1 (.slice at5_0 (t5).length ct5_0) (t5).length ((t5).map (Value.int .u8)), blk b0 (#[Value.int .i64 ((a0).m), Value.int .i64 ((a0).window), Value.int .i64 ((a0).queue), Value.int .i64 ((a0).first), Value.int .i64 ((a0).out), Value.slice a5_2 ((a0).l).length c5_2]) 54, row 27 1 (.slice a5_2 ((a0).l).length c5_2) ((a0).l).length d5_2, tie (El.sl (El.int .u8)) d5_2 ((a0).l), R] w0 w := HS
    replace HS := HS.front 1 rfl
    have HS : Sep.St [tie (El.sl (El.int .u8)) ([]) (([] : List (List Int))), (El.sl (El.int .u8)).p [Value.slice at5_0 (t5).length ct5_0] (t5), row 27 1 (.slice (some ⟨lb7, 0, none⟩) (([t5] : List (List Int))).length 1) (([t5] : List (List Int))).length ([Value.slice at5_0 (t5).length ct5_0]), fsl 1 (.slice at5_0 (t5).length ct5_0) (t5).length ((t5).map (Value.int .u8)), blk b0 (#[Value.int .i64 ((a0).m), Value.int .i64 ((a0).window), Value.int .i64 ((a0).queue), Value.int .i64 ((a0).first), Value.int .i64 ((a0).out), Value.slice a5_2 ((a0).l).length c5_2]) 54, row 27 1 (.slice a5_2 ((a0).l).length c5_2) ((a0).l).length d5_2, tie (El.sl (El.int .u8)) d5_2 ((a0).l), R] w0 w := HS
    replace HS := HS.front 1 rfl
    have HS : Sep.St [(El.sl (El.int .u8)).p [Value.slice at5_0 (t5).length ct5_0] (t5), tie (El.sl (El.int .u8)) ([]) (([] : List (List Int))), row 27 1 (.slice (some ⟨lb7, 0, none⟩) (([t5] : List (List Int))).length 1) (([t5] : List (List Int))).length ([Value.slice at5_0 (t5).length ct5_0]), fsl 1 (.slice at5_0 (t5).length ct5_0) (t5).length ((t5).map (Value.int .u8)), blk b0 (#[Value.int .i64 ((a0).m), Value.int .i64 ((a0).window), Value.int .i64 ((a0).queue), Value.int .i64 ((a0).first), Value.int .i64 ((a0).out), Value.slice a5_2 ((a0).l).length c5_2]) 54, row 27 1 (.slice a5_2 ((a0).l).length c5_2) ((a0).l).length d5_2, tie (El.sl (El.int .u8)) d5_2 ((a0).l), R] w0 w := HS
    replace HS := St.tie_cons HS
    have HS : Sep.St [tie (El.sl (El.int .u8)) ([Value.slice at5_0 (t5).length ct5_0]) (([t5] : List (List Int))), row 27 1 (.slice (some ⟨lb7, 0, none⟩) (([t5] : List (List Int))).length 1) (([t5] : List (List Int))).length ([Value.slice at5_0 (t5).length ct5_0]), fsl 1 (.slice at5_0 (t5).length ct5_0) (t5).length ((t5).map (Value.int .u8)), blk b0 (#[Value.int .i64 ((a0).m), Value.int .i64 ((a0).window), Value.int .i64 ((a0).queue), Value.int .i64 ((a0).first), Value.int .i64 ((a0).out), Value.slice a5_2 ((a0).l).length c5_2]) 54, row 27 1 (.slice a5_2 ((a0).l).length c5_2) ((a0).l).length d5_2, tie (El.sl (El.int .u8)) d5_2 ((a0).l), R] w0 w := HS
    refine ⟨[(27, Value.slice (some ⟨lb7, 0, none⟩) (([t5] : List (List Int))).length 1)], fun w => Sep.St [tie (El.sl (El.int .u8)) ([Value.slice at5_0 (t5).length ct5_0]) (([t5] : List (List Int))), row 27 1 (.slice (some ⟨lb7, 0, none⟩) (([t5] : List (List Int))).length 1) (([t5] : List (List Int))).length ([Value.slice at5_0 (t5).length ct5_0]), fsl 1 (.slice at5_0 (t5).length ct5_0) (t5).length ((t5).map (Value.int .u8)), blk b0 (#[Value.int .i64 ((a0).m), Value.int .i64 ((a0).window), Value.int .i64 ((a0).queue), Value.int .i64 ((a0).first), Value.int .i64 ((a0).out), Value.slice a5_2 ((a0).l).length c5_2]) 54, row 27 1 (.slice a5_2 ((a0).l).length c5_2) ((a0).l).length d5_2, tie (El.sl (El.int .u8)) d5_2 ((a0).l), R] w0 w, ⟨.inl ⟨rfl, rfl⟩, trivial⟩, ?_, HS⟩
    refine T.event _ [(24, Value.slice a5_2 ((a0).l).length c5_2), (27, Value.slice (some ⟨lb7, 0, none⟩) (([t5] : List (List Int))).length 1)] rfl rfl ⟨⟨_, Value.pointer (some ⟨b0, 0, none⟩), [(0, Value.pointer (some ⟨b0, 0, none⟩))], 20, rfl, rfl, ⟨.inl ⟨rfl, rfl⟩, trivial⟩, .run rfl (fun w HS => X.move rfl), rfl, rfl, rfl⟩, ⟨_, Value.pointer (some ⟨b0, 0, none⟩), [(0, Value.pointer (some ⟨b0, 0, none⟩))], 21, rfl, rfl, ⟨.inl ⟨rfl, rfl⟩, trivial⟩, .run rfl (fun w HS => X.move rfl), rfl, rfl, rfl⟩, ⟨_, Value.pointer (some ⟨b0, 0, none⟩), [(21, Value.pointer (some ⟨b0, 0, none⟩))], 22, rfl, rfl, ⟨.inr ⟨rfl, rfl⟩, trivial⟩, .run rfl (fun w HS => X.nilCheck rfl), rfl, rfl, rfl⟩, ⟨_, Value.pointer (some ⟨b0, 0 + 5, none⟩), [(22, Value.pointer (some ⟨b0, 0, none⟩))], 23, rfl, rfl, ⟨.inr ⟨rfl, rfl⟩, trivial⟩, .run rfl (fun w HS => X.fieldAddr 5 fo54_5 rfl), rfl, rfl, rfl⟩, ⟨_, Value.slice a5_2 ((a0).l).length c5_2, [(23, Value.pointer (some ⟨b0, 0 + 5, none⟩))], 24, rfl, rfl, ⟨.inr ⟨rfl, rfl⟩, trivial⟩, .run rfl (fun w HS => X.loadAt 3 HS rfl Try.underlying52 rfl rfl rfl), rfl, rfl, rfl⟩, trivial⟩ rfl ⟨.inr ⟨rfl, rfl⟩, ⟨.inr ⟨rfl, rfl⟩, trivial⟩⟩ (Or.inl rfl) (by intro d hd; cases hd; exact ⟨by decide, rfl, rfl⟩) [] [1, 2, 3, 4] rfl rfl (fun w HS => ?_)
    have HS : Sep.St [tie (El.sl (El.int .u8)) ([Value.slice at5_0 (t5).length ct5_0]) (([t5] : List (List Int))), row 27 1 (.slice (some ⟨lb7, 0, none⟩) (([t5] : List (List Int))).length 1) (([t5] : List (List Int))).length ([Value.slice at5_0 (t5).length ct5_0]), fsl 1 (.slice at5_0 (t5).length ct5_0) (t5).length ((t5).map (Value.int .u8)), blk b0 (#[Value.int .i64 ((a0).m), Value.int .i64 ((a0).window), Value.int .i64 ((a0).queue), Value.int .i64 ((a0).first), Value.int .i64 ((a0).out), Value.slice a5_2 ((a0).l).length c5_2]) 54, row 27 1 (.slice a5_2 ((a0).l).length c5_2) ((a0).l).length d5_2, tie (El.sl (El.int .u8)) d5_2 ((a0).l), R] w0 w := HS
    obtain ⟨c10, H⟩ := ite_n H
    refine ⟨_, Y.app (xs := (a0).l) (ys := ([t5] : List (List Int))) 4 Try.underlying52 ap27 rfl (by decide) HS rfl rfl rfl (rdC.at 1 row_rd HS rfl) (St.tie_one 0 HS rfl) (by omega) (by omega), ?_⟩
    rintro _ w ⟨ra11, rc12, rfl, HS⟩
    have HS : Sep.St [tie (El.sl (El.int .u8)) ([Value.slice at5_0 (t5).length ct5_0]) (([t5] : List (List Int))), row 27 1 (.slice (some ⟨lb7, 0, none⟩) (([t5] : List (List Int))).length 1) (([t5] : List (List Int))).length ([Value.slice at5_0 (t5).length ct5_0]), fsl 1 (.slice at5_0 (t5).length ct5_0) (t5).length ((t5).map (Value.int .u8)), blk b0 (#[Value.int .i64 ((a0).m), Value.int .i64 ((a0).window), Value.int .i64 ((a0).queue), Value.int .i64 ((a0).first), Value.int .i64 ((a0).out), Value.slice a5_2 ((a0).l).length c5_2]) 54, row 27 1 (.slice ra11 (((a0).l) ++ ([t5] : List (List Int))).length rc12) (((a0).l) ++ ([t5] : List (List Int))).length (d5_2 ++ ([Value.slice at5_0 (t5).length ct5_0])), tie (El.sl (El.int .u8)) d5_2 ((a0).l), R] w0 w := HS
    replace HS := HS.front 5 rfl
    have HS : Sep.St [tie (El.sl (El.int .u8)) d5_2 ((a0).l), tie (El.sl (El.int .u8)) ([Value.slice at5_0 (t5).length ct5_0]) (([t5] : List (List Int))), row 27 1 (.slice (some ⟨lb7, 0, none⟩) (([t5] : List (List Int))).length 1) (([t5] : List (List Int))).length ([Value.slice at5_0 (t5).length ct5_0]), fsl 1 (.slice at5_0 (t5).length ct5_0) (t5).length ((t5).map (Value.int .u8)), blk b0 (#[Value.int .i64 ((a0).m), Value.int .i64 ((a0).window), Value.int .i64 ((a0).queue), Value.int .i64 ((a0).first), Value.int .i64 ((a0).out), Value.slice a5_2 ((a0).l).length c5_2]) 54, row 27 1 (.slice ra11 (((a0).l) ++ ([t5] : List (List Int))).length rc12) (((a0).l) ++ ([t5] : List (List Int))).length (d5_2 ++ ([Value.slice at5_0 (t5).length ct5_0])), R] w0 w := HS
    replace HS := St.tie_app 1 HS rfl
    have HS : Sep.St [tie (El.sl (El.int .u8)) (d5_2 ++ ([Value.slice at5_0 (t5).length ct5_0])) (((a0).l) ++ ([t5] : List (List Int))), tie (El.sl (El.int .u8)) ([Value.slice at5_0 (t5).length ct5_0]) (([t5] : List (List Int))), row 27 1 (.slice (some ⟨lb7, 0, none⟩) (([t5] : List (List Int))).length 1) (([t5] : List (List Int))).length ([Value.slice at5_0 (t5).length ct5_0]), fsl 1 (.slice at5_0 (t5).length ct5_0) (t5).length ((t5).map (Value.int .u8)), blk b0 (#[Value.int .i64 ((a0).m), Value.int .i64 ((a0).window), Value.int .i64 ((a0).queue), Value.int .i64 ((a0).first), Value.int .i64 ((a0).out), Value.slice a5_2 ((a0).l).length c5_2]) 54, row 27 1 (.slice ra11 (((a0).l) ++ ([t5] : List (List Int))).length rc12) (((a0).l) ++ ([t5] : List (List Int))).length (d5_2 ++ ([Value.slice at5_0 (t5).length ct5_0])), R] w0 w := HS
    refine ⟨[(28, Value.slice ra11 (((a0).l) ++ ([t5] : List (List Int))).length rc12), (29, Value.pointer (some ⟨b0, 0, none⟩)), (30, Value.pointer (some ⟨b0, 0 + 5, none⟩))], fun w => Sep.St [tie (El.sl (El.int .u8)) (d5_2 ++ ([Value.slice at5_0 (t5).length ct5_0])) (((a0).l) ++ ([t5] : List (List Int))), tie (El.sl (El.int .u8)) ([Value.slice at5_0 (t5).length ct5_0]) (([t5] : List (List Int))), row 27 1 (.slice (some ⟨lb7, 0, none⟩) (([t5] : List (List Int))).length 1) (([t5] : List (List Int))).length ([Value.slice at5_0 (t5).length ct5_0]), fsl 1 (.slice at5_0 (t5).length ct5_0) (t5).length ((t5).map (Value.int .u8)), blk b0 (#[Value.int .i64 ((a0).m), Value.int .i64 ((a0).window), Value.int .i64 ((a0).queue), Value.int .i64 ((a0).first), Value.int .i64 ((a0).out), Value.slice a5_2 ((a0).l).length c5_2]) 54, row 27 1 (.slice ra11 (((a0).l) ++ ([t5] : List (List Int))).length rc12) (((a0).l) ++ ([t5] : List (List Int))).length (d5_2 ++ ([Value.slice at5_0 (t5).length ct5_0])), R] w0 w, ⟨.inl ⟨rfl, rfl⟩, ⟨.inr ⟨by decide, rfl⟩, ⟨.inr ⟨by decide, rfl⟩, trivial⟩⟩⟩, ?_, HS⟩
    refine T.event _ [(28, Value.slice ra11 (((a0).l) ++ ([t5] : List (List Int))).length rc12), (30, Value.pointer (some ⟨b0, 0 + 5, none⟩))] rfl rfl ⟨⟨_, Value.pointer (some ⟨b0, 0, none⟩), [(0, Value.pointer (some ⟨b0, 0, none⟩))], 20, rfl, rfl, ⟨.inl ⟨rfl, rfl⟩, trivial⟩, .run rfl (fun w HS => X.move rfl), rfl, rfl, rfl⟩, ⟨_, Value.pointer (some ⟨b0, 0, none⟩), [(20, Value.pointer (some ⟨b0, 0, none⟩))], 29, rfl, rfl, ⟨.inr ⟨rfl, rfl⟩, trivial⟩, .run rfl (fun w HS => X.nilCheck rfl), rfl, rfl, rfl⟩, ⟨_, Value.pointer (some ⟨b0, 0 + 5, none⟩), [(29, Value.pointer (some ⟨b0, 0, none⟩))], 30, rfl, rfl, ⟨.inr ⟨rfl, rfl⟩, trivial⟩, .run rfl (fun w HS => X.fieldAddr 5 fo54_5 rfl), rfl, rfl, rfl⟩, trivial⟩ rfl ⟨.inr ⟨rfl, rfl⟩, ⟨.inr ⟨rfl, rfl⟩, trivial⟩⟩ (Or.inl rfl) (by intro d hd; cases hd) [] [0, 9, 10] rfl rfl (fun w HS => ?_)
    have HS : Sep.St [tie (El.sl (El.int .u8)) (d5_2 ++ ([Value.slice at5_0 (t5).length ct5_0])) (((a0).l) ++ ([t5] : List (List Int))), tie (El.sl (El.int .u8)) ([Value.slice at5_0 (t5).length ct5_0]) (([t5] : List (List Int))), row 27 1 (.slice (some ⟨lb7, 0, none⟩) (([t5] : List (List Int))).length 1) (([t5] : List (List Int))).length ([Value.slice at5_0 (t5).length ct5_0]), fsl 1 (.slice at5_0 (t5).length ct5_0) (t5).length ((t5).map (Value.int .u8)), blk b0 (#[Value.int .i64 ((a0).m), Value.int .i64 ((a0).window), Value.int .i64 ((a0).queue), Value.int .i64 ((a0).first), Value.int .i64 ((a0).out), Value.slice a5_2 ((a0).l).length c5_2]) 54, row 27 1 (.slice ra11 (((a0).l) ++ ([t5] : List (List Int))).length rc12) (((a0).l) ++ ([t5] : List (List Int))).length (d5_2 ++ ([Value.slice at5_0 (t5).length ct5_0])), R] w0 w := HS
    refine ⟨_, Y.storeAt 4 HS rfl inf52 rfl rfl rfl rfl rfl rfl, ?_⟩
    rintro _ w HS
    have HS : Sep.St [tie (El.sl (El.int .u8)) (d5_2 ++ ([Value.slice at5_0 (t5).length ct5_0])) (((a0).l) ++ ([t5] : List (List Int))), tie (El.sl (El.int .u8)) ([Value.slice at5_0 (t5).length ct5_0]) (([t5] : List (List Int))), row 27 1 (.slice (some ⟨lb7, 0, none⟩) (([t5] : List (List Int))).length 1) (([t5] : List (List Int))).length ([Value.slice at5_0 (t5).length ct5_0]), fsl 1 (.slice at5_0 (t5).length ct5_0) (t5).length ((t5).map (Value.int .u8)), blk b0 (#[Value.int .i64 ((a0).m), Value.int .i64 ((a0).window), Value.int .i64 ((a0).queue), Value.int .i64 ((a0).first), Value.int .i64 ((a0).out), Value.slice ra11 (((a0).l) ++ ([t5] : List (List Int))).length rc12]) 54, row 27 1 (.slice ra11 (((a0).l) ++ ([t5] : List (List Int))).length rc12) (((a0).l) ++ ([t5] : List (List Int))).length (d5_2 ++ ([Value.slice at5_0 (t5).length ct5_0])), R] w0 w := HS
    refine ⟨[], fun w => Sep.St [tie (El.sl (El.int .u8)) (d5_2 ++ ([Value.slice at5_0 (t5).length ct5_0])) (((a0).l) ++ ([t5] : List (List Int))), tie (El.sl (El.int .u8)) ([Value.slice at5_0 (t5).length ct5_0]) (([t5] : List (List Int))), row 27 1 (.slice (some ⟨lb7, 0, none⟩) (([t5] : List (List Int))).length 1) (([t5] : List (List Int))).length ([Value.slice at5_0 (t5).length ct5_0]), fsl 1 (.slice at5_0 (t5).length ct5_0) (t5).length ((t5).map (Value.int .u8)), blk b0 (#[Value.int .i64 ((a0).m), Value.int .i64 ((a0).window), Value.int .i64 ((a0).queue), Value.int .i64 ((a0).first), Value.int .i64 ((a0).out), Value.slice ra11 (((a0).l) ++ ([t5] : List (List Int))).length rc12]) 54, row 27 1 (.slice ra11 (((a0).l) ++ ([t5] : List (List Int))).length rc12) (((a0).l) ++ ([t5] : List (List Int))).length (d5_2 ++ ([Value.slice at5_0 (t5).length ct5_0])), R] w0 w, trivial, ?_, HS⟩
    refine T.fin [] rfl trivial trivial (fun w HS => ?_)
    have HS : Sep.St [tie (El.sl (El.int .u8)) (d5_2 ++ ([Value.slice at5_0 (t5).length ct5_0])) (((a0).l) ++ ([t5] : List (List Int))), tie (El.sl (El.int .u8)) ([Value.slice at5_0 (t5).length ct5_0]) (([t5] : List (List Int))), row 27 1 (.slice (some ⟨lb7, 0, none⟩) (([t5] : List (List Int))).length 1) (([t5] : List (List Int))).length ([Value.slice at5_0 (t5).length ct5_0]), fsl 1 (.slice at5_0 (t5).length ct5_0) (t5).length ((t5).map (Value.int .u8)), blk b0 (#[Value.int .i64 ((a0).m), Value.int .i64 ((a0).window), Value.int .i64 ((a0).queue), Value.int .i64 ((a0).first), Value.int .i64 ((a0).out), Value.slice ra11 (((a0).l) ++ ([t5] : List (List Int))).length rc12]) 54, row 27 1 (.slice ra11 (((a0).l) ++ ([t5] : List (List Int))).length rc12) (((a0).l) ++ ([t5] : List (List Int))).length (d5_2 ++ ([Value.slice at5_0 (t5).length ct5_0])), R] w0 w := HS
    refine At.next ?_
    refine V.keep [] trivial ?_
    refine V.seq ?_
    refine V.region ?_
    refine W.rd (X.assign rfl) rfl rfl rfl ?_
    refine W.nil ?_
    refine At.next ?_
    refine V.keep [(4, Value.int .i64 (0))] ⟨rfl, trivial⟩ ?_
    refine V.ret ?_
    replace HS := HS.re [4, 5, 0, 1, 2, 3, 6] (by kernel_rfl)
    have HS : Sep.St [blk b0 (#[Value.int .i64 ((a0).m), Value.int .i64 ((a0).window), Value.int .i64 ((a0).queue), Value.int .i64 ((a0).first), Value.int .i64 ((a0).out), Value.slice ra11 (((a0).l) ++ ([t5] : List (List Int))).length rc12]) 54, row 27 1 (.slice ra11 (((a0).l) ++ ([t5] : List (List Int))).length rc12) (((a0).l) ++ ([t5] : List (List Int))).length (d5_2 ++ ([Value.slice at5_0 (t5).length ct5_0])), tie (El.sl (El.int .u8)) (d5_2 ++ ([Value.slice at5_0 (t5).length ct5_0])) (((a0).l) ++ ([t5] : List (List Int))), tie (El.sl (El.int .u8)) ([Value.slice at5_0 (t5).length ct5_0]) (([t5] : List (List Int))), row 27 1 (.slice (some ⟨lb7, 0, none⟩) (([t5] : List (List Int))).length 1) (([t5] : List (List Int))).length ([Value.slice at5_0 (t5).length ct5_0]), fsl 1 (.slice at5_0 (t5).length ct5_0) (t5).length ((t5).map (Value.int .u8)), R] w0 w := HS
    replace HS := backlog_Log.close (({ m := (a0).m, window := (a0).window, queue := (a0).queue, first := (a0).first, out := (a0).out, l := ((a0).l) ++ ([t5] : List (List Int)) } : backlog_Log)) trivial HS
    have HS : Sep.St [backlog_Log.at b0 (({ m := (a0).m, window := (a0).window, queue := (a0).queue, first := (a0).first, out := (a0).out, l := ((a0).l) ++ ([t5] : List (List Int)) } : backlog_Log)), tie (El.sl (El.int .u8)) ([Value.slice at5_0 (t5).length ct5_0]) (([t5] : List (List Int))), row 27 1 (.slice (some ⟨lb7, 0, none⟩) (([t5] : List (List Int))).length 1) (([t5] : List (List Int))).length ([Value.slice at5_0 (t5).length ct5_0]), fsl 1 (.slice at5_0 (t5).length ct5_0) (t5).length ((t5).map (Value.int .u8)), R] w0 w := HS
    replace HS := HS.sel [0, 4] [1, 2, 3] (by kernel_rfl)
    cases H
    exact At.ret1 rfl rfl ⟨_, rfl, rfl, HS⟩

/-! ### signalman/signalmanlaw13.num: function 14 -/
def signalmanlaw13_num.f (a0 : Int) : Option (Int) := some (a0)
set_option maxRecDepth 100000 in
set_option maxHeartbeats 4000000 in
theorem signalmanlaw13_num.calls (a0 : Int) (R : As) (w0 w : World)  (r : Int)  (H : signalmanlaw13_num.f a0 = some r) (HS : Sep.St [R] w0 w) : Calls Try.prog 14 #[Value.int .i64 (a0)] w (Ret fun u w => u = Value.int .i64 (r) ∧ Sep.St [R] w0 w) := by
  unfold signalmanlaw13_num.f at H
  refine calls_enter Try.func14 rfl rfl ?_
  have H : _ = some r := H
  refine V.seq ?_
  refine V.region ?_
  refine W.rd (X.assign rfl) rfl rfl rfl ?_
  refine W.nil ?_
  refine At.next ?_
  refine V.keep [(0, Value.int .i64 (a0))] ⟨rfl, trivial⟩ ?_
  refine V.seq ?_
  refine V.region ?_
  refine W.rd (X.move rfl) rfl rfl rfl ?_
  refine W.rd (X.assign rfl) rfl rfl rfl ?_
  refine W.nil ?_
  refine At.next ?_
  refine V.keep [(2, Value.int .i64 (a0))] ⟨rfl, trivial⟩ ?_
  refine V.ret ?_
  cases H
  exact At.ret1 rfl rfl ⟨_, rfl, rfl, HS⟩

/-! ### signalman/signalmanlaw13.alive: function 7 -/
def signalmanlaw13_alive.f  : Option (Bool) := ((backlog_New.f 128 4 4).bind fun t1 => ((backlog_Log_Next.f t1).bind fun t4 => ((backlog_Log_Add.f t4.2.2.2 ([97] : List Int)).bind fun t9 => ((backlog_Log_Next.f t9.2).bind fun t11 => (if t4.2.2.1 = true then some (false) else ((signalmanlaw13_num.f t9.1).bind fun t14 => (if t14 = 0 then (if t11.2.2.1 = true then (if t11.1 = 0 then some (sEq (t11.2.1) (([97] : List Int))) else some (false)) else some (false)) else some (false))))))))
set_option maxRecDepth 100000 in
set_option maxHeartbeats 4000000 in
theorem signalmanlaw13_alive.calls  (R : As) (w0 w : World)  (r : Bool)  (H : signalmanlaw13_alive.f  = some r) (HS : Sep.St [R] w0 w) : Calls Try.prog 7 #[] w (Ret fun u w => u = Value.bool (r) ∧ Sep.St [R] w0 w) := by
  unfold signalmanlaw13_alive.f at H
  refine calls_enter Try.func7 rfl rfl ?_
  have H : _ = some r := H
  refine V.seq ?_
  refine V.region ?_
  refine W.rd (X.assign rfl) rfl rfl rfl ?_
  refine W.nil ?_
  refine At.next ?_
  refine V.keep [] trivial ?_
  refine V.seq ?_
  refine V.region ?_
  obtain ⟨t1, A2, H⟩ := bind_s H
  refine W.ev (Y.call Try.func8 (by kernel_rfl) rfl (vs := [Value.int .i64 (128), Value.int .i64 (4), Value.int .i64 (4)]) rfl (backlog_New.calls 128 4 4 _ w0 _  t1  A2 (Sep.St.tailJoin (m := []) (r := [R]) HS))) rfl rfl rfl ?_
  rintro _ w ⟨bt1_0, rfl, HS⟩
  replace HS := Sep.St.tailOpen (m := [backlog_Log.at bt1_0 (t1)]) (r := [R]) HS
  have HS : Sep.St [backlog_Log.at bt1_0 (t1), R] w0 w := HS
  refine W.rd (X.assign rfl) rfl rfl rfl ?_
  refine W.nil ?_
  refine At.next ?_
  refine V.keep [(1, Value.pointer (some ⟨bt1_0, 0, none⟩))] ⟨rfl, trivial⟩ ?_
  refine V.seq ?_
  refine V.seq ?_
  refine V.region ?_
  refine W.rd (X.move rfl) rfl rfl rfl ?_
  refine W.rd (X.eqP Try.underlying23 rfl rfl) rfl rfl rfl ?_
  refine W.nil ?_
  refine At.next ?_
  refine V.keep [(1, Value.pointer (some ⟨bt1_0, 0, none⟩)), (11, Value.bool (false))] ⟨rfl, rfl, trivial⟩ ?_
  refine V.condF rfl ?_
  refine V.skip ?_
  refine At.next ?_
  refine V.keep [(1, Value.pointer (some ⟨bt1_0, 0, none⟩))] ⟨rfl, trivial⟩ ?_
  refine V.seq ?_
  refine V.region ?_
  refine W.rd (X.move rfl) rfl rfl rfl ?_
  obtain ⟨t4, A5, H⟩ := bind_s H
  refine W.ev (Y.call Try.func10 (by kernel_rfl) rfl (vs := [Value.pointer (some ⟨bt1_0, 0, none⟩)]) rfl (backlog_Log_Next.calls t1 _ w0 _ bt1_0 t4  A5 (Sep.St.tailJoin (m := [backlog_Log.at bt1_0 (t1)]) (r := [R]) HS))) rfl rfl rfl ?_
  rintro _ w ⟨at4_1, ct4_1, rfl, HS⟩
  replace HS := Sep.St.tailOpen (m := [row 5 1 (.slice at4_1 (t4.2.1).length ct4_1) (t4.2.1).length ((t4.2.1).map (Value.int .u8)), backlog_Log.at bt1_0 (t4.2.2.2)]) (r := [R]) HS
  have HS : Sep.St [row 5 1 (.slice at4_1 (t4.2.1).length ct4_1) (t4.2.1).length ((t4.2.1).map (Value.int .u8)), backlog_Log.at bt1_0 (t4.2.2.2), R] w0 w := HS
  refine W.rd (X.move rfl) rfl rfl rfl ?_
  refine W.rd (X.extract rfl rfl) rfl rfl rfl ?_
  refine W.rd (X.extract rfl rfl) rfl rfl rfl ?_
  refine W.rd (X.extract rfl rfl) rfl rfl rfl ?_
  refine W.rd (X.assign rfl) rfl rfl rfl ?_
  refine W.rd (X.assign rfl) rfl rfl rfl ?_
  refine W.rd (X.assign rfl) rfl rfl rfl ?_
  refine W.nil ?_
  refine At.next ?_
  refine V.keep [(1, Value.pointer (some ⟨bt1_0, 0, none⟩)), (4, Value.bool (t4.2.2.1))] ⟨rfl, rfl, trivial⟩ ?_
  refine V.seq ?_
  refine V.region ?_
  refine W.rd (X.move rfl) rfl rfl rfl ?_
  refine W.ev (Y.litB (e := 5) (sz := 1) (vs := #[(0, Value.int .u8 (97))]) [Value.int .u8 (97)] HS (fun a ha => by simp only [List.map_toArray, List.map_cons, List.map_nil]; try rfl) rfl (by decide) (fun _ => by kernel_rfl)) rfl rfl rfl ?_
  rintro _ w ⟨lb8, rfl, HS⟩
  have HS : Sep.St [row 5 1 (.slice (some ⟨lb8, 0, none⟩) (([97] : List Int)).length 1) (([97] : List Int)).length ((([97] : List Int)).map (Value.int .u8)), row 5 1 (.slice at4_1 (t4.2.1).length ct4_1) (t4.2.1).length ((t4.2.1).map (Value.int .u8)), backlog_Log.at bt1_0 (t4.2.2.2), R] w0 w := HS
  refine W.ev (Y.markS 0 HS rfl (by decide) Try.underlying27 Try.underlying5 rfl) rfl rfl rfl ?_
  rintro _ w ⟨rfl, HS⟩
  have HS : Sep.St [fsl 1 (.slice (some ⟨lb8, 0, none⟩) (([97] : List Int)).length 1) (([97] : List Int)).length ((([97] : List Int)).map (Value.int .u8)), row 5 1 (.slice at4_1 (t4.2.1).length ct4_1) (t4.2.1).length ((t4.2.1).map (Value.int .u8)), backlog_Log.at bt1_0 (t4.2.2.2), R] w0 w := HS
  obtain ⟨t9, A10, H⟩ := bind_s H
  replace HS := HS.re [2, 0, 1, 3] (by kernel_rfl)
  have HS : Sep.St [backlog_Log.at bt1_0 (t4.2.2.2), fsl 1 (.slice (some ⟨lb8, 0, none⟩) (([97] : List Int)).length 1) (([97] : List Int)).length ((([97] : List Int)).map (Value.int .u8)), row 5 1 (.slice at4_1 (t4.2.1).length ct4_1) (t4.2.1).length ((t4.2.1).map (Value.int .u8)), R] w0 w := HS
  refine W.ev (Y.call Try.func9 (by kernel_rfl) rfl (vs := [Value.pointer (some ⟨bt1_0, 0, none⟩), Value.slice (some ⟨lb8, 0, none⟩) (([97] : List Int)).length 1]) rfl (backlog_Log_Add.calls t4.2.2.2 ([97] : List Int) _ w0 _ bt1_0 (some ⟨lb8, 0, none⟩) 1 t9 (rdC.part 0 fsl.rd rfl) A10 (Sep.St.tailJoin (m := [backlog_Log.at bt1_0 (t4.2.2.2)]) (r := [fsl 1 (.slice (some ⟨lb8, 0, none⟩) (([97] : List Int)).length 1) (([97] : List Int)).length ((([97] : List Int)).map (Value.int .u8)), row 5 1 (.slice at4_1 (t4.2.1).length ct4_1) (t4.2.1).length ((t4.2.1).map (Value.int .u8)), R]) HS))) rfl rfl rfl ?_
  rintro _ w ⟨rfl, HS⟩
  replace HS := Sep.St.tailOpen (m := [backlog_Log.at bt1_0 (t9.2)]) (r := [fsl 1 (.slice (some ⟨lb8, 0, none⟩) (([97] : List Int)).length 1) (([97] : List Int)).length ((([97] : List Int)).map (Value.int .u8)), row 5 1 (.slice at4_1 (t4.2.1).length ct4_1) (t4.2.1).length ((t4.2.1).map (Value.int .u8)), R]) HS
  have HS : Sep.St [backlog_Log.at bt1_0 (t9.2), fsl 1 (.slice (some ⟨lb8, 0, none⟩) (([97] : List Int)).length 1) (([97] : List Int)).length ((([97] : List Int)).map (Value.int .u8)), row 5 1 (.slice at4_1 (t4.2.1).length ct4_1) (t4.2.1).length ((t4.2.1).map (Value.int .u8)), R] w0 w := HS
  refine W.rd (X.assign rfl) rfl rfl rfl ?_
  refine W.nil ?_
  refine At.next ?_
  refine V.keep [(1, Value.pointer (some ⟨bt1_0, 0, none⟩)), (4, Value.bool (t4.2.2.1)), (5, Value.int .i64 (t9.1))] ⟨rfl, rfl, rfl, trivial⟩ ?_
  refine V.seq ?_
  refine V.region ?_
  refine W.rd (X.move rfl) rfl rfl rfl ?_
  obtain ⟨t11, A12, H⟩ := bind_s H
  refine W.ev (Y.call Try.func10 (by kernel_rfl) rfl (vs := [Value.pointer (some ⟨bt1_0, 0, none⟩)]) rfl (backlog_Log_Next.calls t9.2 _ w0 _ bt1_0 t11  A12 (Sep.St.tailJoin (m := [backlog_Log.at bt1_0 (t9.2)]) (r := [fsl 1 (.slice (some ⟨lb8, 0, none⟩) (([97] : List Int)).length 1) (([97] : List Int)).length ((([97] : List Int)).map (Value.int .u8)), row 5 1 (.slice at4_1 (t4.2.1).length ct4_1) (t4.2.1).length ((t4.2.1).map (Value.int .u8)), R]) HS))) rfl rfl rfl ?_
  rintro _ w ⟨at11_1, ct11_1, rfl, HS⟩
  replace HS := Sep.St.tailOpen (m := [row 5 1 (.slice at11_1 (t11.2.1).length ct11_1) (t11.2.1).length ((t11.2.1).map (Value.int .u8)), backlog_Log.at bt1_0 (t11.2.2.2)]) (r := [fsl 1 (.slice (some ⟨lb8, 0, none⟩) (([97] : List Int)).length 1) (([97] : List Int)).length ((([97] : List Int)).map (Value.int .u8)), row 5 1 (.slice at4_1 (t4.2.1).length ct4_1) (t4.2.1).length ((t4.2.1).map (Value.int .u8)), R]) HS
  have HS : Sep.St [row 5 1 (.slice at11_1 (t11.2.1).length ct11_1) (t11.2.1).length ((t11.2.1).map (Value.int .u8)), backlog_Log.at bt1_0 (t11.2.2.2), fsl 1 (.slice (some ⟨lb8, 0, none⟩) (([97] : List Int)).length 1) (([97] : List Int)).length ((([97] : List Int)).map (Value.int .u8)), row 5 1 (.slice at4_1 (t4.2.1).length ct4_1) (t4.2.1).length ((t4.2.1).map (Value.int .u8)), R] w0 w := HS
  refine W.rd (X.move rfl) rfl rfl rfl ?_
  refine W.rd (X.extract rfl rfl) rfl rfl rfl ?_
  refine W.rd (X.extract rfl rfl) rfl rfl rfl ?_
  refine W.rd (X.extract rfl rfl) rfl rfl rfl ?_
  refine W.rd (X.assign rfl) rfl rfl rfl ?_
  refine W.rd (X.assign rfl) rfl rfl rfl ?_
  refine W.rd (X.assign rfl) rfl rfl rfl ?_
  refine W.nil ?_
  refine At.next ?_
  refine V.keep [(4, Value.bool (t4.2.2.1)), (5, Value.int .i64 (t9.1)), (6, Value.int .i64 (t11.1)), (7, Value.slice at11_1 (t11.2.1).length ct11_1), (8, Value.bool (t11.2.2.1))] ⟨rfl, rfl, rfl, rfl, rfl, trivial⟩ ?_
  refine V.seq ?_
  refine V.region ?_
  refine W.rd (X.move rfl) rfl rfl rfl ?_
  refine W.rd (X.not rfl) rfl rfl rfl ?_
  refine W.rd (X.move rfl) rfl rfl rfl ?_
  by_cases c13 : t4.2.2.1 = true
  · replace H := ite_t c13 H
    refine W.pass 30 rfl (sb (n_t c13)) rfl rfl ?_
    refine W.pass 30 rfl (sb (n_t c13)) rfl rfl ?_
    refine W.pass 30 rfl (sb (n_t c13)) rfl rfl ?_
    refine W.rd (X.pickF (sb (n_t c13)) rfl) rfl rfl rfl ?_
    refine W.rd (X.move rfl) rfl rfl rfl ?_
    refine W.pass 35 rfl rfl rfl rfl ?_
    refine W.rd (X.pickF rfl rfl) rfl rfl rfl ?_
    refine W.rd (X.move rfl) rfl rfl rfl ?_
    refine W.pass 38 rfl rfl rfl rfl ?_
    refine W.pass 38 rfl rfl rfl rfl ?_
    refine W.rd (X.pickF rfl rfl) rfl rfl rfl ?_
    refine W.rd (X.move rfl) rfl rfl rfl ?_
    refine W.pass 42 rfl rfl rfl rfl ?_
    refine W.pass 42 rfl rfl rfl rfl ?_
    refine W.pass 42 rfl rfl rfl rfl ?_
    refine W.rd (X.pickF rfl rfl) rfl rfl rfl ?_
    refine W.rd (X.assign rfl) rfl rfl rfl ?_
    refine W.nil ?_
    refine At.next ?_
    refine V.keep [(0, Value.bool (false))] ⟨rfl, trivial⟩ ?_
    refine V.ret ?_
    replace HS := HS.sel [4] [0, 1, 2, 3] (by kernel_rfl)
    cases H
    exact At.ret1 rfl rfl ⟨_, rfl, rfl, HS⟩
  · replace H := ite_f c13 H
    refine W.want 30 rfl (sb (n_f (b_f c13))) ?_
    refine W.rd (X.move rfl) rfl rfl rfl ?_
    refine W.want 30 rfl (sb (n_f (b_f c13))) ?_
    obtain ⟨t14, A15, H⟩ := bind_s H
    refine W.ev (Y.call Try.func14 (by kernel_rfl) rfl (vs := [Value.int .i64 (t9.1)]) rfl (signalmanlaw13_num.calls t9.1 _ w0 _  t14  A15 (Sep.St.tailJoin (m := []) (r := [row 5 1 (.slice at11_1 (t11.2.1).length ct11_1) (t11.2.1).length ((t11.2.1).map (Value.int .u8)), backlog_Log.at bt1_0 (t11.2.2.2), fsl 1 (.slice (some ⟨lb8, 0, none⟩) (([97] : List Int)).length 1) (([97] : List Int)).length ((([97] : List Int)).map (Value.int .u8)), row 5 1 (.slice at4_1 (t4.2.1).length ct4_1) (t4.2.1).length ((t4.2.1).map (Value.int .u8)), R]) HS))) rfl rfl rfl ?_
    rintro _ w ⟨rfl, HS⟩
    replace HS := Sep.St.tailOpen (m := []) (r := [row 5 1 (.slice at11_1 (t11.2.1).length ct11_1) (t11.2.1).length ((t11.2.1).map (Value.int .u8)), backlog_Log.at bt1_0 (t11.2.2.2), fsl 1 (.slice (some ⟨lb8, 0, none⟩) (([97] : List Int)).length 1) (([97] : List Int)).length ((([97] : List Int)).map (Value.int .u8)), row 5 1 (.slice at4_1 (t4.2.1).length ct4_1) (t4.2.1).length ((t4.2.1).map (Value.int .u8)), R]) HS
    have HS : Sep.St [row 5 1 (.slice at11_1 (t11.2.1).length ct11_1) (t11.2.1).length ((t11.2.1).map (Value.int .u8)), backlog_Log.at bt1_0 (t11.2.2.2), fsl 1 (.slice (some ⟨lb8, 0, none⟩) (([97] : List Int)).length 1) (([97] : List Int)).length ((([97] : List Int)).map (Value.int .u8)), row 5 1 (.slice at4_1 (t4.2.1).length ct4_1) (t4.2.1).length ((t4.2.1).map (Value.int .u8)), R] w0 w := HS
    refine W.want 30 rfl (sb (n_f (b_f c13))) ?_
    refine W.rd (X.cmp (decide (t14 = 0)) rfl rfl rfl rfl) rfl rfl rfl ?_
    refine W.rd (X.pickT (sb (n_f (b_f c13))) rfl) rfl rfl rfl ?_
    refine W.rd (X.move rfl) rfl rfl rfl ?_
    by_cases c16 : t14 = 0
    · replace H := ite_t c16 H
      refine W.want 35 rfl (sb (decide_eq_true c16)) ?_
      refine W.rd (X.move rfl) rfl rfl rfl ?_
      refine W.rd (X.pickT (sb (decide_eq_true c16)) rfl) rfl rfl rfl ?_
      refine W.rd (X.move rfl) rfl rfl rfl ?_
      by_cases c17 : t11.2.2.1 = true
      · replace H := ite_t c17 H
        refine W.want 38 rfl (sb c17) ?_
        refine W.rd (X.move rfl) rfl rfl rfl ?_
        refine W.want 38 rfl (sb c17) ?_
        refine W.rd (X.cmp (decide (t11.1 = 0)) rfl rfl rfl rfl) rfl rfl rfl ?_
        refine W.rd (X.pickT (sb c17) rfl) rfl rfl rfl ?_
        refine W.rd (X.move rfl) rfl rfl rfl ?_
        by_cases c18 : t11.1 = 0
        · replace H := ite_t c18 H
          refine W.want 42 rfl (sb (decide_eq_true c18)) ?_
          refine W.rd (X.move rfl) rfl rfl rfl ?_
          refine W.want 42 rfl (sb (decide_eq_true c18)) ?_
          refine W.rd (X.bytesStr Try.underlying27 Try.underlying5 Try.underlying9 rfl (rdC.at 0 row_rd HS rfl)) rfl rfl rfl ?_
          refine W.want 42 rfl (sb (decide_eq_true c18)) ?_
          refine W.rd (X.eqStr (a := t11.2.1) (b := ([97] : List Int)) rfl rfl) rfl rfl rfl ?_
          refine W.rd (X.pickT (sb (decide_eq_true c18)) rfl) rfl rfl rfl ?_
          refine W.rd (X.assign rfl) rfl rfl rfl ?_
          refine W.nil ?_
          refine At.next ?_
          refine V.keep [(0, Value.bool (sEq (t11.2.1) (([97] : List Int))))] ⟨rfl, trivial⟩ ?_
          refine V.ret ?_
          replace HS := HS.sel [4] [0, 1, 2, 3] (by kernel_rfl)
          cases H
          exact At.ret1 rfl rfl ⟨_, rfl, rfl, HS⟩
        · replace H := ite_f c18 H
          refine W.pass 42 rfl (sb (decide_eq_false c18)) rfl rfl ?_
          refine W.pass 42 rfl (sb (decide_eq_false c18)) rfl rfl ?_
          refine W.pass 42 rfl (sb (decide_eq_false c18)) rfl rfl ?_
          refine W.rd (X.pickF (sb (decide_eq_false c18)) rfl) rfl rfl rfl ?_
          refine W.rd (X.assign rfl) rfl rfl rfl ?_
          refine W.nil ?_
          refine At.next ?_
          refine V.keep [(0, Value.bool (false))] ⟨rfl, trivial⟩ ?_
          refine V.ret ?_
          replace HS := HS.sel [4] [0, 1, 2, 3] (by kernel_rfl)
          cases H
          exact At.ret1 rfl rfl ⟨_, rfl, rfl, HS⟩
      · replace H := ite_f c17 H
        refine W.pass 38 rfl (sb (b_f c17)) rfl rfl ?_
        refine W.pass 38 rfl (sb (b_f c17)) rfl rfl ?_
        refine W.rd (X.pickF (sb (b_f c17)) rfl) rfl rfl rfl ?_
        refine W.rd (X.move rfl) rfl rfl rfl ?_
        refine W.pass 42 rfl rfl rfl rfl ?_
        refine W.pass 42 rfl rfl rfl rfl ?_
        refine W.pass 42 rfl rfl rfl rfl ?_
        refine W.rd (X.pickF rfl rfl) rfl rfl rfl ?_
        refine W.rd (X.assign rfl) rfl rfl rfl ?_
        refine W.nil ?_
        refine At.next ?_
        refine V.keep [(0, Value.bool (false))] ⟨rfl, trivial⟩ ?_
        refine V.ret ?_
        replace HS := HS.sel [4] [0, 1, 2, 3] (by kernel_rfl)
        cases H
        exact At.ret1 rfl rfl ⟨_, rfl, rfl, HS⟩
    · replace H := ite_f c16 H
      refine W.pass 35 rfl (sb (decide_eq_false c16)) rfl rfl ?_
      refine W.rd (X.pickF (sb (decide_eq_false c16)) rfl) rfl rfl rfl ?_
      refine W.rd (X.move rfl) rfl rfl rfl ?_
      refine W.pass 38 rfl rfl rfl rfl ?_
      refine W.pass 38 rfl rfl rfl rfl ?_
      refine W.rd (X.pickF rfl rfl) rfl rfl rfl ?_
      refine W.rd (X.move rfl) rfl rfl rfl ?_
      refine W.pass 42 rfl rfl rfl rfl ?_
      refine W.pass 42 rfl rfl rfl rfl ?_
      refine W.pass 42 rfl rfl rfl rfl ?_
      refine W.rd (X.pickF rfl rfl) rfl rfl rfl ?_
      refine W.rd (X.assign rfl) rfl rfl rfl ?_
      refine W.nil ?_
      refine At.next ?_
      refine V.keep [(0, Value.bool (false))] ⟨rfl, trivial⟩ ?_
      refine V.ret ?_
      replace HS := HS.sel [4] [0, 1, 2, 3] (by kernel_rfl)
      cases H
      exact At.ret1 rfl rfl ⟨_, rfl, rfl, HS⟩

/-! ### signalman/signalmanref1.Cut: function 34 -/
def signalmanref1_Cut.f (a0 : Int) (a1 : Int) (a2 : Int) : Option (Int) := (if a0 < a1 then some (a1) else (if a0 > a2 then some (a2) else some (a0)))
set_option maxRecDepth 100000 in
set_option maxHeartbeats 4000000 in
theorem signalmanref1_Cut.calls (a0 : Int) (a1 : Int) (a2 : Int) (R : As) (w0 w : World)  (r : Int)  (H : signalmanref1_Cut.f a0 a1 a2 = some r) (HS : Sep.St [R] w0 w) : Calls Try.prog 34 #[Value.int .i64 (a0), Value.int .i64 (a1), Value.int .i64 (a2)] w (Ret fun u w => u = Value.int .i64 (r) ∧ Sep.St [R] w0 w) := by
  unfold signalmanref1_Cut.f at H
  refine calls_enter Try.func34 rfl rfl ?_
  have H : _ = some r := H
  refine V.seq ?_
  refine V.region ?_
  refine W.rd (X.assign rfl) rfl rfl rfl ?_
  refine W.nil ?_
  refine At.next ?_
  refine V.keep [(0, Value.int .i64 (a0)), (1, Value.int .i64 (a1)), (2, Value.int .i64 (a2))] ⟨rfl, rfl, rfl, trivial⟩ ?_
  refine V.seq ?_
  refine V.block ?_
  refine V.seq ?_
  refine V.region ?_
  refine W.rd (X.move rfl) rfl rfl rfl ?_
  refine W.rd (X.move rfl) rfl rfl rfl ?_
  refine W.rd (X.cmp (decide (a0 < a1)) rfl rfl rfl rfl) rfl rfl rfl ?_
  refine W.rd (X.assign rfl) rfl rfl rfl ?_
  refine W.nil ?_
  refine At.next ?_
  refine V.keep [(0, Value.int .i64 (a0)), (1, Value.int .i64 (a1)), (2, Value.int .i64 (a2)), (7, Value.bool (decide (a0 < a1)))] ⟨rfl, rfl, rfl, rfl, trivial⟩ ?_
  by_cases c1 : a0 < a1
  · replace H := ite_t c1 H
    refine V.condT (sb (decide_eq_true c1)) ?_
    refine V.seq ?_
    refine V.region ?_
    refine W.rd (X.move rfl) rfl rfl rfl ?_
    refine W.rd (X.assign rfl) rfl rfl rfl ?_
    refine W.nil ?_
    refine At.next ?_
    refine V.keep [(6, Value.int .i64 (a1))] ⟨rfl, trivial⟩ ?_
    refine V.ret ?_
    refine At.blockRet ?_
    refine At.thenRet ?_
    cases H
    exact At.ret1 rfl rfl ⟨_, rfl, rfl, HS⟩
  · replace H := ite_f c1 H
    refine V.condF (sb (decide_eq_false c1)) ?_
    refine V.seq ?_
    refine V.region ?_
    refine W.rd (X.move rfl) rfl rfl rfl ?_
    refine W.rd (X.move rfl) rfl rfl rfl ?_
    refine W.rd (X.cmp (decide (a0 > a2)) rfl rfl rfl rfl) rfl rfl rfl ?_
    refine W.rd (X.assign rfl) rfl rfl rfl ?_
    refine W.nil ?_
    refine At.next ?_
    refine V.keep [(0, Value.int .i64 (a0)), (2, Value.int .i64 (a2)), (12, Value.bool (decide (a0 > a2)))] ⟨rfl, rfl, rfl, trivial⟩ ?_
    by_cases c2 : a0 > a2
    · replace H := ite_t c2 H
      refine V.condT (sb (decide_eq_true c2)) ?_
      refine V.seq ?_
      refine V.region ?_
      refine W.rd (X.move rfl) rfl rfl rfl ?_
      refine W.rd (X.assign rfl) rfl rfl rfl ?_
      refine W.nil ?_
      refine At.next ?_
      refine V.keep [(6, Value.int .i64 (a2))] ⟨rfl, trivial⟩ ?_
      refine V.ret ?_
      refine At.blockRet ?_
      refine At.thenRet ?_
      cases H
      exact At.ret1 rfl rfl ⟨_, rfl, rfl, HS⟩
    · replace H := ite_f c2 H
      refine V.condF (sb (decide_eq_false c2)) ?_
      refine V.skip ?_
      refine At.blockEnd ?_
      refine At.next ?_
      refine V.keep [(0, Value.int .i64 (a0))] ⟨rfl, trivial⟩ ?_
      refine V.seq ?_
      refine V.region ?_
      refine W.rd (X.move rfl) rfl rfl rfl ?_
      refine W.rd (X.assign rfl) rfl rfl rfl ?_
      refine W.nil ?_
      refine At.next ?_
      refine V.keep [(6, Value.int .i64 (a0))] ⟨rfl, trivial⟩ ?_
      refine V.ret ?_
      cases H
      exact At.ret1 rfl rfl ⟨_, rfl, rfl, HS⟩

/-! ### signalman/signalmanref6.Round: function 33 -/
def signalmanref6_Round.f (a0 : Int) (a1 : Int) : Option (Int × Int) := ((signalmanref1_Cut.f a0 8 32768).bind fun t1 => ((signalmanref1_Cut.f a1 1 (w64 ((t1).tdiv (8)))).bind fun t3 => some (t1, t3)))
set_option maxRecDepth 100000 in
set_option maxHeartbeats 4000000 in
theorem signalmanref6_Round.calls (a0 : Int) (a1 : Int) (R : As) (w0 w : World)  (r : Int × Int)  (H : signalmanref6_Round.f a0 a1 = some r) (HS : Sep.St [R] w0 w) : Calls Try.prog 33 #[Value.int .i64 (a0), Value.int .i64 (a1)] w (Ret fun u w => u = Value.tuple #[Value.int .i64 (r.1), Value.int .i64 (r.2)] ∧ Sep.St [R] w0 w) := by
  unfold signalmanref6_Round.f at H
  refine calls_enter Try.func33 rfl rfl ?_
  have H : _ = some r := H
  refine V.seq ?_
  refine V.region ?_
  refine W.rd (X.assign rfl) rfl rfl rfl ?_
  refine W.rd (X.assign rfl) rfl rfl rfl ?_
  refine W.nil ?_
  refine At.next ?_
  refine V.keep [(0, Value.int .i64 (a0)), (1, Value.int .i64 (a1))] ⟨rfl, rfl, trivial⟩ ?_
  refine V.seq ?_
  refine V.region ?_
  refine W.rd (X.move rfl) rfl rfl rfl ?_
  obtain ⟨t1, A2, H⟩ := bind_s H
  refine W.ev (Y.call Try.func34 (by kernel_rfl) rfl (vs := [Value.int .i64 (a0), Value.int .i64 (8), Value.int .i64 (32768)]) rfl (signalmanref1_Cut.calls a0 8 32768 _ w0 _  t1  A2 (Sep.St.tailJoin (m := []) (r := [R]) HS))) rfl rfl rfl ?_
  rintro _ w ⟨rfl, HS⟩
  replace HS := Sep.St.tailOpen (m := []) (r := [R]) HS
  have HS : Sep.St [R] w0 w := HS
  refine W.rd (X.assign rfl) rfl rfl rfl ?_
  refine W.nil ?_
  refine At.next ?_
  refine V.keep [(0, Value.int .i64 (t1)), (1, Value.int .i64 (a1))] ⟨rfl, rfl, trivial⟩ ?_
  refine V.seq ?_
  refine V.region ?_
  refine W.rd (X.move rfl) rfl rfl rfl ?_
  refine W.rd (X.move rfl) rfl rfl rfl ?_
  refine W.rd (X.move rfl) rfl rfl rfl ?_
  refine W.rd (X.quo rfl rfl (by decide)) rfl rfl rfl ?_
  obtain ⟨t3, A4, H⟩ := bind_s H
  refine W.ev (Y.call Try.func34 (by kernel_rfl) rfl (vs := [Value.int .i64 (a1), Value.int .i64 (1), Value.int .i64 (w64 ((t1).tdiv (8)))]) rfl (signalmanref1_Cut.calls a1 1 (w64 ((t1).tdiv (8))) _ w0 _  t3  A4 (Sep.St.tailJoin (m := []) (r := [R]) HS))) rfl rfl rfl ?_
  rintro _ w ⟨rfl, HS⟩
  replace HS := Sep.St.tailOpen (m := []) (r := [R]) HS
  have HS : Sep.St [R] w0 w := HS
  refine W.rd (X.assign rfl) rfl rfl rfl ?_
  refine W.rd (X.assign rfl) rfl rfl rfl ?_
  refine W.nil ?_
  refine At.next ?_
  refine V.keep [(4, Value.int .i64 (t1)), (5, Value.int .i64 (t3))] ⟨rfl, rfl, trivial⟩ ?_
  refine V.ret ?_
  cases H
  exact At.ret2 rfl rfl rfl ⟨_, rfl, rfl, HS⟩

structure signalmanref6_message where
  n : Int
  b : List Int
deriving DecidableEq, Inhabited

structure signalmanref6_Log where
  m : Int
  window : Int
  queue : Int
  next : Int
  out : List signalmanref6_message
  wait : List (List Int)
deriving DecidableEq, Inhabited

def signalmanref6_message.El : El signalmanref6_message := El.iso (El.prod (El.int .i64) (El.prod (El.sl (El.int .u8)) (El.unit))) (fun x => (x.n, (x.b, ())))
theorem signalmanref6_message.unpack {c : List Value} {x : signalmanref6_message} {L : List As} {w0 w : World} (hs : Sep.St (signalmanref6_message.El.p c x :: L) w0 w) : ∃ a1 : Option Addr, ∃ m1 : Nat, c = [Value.int .i64 (x.n), Value.slice a1 (x.b).length m1] ∧ Sep.St (fsl 1 (.slice a1 (x.b).length m1) (x.b).length ((x.b).map (Value.int .u8)) :: L) w0 w := by
  have hs : Sep.St ((El.prod (El.int .i64) (El.prod (El.sl (El.int .u8)) (El.unit))).p c (x.n, (x.b, ())) :: L) w0 w := hs
  obtain ⟨c0, r0, e0, hs⟩ := St.prod_open hs
  have hs : Sep.St ((El.int .i64).p c0 x.n :: (El.prod (El.sl (El.int .u8)) (El.unit)).p r0 (x.b, ()) :: L) w0 w := hs
  obtain ⟨q0, hs⟩ := St.int_open hs
  have hs : Sep.St ((El.prod (El.sl (El.int .u8)) (El.unit)).p r0 (x.b, ()) :: L) w0 w := hs
  obtain ⟨c1, r1, e1, hs⟩ := St.prod_open hs
  have hs : Sep.St ((El.sl (El.int .u8)).p c1 x.b :: (El.unit).p r1 () :: L) w0 w := hs
  obtain ⟨a1, m1, q1, hs⟩ := St.sl_openF (Value.int .u8) (fun t => tie_int t) hs
  have hs : Sep.St (fsl 1 (.slice a1 (x.b).length m1) (x.b).length ((x.b).map (Value.int .u8)) :: (El.unit).p r1 () :: L) w0 w := hs
  replace hs := hs.front 1 rfl
  have hs : Sep.St ((El.unit).p r1 () :: fsl 1 (.slice a1 (x.b).length m1) (x.b).length ((x.b).map (Value.int .u8)) :: L) w0 w := hs
  obtain ⟨qu, hs⟩ := St.unit_open hs
  exact ⟨a1, m1, by rw [e0, q0, e1, q1, qu]; rfl, hs⟩
theorem signalmanref6_message.pack {a1 : Option Addr} {m1 : Nat} {x : signalmanref6_message} {L : List As} {w0 w : World} (hs : Sep.St (fsl 1 (.slice a1 (x.b).length m1) (x.b).length ((x.b).map (Value.int .u8)) :: L) w0 w) : Sep.St (signalmanref6_message.El.p [Value.int .i64 (x.n), Value.slice a1 (x.b).length m1] x :: L) w0 w := by
  have h1 := St.join (m := [fsl 1 (.slice a1 (x.b).length m1) (x.b).length ((x.b).map (Value.int .u8))]) hs
  exact h1.mono fun h hh => ⟨[Value.int .i64 (x.n)], [Value.slice a1 (x.b).length m1], rfl, rfl, ⟨[Value.slice a1 (x.b).length m1], [], rfl, ⟨_, _, rfl, Sp.fsl 0 hh rfl, int_tie⟩, rfl⟩⟩

def signalmanref6_Log.at (b : Nat) (x : signalmanref6_Log) : As := fun h => (True) ∧ ∃ a4 : Option Addr, ∃ c4 : Nat, ∃ d4 : List Value, ∃ a5 : Option Addr, ∃ c5 : Nat, ∃ d5 : List Value, Sp [blk b (#[Value.int .i64 ((x.m)), Value.int .i64 ((x.window)), Value.int .i64 ((x.queue)), Value.int .i64 ((x.next)), Value.slice a4 ((x.out)).length c4, Value.slice a5 ((x.wait)).length c5]) 61, row 63 2 (.slice a4 ((x.out)).length c4) ((x.out)).length d4, tie signalmanref6_message.El d4 ((x.out)), row 27 1 (.slice a5 ((x.wait)).length c5) ((x.wait)).length d5, tie (El.sl (El.int .u8)) d5 ((x.wait))] h
theorem signalmanref6_Log.open {b : Nat} {x : signalmanref6_Log} {L : List As} {w0 w : World} (hs : Sep.St (signalmanref6_Log.at b x :: L) w0 w) : ∃ a4 : Option Addr, ∃ c4 : Nat, ∃ d4 : List Value, ∃ a5 : Option Addr, ∃ c5 : Nat, ∃ d5 : List Value, (True) ∧ Sep.St (blk b (#[Value.int .i64 ((x.m)), Value.int .i64 ((x.window)), Value.int .i64 ((x.queue)), Value.int .i64 ((x.next)), Value.slice a4 ((x.out)).length c4, Value.slice a5 ((x.wait)).length c5]) 61 :: row 63 2 (.slice a4 ((x.out)).length c4) ((x.out)).length d4 :: tie signalmanref6_message.El d4 ((x.out)) :: row 27 1 (.slice a5 ((x.wait)).length c5) ((x.wait)).length d5 :: tie (El.sl (El.int .u8)) d5 ((x.wait)) :: L) w0 w := by
  have h1 := St.pure.1 (show St ((fun h => (True) ∧ (fun h => ∃ a4 : Option Addr, ∃ c4 : Nat, ∃ d4 : List Value, ∃ a5 : Option Addr, ∃ c5 : Nat, ∃ d5 : List Value, Sp [blk b (#[Value.int .i64 ((x.m)), Value.int .i64 ((x.window)), Value.int .i64 ((x.queue)), Value.int .i64 ((x.next)), Value.slice a4 ((x.out)).length c4, Value.slice a5 ((x.wait)).length c5]) 61, row 63 2 (.slice a4 ((x.out)).length c4) ((x.out)).length d4, tie signalmanref6_message.El d4 ((x.out)), row 27 1 (.slice a5 ((x.wait)).length c5) ((x.wait)).length d5, tie (El.sl (El.int .u8)) d5 ((x.wait))] h) h) :: L) w0 w from hs)
  obtain ⟨hi, hs⟩ := h1
  obtain ⟨a4, hs⟩ := St.ex.1 (show St ((fun h => ∃ a4 : Option Addr, (fun h => ∃ c4 : Nat, ∃ d4 : List Value, ∃ a5 : Option Addr, ∃ c5 : Nat, ∃ d5 : List Value, Sp [blk b (#[Value.int .i64 ((x.m)), Value.int .i64 ((x.window)), Value.int .i64 ((x.queue)), Value.int .i64 ((x.next)), Value.slice a4 ((x.out)).length c4, Value.slice a5 ((x.wait)).length c5]) 61, row 63 2 (.slice a4 ((x.out)).length c4) ((x.out)).length d4, tie signalmanref6_message.El d4 ((x.out)), row 27 1 (.slice a5 ((x.wait)).length c5) ((x.wait)).length d5, tie (El.sl (El.int .u8)) d5 ((x.wait))] h) h) :: L) w0 w from hs)
  obtain ⟨c4, hs⟩ := St.ex.1 (show St ((fun h => ∃ c4 : Nat, (fun h => ∃ d4 : List Value, ∃ a5 : Option Addr, ∃ c5 : Nat, ∃ d5 : List Value, Sp [blk b (#[Value.int .i64 ((x.m)), Value.int .i64 ((x.window)), Value.int .i64 ((x.queue)), Value.int .i64 ((x.next)), Value.slice a4 ((x.out)).length c4, Value.slice a5 ((x.wait)).length c5]) 61, row 63 2 (.slice a4 ((x.out)).length c4) ((x.out)).length d4, tie signalmanref6_message.El d4 ((x.out)), row 27 1 (.slice a5 ((x.wait)).length c5) ((x.wait)).length d5, tie (El.sl (El.int .u8)) d5 ((x.wait))] h) h) :: L) w0 w from hs)
  obtain ⟨d4, hs⟩ := St.ex.1 (show St ((fun h => ∃ d4 : List Value, (fun h => ∃ a5 : Option Addr, ∃ c5 : Nat, ∃ d5 : List Value, Sp [blk b (#[Value.int .i64 ((x.m)), Value.int .i64 ((x.window)), Value.int .i64 ((x.queue)), Value.int .i64 ((x.next)), Value.slice a4 ((x.out)).length c4, Value.slice a5 ((x.wait)).length c5]) 61, row 63 2 (.slice a4 ((x.out)).length c4) ((x.out)).length d4, tie signalmanref6_message.El d4 ((x.out)), row 27 1 (.slice a5 ((x.wait)).length c5) ((x.wait)).length d5, tie (El.sl (El.int .u8)) d5 ((x.wait))] h) h) :: L) w0 w from hs)
  obtain ⟨a5, hs⟩ := St.ex.1 (show St ((fun h => ∃ a5 : Option Addr, (fun h => ∃ c5 : Nat, ∃ d5 : List Value, Sp [blk b (#[Value.int .i64 ((x.m)), Value.int .i64 ((x.window)), Value.int .i64 ((x.queue)), Value.int .i64 ((x.next)), Value.slice a4 ((x.out)).length c4, Value.slice a5 ((x.wait)).length c5]) 61, row 63 2 (.slice a4 ((x.out)).length c4) ((x.out)).length d4, tie signalmanref6_message.El d4 ((x.out)), row 27 1 (.slice a5 ((x.wait)).length c5) ((x.wait)).length d5, tie (El.sl (El.int .u8)) d5 ((x.wait))] h) h) :: L) w0 w from hs)
  obtain ⟨c5, hs⟩ := St.ex.1 (show St ((fun h => ∃ c5 : Nat, (fun h => ∃ d5 : List Value, Sp [blk b (#[Value.int .i64 ((x.m)), Value.int .i64 ((x.window)), Value.int .i64 ((x.queue)), Value.int .i64 ((x.next)), Value.slice a4 ((x.out)).length c4, Value.slice a5 ((x.wait)).length c5]) 61, row 63 2 (.slice a4 ((x.out)).length c4) ((x.out)).length d4, tie signalmanref6_message.El d4 ((x.out)), row 27 1 (.slice a5 ((x.wait)).length c5) ((x.wait)).length d5, tie (El.sl (El.int .u8)) d5 ((x.wait))] h) h) :: L) w0 w from hs)
  obtain ⟨d5, hs⟩ := St.ex.1 (show St ((fun h => ∃ d5 : List Value, (fun h => Sp [blk b (#[Value.int .i64 ((x.m)), Value.int .i64 ((x.window)), Value.int .i64 ((x.queue)), Value.int .i64 ((x.next)), Value.slice a4 ((x.out)).length c4, Value.slice a5 ((x.wait)).length c5]) 61, row 63 2 (.slice a4 ((x.out)).length c4) ((x.out)).length d4, tie signalmanref6_message.El d4 ((x.out)), row 27 1 (.slice a5 ((x.wait)).length c5) ((x.wait)).length d5, tie (El.sl (El.int .u8)) d5 ((x.wait))] h) h) :: L) w0 w from hs)
  exact ⟨a4, c4, d4, a5, c5, d5, hi, St.open (m := [blk b (#[Value.int .i64 ((x.m)), Value.int .i64 ((x.window)), Value.int .i64 ((x.queue)), Value.int .i64 ((x.next)), Value.slice a4 ((x.out)).length c4, Value.slice a5 ((x.wait)).length c5]) 61, row 63 2 (.slice a4 ((x.out)).length c4) ((x.out)).length d4, tie signalmanref6_message.El d4 ((x.out)), row 27 1 (.slice a5 ((x.wait)).length c5) ((x.wait)).length d5, tie (El.sl (El.int .u8)) d5 ((x.wait))]) hs⟩
theorem signalmanref6_Log.close {b : Nat} (x : signalmanref6_Log) {a4 : Option Addr} {c4 : Nat} {d4 : List Value} {a5 : Option Addr} {c5 : Nat} {d5 : List Value} {L : List As} {w0 w : World} (hi : True) (hs : Sep.St (blk b (#[Value.int .i64 ((x.m)), Value.int .i64 ((x.window)), Value.int .i64 ((x.queue)), Value.int .i64 ((x.next)), Value.slice a4 ((x.out)).length c4, Value.slice a5 ((x.wait)).length c5]) 61 :: row 63 2 (.slice a4 ((x.out)).length c4) ((x.out)).length d4 :: tie signalmanref6_message.El d4 ((x.out)) :: row 27 1 (.slice a5 ((x.wait)).length c5) ((x.wait)).length d5 :: tie (El.sl (El.int .u8)) d5 ((x.wait)) :: L) w0 w) : Sep.St (signalmanref6_Log.at b x :: L) w0 w := by
  have h2 := St.join (m := [blk b (#[Value.int .i64 ((x.m)), Value.int .i64 ((x.window)), Value.int .i64 ((x.queue)), Value.int .i64 ((x.next)), Value.slice a4 ((x.out)).length c4, Value.slice a5 ((x.wait)).length c5]) 61, row 63 2 (.slice a4 ((x.out)).length c4) ((x.out)).length d4, tie signalmanref6_message.El d4 ((x.out)), row 27 1 (.slice a5 ((x.wait)).length c5) ((x.wait)).length d5, tie (El.sl (El.int .u8)) d5 ((x.wait))]) hs
  exact h2.mono fun h hh => ⟨hi, _, _, _, _, _, _, hh⟩

/-! ### signalman/signalmanref6.NewLog: function 17 -/
def signalmanref6_NewLog.f (a0 : Int) (a1 : Int) (a2 : Int) : Option (signalmanref6_Log) := ((signalmanref6_Round.f a0 a1).bind fun t1 => ((signalmanref1_Cut.f a2 0 1000).bind fun t3 => some (({ m := t1.1, window := t1.2, queue := t3, next := 0, out := ([] : List signalmanref6_message), wait := ([] : List (List Int)) } : signalmanref6_Log))))
set_option maxRecDepth 100000 in
set_option maxHeartbeats 4000000 in
theorem signalmanref6_NewLog.calls (a0 : Int) (a1 : Int) (a2 : Int) (R : As) (w0 w : World)  (r : signalmanref6_Log)  (H : signalmanref6_NewLog.f a0 a1 a2 = some r) (HS : Sep.St [R] w0 w) : Calls Try.prog 17 #[Value.int .i64 (a0), Value.int .i64 (a1), Value.int .i64 (a2)] w (Ret fun u w => ∃ (bq0 : Nat), u = Value.pointer (some ⟨bq0, 0, none⟩) ∧ Sep.St [signalmanref6_Log.at bq0 (r), R] w0 w) := by
  unfold signalmanref6_NewLog.f at H
  refine calls_enter Try.func17 rfl rfl ?_
  have H : _ = some r := H
  refine V.seq ?_
  refine V.region ?_
  refine W.rd (X.assign rfl) rfl rfl rfl ?_
  refine W.nil ?_
  refine At.next ?_
  refine V.keep [(0, Value.int .i64 (a0)), (1, Value.int .i64 (a1)), (2, Value.int .i64 (a2))] ⟨rfl, rfl, rfl, trivial⟩ ?_
  refine V.seq ?_
  refine V.region ?_
  refine W.rd (X.move rfl) rfl rfl rfl ?_
  refine W.rd (X.move rfl) rfl rfl rfl ?_
  obtain ⟨t1, A2, H⟩ := bind_s H
  refine W.ev (Y.call Try.func33 (by kernel_rfl) rfl (vs := [Value.int .i64 (a0), Value.int .i64 (a1)]) rfl (signalmanref6_Round.calls a0 a1 _ w0 _  t1  A2 (Sep.St.tailJoin (m := []) (r := [R]) HS))) rfl rfl rfl ?_
  rintro _ w ⟨rfl, HS⟩
  replace HS := Sep.St.tailOpen (m := []) (r := [R]) HS
  have HS : Sep.St [R] w0 w := HS
  refine W.rd (X.move rfl) rfl rfl rfl ?_
  refine W.rd (X.extract rfl rfl) rfl rfl rfl ?_
  refine W.rd (X.extract rfl rfl) rfl rfl rfl ?_
  refine W.rd (X.assign rfl) rfl rfl rfl ?_
  refine W.rd (X.assign rfl) rfl rfl rfl ?_
  refine W.nil ?_
  refine At.next ?_
  refine V.keep [(0, Value.int .i64 (t1.1)), (1, Value.int .i64 (t1.2)), (2, Value.int .i64 (a2))] ⟨rfl, rfl, rfl, trivial⟩ ?_
  refine V.seq ?_
  refine V.region ?_
  refine W.rd (X.move rfl) rfl rfl rfl ?_
  refine W.rd (X.move rfl) rfl rfl rfl ?_
  refine W.rd (X.move rfl) rfl rfl rfl ?_
  obtain ⟨t3, A4, H⟩ := bind_s H
  refine W.ev (Y.call Try.func34 (by kernel_rfl) rfl (vs := [Value.int .i64 (a2), Value.int .i64 (0), Value.int .i64 (1000)]) rfl (signalmanref1_Cut.calls a2 0 1000 _ w0 _  t3  A4 (Sep.St.tailJoin (m := []) (r := [R]) HS))) rfl rfl rfl ?_
  rintro _ w ⟨rfl, HS⟩
  replace HS := Sep.St.tailOpen (m := []) (r := [R]) HS
  have HS : Sep.St [R] w0 w := HS
  refine W.rd (X.build (vs := #[(0, Value.int .i64 (t1.1)), (1, Value.int .i64 (t1.2)), (2, Value.int .i64 (t3))]) (v := Value.agg #[Value.int .i64 (t1.1), Value.int .i64 (t1.2), Value.int .i64 (t3), Value.int .i64 (0), Value.slice none 0 0, Value.slice none 0 0]) (fun a ha => by simp only [List.map_toArray, List.map_cons, List.map_nil]; rw [ha.ev (x := .tmp 13) (v := Value.int .i64 (t1.1)) rfl]; rw [ha.ev (x := .tmp 14) (v := Value.int .i64 (t1.2)) rfl]; rw [ha.ev (x := .tmp 16) (v := Value.int .i64 (t3)) rfl]; try rfl) (fun _ => by kernel_rfl)) rfl rfl rfl ?_
  refine W.ev (Y.box HS rfl) rfl rfl rfl ?_
  rintro _ w ⟨nb5, rfl, HS⟩
  have HS : Sep.St [blk nb5 (#[Value.int .i64 (t1.1), Value.int .i64 (t1.2), Value.int .i64 (t3), Value.int .i64 (0), Value.slice none 0 0, Value.slice none 0 0]) 61, R] w0 w := HS
  refine W.rd (X.assign rfl) rfl rfl rfl ?_
  refine W.nil ?_
  refine At.next ?_
  refine V.keep [(6, Value.pointer (some ⟨nb5, 0, none⟩))] ⟨rfl, trivial⟩ ?_
  refine V.ret ?_
  replace HS := row_nil' (e := 63) 2 none (St.put (A := tie signalmanref6_message.El ([]) (([] : List signalmanref6_message))) (fun _ => tie.nil) HS)
  have HS : Sep.St [row 63 2 (.slice none (([] : List signalmanref6_message)).length 0) (([] : List signalmanref6_message)).length ([]), tie signalmanref6_message.El ([]) (([] : List signalmanref6_message)), blk nb5 (#[Value.int .i64 (t1.1), Value.int .i64 (t1.2), Value.int .i64 (t3), Value.int .i64 (0), Value.slice none 0 0, Value.slice none 0 0]) 61, R] w0 w := HS
  replace HS := row_nil' (e := 27) 1 none (St.put (A := tie (El.sl (El.int .u8)) ([]) (([] : List (List Int)))) (fun _ => tie.nil) HS)
  have HS : Sep.St [row 27 1 (.slice none (([] : List (List Int))).length 0) (([] : List (List Int))).length ([]), tie (El.sl (El.int .u8)) ([]) (([] : List (List Int))), row 63 2 (.slice none (([] : List signalmanref6_message)).length 0) (([] : List signalmanref6_message)).length ([]), tie signalmanref6_message.El ([]) (([] : List signalmanref6_message)), blk nb5 (#[Value.int .i64 (t1.1), Value.int .i64 (t1.2), Value.int .i64 (t3), Value.int .i64 (0), Value.slice none 0 0, Value.slice none 0 0]) 61, R] w0 w := HS
  replace HS := HS.re [4, 2, 3, 0, 1, 5] (by kernel_rfl)
  have HS : Sep.St [blk nb5 (#[Value.int .i64 (t1.1), Value.int .i64 (t1.2), Value.int .i64 (t3), Value.int .i64 (0), Value.slice none (([] : List signalmanref6_message)).length 0, Value.slice none (([] : List (List Int))).length 0]) 61, row 63 2 (.slice none (([] : List signalmanref6_message)).length 0) (([] : List signalmanref6_message)).length ([]), tie signalmanref6_message.El ([]) (([] : List signalmanref6_message)), row 27 1 (.slice none (([] : List (List Int))).length 0) (([] : List (List Int))).length ([]), tie (El.sl (El.int .u8)) ([]) (([] : List (List Int))), R] w0 w := HS
  replace HS := signalmanref6_Log.close (({ m := t1.1, window := t1.2, queue := t3, next := 0, out := ([] : List signalmanref6_message), wait := ([] : List (List Int)) } : signalmanref6_Log)) trivial HS
  have HS : Sep.St [signalmanref6_Log.at nb5 (({ m := t1.1, window := t1.2, queue := t3, next := 0, out := ([] : List signalmanref6_message), wait := ([] : List (List Int)) } : signalmanref6_Log)), R] w0 w := HS
  cases H
  exact At.ret1 rfl rfl ⟨_, rfl, nb5, rfl, HS⟩

/-! ### (*signalman/signalmanref6.Log).Add: function 18 -/
def signalmanref6_Log_Add.f (a0 : signalmanref6_Log) (a1 : List Int) : Option (Int × signalmanref6_Log) := (if (((a0).wait).length : Int) ≥ ((a0).queue) then some (6, a0) else (if ((([] : List Int)).length : Int) + (a1).length ≤ 1099511627776 then (if (((a0).wait).length : Int) + (([([] : List Int) ++ a1] : List (List Int))).length ≤ 1099511627776 then some (0, ({ m := (a0).m, window := (a0).window, queue := (a0).queue, next := (a0).next, out := (a0).out, wait := ((a0).wait) ++ ([([] : List Int) ++ a1] : List (List Int)) } : signalmanref6_Log)) else none) else none))
set_option maxRecDepth 100000 in
set_option maxHeartbeats 4000000 in
theorem signalmanref6_Log_Add.calls (a0 : signalmanref6_Log) (a1 : List Int) (R : As) (w0 w : World) (b0 : Nat) (sa1 : Option Addr) (sc1 : Nat) (r : Int × signalmanref6_Log) (hr1 : rdC R 1 (.slice sa1 (a1).length sc1) (a1).length ((a1).map (Value.int .u8))) (H : signalmanref6_Log_Add.f a0 a1 = some r) (HS : Sep.St [signalmanref6_Log.at b0 (a0), R] w0 w) : Calls Try.prog 18 #[Value.pointer (some ⟨b0, 0, none⟩), Value.slice sa1 (a1).length sc1] w (Ret fun u w => u = Value.int .i64 (r.1) ∧ Sep.St [signalmanref6_Log.at b0 (r.2), R] w0 w) := by
  unfold signalmanref6_Log_Add.f at H
  refine calls_enter Try.func18 rfl rfl ?_
  have H : _ = some r := H
  refine V.seq ?_
  refine V.region ?_
  refine W.rd (X.assign rfl) rfl rfl rfl ?_
  refine W.nil ?_
  refine At.next ?_
  refine V.keep [(0, Value.pointer (some ⟨b0, 0, none⟩)), (1, Value.slice sa1 (a1).length sc1)] ⟨rfl, rfl, trivial⟩ ?_
  refine V.seq ?_
  refine V.seq ?_
  obtain ⟨a4_2, c4_2, d4_2, a5_2, c5_2, d5_2, hi3, HS⟩ := signalmanref6_Log.open HS
  have HS : Sep.St [blk b0 (#[Value.int .i64 ((a0).m), Value.int .i64 ((a0).window), Value.int .i64 ((a0).queue), Value.int .i64 ((a0).next), Value.slice a4_2 ((a0).out).length c4_2, Value.slice a5_2 ((a0).wait).length c5_2]) 61, row 63 2 (.slice a4_2 ((a0).out).length c4_2) ((a0).out).length d4_2, tie signalmanref6_message.El d4_2 ((a0).out), row 27 1 (.slice a5_2 ((a0).wait).length c5_2) ((a0).wait).length d5_2, tie (El.sl (El.int .u8)) d5_2 ((a0).wait), R] w0 w := HS
  refine V.draw (es := []) (bl := []) (f := [(5, Value.pointer (some ⟨b0, 0, none⟩)), (6, Value.pointer (some ⟨b0, 0, none⟩)), (7, Value.pointer (some ⟨b0, 0 + 5, none⟩)), (8, Value.slice a5_2 ((a0).wait).length c5_2), (9, Value.int .i64 ((((a0).wait).length : Int))), (10, Value.pointer (some ⟨b0, 0, none⟩)), (11, Value.pointer (some ⟨b0, 0, none⟩)), (12, Value.pointer (some ⟨b0, 0 + 2, none⟩)), (13, Value.int .i64 ((a0).queue)), (14, Value.bool (decide ((((a0).wait).length : Int) ≥ ((a0).queue))))]) (fun w => Sep.St [blk b0 (#[Value.int .i64 ((a0).m), Value.int .i64 ((a0).window), Value.int .i64 ((a0).queue), Value.int .i64 ((a0).next), Value.slice a4_2 ((a0).out).length c4_2, Value.slice a5_2 ((a0).wait).length c5_2]) 61, row 63 2 (.slice a4_2 ((a0).out).length c4_2) ((a0).out).length d4_2, tie signalmanref6_message.El d4_2 ((a0).out), row 27 1 (.slice a5_2 ((a0).wait).length c5_2) ((a0).wait).length d5_2, tie (El.sl (El.int .u8)) d5_2 ((a0).wait), R] w0 w) mo HS.drew rfl ?_
  refine T.fin [(0, Value.pointer (some ⟨b0, 0, none⟩)), (1, Value.slice sa1 (a1).length sc1), (14, Value.bool (decide ((((a0).wait).length : Int) ≥ ((a0).queue))))] rfl ⟨⟨_, Value.pointer (some ⟨b0, 0, none⟩), [(0, Value.pointer (some ⟨b0, 0, none⟩))], 5, rfl, rfl, ⟨.inl ⟨rfl, rfl⟩, trivial⟩, .run rfl (fun w HS => X.move rfl), rfl, rfl, rfl⟩, ⟨_, Value.pointer (some ⟨b0, 0, none⟩), [(5, Value.pointer (some ⟨b0, 0, none⟩))], 6, rfl, rfl, ⟨.inr ⟨rfl, rfl⟩, trivial⟩, .run rfl (fun w HS => X.nilCheck rfl), rfl, rfl, rfl⟩, ⟨_, Value.pointer (some ⟨b0, 0 + 5, none⟩), [(6, Value.pointer (some ⟨b0, 0, none⟩))], 7, rfl, rfl, ⟨.inr ⟨rfl, rfl⟩, trivial⟩, .run rfl (fun w HS => X.fieldAddr 5 fo61_5 rfl), rfl, rfl, rfl⟩, ⟨_, Value.slice a5_2 ((a0).wait).length c5_2, [(7, Value.pointer (some ⟨b0, 0 + 5, none⟩))], 8, rfl, rfl, ⟨.inr ⟨rfl, rfl⟩, trivial⟩, .run rfl (fun w HS => X.loadAt 0 HS rfl Try.underlying52 rfl rfl rfl), rfl, rfl, rfl⟩, ⟨_, Value.int .i64 ((((a0).wait).length : Int)), [(8, Value.slice a5_2 ((a0).wait).length c5_2)], 9, rfl, rfl, ⟨.inr ⟨rfl, rfl⟩, trivial⟩, .run rfl (fun w HS => X.lenSl Try.underlying52 rfl), rfl, rfl, rfl⟩, ⟨_, Value.pointer (some ⟨b0, 0, none⟩), [(0, Value.pointer (some ⟨b0, 0, none⟩))], 10, rfl, rfl, ⟨.inl ⟨rfl, rfl⟩, trivial⟩, .run rfl (fun w HS => X.move rfl), rfl, rfl, rfl⟩, ⟨_, Value.pointer (some ⟨b0, 0, none⟩), [(10, Value.pointer (some ⟨b0, 0, none⟩))], 11, rfl, rfl, ⟨.inr ⟨rfl, rfl⟩, trivial⟩, .run rfl (fun w HS => X.nilCheck rfl), rfl, rfl, rfl⟩, ⟨_, Value.pointer (some ⟨b0, 0 + 2, none⟩), [(11, Value.pointer (some ⟨b0, 0, none⟩))], 12, rfl, rfl, ⟨.inr ⟨rfl, rfl⟩, trivial⟩, .run rfl (fun w HS => X.fieldAddr 2 fo61_2 rfl), rfl, rfl, rfl⟩, ⟨_, Value.int .i64 ((a0).queue), [(12, Value.pointer (some ⟨b0, 0 + 2, none⟩))], 13, rfl, rfl, ⟨.inr ⟨rfl, rfl⟩, trivial⟩, .run rfl (fun w HS => X.loadAt 0 HS rfl Try.underlying3 rfl rfl rfl), rfl, rfl, rfl⟩, ⟨_, Value.bool (decide ((((a0).wait).length : Int) ≥ ((a0).queue))), [(9, Value.int .i64 ((((a0).wait).length : Int))), (13, Value.int .i64 ((a0).queue))], 14, rfl, rfl, ⟨.inr ⟨rfl, rfl⟩, ⟨.inr ⟨rfl, rfl⟩, trivial⟩⟩, .run rfl (fun w HS => X.cmp (decide ((((a0).wait).length : Int) ≥ ((a0).queue))) rfl rfl rfl rfl), rfl, rfl, rfl⟩, trivial⟩ ⟨.inl ⟨rfl, rfl⟩, ⟨.inl ⟨rfl, rfl⟩, ⟨.inr ⟨rfl, rfl⟩, trivial⟩⟩⟩ (fun w HS => ?_)
  have HS : Sep.St [blk b0 (#[Value.int .i64 ((a0).m), Value.int .i64 ((a0).window), Value.int .i64 ((a0).queue), Value.int .i64 ((a0).next), Value.slice a4_2 ((a0).out).length c4_2, Value.slice a5_2 ((a0).wait).length c5_2]) 61, row 63 2 (.slice a4_2 ((a0).out).length c4_2) ((a0).out).length d4_2, tie signalmanref6_message.El d4_2 ((a0).out), row 27 1 (.slice a5_2 ((a0).wait).length c5_2) ((a0).wait).length d5_2, tie (El.sl (El.int .u8)) d5_2 ((a0).wait), R] w0 w := HS
  refine At.next ?_
  refine V.keep [(0, Value.pointer (some ⟨b0, 0, none⟩)), (1, Value.slice sa1 (a1).length sc1), (14, Value.bool (decide ((((a0).wait).length : Int) ≥ ((a0).queue))))] ⟨rfl, rfl, rfl, trivial⟩ ?_
  by_cases c4 : (((a0).wait).length : Int) ≥ ((a0).queue)
  · replace H := ite_t c4 H
    refine V.condT (sb (decide_eq_true c4)) ?_
    refine V.seq ?_
    refine V.region ?_
    refine W.rd (X.assign rfl) rfl rfl rfl ?_
    refine W.nil ?_
    refine At.next ?_
    refine V.keep [(4, Value.int .i64 (6))] ⟨rfl, trivial⟩ ?_
    refine V.ret ?_
    refine At.thenRet ?_
    replace HS := signalmanref6_Log.close (a0) trivial HS
    have HS : Sep.St [signalmanref6_Log.at b0 (a0), R] w0 w := HS
    cases H
    exact At.ret1 rfl rfl ⟨_, rfl, rfl, HS⟩
  · replace H := ite_f c4 H
    refine V.condF (sb (decide_eq_false c4)) ?_
    refine V.skip ?_
    refine At.next ?_
    refine V.keep [(0, Value.pointer (some ⟨b0, 0, none⟩)), (1, Value.slice sa1 (a1).length sc1)] ⟨rfl, rfl, trivial⟩ ?_
    refine V.seq ?_
    refine V.draw (es := [6, 7, 8, 11]) (bl := [9, 10]) (f := [(15, Value.pointer (some ⟨b0, 0, none⟩)), (16, Value.pointer (some ⟨b0, 0, none⟩)), (17, Value.pointer (some ⟨b0, 0, none⟩)), (18, Value.pointer (some ⟨b0, 0 + 5, none⟩)), (19, Value.slice a5_2 ((a0).wait).length c5_2), (20, Value.slice sa1 (a1).length sc1)]) (fun w => Sep.St [blk b0 (#[Value.int .i64 ((a0).m), Value.int .i64 ((a0).window), Value.int .i64 ((a0).queue), Value.int .i64 ((a0).next), Value.slice a4_2 ((a0).out).length c4_2, Value.slice a5_2 ((a0).wait).length c5_2]) 61, row 63 2 (.slice a4_2 ((a0).out).length c4_2) ((a0).out).length d4_2, tie signalmanref6_message.El d4_2 ((a0).out), row 27 1 (.slice a5_2 ((a0).wait).length c5_2) ((a0).wait).length d5_2, tie (El.sl (El.int .u8)) d5_2 ((a0).wait), R] w0 w) mo HS.drew rfl ?_
    refine T.event _ [(20, Value.slice sa1 (a1).length sc1)] rfl rfl ⟨⟨_, Value.pointer (some ⟨b0, 0, none⟩), [(0, Value.pointer (some ⟨b0, 0, none⟩))], 15, rfl, rfl, ⟨.inl ⟨rfl, rfl⟩, trivial⟩, .run rfl (fun w HS => X.move rfl), rfl, rfl, rfl⟩, ⟨_, Value.pointer (some ⟨b0, 0, none⟩), [(0, Value.pointer (some ⟨b0, 0, none⟩))], 16, rfl, rfl, ⟨.inl ⟨rfl, rfl⟩, trivial⟩, .run rfl (fun w HS => X.move rfl), rfl, rfl, rfl⟩, ⟨_, Value.pointer (some ⟨b0, 0, none⟩), [(16, Value.pointer (some ⟨b0, 0, none⟩))], 17, rfl, rfl, ⟨.inr ⟨rfl, rfl⟩, trivial⟩, .run rfl (fun w HS => X.nilCheck rfl), rfl, rfl, rfl⟩, ⟨_, Value.pointer (some ⟨b0, 0 + 5, none⟩), [(17, Value.pointer (some ⟨b0, 0, none⟩))], 18, rfl, rfl, ⟨.inr ⟨rfl, rfl⟩, trivial⟩, .run rfl (fun w HS => X.fieldAddr 5 fo61_5 rfl), rfl, rfl, rfl⟩, ⟨_, Value.slice a5_2 ((a0).wait).length c5_2, [(18, Value.pointer (some ⟨b0, 0 + 5, none⟩))], 19, rfl, rfl, ⟨.inr ⟨rfl, rfl⟩, trivial⟩, .run rfl (fun w HS => X.loadAt 0 HS rfl Try.underlying52 rfl rfl rfl), rfl, rfl, rfl⟩, ⟨_, Value.slice sa1 (a1).length sc1, [(1, Value.slice sa1 (a1).length sc1)], 20, rfl, rfl, ⟨.inl ⟨rfl, rfl⟩, trivial⟩, .run rfl (fun w HS => X.move rfl), rfl, rfl, rfl⟩, trivial⟩ rfl ⟨.inr ⟨rfl, rfl⟩, trivial⟩ (Or.inl rfl) (by intro d hd; cases hd; exact ⟨by decide, rfl, rfl⟩) [9, 10] [5] rfl rfl (fun w HS => ?_)
    have HS : Sep.St [blk b0 (#[Value.int .i64 ((a0).m), Value.int .i64 ((a0).window), Value.int .i64 ((a0).queue), Value.int .i64 ((a0).next), Value.slice a4_2 ((a0).out).length c4_2, Value.slice a5_2 ((a0).wait).length c5_2]) 61, row 63 2 (.slice a4_2 ((a0).out).length c4_2) ((a0).out).length d4_2, tie signalmanref6_message.El d4_2 ((a0).out), row 27 1 (.slice a5_2 ((a0).wait).length c5_2) ((a0).wait).length d5_2, tie (El.sl (El.int .u8)) d5_2 ((a0).wait), R] w0 w := HS
    obtain ⟨c5, H⟩ := ite_n H
    replace HS := row_nil' (e := 5) 1 none HS
    have HS : Sep.St [row 5 1 (.slice none (([] : List Int)).length 0) (([] : List Int)).length ((([] : List Int)).map (Value.int .u8)), blk b0 (#[Value.int .i64 ((a0).m), Value.int .i64 ((a0).window), Value.int .i64 ((a0).queue), Value.int .i64 ((a0).next), Value.slice a4_2 ((a0).out).length c4_2, Value.slice a5_2 ((a0).wait).length c5_2]) 61, row 63 2 (.slice a4_2 ((a0).out).length c4_2) ((a0).out).length d4_2, tie signalmanref6_message.El d4_2 ((a0).out), row 27 1 (.slice a5_2 ((a0).wait).length c5_2) ((a0).wait).length d5_2, tie (El.sl (El.int .u8)) d5_2 ((a0).wait), R] w0 w := HS
    refine ⟨_, Y.appF (Value.int .u8) (fun _ => rfl) 0 Try.underlying27 ap5 rfl HS rfl rfl rfl (rdC.at 6 hr1 HS rfl) (by omega) (by omega), ?_⟩
    rintro _ w ⟨ra6, rc7, rfl, HS⟩
    have HS : Sep.St [row 5 1 (.slice ra6 (([] : List Int) ++ a1).length rc7) (([] : List Int) ++ a1).length ((([] : List Int) ++ a1).map (Value.int .u8)), blk b0 (#[Value.int .i64 ((a0).m), Value.int .i64 ((a0).window), Value.int .i64 ((a0).queue), Value.int .i64 ((a0).next), Value.slice a4_2 ((a0).out).length c4_2, Value.slice a5_2 ((a0).wait).length c5_2]) 61, row 63 2 (.slice a4_2 ((a0).out).length c4_2) ((a0).out).length d4_2, tie signalmanref6_message.El d4_2 ((a0).out), row 27 1 (.slice a5_2 ((a0).wait).length c5_2) ((a0).wait).length d5_2, tie (El.sl (El.int .u8)) d5_2 ((a0).wait), R] w0 w := HS
    refine ⟨[(21, Value.slice ra6 (([] : List Int) ++ a1).length rc7)], fun w => Sep.St [row 5 1 (.slice ra6 (([] : List Int) ++ a1).length rc7) (([] : List Int) ++ a1).length ((([] : List Int) ++ a1).map (Value.int .u8)), blk b0 (#[Value.int .i64 ((a0).m), Value.int .i64 ((a0).window), Value.int .i64 ((a0).queue), Value.int .i64 ((a0).next), Value.slice a4_2 ((a0).out).length c4_2, Value.slice a5_2 ((a0).wait).length c5_2]) 61, row 63 2 (.slice a4_2 ((a0).out).length c4_2) ((a0).out).length d4_2, tie signalmanref6_message.El d4_2 ((a0).out), row 27 1 (.slice a5_2 ((a0).wait).length c5_2) ((a0).wait).length d5_2, tie (El.sl (El.int .u8)) d5_2 ((a0).wait), R] w0 w, ⟨.inl ⟨rfl, rfl⟩, trivial⟩, ?_, HS⟩
    refine T.event _ [(21, Value.slice ra6 (([] : List Int) ++ a1).length rc7)] rfl rfl ⟨⟨_, Value.pointer (some ⟨b0, 0, none⟩), [(0, Value.pointer (some ⟨b0, 0, none⟩))], 15, rfl, rfl, ⟨.inl ⟨rfl, rfl⟩, trivial⟩, .run rfl (fun w HS => X.move rfl), rfl, rfl, rfl⟩, ⟨_, Value.pointer (some ⟨b0, 0, none⟩), [(0, Value.pointer (some ⟨b0, 0, none⟩))], 16, rfl, rfl, ⟨.inl ⟨rfl, rfl⟩, trivial⟩, .run rfl (fun w HS => X.move rfl), rfl, rfl, rfl⟩, ⟨_, Value.pointer (some ⟨b0, 0, none⟩), [(16, Value.pointer (some ⟨b0, 0, none⟩))], 17, rfl, rfl, ⟨.inr ⟨rfl, rfl⟩, trivial⟩, .run rfl (fun w HS => X.nilCheck rfl), rfl, rfl, rfl⟩, ⟨_, Value.pointer (some ⟨b0, 0 + 5, none⟩), [(17, Value.pointer (some ⟨b0, 0, none⟩))], 18, rfl, rfl, ⟨.inr ⟨rfl, rfl⟩, trivial⟩, .run rfl (fun w HS => X.fieldAddr 5 fo61_5 rfl), rfl, rfl, rfl⟩, ⟨_, Value.slice a5_2 ((a0).wait).length c5_2, [(18, Value.pointer (some ⟨b0, 0 + 5, none⟩))], 19, rfl, rfl, ⟨.inr ⟨rfl, rfl⟩, trivial⟩, .run rfl (fun w HS => X.loadAt 1 HS rfl Try.underlying52 rfl rfl rfl), rfl, rfl, rfl⟩, trivial⟩ rfl ⟨.inr ⟨rfl, rfl⟩, trivial⟩ (Or.inl rfl) (by intro d hd; cases hd; exact ⟨by decide, rfl, rfl⟩) [9, 10] [] rfl rfl (fun w HS => ?_)
    have HS : Sep.St [row 5 1 (.slice ra6 (([] : List Int) ++ a1).length rc7) (([] : List Int) ++ a1).length ((([] : List Int) ++ a1).map (Value.int .u8)), blk b0 (#[Value.int .i64 ((a0).m), Value.int .i64 ((a0).window), Value.int .i64 ((a0).queue), Value.int .i64 ((a0).next), Value.slice a4_2 ((a0).out).length c4_2, Value.slice a5_2 ((a0).wait).length c5_2]) 61, row 63 2 (.slice a4_2 ((a0).out).length c4_2) ((a0).out).length d4_2, tie signalmanref6_message.El d4_2 ((a0).out), row 27 1 (.slice a5_2 ((a0).wait).length c5_2) ((a0).wait).length d5_2, tie (El.sl (El.int .u8)) d5_2 ((a0).wait), R] w0 w := HS
    replace HS := St.row_freeze HS
    have HS : Sep.St [fsl 1 (.slice ra6 (([] : List Int) ++ a1).length rc7) (([] : List Int) ++ a1).length ((([] : List Int) ++ a1).map (Value.int .u8)), blk b0 (#[Value.int .i64 ((a0).m), Value.int .i64 ((a0).window), Value.int .i64 ((a0).queue), Value.int .i64 ((a0).next), Value.slice a4_2 ((a0).out).length c4_2, Value.slice a5_2 ((a0).wait).length c5_2]) 61, row 63 2 (.slice a4_2 ((a0).out).length c4_2) ((a0).out).length d4_2, tie signalmanref6_message.El d4_2 ((a0).out), row 27 1 (.slice a5_2 ((a0).wait).length c5_2) ((a0).wait).length d5_2, tie (El.sl (El.int .u8)) d5_2 ((a0).wait), R] w0 w := HS
    refine ⟨_, Y.litB (e := 27) (sz := 1) (vs := #[(0, Value.slice ra6 (([] : List Int) ++ a1).length rc7)]) [Value.slice ra6 (([] : List Int) ++ a1).length rc7] HS (fun a ha => by simp only [List.map_toArray, List.map_cons, List.map_nil]; rw [ha.ev (x := .tmp 21) (v := Value.slice ra6 (([] : List Int) ++ a1).length rc7) rfl]; try rfl) rfl (by decide) (fun _ => by kernel_rfl), ?_⟩
    rintro _ w ⟨lb8, rfl, HS⟩
    have HS : Sep.St [row 27 1 (.slice (some ⟨lb8, 0, none⟩) (([([] : List Int) ++ a1] : List (List Int))).length 1) (([([] : List Int) ++ a1] : List (List Int))).length ([Value.slice ra6 (([] : List Int) ++ a1).length rc7]), fsl 1 (.slice ra6 (([] : List Int) ++ a1).length rc7) (([] : List Int) ++ a1).length ((([] : List Int) ++ a1).map (Value.int .u8)), blk b0 (#[Value.int .i64 ((a0).m), Value.int .i64 ((a0).window), Value.int .i64 ((a0).queue), Value.int .i64 ((a0).next), Value.slice a4_2 ((a0).out).length c4_2, Value.slice a5_2 ((a0).wait).length c5_2]) 61, row 63 2 (.slice a4_2 ((a0).out).length c4_2) ((a0).out).length d4_2, tie signalmanref6_message.El d4_2 ((a0).out), row 27 1 (.slice a5_2 ((a0).wait).length c5_2) ((a0).wait).length d5_2, tie (El.sl (El.int .u8)) d5_2 ((a0).wait), R] w0 w := HS
    replace HS := St.put (A := tie (El.sl (El.int .u8)) ([]) (([] : List (List Int)))) (fun _ => tie.nil) HS
    have HS : Sep.St [tie (El.sl (El.int .u8)) ([]) (([] : List (List Int))), row 27 1 (.slice (some ⟨lb8, 0, none⟩) (([([] : List Int) ++ a1] : List (List Int))).length 1) (([([] : List Int) ++ a1] : List (List Int))).length ([Value.slice ra6 (([] : List Int) ++ a1).length rc7]), fsl 1 (.slice ra6 (([] : List Int) ++ a1).length rc7) (([] : List Int) ++ a1).length ((([] : List Int) ++ a1).map (Value.int .u8)), blk b0 (#[Value.int .i64 ((a0).m), Value.int .i64 ((a0).window), Value.int .i64 ((a0).queue), Value.int .i64 ((a0).next), Value.slice a4_2 ((a0).out).length c4_2, Value.slice a5_2 ((a0).wait).length c5_2]) 61, row 63 2 (.slice a4_2 ((a0).out).length c4_2) ((a0).out).length d4_2, tie signalmanref6_message.El d4_2 ((a0).out), row 27 1 (.slice a5_2 ((a0).wait).length c5_2) ((a0).wait).length d5_2, tie (El.sl (El.int .u8)) d5_2 ((a0).wait), R] w0 w := HS
    replace HS := HS.more 2 rfl (fun _ t => t) fsl.pers
    have HS : Sep.St [fsl 1 (.slice ra6 (([] : List Int) ++ a1).length rc7) (([] : List Int) ++ a1).length ((([] : List Int) ++ a1).map (Value.int .u8)), tie (El.sl (El.int .u8)) ([]) (([] : List (List Int))), row 27 1 (.slice (some ⟨lb8, 0, none⟩) (([([] : List Int) ++ a1] : List (List Int))).length 1) (([([] : List Int) ++ a1] : List (List Int))).length ([Value.slice ra6 (([] : List Int) ++ a1).length rc7]), fsl 1 (.slice ra6 (([] : List Int) ++ a1).length rc7) (([] : List Int) ++ a1).length ((([] : List Int) ++ a1).map (Value.int .u8)), blk b0 (#[Value.int .i64 ((a0).m), Value.int .i64 ((a0).window), Value.int .i64 ((a0).queue), Value.int .i64 ((a0).next), Value.slice a4_2 ((a0).out).length c4_2, Value.slice a5_2 ((a0).wait).length c5_2]) 61, row 63 2 (.slice a4_2 ((a0).out).length c4_2) ((a0).out).length d4_2, tie signalmanref6_message.El d4_2 ((a0).out), row 27 1 (.slice a5_2 ((a0).wait).length c5_2) ((a0).wait).length d5_2, tie (El.sl (El.int .u8)) d5_2 ((a0).wait), R] w0 w := HS
    replace HS := St.put (A := tie (El.int .u8) ((([] : List Int) ++ a1).map (Value.int .u8)) (([] : List Int) ++ a1)) (fun _ => int_tie) HS
    have HS : Sep.St [tie (El.int .u8) ((([] : List Int) ++ a1).map (Value.int .u8)) (([] : List Int) ++ a1), fsl 1 (.slice ra6 (([] : List Int) ++ a1).length rc7) (([] : List Int) ++ a1).length ((([] : List Int) ++ a1).map (Value.int .u8)), tie (El.sl (El.int .u8)) ([]) (([] : List (List Int))), row 27 1 (.slice (some ⟨lb8, 0, none⟩) (([([] : List Int) ++ a1] : List (List Int))).length 1) (([([] : List Int) ++ a1] : List (List Int))).length ([Value.slice ra6 (([] : List Int) ++ a1).length rc7]), fsl 1 (.slice ra6 (([] : List Int) ++ a1).length rc7) (([] : List Int) ++ a1).length ((([] : List Int) ++ a1).map (Value.int .u8)), blk b0 (#[Value.int .i64 ((a0).m), Value.int .i64 ((a0).window), Value.int .i64 ((a0).queue), Value.int .i64 ((a0).next), Value.slice a4_2 ((a0).out).length c4_2, Value.slice a5_2 ((a0).wait).length c5_2]) 61, row 63 2 (.slice a4_2 ((a0).out).length c4_2) ((a0).out).length d4_2, tie signalmanref6_message.El d4_2 ((a0).out), row 27 1 (.slice a5_2 ((a0).wait).length c5_2) ((a0).wait).length d5_2, tie (El.sl (El.int .u8)) d5_2 ((a0).wait), R] w0 w := HS
    replace HS := St.swap HS
    replace HS := St.sl_close (E := (El.int .u8)) HS
    have HS : Sep.St [(El.sl (El.int .u8)).p [Value.slice ra6 (([] : List Int) ++ a1).length rc7] (([] : List Int) ++ a1), tie (El.sl (El.int .u8)) ([]) (([] : List (List Int))), row 27 1 (.slice (some ⟨lb8, 0, none⟩) (([([] : List Int) ++ a1] : List (List Int))).length 1) (([([] : List Int) ++ a1] : List (List Int))).length ([Value.slice ra6 (([] : List Int) ++ a1).length rc7]), fsl 1 (.slice ra6 (([] : List Int) ++ a1).length rc7) (([] : List Int) ++ a1).length ((([] : List Int) ++ a1).map (Value.int .u8)), blk b0 (#[Value.int .i64 ((a0).m), Value.int .i64 ((a0).window), Value.int .i64 ((a0).queue), Value.int .i64 ((a0).next), Value.slice a4_2 ((a0).out).length c4_2, Value.slice a5_2 ((a0).wait).length c5_2]) 61, row 63 2 (.slice a4_2 ((a0).out).length c4_2) ((a0).out).length d4_2, tie signalmanref6_message.El d4_2 ((a0).out), row 27 1 (.slice a5_2 ((a0).wait).length c5_2) ((a0).wait).length d5_2, tie (El.sl (El.int .u8)) d5_2 ((a0).wait), R] w0 w := HS
    replace HS := HS.front 1 rfl
    have HS : Sep.St [tie (El.sl (El.int .u8)) ([]) (([] : List (List Int))), (El.sl (El.int .u8)).p [Value.slice ra6 (([] : List Int) ++ a1).length rc7] (([] : List Int) ++ a1), row 27 1 (.slice (some ⟨lb8, 0, none⟩) (([([] : List Int) ++ a1] : List (List Int))).length 1) (([([] : List Int) ++ a1] : List (List Int))).length ([Value.slice ra6 (([] : List Int) ++ a1).length rc7]), fsl 1 (.slice ra6 (([] : List Int) ++ a1).length rc7) (([] : List Int) ++ a1).length ((([] : List Int) ++ a1).map (Value.int .u8)), blk b0 (#[Value.int .i64 ((a0).m), Value.int .i64 ((a0).window), Value.int .i64 ((a0).queue), Value.int .i64 ((a0).next), Value.slice a4_2 ((a0).out).length c4_2, Value.slice a5_2 ((a0).wait).length c5_2]) 61, row 63 2 (.slice a4_2 ((a0).out).length c4_2) ((a0).out).length d4_2, tie signalmanref6_message.El d4_2 ((a0).out), row 27 1 (.slice a5_2 ((a0).wait).length c5_2) ((a0).wait).length d5_2, tie (El.sl (El.int .u8)) d5_2 ((a0).wait), R] w0 w := HS
    replace HS := HS.front 1 rfl
    have HS : Sep.St [(El.sl (El.int .u8)).p [Value.slice ra6 (([] : List Int) ++ a1).length rc7] (([] : List Int) ++ a1), tie (El.sl (El.int .u8)) ([]) (([] : List (List Int))), row 27 1 (.slice (some ⟨lb8, 0, none⟩) (([([] : List Int) ++ a1] : List (List Int))).length 1) (([([] : List Int) ++ a1] : List (List Int))).length ([Value.slice ra6 (([] : List Int) ++ a1).length rc7]), fsl 1 (.slice ra6 (([] : List Int) ++ a1).length rc7) (([] : List Int) ++ a1).length ((([] : List Int) ++ a1).map (Value.int .u8)), blk b0 (#[Value.int .i64 ((a0).m), Value.int .i64 ((a0).window), Value.int .i64 ((a0).queue), Value.int .i64 ((a0).next), Value.slice a4_2 ((a0).out).length c4_2, Value.slice a5_2 ((a0).wait).length c5_2]) 61, row 63 2 (.slice a4_2 ((a0).out).length c4_2) ((a0).out).length d4_2, tie signalmanref6_message.El d4_2 ((a0).out), row 27 1 (.slice a5_2 ((a0).wait).length c5_2) ((a0).wait).length d5_2, tie (El.sl (El.int .u8)) d5_2 ((a0).wait), R] w0 w := HS
    replace HS := St.tie_cons HS
    have HS : Sep.St [tie (El.sl (El.int .u8)) ([Value.slice ra6 (([] : List Int) ++ a1).length rc7]) (([([] : List Int) ++ a1] : List (List Int))), row 27 1 (.slice (some ⟨lb8, 0, none⟩) (([([] : List Int) ++ a1] : List (List Int))).length 1) (([([] : List Int) ++ a1] : List (List Int))).length ([Value.slice ra6 (([] : List Int) ++ a1).length rc7]), fsl 1 (.slice ra6 (([] : List Int) ++ a1).length rc7) (([] : List Int) ++ a1).length ((([] : List Int) ++ a1).map (Value.int .u8)), blk b0 (#[Value.int .i64 ((a0).m), Value.int .i64 ((a0).window), Value.int .i64 ((a0).queue), Value.int .i64 ((a0).next), Value.slice a4_2 ((a0).out).length c4_2, Value.slice a5_2 ((a0).wait).length c5_2]) 61, row 63 2 (.slice a4_2 ((a0).out).length c4_2) ((a0).out).length d4_2, tie signalmanref6_message.El d4_2 ((a0).out), row 27 1 (.slice a5_2 ((a0).wait).length c5_2) ((a0).wait).length d5_2, tie (El.sl (El.int .u8)) d5_2 ((a0).wait), R] w0 w := HS
    refine ⟨[(22, Value.slice (some ⟨lb8, 0, none⟩) (([([] : List Int) ++ a1] : List (List Int))).length 1)], fun w => Sep.St [tie (El.sl (El.int .u8)) ([Value.slice ra6 (([] : List Int) ++ a1).length rc7]) (([([] : List Int) ++ a1] : List (List Int))), row 27 1 (.slice (some ⟨lb8, 0, none⟩) (([([] : List Int) ++ a1] : List (List Int))).length 1) (([([] : List Int) ++ a1] : List (List Int))).length ([Value.slice ra6 (([] : List Int) ++ a1).length rc7]), fsl 1 (.slice ra6 (([] : List Int) ++ a1).length rc7) (([] : List Int) ++ a1).length ((([] : List Int) ++ a1).map (Value.int .u8)), blk b0 (#[Value.int .i64 ((a0).m), Value.int .i64 ((a0).window), Value.int .i64 ((a0).queue), Value.int .i64 ((a0).next), Value.slice a4_2 ((a0).out).length c4_2, Value.slice a5_2 ((a0).wait).length c5_2]) 61, row 63 2 (.slice a4_2 ((a0).out).length c4_2) ((a0).out).length d4_2, tie signalmanref6_message.El d4_2 ((a0).out), row 27 1 (.slice a5_2 ((a0).wait).length c5_2) ((a0).wait).length d5_2, tie (El.sl (El.int .u8)) d5_2 ((a0).wait), R] w0 w, ⟨.inl ⟨rfl, rfl⟩, trivial⟩, ?_, HS⟩
    refine T.event _ [(19, Value.slice a5_2 ((a0).wait).length c5_2), (22, Value.slice (some ⟨lb8, 0, none⟩) (([([] : List Int) ++ a1] : List (List Int))).length 1)] rfl rfl ⟨⟨_, Value.pointer (some ⟨b0, 0, none⟩), [(0, Value.pointer (some ⟨b0, 0, none⟩))], 15, rfl, rfl, ⟨.inl ⟨rfl, rfl⟩, trivial⟩, .run rfl (fun w HS => X.move rfl), rfl, rfl, rfl⟩, ⟨_, Value.pointer (some ⟨b0, 0, none⟩), [(0, Value.pointer (some ⟨b0, 0, none⟩))], 16, rfl, rfl, ⟨.inl ⟨rfl, rfl⟩, trivial⟩, .run rfl (fun w HS => X.move rfl), rfl, rfl, rfl⟩, ⟨_, Value.pointer (some ⟨b0, 0, none⟩), [(16, Value.pointer (some ⟨b0, 0, none⟩))], 17, rfl, rfl, ⟨.inr ⟨rfl, rfl⟩, trivial⟩, .run rfl (fun w HS => X.nilCheck rfl), rfl, rfl, rfl⟩, ⟨_, Value.pointer (some ⟨b0, 0 + 5, none⟩), [(17, Value.pointer (some ⟨b0, 0, none⟩))], 18, rfl, rfl, ⟨.inr ⟨rfl, rfl⟩, trivial⟩, .run rfl (fun w HS => X.fieldAddr 5 fo61_5 rfl), rfl, rfl, rfl⟩, ⟨_, Value.slice a5_2 ((a0).wait).length c5_2, [(18, Value.pointer (some ⟨b0, 0 + 5, none⟩))], 19, rfl, rfl, ⟨.inr ⟨rfl, rfl⟩, trivial⟩, .run rfl (fun w HS => X.loadAt 3 HS rfl Try.underlying52 rfl rfl rfl), rfl, rfl, rfl⟩, trivial⟩ rfl ⟨.inr ⟨rfl, rfl⟩, ⟨.inr ⟨rfl, rfl⟩, trivial⟩⟩ (Or.inl rfl) (by intro d hd; cases hd; exact ⟨by decide, rfl, rfl⟩) [] [1, 2, 3, 4] rfl rfl (fun w HS => ?_)
    have HS : Sep.St [tie (El.sl (El.int .u8)) ([Value.slice ra6 (([] : List Int) ++ a1).length rc7]) (([([] : List Int) ++ a1] : List (List Int))), row 27 1 (.slice (some ⟨lb8, 0, none⟩) (([([] : List Int) ++ a1] : List (List Int))).length 1) (([([] : List Int) ++ a1] : List (List Int))).length ([Value.slice ra6 (([] : List Int) ++ a1).length rc7]), fsl 1 (.slice ra6 (([] : List Int) ++ a1).length rc7) (([] : List Int) ++ a1).length ((([] : List Int) ++ a1).map (Value.int .u8)), blk b0 (#[Value.int .i64 ((a0).m), Value.int .i64 ((a0).window), Value.int .i64 ((a0).queue), Value.int .i64 ((a0).next), Value.slice a4_2 ((a0).out).length c4_2, Value.slice a5_2 ((a0).wait).length c5_2]) 61, row 63 2 (.slice a4_2 ((a0).out).length c4_2) ((a0).out).length d4_2, tie signalmanref6_message.El d4_2 ((a0).out), row 27 1 (.slice a5_2 ((a0).wait).length c5_2) ((a0).wait).length d5_2, tie (El.sl (El.int .u8)) d5_2 ((a0).wait), R] w0 w := HS
    obtain ⟨c11, H⟩ := ite_n H
    refine ⟨_, Y.app (xs := (a0).wait) (ys := ([([] : List Int) ++ a1] : List (List Int))) 6 Try.underlying52 ap27 rfl (by decide) HS rfl rfl rfl (rdC.at 1 row_rd HS rfl) (St.tie_one 0 HS rfl) (by omega) (by omega), ?_⟩
    rintro _ w ⟨ra12, rc13, rfl, HS⟩
    have HS : Sep.St [tie (El.sl (El.int .u8)) ([Value.slice ra6 (([] : List Int) ++ a1).length rc7]) (([([] : List Int) ++ a1] : List (List Int))), row 27 1 (.slice (some ⟨lb8, 0, none⟩) (([([] : List Int) ++ a1] : List (List Int))).length 1) (([([] : List Int) ++ a1] : List (List Int))).length ([Value.slice ra6 (([] : List Int) ++ a1).length rc7]), fsl 1 (.slice ra6 (([] : List Int) ++ a1).length rc7) (([] : List Int) ++ a1).length ((([] : List Int) ++ a1).map (Value.int .u8)), blk b0 (#[Value.int .i64 ((a0).m), Value.int .i64 ((a0).window), Value.int .i64 ((a0).queue), Value.int .i64 ((a0).next), Value.slice a4_2 ((a0).out).length c4_2, Value.slice a5_2 ((a0).wait).length c5_2]) 61, row 63 2 (.slice a4_2 ((a0).out).length c4_2) ((a0).out).length d4_2, tie signalmanref6_message.El d4_2 ((a0).out), row 27 1 (.slice ra12 (((a0).wait) ++ ([([] : List Int) ++ a1] : List (List Int))).length rc13) (((a0).wait) ++ ([([] : List Int) ++ a1] : List (List Int))).length (d5_2 ++ ([Value.slice ra6 (([] : List Int) ++ a1).length rc7])), tie (El.sl (El.int .u8)) d5_2 ((a0).wait), R] w0 w := HS
    replace HS := HS.front 7 rfl
    have HS : Sep.St [tie (El.sl (El.int .u8)) d5_2 ((a0).wait), tie (El.sl (El.int .u8)) ([Value.slice ra6 (([] : List Int) ++ a1).length rc7]) (([([] : List Int) ++ a1] : List (List Int))), row 27 1 (.slice (some ⟨lb8, 0, none⟩) (([([] : List Int) ++ a1] : List (List Int))).length 1) (([([] : List Int) ++ a1] : List (List Int))).length ([Value.slice ra6 (([] : List Int) ++ a1).length rc7]), fsl 1 (.slice ra6 (([] : List Int) ++ a1).length rc7) (([] : List Int) ++ a1).length ((([] : List Int) ++ a1).map (Value.int .u8)), blk b0 (#[Value.int .i64 ((a0).m), Value.int .i64 ((a0).window), Value.int .i64 ((a0).queue), Value.int .i64 ((a0).next), Value.slice a4_2 ((a0).out).length c4_2, Value.slice a5_2 ((a0).wait).length c5_2]) 61, row 63 2 (.slice a4_2 ((a0).out).length c4_2) ((a0).out).length d4_2, tie signalmanref6_message.El d4_2 ((a0).out), row 27 1 (.slice ra12 (((a0).wait) ++ ([([] : List Int) ++ a1] : List (List Int))).length rc13) (((a0).wait) ++ ([([] : List Int) ++ a1] : List (List Int))).length (d5_2 ++ ([Value.slice ra6 (([] : List Int) ++ a1).length rc7])), R] w0 w := HS
    replace HS := St.tie_app 1 HS rfl
    have HS : Sep.St [tie (El.sl (El.int .u8)) (d5_2 ++ ([Value.slice ra6 (([] : List Int) ++ a1).length rc7])) (((a0).wait) ++ ([([] : List Int) ++ a1] : List (List Int))), tie (El.sl (El.int .u8)) ([Value.slice ra6 (([] : List Int) ++ a1).length rc7]) (([([] : List Int) ++ a1] : List (List Int))), row 27 1 (.slice (some ⟨lb8, 0, none⟩) (([([] : List Int) ++ a1] : List (List Int))).length 1) (([([] : List Int) ++ a1] : List (List Int))).length ([Value.slice ra6 (([] : List Int) ++ a1).length rc7]), fsl 1 (.slice ra6 (([] : List Int) ++ a1).length rc7) (([] : List Int) ++ a1).length ((([] : List Int) ++ a1).map (Value.int .u8)), blk b0 (#[Value.int .i64 ((a0).m), Value.int .i64 ((a0).window), Value.int .i64 ((a0).queue), Value.int .i64 ((a0).next), Value.slice a4_2 ((a0).out).length c4_2, Value.slice a5_2 ((a0).wait).length c5_2]) 61, row 63 2 (.slice a4_2 ((a0).out).length c4_2) ((a0).out).length d4_2, tie signalmanref6_message.El d4_2 ((a0).out), row 27 1 (.slice ra12 (((a0).wait) ++ ([([] : List Int) ++ a1] : List (List Int))).length rc13) (((a0).wait) ++ ([([] : List Int) ++ a1] : List (List Int))).length (d5_2 ++ ([Value.slice ra6 (([] : List Int) ++ a1).length rc7])), R] w0 w := HS
    refine ⟨[(23, Value.slice ra12 (((a0).wait) ++ ([([] : List Int) ++ a1] : List (List Int))).length rc13), (24, Value.pointer (some ⟨b0, 0, none⟩)), (25, Value.pointer (some ⟨b0, 0 + 5, none⟩))], fun w => Sep.St [tie (El.sl (El.int .u8)) (d5_2 ++ ([Value.slice ra6 (([] : List Int) ++ a1).length rc7])) (((a0).wait) ++ ([([] : List Int) ++ a1] : List (List Int))), tie (El.sl (El.int .u8)) ([Value.slice ra6 (([] : List Int) ++ a1).length rc7]) (([([] : List Int) ++ a1] : List (List Int))), row 27 1 (.slice (some ⟨lb8, 0, none⟩) (([([] : List Int) ++ a1] : List (List Int))).length 1) (([([] : List Int) ++ a1] : List (List Int))).length ([Value.slice ra6 (([] : List Int) ++ a1).length rc7]), fsl 1 (.slice ra6 (([] : List Int) ++ a1).length rc7) (([] : List Int) ++ a1).length ((([] : List Int) ++ a1).map (Value.int .u8)), blk b0 (#[Value.int .i64 ((a0).m), Value.int .i64 ((a0).window), Value.int .i64 ((a0).queue), Value.int .i64 ((a0).next), Value.slice a4_2 ((a0).out).length c4_2, Value.slice a5_2 ((a0).wait).length c5_2]) 61, row 63 2 (.slice a4_2 ((a0).out).length c4_2) ((a0).out).length d4_2, tie signalmanref6_message.El d4_2 ((a0).out), row 27 1 (.slice ra12 (((a0).wait) ++ ([([] : List Int) ++ a1] : List (List Int))).length rc13) (((a0).wait) ++ ([([] : List Int) ++ a1] : List (List Int))).length (d5_2 ++ ([Value.slice ra6 (([] : List Int) ++ a1).length rc7])), R] w0 w, ⟨.inl ⟨rfl, rfl⟩, ⟨.inr ⟨by decide, rfl⟩, ⟨.inr ⟨by decide, rfl⟩, trivial⟩⟩⟩, ?_, HS⟩
    refine T.event _ [(23, Value.slice ra12 (((a0).wait) ++ ([([] : List Int) ++ a1] : List (List Int))).length rc13), (25, Value.pointer (some ⟨b0, 0 + 5, none⟩))] rfl rfl ⟨⟨_, Value.pointer (some ⟨b0, 0, none⟩), [(0, Value.pointer (some ⟨b0, 0, none⟩))], 15, rfl, rfl, ⟨.inl ⟨rfl, rfl⟩, trivial⟩, .run rfl (fun w HS => X.move rfl), rfl, rfl, rfl⟩, ⟨_, Value.pointer (some ⟨b0, 0, none⟩), [(15, Value.pointer (some ⟨b0, 0, none⟩))], 24, rfl, rfl, ⟨.inr ⟨rfl, rfl⟩, trivial⟩, .run rfl (fun w HS => X.nilCheck rfl), rfl, rfl, rfl⟩, ⟨_, Value.pointer (some ⟨b0, 0 + 5, none⟩), [(24, Value.pointer (some ⟨b0, 0, none⟩))], 25, rfl, rfl, ⟨.inr ⟨rfl, rfl⟩, trivial⟩, .run rfl (fun w HS => X.fieldAddr 5 fo61_5 rfl), rfl, rfl, rfl⟩, trivial⟩ rfl ⟨.inr ⟨rfl, rfl⟩, ⟨.inr ⟨rfl, rfl⟩, trivial⟩⟩ (Or.inl rfl) (by intro d hd; cases hd) [] [0, 9, 10] rfl rfl (fun w HS => ?_)
    have HS : Sep.St [tie (El.sl (El.int .u8)) (d5_2 ++ ([Value.slice ra6 (([] : List Int) ++ a1).length rc7])) (((a0).wait) ++ ([([] : List Int) ++ a1] : List (List Int))), tie (El.sl (El.int .u8)) ([Value.slice ra6 (([] : List Int) ++ a1).length rc7]) (([([] : List Int) ++ a1] : List (List Int))), row 27 1 (.slice (some ⟨lb8, 0, none⟩) (([([] : List Int) ++ a1] : List (List Int))).length 1) (([([] : List Int) ++ a1] : List (List Int))).length ([Value.slice ra6 (([] : List Int) ++ a1).length rc7]), fsl 1 (.slice ra6 (([] : List Int) ++ a1).length rc7) (([] : List Int) ++ a1).length ((([] : List Int) ++ a1).map (Value.int .u8)), blk b0 (#[Value.int .i64 ((a0).m), Value.int .i64 ((a0).window), Value.int .i64 ((a0).queue), Value.int .i64 ((a0).next), Value.slice a4_2 ((a0).out).length c4_2, Value.slice a5_2 ((a0).wait).length c5_2]) 61, row 63 2 (.slice a4_2 ((a0).out).length c4_2) ((a0).out).length d4_2, tie signalmanref6_message.El d4_2 ((a0).out), row 27 1 (.slice ra12 (((a0).wait) ++ ([([] : List Int) ++ a1] : List (List Int))).length rc13) (((a0).wait) ++ ([([] : List Int) ++ a1] : List (List Int))).length (d5_2 ++ ([Value.slice ra6 (([] : List Int) ++ a1).length rc7])), R] w0 w := HS
    refine ⟨_, Y.storeAt 4 HS rfl inf52 rfl rfl rfl rfl rfl rfl, ?_⟩
    rintro _ w HS
    have HS : Sep.St [tie (El.sl (El.int .u8)) (d5_2 ++ ([Value.slice ra6 (([] : List Int) ++ a1).length rc7])) (((a0).wait) ++ ([([] : List Int) ++ a1] : List (List Int))), tie (El.sl (El.int .u8)) ([Value.slice ra6 (([] : List Int) ++ a1).length rc7]) (([([] : List Int) ++ a1] : List (List Int))), row 27 1 (.slice (some ⟨lb8, 0, none⟩) (([([] : List Int) ++ a1] : List (List Int))).length 1) (([([] : List Int) ++ a1] : List (List Int))).length ([Value.slice ra6 (([] : List Int) ++ a1).length rc7]), fsl 1 (.slice ra6 (([] : List Int) ++ a1).length rc7) (([] : List Int) ++ a1).length ((([] : List Int) ++ a1).map (Value.int .u8)), blk b0 (#[Value.int .i64 ((a0).m), Value.int .i64 ((a0).window), Value.int .i64 ((a0).queue), Value.int .i64 ((a0).next), Value.slice a4_2 ((a0).out).length c4_2, Value.slice ra12 (((a0).wait) ++ ([([] : List Int) ++ a1] : List (List Int))).length rc13]) 61, row 63 2 (.slice a4_2 ((a0).out).length c4_2) ((a0).out).length d4_2, tie signalmanref6_message.El d4_2 ((a0).out), row 27 1 (.slice ra12 (((a0).wait) ++ ([([] : List Int) ++ a1] : List (List Int))).length rc13) (((a0).wait) ++ ([([] : List Int) ++ a1] : List (List Int))).length (d5_2 ++ ([Value.slice ra6 (([] : List Int) ++ a1).length rc7])), R] w0 w := HS
    refine ⟨[], fun w => Sep.St [tie (El.sl (El.int .u8)) (d5_2 ++ ([Value.slice ra6 (([] : List Int) ++ a1).length rc7])) (((a0).wait) ++ ([([] : List Int) ++ a1] : List (List Int))), tie (El.sl (El.int .u8)) ([Value.slice ra6 (([] : List Int) ++ a1).length rc7]) (([([] : List Int) ++ a1] : List (List Int))), row 27 1 (.slice (some ⟨lb8, 0, none⟩) (([([] : List Int) ++ a1] : List (List Int))).length 1) (([([] : List Int) ++ a1] : List (List Int))).length ([Value.slice ra6 (([] : List Int) ++ a1).length rc7]), fsl 1 (.slice ra6 (([] : List Int) ++ a1).length rc7) (([] : List Int) ++ a1).length ((([] : List Int) ++ a1).map (Value.int .u8)), blk b0 (#[Value.int .i64 ((a0).m), Value.int .i64 ((a0).window), Value.int .i64 ((a0).queue), Value.int .i64 ((a0).next), Value.slice a4_2 ((a0).out).length c4_2, Value.slice ra12 (((a0).wait) ++ ([([] : List Int) ++ a1] : List (List Int))).length rc13]) 61, row 63 2 (.slice a4_2 ((a0).out).length c4_2) ((a0).out).length d4_2, tie signalmanref6_message.El d4_2 ((a0).out), row 27 1 (.slice ra12 (((a0).wait) ++ ([([] : List Int) ++ a1] : List (List Int))).length rc13) (((a0).wait) ++ ([([] : List Int) ++ a1] : List (List Int))).length (d5_2 ++ ([Value.slice ra6 (([] : List Int) ++ a1).length rc7])), R] w0 w, trivial, ?_, HS⟩
    refine T.fin [] rfl trivial trivial (fun w HS => ?_)
    have HS : Sep.St [tie (El.sl (El.int .u8)) (d5_2 ++ ([Value.slice ra6 (([] : List Int) ++ a1).length rc7])) (((a0).wait) ++ ([([] : List Int) ++ a1] : List (List Int))), tie (El.sl (El.int .u8)) ([Value.slice ra6 (([] : List Int) ++ a1).length rc7]) (([([] : List Int) ++ a1] : List (List Int))), row 27 1 (.slice (some ⟨lb8, 0, none⟩) (([([] : List Int) ++ a1] : List (List Int))).length 1) (([([] : List Int) ++ a1] : List (List Int))).length ([Value.slice ra6 (([] : List Int) ++ a1).length rc7]), fsl 1 (.slice ra6 (([] : List Int) ++ a1).length rc7) (([] : List Int) ++ a1).length ((([] : List Int) ++ a1).map (Value.int .u8)), blk b0 (#[Value.int .i64 ((a0).m), Value.int .i64 ((a0).window), Value.int .i64 ((a0).queue), Value.int .i64 ((a0).next), Value.slice a4_2 ((a0).out).length c4_2, Value.slice ra12 (((a0).wait) ++ ([([] : List Int) ++ a1] : List (List Int))).length rc13]) 61, row 63 2 (.slice a4_2 ((a0).out).length c4_2) ((a0).out).length d4_2, tie signalmanref6_message.El d4_2 ((a0).out), row 27 1 (.slice ra12 (((a0).wait) ++ ([([] : List Int) ++ a1] : List (List Int))).length rc13) (((a0).wait) ++ ([([] : List Int) ++ a1] : List (List Int))).length (d5_2 ++ ([Value.slice ra6 (([] : List Int) ++ a1).length rc7])), R] w0 w := HS
    refine At.next ?_
    refine V.keep [] trivial ?_
    refine V.seq ?_
    refine V.region ?_
    refine W.rd (X.assign rfl) rfl rfl rfl ?_
    refine W.nil ?_
    refine At.next ?_
    refine V.keep [(4, Value.int .i64 (0))] ⟨rfl, trivial⟩ ?_
    refine V.ret ?_
    replace HS := HS.re [4, 5, 6, 7, 0, 1, 2, 3, 8] (by kernel_rfl)
    have HS : Sep.St [blk b0 (#[Value.int .i64 ((a0).m), Value.int .i64 ((a0).window), Value.int .i64 ((a0).queue), Value.int .i64 ((a0).next), Value.slice a4_2 ((a0).out).length c4_2, Value.slice ra12 (((a0).wait) ++ ([([] : List Int) ++ a1] : List (List Int))).length rc13]) 61, row 63 2 (.slice a4_2 ((a0).out).length c4_2) ((a0).out).length d4_2, tie signalmanref6_message.El d4_2 ((a0).out), row 27 1 (.slice ra12 (((a0).wait) ++ ([([] : List Int) ++ a1] : List (List Int))).length rc13) (((a0).wait) ++ ([([] : List Int) ++ a1] : List (List Int))).length (d5_2 ++ ([Value.slice ra6 (([] : List Int) ++ a1).length rc7])), tie (El.sl (El.int .u8)) (d5_2 ++ ([Value.slice ra6 (([] : List Int) ++ a1).length rc7])) (((a0).wait) ++ ([([] : List Int) ++ a1] : List (List Int))), tie (El.sl (El.int .u8)) ([Value.slice ra6 (([] : List Int) ++ a1).length rc7]) (([([] : List Int) ++ a1] : List (List Int))), row 27 1 (.slice (some ⟨lb8, 0, none⟩) (([([] : List Int) ++ a1] : List (List Int))).length 1) (([([] : List Int) ++ a1] : List (List Int))).length ([Value.slice ra6 (([] : List Int) ++ a1).length rc7]), fsl 1 (.slice ra6 (([] : List Int) ++ a1).length rc7) (([] : List Int) ++ a1).length ((([] : List Int) ++ a1).map (Value.int .u8)), R] w0 w := HS
    replace HS := signalmanref6_Log.close (({ m := (a0).m, window := (a0).window, queue := (a0).queue, next := (a0).next, out := (a0).out, wait := ((a0).wait) ++ ([([] : List Int) ++ a1] : List (List Int)) } : signalmanref6_Log)) trivial HS
    have HS : Sep.St [signalmanref6_Log.at b0 (({ m := (a0).m, window := (a0).window, queue := (a0).queue, next := (a0).next, out := (a0).out, wait := ((a0).wait) ++ ([([] : List Int) ++ a1] : List (List Int)) } : signalmanref6_Log)), tie (El.sl (El.int .u8)) ([Value.slice ra6 (([] : List Int) ++ a1).length rc7]) (([([] : List Int) ++ a1] : List (List Int))), row 27 1 (.slice (some ⟨lb8, 0, none⟩) (([([] : List Int) ++ a1] : List (List Int))).length 1) (([([] : List Int) ++ a1] : List (List Int))).length ([Value.slice ra6 (([] : List Int) ++ a1).length rc7]), fsl 1 (.slice ra6 (([] : List Int) ++ a1).length rc7) (([] : List Int) ++ a1).length ((([] : List Int) ++ a1).map (Value.int .u8)), R] w0 w := HS
    replace HS := HS.sel [0, 4] [1, 2, 3] (by kernel_rfl)
    cases H
    exact At.ret1 rfl rfl ⟨_, rfl, rfl, HS⟩

/-! ### signalman/signalmanref1.Mod: function 32 -/
def signalmanref1_Mod.f (a0 : Int) (a1 : Int) : Option (Int) := ((signalmanref1_Cut.f a1 1 1073741824).bind fun t1 => (if ¬ (t1 = 0) then (if ((a0).tmod (t1)) < 0 then some (w64 (((a0).tmod (t1)) + t1)) else some ((a0).tmod (t1))) else none))
set_option maxRecDepth 100000 in
set_option maxHeartbeats 4000000 in
theorem signalmanref1_Mod.calls (a0 : Int) (a1 : Int) (R : As) (w0 w : World)  (r : Int)  (H : signalmanref1_Mod.f a0 a1 = some r) (HS : Sep.St [R] w0 w) : Calls Try.prog 32 #[Value.int .i64 (a0), Value.int .i64 (a1)] w (Ret fun u w => u = Value.int .i64 (r) ∧ Sep.St [R] w0 w) := by
  unfold signalmanref1_Mod.f at H
  refine calls_enter Try.func32 rfl rfl ?_
  have H : _ = some r := H
  refine V.seq ?_
  refine V.region ?_
  refine W.rd (X.assign rfl) rfl rfl rfl ?_
  refine W.nil ?_
  refine At.next ?_
  refine V.keep [(0, Value.int .i64 (a0)), (1, Value.int .i64 (a1))] ⟨rfl, rfl, trivial⟩ ?_
  refine V.seq ?_
  refine V.region ?_
  refine W.rd (X.move rfl) rfl rfl rfl ?_
  obtain ⟨t1, A2, H⟩ := bind_s H
  refine W.ev (Y.call Try.func34 (by kernel_rfl) rfl (vs := [Value.int .i64 (a1), Value.int .i64 (1), Value.int .i64 (1073741824)]) rfl (signalmanref1_Cut.calls a1 1 1073741824 _ w0 _  t1  A2 (Sep.St.tailJoin (m := []) (r := [R]) HS))) rfl rfl rfl ?_
  rintro _ w ⟨rfl, HS⟩
  replace HS := Sep.St.tailOpen (m := []) (r := [R]) HS
  have HS : Sep.St [R] w0 w := HS
  refine W.rd (X.assign rfl) rfl rfl rfl ?_
  refine W.nil ?_
  refine At.next ?_
  refine V.keep [(0, Value.int .i64 (a0)), (1, Value.int .i64 (t1))] ⟨rfl, rfl, trivial⟩ ?_
  refine V.seq ?_
  refine V.region ?_
  refine W.rd (X.move rfl) rfl rfl rfl ?_
  refine W.rd (X.move rfl) rfl rfl rfl ?_
  obtain ⟨c3, H⟩ := ite_n H
  refine W.rd (X.rem rfl rfl c3) rfl rfl rfl ?_
  refine W.rd (X.assign rfl) rfl rfl rfl ?_
  refine W.nil ?_
  refine At.next ?_
  refine V.keep [(0, Value.int .i64 ((a0).tmod (t1))), (1, Value.int .i64 (t1))] ⟨rfl, rfl, trivial⟩ ?_
  refine V.seq ?_
  refine V.seq ?_
  refine V.region ?_
  refine W.rd (X.move rfl) rfl rfl rfl ?_
  refine W.rd (X.cmp (decide (((a0).tmod (t1)) < 0)) rfl rfl rfl rfl) rfl rfl rfl ?_
  refine W.nil ?_
  refine At.next ?_
  refine V.keep [(0, Value.int .i64 ((a0).tmod (t1))), (1, Value.int .i64 (t1)), (11, Value.bool (decide (((a0).tmod (t1)) < 0)))] ⟨rfl, rfl, rfl, trivial⟩ ?_
  by_cases c4 : ((a0).tmod (t1)) < 0
  · replace H := ite_t c4 H
    refine V.condT (sb (decide_eq_true c4)) ?_
    refine V.region ?_
    refine W.rd (X.move rfl) rfl rfl rfl ?_
    refine W.rd (X.move rfl) rfl rfl rfl ?_
    refine W.rd (X.add rfl rfl) rfl rfl rfl ?_
    refine W.rd (X.assign rfl) rfl rfl rfl ?_
    refine W.nil ?_
    refine At.next ?_
    refine V.keep [(0, Value.int .i64 (w64 (((a0).tmod (t1)) + t1)))] ⟨rfl, trivial⟩ ?_
    refine V.seq ?_
    refine V.region ?_
    refine W.rd (X.move rfl) rfl rfl rfl ?_
    refine W.rd (X.assign rfl) rfl rfl rfl ?_
    refine W.nil ?_
    refine At.next ?_
    refine V.keep [(4, Value.int .i64 (w64 (((a0).tmod (t1)) + t1)))] ⟨rfl, trivial⟩ ?_
    refine V.ret ?_
    cases H
    exact At.ret1 rfl rfl ⟨_, rfl, rfl, HS⟩
  · replace H := ite_f c4 H
    refine V.condF (sb (decide_eq_false c4)) ?_
    refine V.skip ?_
    refine At.next ?_
    refine V.keep [(0, Value.int .i64 ((a0).tmod (t1)))] ⟨rfl, trivial⟩ ?_
    refine V.seq ?_
    refine V.region ?_
    refine W.rd (X.move rfl) rfl rfl rfl ?_
    refine W.rd (X.assign rfl) rfl rfl rfl ?_
    refine W.nil ?_
    refine At.next ?_
    refine V.keep [(4, Value.int .i64 ((a0).tmod (t1)))] ⟨rfl, trivial⟩ ?_
    refine V.ret ?_
    cases H
    exact At.ret1 rfl rfl ⟨_, rfl, rfl, HS⟩

/-! ### signalman/signalmanref1.Next: function 16 -/
def signalmanref1_Next.f (a0 : Int) (a1 : Int) : Option (Int) := ((signalmanref1_Mod.f a0 a1).bind fun t1 => ((signalmanref1_Mod.f (w64 (t1 + 1)) a1).bind fun t3 => some (t3)))
set_option maxRecDepth 100000 in
set_option maxHeartbeats 4000000 in
theorem signalmanref1_Next.calls (a0 : Int) (a1 : Int) (R : As) (w0 w : World)  (r : Int)  (H : signalmanref1_Next.f a0 a1 = some r) (HS : Sep.St [R] w0 w) : Calls Try.prog 16 #[Value.int .i64 (a0), Value.int .i64 (a1)] w (Ret fun u w => u = Value.int .i64 (r) ∧ Sep.St [R] w0 w) := by
  unfold signalmanref1_Next.f at H
  refine calls_enter Try.func16 rfl rfl ?_
  have H : _ = some r := H
  refine V.seq ?_
  refine V.region ?_
  refine W.rd (X.assign rfl) rfl rfl rfl ?_
  refine W.nil ?_
  refine At.next ?_
  refine V.keep [(0, Value.int .i64 (a0)), (1, Value.int .i64 (a1))] ⟨rfl, rfl, trivial⟩ ?_
  refine V.seq ?_
  refine V.region ?_
  refine W.rd (X.move rfl) rfl rfl rfl ?_
  refine W.rd (X.move rfl) rfl rfl rfl ?_
  obtain ⟨t1, A2, H⟩ := bind_s H
  refine W.ev (Y.call Try.func32 (by kernel_rfl) rfl (vs := [Value.int .i64 (a0), Value.int .i64 (a1)]) rfl (signalmanref1_Mod.calls a0 a1 _ w0 _  t1  A2 (Sep.St.tailJoin (m := []) (r := [R]) HS))) rfl rfl rfl ?_
  rintro _ w ⟨rfl, HS⟩
  replace HS := Sep.St.tailOpen (m := []) (r := [R]) HS
  have HS : Sep.St [R] w0 w := HS
  refine W.rd (X.add rfl rfl) rfl rfl rfl ?_
  refine W.rd (X.move rfl) rfl rfl rfl ?_
  obtain ⟨t3, A4, H⟩ := bind_s H
  refine W.ev (Y.call Try.func32 (by kernel_rfl) rfl (vs := [Value.int .i64 (w64 (t1 + 1)), Value.int .i64 (a1)]) rfl (signalmanref1_Mod.calls (w64 (t1 + 1)) a1 _ w0 _  t3  A4 (Sep.St.tailJoin (m := []) (r := [R]) HS))) rfl rfl rfl ?_
  rintro _ w ⟨rfl, HS⟩
  replace HS := Sep.St.tailOpen (m := []) (r := [R]) HS
  have HS : Sep.St [R] w0 w := HS
  refine W.rd (X.assign rfl) rfl rfl rfl ?_
  refine W.nil ?_
  refine At.next ?_
  refine V.keep [(4, Value.int .i64 (t3))] ⟨rfl, trivial⟩ ?_
  refine V.ret ?_
  cases H
  exact At.ret1 rfl rfl ⟨_, rfl, rfl, HS⟩

def signalmanref6_message.at (b : Nat) (x : signalmanref6_message) : As := fun h => (True) ∧ ∃ a1 : Option Addr, ∃ c1 : Nat, Sp [blk b (#[Value.int .i64 ((x.n)), Value.slice a1 ((x.b)).length c1]) 63, fsl 1 (.slice a1 ((x.b)).length c1) ((x.b)).length (((x.b)).map (Value.int .u8))] h
theorem signalmanref6_message.open {b : Nat} {x : signalmanref6_message} {L : List As} {w0 w : World} (hs : Sep.St (signalmanref6_message.at b x :: L) w0 w) : ∃ a1 : Option Addr, ∃ c1 : Nat, (True) ∧ Sep.St (blk b (#[Value.int .i64 ((x.n)), Value.slice a1 ((x.b)).length c1]) 63 :: fsl 1 (.slice a1 ((x.b)).length c1) ((x.b)).length (((x.b)).map (Value.int .u8)) :: L) w0 w := by
  have h1 := St.pure.1 (show St ((fun h => (True) ∧ (fun h => ∃ a1 : Option Addr, ∃ c1 : Nat, Sp [blk b (#[Value.int .i64 ((x.n)), Value.slice a1 ((x.b)).length c1]) 63, fsl 1 (.slice a1 ((x.b)).length c1) ((x.b)).length (((x.b)).map (Value.int .u8))] h) h) :: L) w0 w from hs)
  obtain ⟨hi, hs⟩ := h1
  obtain ⟨a1, hs⟩ := St.ex.1 (show St ((fun h => ∃ a1 : Option Addr, (fun h => ∃ c1 : Nat, Sp [blk b (#[Value.int .i64 ((x.n)), Value.slice a1 ((x.b)).length c1]) 63, fsl 1 (.slice a1 ((x.b)).length c1) ((x.b)).length (((x.b)).map (Value.int .u8))] h) h) :: L) w0 w from hs)
  obtain ⟨c1, hs⟩ := St.ex.1 (show St ((fun h => ∃ c1 : Nat, (fun h => Sp [blk b (#[Value.int .i64 ((x.n)), Value.slice a1 ((x.b)).length c1]) 63, fsl 1 (.slice a1 ((x.b)).length c1) ((x.b)).length (((x.b)).map (Value.int .u8))] h) h) :: L) w0 w from hs)
  exact ⟨a1, c1, hi, St.open (m := [blk b (#[Value.int .i64 ((x.n)), Value.slice a1 ((x.b)).length c1]) 63, fsl 1 (.slice a1 ((x.b)).length c1) ((x.b)).length (((x.b)).map (Value.int .u8))]) hs⟩
theorem signalmanref6_message.close {b : Nat} (x : signalmanref6_message) {a1 : Option Addr} {c1 : Nat} {L : List As} {w0 w : World} (hi : True) (hs : Sep.St (blk b (#[Value.int .i64 ((x.n)), Value.slice a1 ((x.b)).length c1]) 63 :: fsl 1 (.slice a1 ((x.b)).length c1) ((x.b)).length (((x.b)).map (Value.int .u8)) :: L) w0 w) : Sep.St (signalmanref6_message.at b x :: L) w0 w := by
  have h2 := St.join (m := [blk b (#[Value.int .i64 ((x.n)), Value.slice a1 ((x.b)).length c1]) 63, fsl 1 (.slice a1 ((x.b)).length c1) ((x.b)).length (((x.b)).map (Value.int .u8))]) hs
  exact h2.mono fun h hh => ⟨hi, _, _, hh⟩
end Go.Proofs.Ytdnfojgnbhcijaa

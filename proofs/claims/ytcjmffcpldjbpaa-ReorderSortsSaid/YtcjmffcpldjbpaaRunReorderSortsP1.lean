/- ReorderSorts: the functions that its law reaches, as plain functions, and that the machine's calls come to what these say. Conditions: those that stand at each. -/
import Derived.Test.YtcjmffcpldjbpaaProg
import Derived.Test.YtcjmffcpldjbpaaMaps
set_option linter.all false
namespace Go.Proofs.Ytcjmffcpldjbpaa
open Go.RowKit Go.Proofs.Ytcjmffcpldjbpaa.Sep Go.Proofs.Ytcjmffcpldjbpaa.Walk
theorem inf3 : (Try.prog.info? 3).map (·.size) = some 1 := by kernel_rfl
theorem inf4 : (Try.prog.info? 4).map (·.size) = some 1 := by kernel_rfl
theorem inf26 : (Try.prog.info? 26).map (·.size) = some 1 := by kernel_rfl
theorem inf45 : (Try.prog.info? 45).map (·.size) = some 1 := by kernel_rfl
theorem fo47_0 : fieldOff Try.prog 47 0 = some 0 := by kernel_rfl
theorem fo47_1 : fieldOff Try.prog 47 1 = some 1 := by kernel_rfl
theorem fo47_2 : fieldOff Try.prog 47 2 = some 2 := by kernel_rfl
theorem fo47_3 : fieldOff Try.prog 47 3 = some 3 := by kernel_rfl
theorem fo47_4 : fieldOff Try.prog 47 4 = some 4 := by kernel_rfl
theorem ap4 : (Try.prog.info? 4).map (fun i => (i.zero, i.size, i.bytes)) = some (some (.bool false), 1, 1) := by kernel_rfl
theorem ap5 : (Try.prog.info? 5).map (fun i => (i.zero, i.size, i.bytes)) = some (some (.int .u8 0), 1, 1) := by kernel_rfl
theorem ap26 : (Try.prog.info? 26).map (fun i => (i.zero, i.size, i.bytes)) = some (some (.slice none 0 0), 1, 24) := by kernel_rfl
theorem ze26 : (Try.prog.info? 26).bind (·.zero) = some (Value.slice none 0 0) := by kernel_rfl
theorem mo : Try.prog.follows .mixedOrders = true := by kernel_rfl

/-! ### signalman/backlog.Cut: function 20 -/
def backlog_Cut.f (a0 : Int) (a1 : Int) : Option (Int × Int) := some (imax (8) (imin (a0) (32768)), imax (1) (imin (a1) (w64 ((imax (8) (imin (a0) (32768))).tdiv (8)))))
set_option maxRecDepth 100000 in
set_option maxHeartbeats 4000000 in
theorem backlog_Cut.calls (a0 : Int) (a1 : Int) (R : As) (w0 w : World)  (r : Int × Int)  (H : backlog_Cut.f a0 a1 = some r) (HS : Sep.St [R] w0 w) : Calls Try.prog 20 #[Value.int .i64 (a0), Value.int .i64 (a1)] w (Ret fun u w => u = Value.tuple #[Value.int .i64 (r.1), Value.int .i64 (r.2)] ∧ Sep.St [R] w0 w) := by
  unfold backlog_Cut.f at H
  refine calls_enter Try.func20 rfl rfl ?_
  have H : _ = some r := H
  refine V.seq ?_
  refine V.region ?_
  refine W.rd (X.assign rfl) rfl rfl rfl ?_
  refine W.rd (X.assign rfl) rfl rfl rfl ?_
  refine W.nil ?_
  refine At.next ?_
  refine V.keep [(0, Value.int .i64 (a0)), (1, Value.int .i64 (a1))] ⟨rfl, rfl, trivial⟩ ?_
  refine V.seq ?_
  refine V.region ?_
  refine W.rd (X.move rfl) rfl rfl rfl ?_
  refine W.rd (X.min2 rfl rfl) rfl rfl rfl ?_
  refine W.rd (X.max2 rfl rfl) rfl rfl rfl ?_
  refine W.rd (X.assign rfl) rfl rfl rfl ?_
  refine W.nil ?_
  refine At.next ?_
  refine V.keep [(0, Value.int .i64 (imax (8) (imin (a0) (32768)))), (1, Value.int .i64 (a1))] ⟨rfl, rfl, trivial⟩ ?_
  refine V.seq ?_
  refine V.region ?_
  refine W.rd (X.move rfl) rfl rfl rfl ?_
  refine W.rd (X.move rfl) rfl rfl rfl ?_
  refine W.rd (X.move rfl) rfl rfl rfl ?_
  refine W.rd (X.quo rfl rfl (by decide)) rfl rfl rfl ?_
  refine W.rd (X.min2 rfl rfl) rfl rfl rfl ?_
  refine W.rd (X.max2 rfl rfl) rfl rfl rfl ?_
  refine W.rd (X.assign rfl) rfl rfl rfl ?_
  refine W.rd (X.assign rfl) rfl rfl rfl ?_
  refine W.nil ?_
  refine At.next ?_
  refine V.keep [(4, Value.int .i64 (imax (8) (imin (a0) (32768)))), (5, Value.int .i64 (imax (1) (imin (a1) (w64 ((imax (8) (imin (a0) (32768))).tdiv (8))))))] ⟨rfl, rfl, trivial⟩ ?_
  refine V.ret ?_
  cases H
  exact At.ret2 rfl rfl rfl ⟨_, rfl, rfl, HS⟩

structure reorder_Order where
  m : Int
  window : Int
  next : Int
  kept : List (Int × (List Int))
  ready : List (List Int)
deriving DecidableEq, Inhabited

def reorder_Order.at (b : Nat) (x : reorder_Order) : As := fun h => (True) ∧ ∃ b3 : Nat, ∃ k3 : List (Int × Value), ∃ a4 : Option Addr, ∃ c4 : Nat, ∃ d4 : List Value, Sp [blk b (#[Value.int .i64 ((x.m)), Value.int .i64 ((x.window)), Value.int .i64 ((x.next)), Value.map (some b3), Value.slice a4 ((x.ready)).length c4]) 47, mblk b3 k3, tieM (El.sl (El.int .u8)) k3 ((x.kept)), row 26 1 (.slice a4 ((x.ready)).length c4) ((x.ready)).length d4, tie (El.sl (El.int .u8)) d4 ((x.ready))] h
theorem reorder_Order.open {b : Nat} {x : reorder_Order} {L : List As} {w0 w : World} (hs : Sep.St (reorder_Order.at b x :: L) w0 w) : ∃ b3 : Nat, ∃ k3 : List (Int × Value), ∃ a4 : Option Addr, ∃ c4 : Nat, ∃ d4 : List Value, (True) ∧ Sep.St (blk b (#[Value.int .i64 ((x.m)), Value.int .i64 ((x.window)), Value.int .i64 ((x.next)), Value.map (some b3), Value.slice a4 ((x.ready)).length c4]) 47 :: mblk b3 k3 :: tieM (El.sl (El.int .u8)) k3 ((x.kept)) :: row 26 1 (.slice a4 ((x.ready)).length c4) ((x.ready)).length d4 :: tie (El.sl (El.int .u8)) d4 ((x.ready)) :: L) w0 w := by
  have h1 := St.pure.1 (show St ((fun h => (True) ∧ (fun h => ∃ b3 : Nat, ∃ k3 : List (Int × Value), ∃ a4 : Option Addr, ∃ c4 : Nat, ∃ d4 : List Value, Sp [blk b (#[Value.int .i64 ((x.m)), Value.int .i64 ((x.window)), Value.int .i64 ((x.next)), Value.map (some b3), Value.slice a4 ((x.ready)).length c4]) 47, mblk b3 k3, tieM (El.sl (El.int .u8)) k3 ((x.kept)), row 26 1 (.slice a4 ((x.ready)).length c4) ((x.ready)).length d4, tie (El.sl (El.int .u8)) d4 ((x.ready))] h) h) :: L) w0 w from hs)
  obtain ⟨hi, hs⟩ := h1
  obtain ⟨b3, hs⟩ := St.ex.1 (show St ((fun h => ∃ b3 : Nat, (fun h => ∃ k3 : List (Int × Value), ∃ a4 : Option Addr, ∃ c4 : Nat, ∃ d4 : List Value, Sp [blk b (#[Value.int .i64 ((x.m)), Value.int .i64 ((x.window)), Value.int .i64 ((x.next)), Value.map (some b3), Value.slice a4 ((x.ready)).length c4]) 47, mblk b3 k3, tieM (El.sl (El.int .u8)) k3 ((x.kept)), row 26 1 (.slice a4 ((x.ready)).length c4) ((x.ready)).length d4, tie (El.sl (El.int .u8)) d4 ((x.ready))] h) h) :: L) w0 w from hs)
  obtain ⟨k3, hs⟩ := St.ex.1 (show St ((fun h => ∃ k3 : List (Int × Value), (fun h => ∃ a4 : Option Addr, ∃ c4 : Nat, ∃ d4 : List Value, Sp [blk b (#[Value.int .i64 ((x.m)), Value.int .i64 ((x.window)), Value.int .i64 ((x.next)), Value.map (some b3), Value.slice a4 ((x.ready)).length c4]) 47, mblk b3 k3, tieM (El.sl (El.int .u8)) k3 ((x.kept)), row 26 1 (.slice a4 ((x.ready)).length c4) ((x.ready)).length d4, tie (El.sl (El.int .u8)) d4 ((x.ready))] h) h) :: L) w0 w from hs)
  obtain ⟨a4, hs⟩ := St.ex.1 (show St ((fun h => ∃ a4 : Option Addr, (fun h => ∃ c4 : Nat, ∃ d4 : List Value, Sp [blk b (#[Value.int .i64 ((x.m)), Value.int .i64 ((x.window)), Value.int .i64 ((x.next)), Value.map (some b3), Value.slice a4 ((x.ready)).length c4]) 47, mblk b3 k3, tieM (El.sl (El.int .u8)) k3 ((x.kept)), row 26 1 (.slice a4 ((x.ready)).length c4) ((x.ready)).length d4, tie (El.sl (El.int .u8)) d4 ((x.ready))] h) h) :: L) w0 w from hs)
  obtain ⟨c4, hs⟩ := St.ex.1 (show St ((fun h => ∃ c4 : Nat, (fun h => ∃ d4 : List Value, Sp [blk b (#[Value.int .i64 ((x.m)), Value.int .i64 ((x.window)), Value.int .i64 ((x.next)), Value.map (some b3), Value.slice a4 ((x.ready)).length c4]) 47, mblk b3 k3, tieM (El.sl (El.int .u8)) k3 ((x.kept)), row 26 1 (.slice a4 ((x.ready)).length c4) ((x.ready)).length d4, tie (El.sl (El.int .u8)) d4 ((x.ready))] h) h) :: L) w0 w from hs)
  obtain ⟨d4, hs⟩ := St.ex.1 (show St ((fun h => ∃ d4 : List Value, (fun h => Sp [blk b (#[Value.int .i64 ((x.m)), Value.int .i64 ((x.window)), Value.int .i64 ((x.next)), Value.map (some b3), Value.slice a4 ((x.ready)).length c4]) 47, mblk b3 k3, tieM (El.sl (El.int .u8)) k3 ((x.kept)), row 26 1 (.slice a4 ((x.ready)).length c4) ((x.ready)).length d4, tie (El.sl (El.int .u8)) d4 ((x.ready))] h) h) :: L) w0 w from hs)
  exact ⟨b3, k3, a4, c4, d4, hi, St.open (m := [blk b (#[Value.int .i64 ((x.m)), Value.int .i64 ((x.window)), Value.int .i64 ((x.next)), Value.map (some b3), Value.slice a4 ((x.ready)).length c4]) 47, mblk b3 k3, tieM (El.sl (El.int .u8)) k3 ((x.kept)), row 26 1 (.slice a4 ((x.ready)).length c4) ((x.ready)).length d4, tie (El.sl (El.int .u8)) d4 ((x.ready))]) hs⟩
theorem reorder_Order.close {b : Nat} (x : reorder_Order) {b3 : Nat} {k3 : List (Int × Value)} {a4 : Option Addr} {c4 : Nat} {d4 : List Value} {L : List As} {w0 w : World} (hi : True) (hs : Sep.St (blk b (#[Value.int .i64 ((x.m)), Value.int .i64 ((x.window)), Value.int .i64 ((x.next)), Value.map (some b3), Value.slice a4 ((x.ready)).length c4]) 47 :: mblk b3 k3 :: tieM (El.sl (El.int .u8)) k3 ((x.kept)) :: row 26 1 (.slice a4 ((x.ready)).length c4) ((x.ready)).length d4 :: tie (El.sl (El.int .u8)) d4 ((x.ready)) :: L) w0 w) : Sep.St (reorder_Order.at b x :: L) w0 w := by
  have h2 := St.join (m := [blk b (#[Value.int .i64 ((x.m)), Value.int .i64 ((x.window)), Value.int .i64 ((x.next)), Value.map (some b3), Value.slice a4 ((x.ready)).length c4]) 47, mblk b3 k3, tieM (El.sl (El.int .u8)) k3 ((x.kept)), row 26 1 (.slice a4 ((x.ready)).length c4) ((x.ready)).length d4, tie (El.sl (El.int .u8)) d4 ((x.ready))]) hs
  exact h2.mono fun h hh => ⟨hi, _, _, _, _, _, hh⟩

/-! ### signalman/reorder.New: function 8 -/
def reorder_New.f (a0 : Int) (a1 : Int) : Option (reorder_Order) := ((backlog_Cut.f a0 a1).bind fun t1 => some (({ m := t1.1, window := t1.2, next := 0, kept := ([] : List (Int × (List Int))), ready := ([] : List (List Int)) } : reorder_Order)))
set_option maxRecDepth 100000 in
set_option maxHeartbeats 4000000 in
theorem reorder_New.calls (a0 : Int) (a1 : Int) (R : As) (w0 w : World)  (r : reorder_Order)  (H : reorder_New.f a0 a1 = some r) (HS : Sep.St [R] w0 w) : Calls Try.prog 8 #[Value.int .i64 (a0), Value.int .i64 (a1)] w (Ret fun u w => ∃ (bq0 : Nat), u = Value.pointer (some ⟨bq0, 0, none⟩) ∧ Sep.St [reorder_Order.at bq0 (r), R] w0 w) := by
  unfold reorder_New.f at H
  refine calls_enter Try.func8 rfl rfl ?_
  have H : _ = some r := H
  refine V.seq ?_
  refine V.region ?_
  refine W.rd (X.assign rfl) rfl rfl rfl ?_
  refine W.nil ?_
  refine At.next ?_
  refine V.keep [(0, Value.int .i64 (a0)), (1, Value.int .i64 (a1))] ⟨rfl, rfl, trivial⟩ ?_
  refine V.seq ?_
  refine V.region ?_
  refine W.rd (X.move rfl) rfl rfl rfl ?_
  refine W.rd (X.move rfl) rfl rfl rfl ?_
  obtain ⟨t1, A2, H⟩ := bind_s H
  refine W.ev (Y.call Try.func20 (by kernel_rfl) rfl (vs := [Value.int .i64 (a0), Value.int .i64 (a1)]) rfl (backlog_Cut.calls a0 a1 _ w0 _  t1  A2 (Sep.St.tailJoin (m := []) (r := [R]) HS))) rfl rfl rfl ?_
  rintro _ w ⟨rfl, HS⟩
  replace HS := Sep.St.tailOpen (m := []) (r := [R]) HS
  have HS : Sep.St [R] w0 w := HS
  refine W.rd (X.move rfl) rfl rfl rfl ?_
  refine W.rd (X.extract rfl rfl) rfl rfl rfl ?_
  refine W.rd (X.extract rfl rfl) rfl rfl rfl ?_
  refine W.rd (X.assign rfl) rfl rfl rfl ?_
  refine W.rd (X.assign rfl) rfl rfl rfl ?_
  refine W.nil ?_
  refine At.next ?_
  refine V.keep [(0, Value.int .i64 (t1.1)), (1, Value.int .i64 (t1.2))] ⟨rfl, rfl, trivial⟩ ?_
  refine V.seq ?_
  refine V.region ?_
  refine W.rd (X.move rfl) rfl rfl rfl ?_
  refine W.rd (X.move rfl) rfl rfl rfl ?_
  refine W.ev (Y.makeMap HS) rfl rfl rfl ?_
  rintro _ w ⟨mb3, rfl, HS⟩
  replace HS := St.put (A := tieM (El.sl (El.int .u8)) ([]) (([] : List (Int × (List Int))))) (fun _ => trivial) HS
  have HS : Sep.St [tieM (El.sl (El.int .u8)) ([]) (([] : List (Int × (List Int)))), mblk mb3 ([]), R] w0 w := HS
  refine W.rd (X.build (vs := #[(0, Value.int .i64 (t1.1)), (1, Value.int .i64 (t1.2)), (3, Value.map (some mb3))]) (v := Value.agg #[Value.int .i64 (t1.1), Value.int .i64 (t1.2), Value.int .i64 (0), Value.map (some mb3), Value.slice none 0 0]) (fun a ha => by simp only [List.map_toArray, List.map_cons, List.map_nil]; rw [ha.ev (x := .tmp 11) (v := Value.int .i64 (t1.1)) rfl]; rw [ha.ev (x := .tmp 12) (v := Value.int .i64 (t1.2)) rfl]; rw [ha.ev (x := .tmp 13) (v := Value.map (some mb3)) rfl]; try rfl) (fun _ => by kernel_rfl)) rfl rfl rfl ?_
  refine W.ev (Y.box HS rfl) rfl rfl rfl ?_
  rintro _ w ⟨nb4, rfl, HS⟩
  have HS : Sep.St [blk nb4 (#[Value.int .i64 (t1.1), Value.int .i64 (t1.2), Value.int .i64 (0), Value.map (some mb3), Value.slice none 0 0]) 47, tieM (El.sl (El.int .u8)) ([]) (([] : List (Int × (List Int)))), mblk mb3 ([]), R] w0 w := HS
  refine W.rd (X.assign rfl) rfl rfl rfl ?_
  refine W.nil ?_
  refine At.next ?_
  refine V.keep [(4, Value.pointer (some ⟨nb4, 0, none⟩))] ⟨rfl, trivial⟩ ?_
  refine V.ret ?_
  replace HS := row_nil' (e := 26) 1 none (St.put (A := tie (El.sl (El.int .u8)) ([]) (([] : List (List Int)))) (fun _ => tie.nil) HS)
  have HS : Sep.St [row 26 1 (.slice none (([] : List (List Int))).length 0) (([] : List (List Int))).length ([]), tie (El.sl (El.int .u8)) ([]) (([] : List (List Int))), blk nb4 (#[Value.int .i64 (t1.1), Value.int .i64 (t1.2), Value.int .i64 (0), Value.map (some mb3), Value.slice none 0 0]) 47, tieM (El.sl (El.int .u8)) ([]) (([] : List (Int × (List Int)))), mblk mb3 ([]), R] w0 w := HS
  replace HS := HS.re [2, 4, 3, 0, 1, 5] (by kernel_rfl)
  have HS : Sep.St [blk nb4 (#[Value.int .i64 (t1.1), Value.int .i64 (t1.2), Value.int .i64 (0), Value.map (some mb3), Value.slice none (([] : List (List Int))).length 0]) 47, mblk mb3 ([]), tieM (El.sl (El.int .u8)) ([]) (([] : List (Int × (List Int)))), row 26 1 (.slice none (([] : List (List Int))).length 0) (([] : List (List Int))).length ([]), tie (El.sl (El.int .u8)) ([]) (([] : List (List Int))), R] w0 w := HS
  replace HS := reorder_Order.close (({ m := t1.1, window := t1.2, next := 0, kept := ([] : List (Int × (List Int))), ready := ([] : List (List Int)) } : reorder_Order)) trivial HS
  have HS : Sep.St [reorder_Order.at nb4 (({ m := t1.1, window := t1.2, next := 0, kept := ([] : List (Int × (List Int))), ready := ([] : List (List Int)) } : reorder_Order)), R] w0 w := HS
  cases H
  exact At.ret1 rfl rfl ⟨_, rfl, nb4, rfl, HS⟩

/-! ### signalman/serial.round: function 29 -/
def serial_round.f (a0 : Int) (a1 : Int) : Option (Int × Int) := (if ¬ (imax (1) (imin (a1) (1073741824)) = 0) then (if ((a0).tmod (imax (1) (imin (a1) (1073741824)))) < 0 then some (w64 (((a0).tmod (imax (1) (imin (a1) (1073741824)))) + (imax (1) (imin (a1) (1073741824)))), imax (1) (imin (a1) (1073741824))) else some ((a0).tmod (imax (1) (imin (a1) (1073741824))), imax (1) (imin (a1) (1073741824)))) else none)
set_option maxRecDepth 100000 in
set_option maxHeartbeats 4000000 in
theorem serial_round.calls (a0 : Int) (a1 : Int) (R : As) (w0 w : World)  (r : Int × Int)  (H : serial_round.f a0 a1 = some r) (HS : Sep.St [R] w0 w) : Calls Try.prog 29 #[Value.int .i64 (a0), Value.int .i64 (a1)] w (Ret fun u w => u = Value.tuple #[Value.int .i64 (r.1), Value.int .i64 (r.2)] ∧ Sep.St [R] w0 w) := by
  unfold serial_round.f at H
  refine calls_enter Try.func29 rfl rfl ?_
  have H : _ = some r := H
  refine V.seq ?_
  refine V.region ?_
  refine W.rd (X.assign rfl) rfl rfl rfl ?_
  refine W.rd (X.assign rfl) rfl rfl rfl ?_
  refine W.nil ?_
  refine At.next ?_
  refine V.keep [(0, Value.int .i64 (a0)), (1, Value.int .i64 (a1))] ⟨rfl, rfl, trivial⟩ ?_
  refine V.seq ?_
  refine V.region ?_
  refine W.rd (X.move rfl) rfl rfl rfl ?_
  refine W.rd (X.min2 rfl rfl) rfl rfl rfl ?_
  refine W.rd (X.max2 rfl rfl) rfl rfl rfl ?_
  refine W.rd (X.assign rfl) rfl rfl rfl ?_
  refine W.nil ?_
  refine At.next ?_
  refine V.keep [(0, Value.int .i64 (a0)), (1, Value.int .i64 (imax (1) (imin (a1) (1073741824))))] ⟨rfl, rfl, trivial⟩ ?_
  refine V.seq ?_
  refine V.region ?_
  refine W.rd (X.move rfl) rfl rfl rfl ?_
  refine W.rd (X.move rfl) rfl rfl rfl ?_
  obtain ⟨c1, H⟩ := ite_n H
  refine W.rd (X.rem rfl rfl c1) rfl rfl rfl ?_
  refine W.rd (X.assign rfl) rfl rfl rfl ?_
  refine W.nil ?_
  refine At.next ?_
  refine V.keep [(0, Value.int .i64 ((a0).tmod (imax (1) (imin (a1) (1073741824))))), (1, Value.int .i64 (imax (1) (imin (a1) (1073741824))))] ⟨rfl, rfl, trivial⟩ ?_
  refine V.seq ?_
  refine V.seq ?_
  refine V.region ?_
  refine W.rd (X.move rfl) rfl rfl rfl ?_
  refine W.rd (X.cmp (decide (((a0).tmod (imax (1) (imin (a1) (1073741824)))) < 0)) rfl rfl rfl rfl) rfl rfl rfl ?_
  refine W.nil ?_
  refine At.next ?_
  refine V.keep [(0, Value.int .i64 ((a0).tmod (imax (1) (imin (a1) (1073741824))))), (1, Value.int .i64 (imax (1) (imin (a1) (1073741824)))), (13, Value.bool (decide (((a0).tmod (imax (1) (imin (a1) (1073741824)))) < 0)))] ⟨rfl, rfl, rfl, trivial⟩ ?_
  by_cases c2 : ((a0).tmod (imax (1) (imin (a1) (1073741824)))) < 0
  · replace H := ite_t c2 H
    refine V.condT (sb (decide_eq_true c2)) ?_
    refine V.region ?_
    refine W.rd (X.move rfl) rfl rfl rfl ?_
    refine W.rd (X.move rfl) rfl rfl rfl ?_
    refine W.rd (X.add rfl rfl) rfl rfl rfl ?_
    refine W.rd (X.assign rfl) rfl rfl rfl ?_
    refine W.nil ?_
    refine At.next ?_
    refine V.keep [(0, Value.int .i64 (w64 (((a0).tmod (imax (1) (imin (a1) (1073741824)))) + (imax (1) (imin (a1) (1073741824)))))), (1, Value.int .i64 (imax (1) (imin (a1) (1073741824))))] ⟨rfl, rfl, trivial⟩ ?_
    refine V.seq ?_
    refine V.region ?_
    refine W.rd (X.move rfl) rfl rfl rfl ?_
    refine W.rd (X.move rfl) rfl rfl rfl ?_
    refine W.rd (X.assign rfl) rfl rfl rfl ?_
    refine W.rd (X.assign rfl) rfl rfl rfl ?_
    refine W.nil ?_
    refine At.next ?_
    refine V.keep [(4, Value.int .i64 (w64 (((a0).tmod (imax (1) (imin (a1) (1073741824)))) + (imax (1) (imin (a1) (1073741824)))))), (5, Value.int .i64 (imax (1) (imin (a1) (1073741824))))] ⟨rfl, rfl, trivial⟩ ?_
    refine V.ret ?_
    cases H
    exact At.ret2 rfl rfl rfl ⟨_, rfl, rfl, HS⟩
  · replace H := ite_f c2 H
    refine V.condF (sb (decide_eq_false c2)) ?_
    refine V.skip ?_
    refine At.next ?_
    refine V.keep [(0, Value.int .i64 ((a0).tmod (imax (1) (imin (a1) (1073741824))))), (1, Value.int .i64 (imax (1) (imin (a1) (1073741824))))] ⟨rfl, rfl, trivial⟩ ?_
    refine V.seq ?_
    refine V.region ?_
    refine W.rd (X.move rfl) rfl rfl rfl ?_
    refine W.rd (X.move rfl) rfl rfl rfl ?_
    refine W.rd (X.assign rfl) rfl rfl rfl ?_
    refine W.rd (X.assign rfl) rfl rfl rfl ?_
    refine W.nil ?_
    refine At.next ?_
    refine V.keep [(4, Value.int .i64 ((a0).tmod (imax (1) (imin (a1) (1073741824))))), (5, Value.int .i64 (imax (1) (imin (a1) (1073741824))))] ⟨rfl, rfl, trivial⟩ ?_
    refine V.ret ?_
    cases H
    exact At.ret2 rfl rfl rfl ⟨_, rfl, rfl, HS⟩

/-! ### signalman/serial.Dist: function 21 -/
def serial_Dist.f (a0 : Int) (a1 : Int) (a2 : Int) : Option (Int) := ((serial_round.f a0 a2).bind fun t1 => ((serial_round.f a1 a2).bind fun t3 => ((serial_round.f (w64 (t3.1 - t1.1)) t3.2).bind fun t5 => some (t5.1))))
set_option maxRecDepth 100000 in
set_option maxHeartbeats 4000000 in
theorem serial_Dist.calls (a0 : Int) (a1 : Int) (a2 : Int) (R : As) (w0 w : World)  (r : Int)  (H : serial_Dist.f a0 a1 a2 = some r) (HS : Sep.St [R] w0 w) : Calls Try.prog 21 #[Value.int .i64 (a0), Value.int .i64 (a1), Value.int .i64 (a2)] w (Ret fun u w => u = Value.int .i64 (r) ∧ Sep.St [R] w0 w) := by
  unfold serial_Dist.f at H
  refine calls_enter Try.func21 rfl rfl ?_
  have H : _ = some r := H
  refine V.seq ?_
  refine V.region ?_
  refine W.rd (X.assign rfl) rfl rfl rfl ?_
  refine W.nil ?_
  refine At.next ?_
  refine V.keep [(0, Value.int .i64 (a0)), (1, Value.int .i64 (a1)), (2, Value.int .i64 (a2))] ⟨rfl, rfl, rfl, trivial⟩ ?_
  refine V.seq ?_
  refine V.region ?_
  refine W.rd (X.move rfl) rfl rfl rfl ?_
  refine W.rd (X.move rfl) rfl rfl rfl ?_
  obtain ⟨t1, A2, H⟩ := bind_s H
  refine W.ev (Y.call Try.func29 (by kernel_rfl) rfl (vs := [Value.int .i64 (a0), Value.int .i64 (a2)]) rfl (serial_round.calls a0 a2 _ w0 _  t1  A2 (Sep.St.tailJoin (m := []) (r := [R]) HS))) rfl rfl rfl ?_
  rintro _ w ⟨rfl, HS⟩
  replace HS := Sep.St.tailOpen (m := []) (r := [R]) HS
  have HS : Sep.St [R] w0 w := HS
  refine W.rd (X.move rfl) rfl rfl rfl ?_
  refine W.rd (X.extract rfl rfl) rfl rfl rfl ?_
  refine W.rd (X.extract rfl rfl) rfl rfl rfl ?_
  refine W.rd (X.assign rfl) rfl rfl rfl ?_
  refine W.nil ?_
  refine At.next ?_
  refine V.keep [(0, Value.int .i64 (t1.1)), (1, Value.int .i64 (a1)), (2, Value.int .i64 (a2))] ⟨rfl, rfl, rfl, trivial⟩ ?_
  refine V.seq ?_
  refine V.region ?_
  refine W.rd (X.move rfl) rfl rfl rfl ?_
  refine W.rd (X.move rfl) rfl rfl rfl ?_
  obtain ⟨t3, A4, H⟩ := bind_s H
  refine W.ev (Y.call Try.func29 (by kernel_rfl) rfl (vs := [Value.int .i64 (a1), Value.int .i64 (a2)]) rfl (serial_round.calls a1 a2 _ w0 _  t3  A4 (Sep.St.tailJoin (m := []) (r := [R]) HS))) rfl rfl rfl ?_
  rintro _ w ⟨rfl, HS⟩
  replace HS := Sep.St.tailOpen (m := []) (r := [R]) HS
  have HS : Sep.St [R] w0 w := HS
  refine W.rd (X.move rfl) rfl rfl rfl ?_
  refine W.rd (X.extract rfl rfl) rfl rfl rfl ?_
  refine W.rd (X.extract rfl rfl) rfl rfl rfl ?_
  refine W.rd (X.assign rfl) rfl rfl rfl ?_
  refine W.rd (X.assign rfl) rfl rfl rfl ?_
  refine W.nil ?_
  refine At.next ?_
  refine V.keep [(0, Value.int .i64 (t1.1)), (1, Value.int .i64 (t3.1)), (2, Value.int .i64 (t3.2))] ⟨rfl, rfl, rfl, trivial⟩ ?_
  refine V.seq ?_
  refine V.region ?_
  refine W.rd (X.move rfl) rfl rfl rfl ?_
  refine W.rd (X.move rfl) rfl rfl rfl ?_
  refine W.rd (X.sub rfl rfl) rfl rfl rfl ?_
  refine W.rd (X.move rfl) rfl rfl rfl ?_
  obtain ⟨t5, A6, H⟩ := bind_s H
  refine W.ev (Y.call Try.func29 (by kernel_rfl) rfl (vs := [Value.int .i64 (w64 (t3.1 - t1.1)), Value.int .i64 (t3.2)]) rfl (serial_round.calls (w64 (t3.1 - t1.1)) t3.2 _ w0 _  t5  A6 (Sep.St.tailJoin (m := []) (r := [R]) HS))) rfl rfl rfl ?_
  rintro _ w ⟨rfl, HS⟩
  replace HS := Sep.St.tailOpen (m := []) (r := [R]) HS
  have HS : Sep.St [R] w0 w := HS
  refine W.rd (X.move rfl) rfl rfl rfl ?_
  refine W.rd (X.extract rfl rfl) rfl rfl rfl ?_
  refine W.rd (X.extract rfl rfl) rfl rfl rfl ?_
  refine W.rd (X.assign rfl) rfl rfl rfl ?_
  refine W.rd (X.assign rfl) rfl rfl rfl ?_
  refine W.nil ?_
  refine At.next ?_
  refine V.keep [(7, Value.int .i64 (t5.1))] ⟨rfl, trivial⟩ ?_
  refine V.seq ?_
  refine V.region ?_
  refine W.rd (X.move rfl) rfl rfl rfl ?_
  refine W.rd (X.assign rfl) rfl rfl rfl ?_
  refine W.nil ?_
  refine At.next ?_
  refine V.keep [(6, Value.int .i64 (t5.1))] ⟨rfl, trivial⟩ ?_
  refine V.ret ?_
  cases H
  exact At.ret1 rfl rfl ⟨_, rfl, rfl, HS⟩

/-! ### slices.Clone[[]byte,byte]: function 22 -/
def slices_Clone_Sbytebyte.f (a0 : List Int) : Option (List Int) := (if ((([] : List Int)).length : Int) + (a0).length ≤ 1099511627776 then some (([] : List Int) ++ a0) else none)
set_option maxRecDepth 100000 in
set_option maxHeartbeats 4000000 in
theorem slices_Clone_Sbytebyte.calls (a0 : List Int) (R : As) (w0 w : World) (sa0 : Option Addr) (sc0 : Nat) (r : List Int) (hr0 : rdC R 1 (.slice sa0 (a0).length sc0) (a0).length ((a0).map (Value.int .u8))) (H : slices_Clone_Sbytebyte.f a0 = some r) (HS : Sep.St [R] w0 w) : Calls Try.prog 22 #[Value.slice sa0 (a0).length sc0] w (Ret fun u w => ∃ (aq0 : Option Addr) (cq0 : Nat), u = Value.slice aq0 (r).length cq0 ∧ Sep.St [row 5 1 (.slice aq0 (r).length cq0) (r).length ((r).map (Value.int .u8)), R] w0 w) := by
  unfold slices_Clone_Sbytebyte.f at H
  refine calls_enter Try.func22 rfl rfl ?_
  have H : _ = some r := H
  refine V.seq ?_
  refine V.region ?_
  refine W.rd (X.assign rfl) rfl rfl rfl ?_
  refine W.nil ?_
  refine At.next ?_
  refine V.keep [(0, Value.slice sa0 (a0).length sc0)] ⟨rfl, trivial⟩ ?_
  refine V.seq ?_
  refine V.seq ?_
  refine V.region ?_
  refine W.rd (X.move rfl) rfl rfl rfl ?_
  refine W.rd (X.eqSl Try.underlying26 rfl rfl) rfl rfl rfl ?_
  refine W.nil ?_
  refine At.next ?_
  refine V.keep [(0, Value.slice sa0 (a0).length sc0), (4, Value.bool ((sa0).isNone))] ⟨rfl, rfl, trivial⟩ ?_
  by_cases cg1 : (sa0).isNone = false
  · refine V.condF (sb cg1) ?_
    refine V.skip ?_
    refine At.next ?_
    refine V.keep [(0, Value.slice sa0 (a0).length sc0)] ⟨rfl, trivial⟩ ?_
    refine V.seq ?_
    refine V.region ?_
    refine W.ev (Y.lit (e := 5) (sz := 1) (vs := #[]) [] HS (fun a ha => by simp only [List.map_toArray, List.map_cons, List.map_nil]; try rfl) rfl (by decide) (fun _ => by kernel_rfl)) rfl rfl rfl ?_
    rintro _ w ⟨ra4, rc5, rfl, HS⟩
    have HS : Sep.St [row 5 1 (.slice ra4 (([] : List Int)).length rc5) (([] : List Int)).length ((([] : List Int)).map (Value.int .u8)), R] w0 w := HS
    refine W.rd (X.move rfl) rfl rfl rfl ?_
    obtain ⟨c7, H⟩ := ite_n H
    refine W.ev (Y.appF (Value.int .u8) (fun _ => rfl) 0 Try.underlying26 ap5 rfl HS rfl rfl rfl (rdC.at 1 hr0 HS rfl) (by omega) (by omega)) rfl rfl rfl ?_
    rintro _ w ⟨ra8, rc9, rfl, HS⟩
    have HS : Sep.St [row 5 1 (.slice ra8 (([] : List Int) ++ a0).length rc9) (([] : List Int) ++ a0).length ((([] : List Int) ++ a0).map (Value.int .u8)), R] w0 w := HS
    refine W.rd (X.assign rfl) rfl rfl rfl ?_
    refine W.nil ?_
    refine At.next ?_
    refine V.keep [(2, Value.slice ra8 (([] : List Int) ++ a0).length rc9)] ⟨rfl, trivial⟩ ?_
    refine V.ret ?_
    cases H
    exact At.ret1 rfl rfl ⟨_, rfl, ra8, rc9, rfl, HS⟩
  · have hN2 : (sa0).isNone = true := by simpa using cg1
    have hz3 : a0 = [] := List.eq_nil_of_length_eq_zero ((rdC.at 0 hr0 HS rfl).nil (Option.isNone_iff_eq_none.1 hN2)).1
    have H : some (([] : List Int)) = some r := by simpa [hz3] using H
    refine V.condT (sb hN2) ?_
    refine V.seq ?_
    refine V.region ?_
    refine W.rd (X.assign rfl) rfl rfl rfl ?_
    refine W.nil ?_
    refine At.next ?_
    refine V.keep [(2, Value.slice none 0 0)] ⟨rfl, trivial⟩ ?_
    refine V.ret ?_
    refine At.thenRet ?_
    replace HS := row_nil' (e := 5) 1 none HS
    have HS : Sep.St [row 5 1 (.slice none (([] : List Int)).length 0) (([] : List Int)).length ((([] : List Int)).map (Value.int .u8)), R] w0 w := HS
    cases H
    exact At.ret1 rfl rfl ⟨_, rfl, none, 0, rfl, HS⟩

/-! ### signalman/serial.Next: function 23 -/
def serial_Next.f (a0 : Int) (a1 : Int) : Option (Int) := ((serial_round.f a0 a1).bind fun t1 => ((serial_round.f (w64 (t1.1 + 1)) t1.2).bind fun t3 => some (t3.1)))
set_option maxRecDepth 100000 in
set_option maxHeartbeats 4000000 in
theorem serial_Next.calls (a0 : Int) (a1 : Int) (R : As) (w0 w : World)  (r : Int)  (H : serial_Next.f a0 a1 = some r) (HS : Sep.St [R] w0 w) : Calls Try.prog 23 #[Value.int .i64 (a0), Value.int .i64 (a1)] w (Ret fun u w => u = Value.int .i64 (r) ∧ Sep.St [R] w0 w) := by
  unfold serial_Next.f at H
  refine calls_enter Try.func23 rfl rfl ?_
  have H : _ = some r := H
  refine V.seq ?_
  refine V.region ?_
  refine W.rd (X.assign rfl) rfl rfl rfl ?_
  refine W.nil ?_
  refine At.next ?_
  refine V.keep [(0, Value.int .i64 (a0)), (1, Value.int .i64 (a1))] ⟨rfl, rfl, trivial⟩ ?_
  refine V.seq ?_
  refine V.region ?_
  refine W.rd (X.move rfl) rfl rfl rfl ?_
  refine W.rd (X.move rfl) rfl rfl rfl ?_
  obtain ⟨t1, A2, H⟩ := bind_s H
  refine W.ev (Y.call Try.func29 (by kernel_rfl) rfl (vs := [Value.int .i64 (a0), Value.int .i64 (a1)]) rfl (serial_round.calls a0 a1 _ w0 _  t1  A2 (Sep.St.tailJoin (m := []) (r := [R]) HS))) rfl rfl rfl ?_
  rintro _ w ⟨rfl, HS⟩
  replace HS := Sep.St.tailOpen (m := []) (r := [R]) HS
  have HS : Sep.St [R] w0 w := HS
  refine W.rd (X.move rfl) rfl rfl rfl ?_
  refine W.rd (X.extract rfl rfl) rfl rfl rfl ?_
  refine W.rd (X.extract rfl rfl) rfl rfl rfl ?_
  refine W.rd (X.assign rfl) rfl rfl rfl ?_
  refine W.rd (X.assign rfl) rfl rfl rfl ?_
  refine W.nil ?_
  refine At.next ?_
  refine V.keep [(0, Value.int .i64 (t1.1)), (1, Value.int .i64 (t1.2))] ⟨rfl, rfl, trivial⟩ ?_
  refine V.seq ?_
  refine V.region ?_
  refine W.rd (X.move rfl) rfl rfl rfl ?_
  refine W.rd (X.add rfl rfl) rfl rfl rfl ?_
  refine W.rd (X.move rfl) rfl rfl rfl ?_
  obtain ⟨t3, A4, H⟩ := bind_s H
  refine W.ev (Y.call Try.func29 (by kernel_rfl) rfl (vs := [Value.int .i64 (w64 (t1.1 + 1)), Value.int .i64 (t1.2)]) rfl (serial_round.calls (w64 (t1.1 + 1)) t1.2 _ w0 _  t3  A4 (Sep.St.tailJoin (m := []) (r := [R]) HS))) rfl rfl rfl ?_
  rintro _ w ⟨rfl, HS⟩
  replace HS := Sep.St.tailOpen (m := []) (r := [R]) HS
  have HS : Sep.St [R] w0 w := HS
  refine W.rd (X.move rfl) rfl rfl rfl ?_
  refine W.rd (X.extract rfl rfl) rfl rfl rfl ?_
  refine W.rd (X.extract rfl rfl) rfl rfl rfl ?_
  refine W.rd (X.assign rfl) rfl rfl rfl ?_
  refine W.nil ?_
  refine At.next ?_
  refine V.keep [(0, Value.int .i64 (t3.1))] ⟨rfl, trivial⟩ ?_
  refine V.seq ?_
  refine V.region ?_
  refine W.rd (X.move rfl) rfl rfl rfl ?_
  refine W.rd (X.assign rfl) rfl rfl rfl ?_
  refine W.nil ?_
  refine At.next ?_
  refine V.keep [(4, Value.int .i64 (t3.1))] ⟨rfl, trivial⟩ ?_
  refine V.ret ?_
  cases H
  exact At.ret1 rfl rfl ⟨_, rfl, rfl, HS⟩

/-! ### (*signalman/reorder.Order).Put: function 9 -/
mutual
def reorder_Order_Put.l0 : Nat → Int → Bool → reorder_Order → (List Int) → Option (Int × reorder_Order)
  | 0, _, _, _, _ => none
  | k + 1, x26, x27, x28, x31 => (if x27 = true then (if (((x28).ready).length : Int) + (([x31] : List (List Int))).length ≤ 1099511627776 then ((serial_Next.f ((x28).next) ((x28).m)).bind fun t43 => (reorder_Order_Put.l0 k (w64 (x26 + 1)) (mhas (mdel ((x28).kept) ((x28).next)) t43) ({ m := (x28).m, window := (x28).window, next := t43, kept := mdel ((x28).kept) ((x28).next), ready := ((x28).ready) ++ ([x31] : List (List Int)) } : reorder_Order) (mget (mdel ((x28).kept) ((x28).next)) t43 []))) else none) else some (x26, x28))
end
def reorder_Order_Put.f (k : Nat) (a0 : reorder_Order) (a1 : Int) (a2 : List Int) : Option (Int × reorder_Order) := ((serial_Dist.f ((a0).next) a1 ((a0).m)).bind fun t3 => (if ¬ ((a0).m = 0) then (if t3 ≥ ((a0).window) then some ((-1), a0) else (if mhas ((a0).kept) ((w64 (((a0).next) + t3)).tmod ((a0).m)) = true then some (0, a0) else ((slices_Clone_Sbytebyte.f a2).bind fun t17 => (reorder_Order_Put.l0 k 0 (mhas (mput ((a0).kept) ((w64 (((a0).next) + t3)).tmod ((a0).m)) t17) ((a0).next)) ({ m := (a0).m, window := (a0).window, next := (a0).next, kept := mput ((a0).kept) ((w64 (((a0).next) + t3)).tmod ((a0).m)) t17, ready := (a0).ready } : reorder_Order) (mget (mput ((a0).kept) ((w64 (((a0).next) + t3)).tmod ((a0).m)) t17) ((a0).next) []))))) else none))
set_option maxRecDepth 100000 in
set_option maxHeartbeats 4000000 in
theorem reorder_Order_Put.calls (k : Nat) (a0 : reorder_Order) (a1 : Int) (a2 : List Int) (R : As) (w0 w : World) (b0 : Nat) (sa2 : Option Addr) (sc2 : Nat) (r : Int × reorder_Order) (hr2 : rdC R 1 (.slice sa2 (a2).length sc2) (a2).length ((a2).map (Value.int .u8))) (H : reorder_Order_Put.f k a0 a1 a2 = some r) (HS : Sep.St [reorder_Order.at b0 (a0), R] w0 w) : Calls Try.prog 9 #[Value.pointer (some ⟨b0, 0, none⟩), Value.int .i64 (a1), Value.slice sa2 (a2).length sc2] w (Ret fun u w => u = Value.int .i64 (r.1) ∧ Sep.St [reorder_Order.at b0 (r.2), R] w0 w) := by
  unfold reorder_Order_Put.f at H
  refine calls_enter Try.func9 rfl rfl ?_
  have H : _ = some r := H
  refine V.seq ?_
  refine V.region ?_
  refine W.rd (X.assign rfl) rfl rfl rfl ?_
  refine W.nil ?_
  refine At.next ?_
  refine V.keep [(0, Value.pointer (some ⟨b0, 0, none⟩)), (1, Value.int .i64 (a1)), (2, Value.slice sa2 (a2).length sc2)] ⟨rfl, rfl, rfl, trivial⟩ ?_
  refine V.seq ?_
  obtain ⟨b3_1, k3_1, a4_1, c4_1, d4_1, hi2, HS⟩ := reorder_Order.open HS
  have HS : Sep.St [blk b0 (#[Value.int .i64 ((a0).m), Value.int .i64 ((a0).window), Value.int .i64 ((a0).next), Value.map (some b3_1), Value.slice a4_1 ((a0).ready).length c4_1]) 47, mblk b3_1 k3_1, tieM (El.sl (El.int .u8)) k3_1 ((a0).kept), row 26 1 (.slice a4_1 ((a0).ready).length c4_1) ((a0).ready).length d4_1, tie (El.sl (El.int .u8)) d4_1 ((a0).ready), R] w0 w := HS
  refine V.draw (es := [9]) (bl := [10]) (f := [(13, Value.pointer (some ⟨b0, 0, none⟩)), (14, Value.pointer (some ⟨b0, 0, none⟩)), (15, Value.pointer (some ⟨b0, 0 + 2, none⟩)), (16, Value.int .i64 ((a0).next)), (17, Value.int .i64 (a1)), (18, Value.pointer (some ⟨b0, 0, none⟩)), (19, Value.pointer (some ⟨b0, 0, none⟩)), (20, Value.pointer (some ⟨b0, 0 + 0, none⟩)), (21, Value.int .i64 ((a0).m))]) (fun w => Sep.St [blk b0 (#[Value.int .i64 ((a0).m), Value.int .i64 ((a0).window), Value.int .i64 ((a0).next), Value.map (some b3_1), Value.slice a4_1 ((a0).ready).length c4_1]) 47, mblk b3_1 k3_1, tieM (El.sl (El.int .u8)) k3_1 ((a0).kept), row 26 1 (.slice a4_1 ((a0).ready).length c4_1) ((a0).ready).length d4_1, tie (El.sl (El.int .u8)) d4_1 ((a0).ready), R] w0 w) mo HS.drew rfl ?_
  refine T.event _ [(16, Value.int .i64 ((a0).next)), (17, Value.int .i64 (a1)), (21, Value.int .i64 ((a0).m))] rfl rfl ⟨⟨_, Value.pointer (some ⟨b0, 0, none⟩), [(0, Value.pointer (some ⟨b0, 0, none⟩))], 13, rfl, rfl, ⟨.inl ⟨rfl, rfl⟩, trivial⟩, .run rfl (fun w HS => X.move rfl), rfl, rfl, rfl⟩, ⟨_, Value.pointer (some ⟨b0, 0, none⟩), [(13, Value.pointer (some ⟨b0, 0, none⟩))], 14, rfl, rfl, ⟨.inr ⟨rfl, rfl⟩, trivial⟩, .run rfl (fun w HS => X.nilCheck rfl), rfl, rfl, rfl⟩, ⟨_, Value.pointer (some ⟨b0, 0 + 2, none⟩), [(14, Value.pointer (some ⟨b0, 0, none⟩))], 15, rfl, rfl, ⟨.inr ⟨rfl, rfl⟩, trivial⟩, .run rfl (fun w HS => X.fieldAddr 2 fo47_2 rfl), rfl, rfl, rfl⟩, ⟨_, Value.int .i64 ((a0).next), [(15, Value.pointer (some ⟨b0, 0 + 2, none⟩))], 16, rfl, rfl, ⟨.inr ⟨rfl, rfl⟩, trivial⟩, .run rfl (fun w HS => X.loadAt 0 HS rfl Try.underlying3 rfl rfl rfl), rfl, rfl, rfl⟩, ⟨_, Value.int .i64 (a1), [(1, Value.int .i64 (a1))], 17, rfl, rfl, ⟨.inl ⟨rfl, rfl⟩, trivial⟩, .run rfl (fun w HS => X.move rfl), rfl, rfl, rfl⟩, ⟨_, Value.pointer (some ⟨b0, 0, none⟩), [(0, Value.pointer (some ⟨b0, 0, none⟩))], 18, rfl, rfl, ⟨.inl ⟨rfl, rfl⟩, trivial⟩, .run rfl (fun w HS => X.move rfl), rfl, rfl, rfl⟩, ⟨_, Value.pointer (some ⟨b0, 0, none⟩), [(18, Value.pointer (some ⟨b0, 0, none⟩))], 19, rfl, rfl, ⟨.inr ⟨rfl, rfl⟩, trivial⟩, .run rfl (fun w HS => X.nilCheck rfl), rfl, rfl, rfl⟩, ⟨_, Value.pointer (some ⟨b0, 0 + 0, none⟩), [(19, Value.pointer (some ⟨b0, 0, none⟩))], 20, rfl, rfl, ⟨.inr ⟨rfl, rfl⟩, trivial⟩, .run rfl (fun w HS => X.fieldAddr 0 fo47_0 rfl), rfl, rfl, rfl⟩, ⟨_, Value.int .i64 ((a0).m), [(20, Value.pointer (some ⟨b0, 0 + 0, none⟩))], 21, rfl, rfl, ⟨.inr ⟨rfl, rfl⟩, trivial⟩, .run rfl (fun w HS => X.loadAt 0 HS rfl Try.underlying3 rfl rfl rfl), rfl, rfl, rfl⟩, trivial⟩ rfl ⟨.inr ⟨rfl, rfl⟩, ⟨.inr ⟨rfl, rfl⟩, ⟨.inr ⟨rfl, rfl⟩, trivial⟩⟩⟩ (Or.inl rfl) (by intro d hd; cases hd; exact ⟨by decide, rfl, rfl⟩) [] [0, 1, 2, 3, 4, 5, 6, 7, 8] rfl rfl (fun w HS => ?_)
  have HS : Sep.St [blk b0 (#[Value.int .i64 ((a0).m), Value.int .i64 ((a0).window), Value.int .i64 ((a0).next), Value.map (some b3_1), Value.slice a4_1 ((a0).ready).length c4_1]) 47, mblk b3_1 k3_1, tieM (El.sl (El.int .u8)) k3_1 ((a0).kept), row 26 1 (.slice a4_1 ((a0).ready).length c4_1) ((a0).ready).length d4_1, tie (El.sl (El.int .u8)) d4_1 ((a0).ready), R] w0 w := HS
  obtain ⟨t3, A4, H⟩ := bind_s H
  refine ⟨_, Y.call Try.func21 (by kernel_rfl) rfl (vs := [Value.int .i64 ((a0).next), Value.int .i64 (a1), Value.int .i64 ((a0).m)]) rfl (serial_Dist.calls ((a0).next) a1 ((a0).m) _ w0 _  t3  A4 (Sep.St.tailJoin (m := []) (r := [blk b0 (#[Value.int .i64 ((a0).m), Value.int .i64 ((a0).window), Value.int .i64 ((a0).next), Value.map (some b3_1), Value.slice a4_1 ((a0).ready).length c4_1]) 47, mblk b3_1 k3_1, tieM (El.sl (El.int .u8)) k3_1 ((a0).kept), row 26 1 (.slice a4_1 ((a0).ready).length c4_1) ((a0).ready).length d4_1, tie (El.sl (El.int .u8)) d4_1 ((a0).ready), R]) HS)), ?_⟩
  rintro _ w ⟨rfl, HS⟩
  replace HS := Sep.St.tailOpen (m := []) (r := [blk b0 (#[Value.int .i64 ((a0).m), Value.int .i64 ((a0).window), Value.int .i64 ((a0).next), Value.map (some b3_1), Value.slice a4_1 ((a0).ready).length c4_1]) 47, mblk b3_1 k3_1, tieM (El.sl (El.int .u8)) k3_1 ((a0).kept), row 26 1 (.slice a4_1 ((a0).ready).length c4_1) ((a0).ready).length d4_1, tie (El.sl (El.int .u8)) d4_1 ((a0).ready), R]) HS
  have HS : Sep.St [blk b0 (#[Value.int .i64 ((a0).m), Value.int .i64 ((a0).window), Value.int .i64 ((a0).next), Value.map (some b3_1), Value.slice a4_1 ((a0).ready).length c4_1]) 47, mblk b3_1 k3_1, tieM (El.sl (El.int .u8)) k3_1 ((a0).kept), row 26 1 (.slice a4_1 ((a0).ready).length c4_1) ((a0).ready).length d4_1, tie (El.sl (El.int .u8)) d4_1 ((a0).ready), R] w0 w := HS
  refine ⟨[(22, Value.int .i64 (t3)), (7, Value.int .i64 (t3))], fun w => Sep.St [blk b0 (#[Value.int .i64 ((a0).m), Value.int .i64 ((a0).window), Value.int .i64 ((a0).next), Value.map (some b3_1), Value.slice a4_1 ((a0).ready).length c4_1]) 47, mblk b3_1 k3_1, tieM (El.sl (El.int .u8)) k3_1 ((a0).kept), row 26 1 (.slice a4_1 ((a0).ready).length c4_1) ((a0).ready).length d4_1, tie (El.sl (El.int .u8)) d4_1 ((a0).ready), R] w0 w, ⟨.inl ⟨rfl, rfl⟩, ⟨.inr ⟨by decide, rfl⟩, trivial⟩⟩, ?_, HS⟩
  refine T.fin [(0, Value.pointer (some ⟨b0, 0, none⟩)), (2, Value.slice sa2 (a2).length sc2), (7, Value.int .i64 (t3))] rfl ⟨⟨_, Value.int .i64 (t3), [(22, Value.int .i64 (t3))], 7, rfl, rfl, ⟨.inr ⟨rfl, rfl⟩, trivial⟩, .run rfl (fun w HS => X.assign rfl), rfl, rfl, rfl⟩, trivial⟩ ⟨.inl ⟨rfl, rfl⟩, ⟨.inl ⟨rfl, rfl⟩, ⟨.inr ⟨rfl, rfl⟩, trivial⟩⟩⟩ (fun w HS => ?_)
  have HS : Sep.St [blk b0 (#[Value.int .i64 ((a0).m), Value.int .i64 ((a0).window), Value.int .i64 ((a0).next), Value.map (some b3_1), Value.slice a4_1 ((a0).ready).length c4_1]) 47, mblk b3_1 k3_1, tieM (El.sl (El.int .u8)) k3_1 ((a0).kept), row 26 1 (.slice a4_1 ((a0).ready).length c4_1) ((a0).ready).length d4_1, tie (El.sl (El.int .u8)) d4_1 ((a0).ready), R] w0 w := HS
  refine At.next ?_
  refine V.keep [(0, Value.pointer (some ⟨b0, 0, none⟩)), (2, Value.slice sa2 (a2).length sc2), (7, Value.int .i64 (t3))] ⟨rfl, rfl, rfl, trivial⟩ ?_
  refine V.seq ?_
  obtain ⟨c5, H⟩ := ite_n H
  refine V.draw (es := []) (bl := []) (f := [(23, Value.pointer (some ⟨b0, 0, none⟩)), (24, Value.pointer (some ⟨b0, 0, none⟩)), (25, Value.pointer (some ⟨b0, 0 + 2, none⟩)), (26, Value.int .i64 ((a0).next)), (27, Value.int .i64 (t3)), (28, Value.int .i64 (w64 (((a0).next) + t3))), (29, Value.pointer (some ⟨b0, 0, none⟩)), (30, Value.pointer (some ⟨b0, 0, none⟩)), (31, Value.pointer (some ⟨b0, 0 + 0, none⟩)), (32, Value.int .i64 ((a0).m)), (33, Value.int .i64 ((w64 (((a0).next) + t3)).tmod ((a0).m))), (1, Value.int .i64 ((w64 (((a0).next) + t3)).tmod ((a0).m)))]) (fun w => Sep.St [blk b0 (#[Value.int .i64 ((a0).m), Value.int .i64 ((a0).window), Value.int .i64 ((a0).next), Value.map (some b3_1), Value.slice a4_1 ((a0).ready).length c4_1]) 47, mblk b3_1 k3_1, tieM (El.sl (El.int .u8)) k3_1 ((a0).kept), row 26 1 (.slice a4_1 ((a0).ready).length c4_1) ((a0).ready).length d4_1, tie (El.sl (El.int .u8)) d4_1 ((a0).ready), R] w0 w) mo HS.drew rfl ?_
  refine T.fin [(0, Value.pointer (some ⟨b0, 0, none⟩)), (1, Value.int .i64 ((w64 (((a0).next) + t3)).tmod ((a0).m))), (2, Value.slice sa2 (a2).length sc2), (7, Value.int .i64 (t3))] rfl ⟨⟨_, Value.pointer (some ⟨b0, 0, none⟩), [(0, Value.pointer (some ⟨b0, 0, none⟩))], 23, rfl, rfl, ⟨.inl ⟨rfl, rfl⟩, trivial⟩, .run rfl (fun w HS => X.move rfl), rfl, rfl, rfl⟩, ⟨_, Value.pointer (some ⟨b0, 0, none⟩), [(23, Value.pointer (some ⟨b0, 0, none⟩))], 24, rfl, rfl, ⟨.inr ⟨rfl, rfl⟩, trivial⟩, .run rfl (fun w HS => X.nilCheck rfl), rfl, rfl, rfl⟩, ⟨_, Value.pointer (some ⟨b0, 0 + 2, none⟩), [(24, Value.pointer (some ⟨b0, 0, none⟩))], 25, rfl, rfl, ⟨.inr ⟨rfl, rfl⟩, trivial⟩, .run rfl (fun w HS => X.fieldAddr 2 fo47_2 rfl), rfl, rfl, rfl⟩, ⟨_, Value.int .i64 ((a0).next), [(25, Value.pointer (some ⟨b0, 0 + 2, none⟩))], 26, rfl, rfl, ⟨.inr ⟨rfl, rfl⟩, trivial⟩, .run rfl (fun w HS => X.loadAt 0 HS rfl Try.underlying3 rfl rfl rfl), rfl, rfl, rfl⟩, ⟨_, Value.int .i64 (t3), [(7, Value.int .i64 (t3))], 27, rfl, rfl, ⟨.inl ⟨rfl, rfl⟩, trivial⟩, .run rfl (fun w HS => X.move rfl), rfl, rfl, rfl⟩, ⟨_, Value.int .i64 (w64 (((a0).next) + t3)), [(26, Value.int .i64 ((a0).next)), (27, Value.int .i64 (t3))], 28, rfl, rfl, ⟨.inr ⟨rfl, rfl⟩, ⟨.inr ⟨rfl, rfl⟩, trivial⟩⟩, .run rfl (fun w HS => X.add rfl rfl), rfl, rfl, rfl⟩, ⟨_, Value.pointer (some ⟨b0, 0, none⟩), [(0, Value.pointer (some ⟨b0, 0, none⟩))], 29, rfl, rfl, ⟨.inl ⟨rfl, rfl⟩, trivial⟩, .run rfl (fun w HS => X.move rfl), rfl, rfl, rfl⟩, ⟨_, Value.pointer (some ⟨b0, 0, none⟩), [(29, Value.pointer (some ⟨b0, 0, none⟩))], 30, rfl, rfl, ⟨.inr ⟨rfl, rfl⟩, trivial⟩, .run rfl (fun w HS => X.nilCheck rfl), rfl, rfl, rfl⟩, ⟨_, Value.pointer (some ⟨b0, 0 + 0, none⟩), [(30, Value.pointer (some ⟨b0, 0, none⟩))], 31, rfl, rfl, ⟨.inr ⟨rfl, rfl⟩, trivial⟩, .run rfl (fun w HS => X.fieldAddr 0 fo47_0 rfl), rfl, rfl, rfl⟩, ⟨_, Value.int .i64 ((a0).m), [(31, Value.pointer (some ⟨b0, 0 + 0, none⟩))], 32, rfl, rfl, ⟨.inr ⟨rfl, rfl⟩, trivial⟩, .run rfl (fun w HS => X.loadAt 0 HS rfl Try.underlying3 rfl rfl rfl), rfl, rfl, rfl⟩, ⟨_, Value.int .i64 ((w64 (((a0).next) + t3)).tmod ((a0).m)), [(28, Value.int .i64 (w64 (((a0).next) + t3))), (32, Value.int .i64 ((a0).m))], 33, rfl, rfl, ⟨.inr ⟨rfl, rfl⟩, ⟨.inr ⟨rfl, rfl⟩, trivial⟩⟩, .run rfl (fun w HS => X.rem rfl rfl c5), rfl, rfl, rfl⟩, ⟨_, Value.int .i64 ((w64 (((a0).next) + t3)).tmod ((a0).m)), [(33, Value.int .i64 ((w64 (((a0).next) + t3)).tmod ((a0).m)))], 1, rfl, rfl, ⟨.inr ⟨rfl, rfl⟩, trivial⟩, .run rfl (fun w HS => X.assign rfl), rfl, rfl, rfl⟩, trivial⟩ ⟨.inl ⟨rfl, rfl⟩, ⟨.inr ⟨rfl, rfl⟩, ⟨.inl ⟨rfl, rfl⟩, ⟨.inl ⟨rfl, rfl⟩, trivial⟩⟩⟩⟩ (fun w HS => ?_)
  have HS : Sep.St [blk b0 (#[Value.int .i64 ((a0).m), Value.int .i64 ((a0).window), Value.int .i64 ((a0).next), Value.map (some b3_1), Value.slice a4_1 ((a0).ready).length c4_1]) 47, mblk b3_1 k3_1, tieM (El.sl (El.int .u8)) k3_1 ((a0).kept), row 26 1 (.slice a4_1 ((a0).ready).length c4_1) ((a0).ready).length d4_1, tie (El.sl (El.int .u8)) d4_1 ((a0).ready), R] w0 w := HS
  refine At.next ?_
  refine V.keep [(0, Value.pointer (some ⟨b0, 0, none⟩)), (1, Value.int .i64 ((w64 (((a0).next) + t3)).tmod ((a0).m))), (2, Value.slice sa2 (a2).length sc2), (7, Value.int .i64 (t3))] ⟨rfl, rfl, rfl, rfl, trivial⟩ ?_
  refine V.seq ?_
  refine V.seq ?_
  refine V.region ?_
  refine W.rd (X.move rfl) rfl rfl rfl ?_
  refine W.rd (X.move rfl) rfl rfl rfl ?_
  refine W.rd (X.nilCheck rfl) rfl rfl rfl ?_
  refine W.rd (X.fieldAddr 1 fo47_1 rfl) rfl rfl rfl ?_
  refine W.rd (X.loadAt 0 HS rfl Try.underlying3 rfl rfl rfl) rfl rfl rfl ?_
  refine W.rd (X.cmp (decide (t3 ≥ ((a0).window))) rfl rfl rfl rfl) rfl rfl rfl ?_
  refine W.nil ?_
  refine At.next ?_
  refine V.keep [(0, Value.pointer (some ⟨b0, 0, none⟩)), (1, Value.int .i64 ((w64 (((a0).next) + t3)).tmod ((a0).m))), (2, Value.slice sa2 (a2).length sc2), (39, Value.bool (decide (t3 ≥ ((a0).window))))] ⟨rfl, rfl, rfl, rfl, trivial⟩ ?_
  by_cases c11 : t3 ≥ ((a0).window)
  · replace H := ite_t c11 H
    refine V.condT (sb (decide_eq_true c11)) ?_
    refine V.seq ?_
    refine V.region ?_
    refine W.rd (X.assign rfl) rfl rfl rfl ?_
    refine W.nil ?_
    refine At.next ?_
    refine V.keep [(6, Value.int .i64 ((-1)))] ⟨rfl, trivial⟩ ?_
    refine V.ret ?_
    refine At.thenRet ?_
    replace HS := reorder_Order.close (a0) trivial HS
    have HS : Sep.St [reorder_Order.at b0 (a0), R] w0 w := HS
    cases H
    exact At.ret1 rfl rfl ⟨_, rfl, rfl, HS⟩
  · replace H := ite_f c11 H
    refine V.condF (sb (decide_eq_false c11)) ?_
    refine V.skip ?_
    refine At.next ?_
    refine V.keep [(0, Value.pointer (some ⟨b0, 0, none⟩)), (1, Value.int .i64 ((w64 (((a0).next) + t3)).tmod ((a0).m))), (2, Value.slice sa2 (a2).length sc2)] ⟨rfl, rfl, rfl, trivial⟩ ?_
    refine V.seq ?_
    refine V.seq ?_
    refine V.region ?_
    refine W.rd (X.move rfl) rfl rfl rfl ?_
    refine W.rd (X.nilCheck rfl) rfl rfl rfl ?_
    refine W.rd (X.fieldAddr 3 fo47_3 rfl) rfl rfl rfl ?_
    refine W.rd (X.loadAt 0 HS rfl Try.underlying44 rfl rfl rfl) rfl rfl rfl ?_
    refine W.rd (X.move rfl) rfl rfl rfl ?_
    have hm12 := St.tieM_has 2 ((w64 (((a0).next) + t3)).tmod ((a0).m)) HS rfl
    replace HS := St.tieM_get 2 ((w64 (((a0).next) + t3)).tmod ((a0).m)) (z := .slice none 0 0) (d := []) sl_zero HS rfl
    obtain ⟨ea14, em15, hu13, HS⟩ := St.sl_openF (Value.int .u8) (fun t => tie_int t) HS
    have HS : Sep.St [fsl 1 (.slice ea14 (mget ((a0).kept) ((w64 (((a0).next) + t3)).tmod ((a0).m)) []).length em15) (mget ((a0).kept) ((w64 (((a0).next) + t3)).tmod ((a0).m)) []).length ((mget ((a0).kept) ((w64 (((a0).next) + t3)).tmod ((a0).m)) []).map (Value.int .u8)), blk b0 (#[Value.int .i64 ((a0).m), Value.int .i64 ((a0).window), Value.int .i64 ((a0).next), Value.map (some b3_1), Value.slice a4_1 ((a0).ready).length c4_1]) 47, mblk b3_1 k3_1, tieM (El.sl (El.int .u8)) k3_1 ((a0).kept), row 26 1 (.slice a4_1 ((a0).ready).length c4_1) ((a0).ready).length d4_1, tie (El.sl (El.int .u8)) d4_1 ((a0).ready), R] w0 w := HS
    refine W.rd (X.lookup (z := .slice none 0 0) 2 Try.underlying44 Try.underlying3 ze26 HS rfl rfl rfl hu13 hm12) rfl rfl rfl ?_
    refine W.rd (X.move rfl) rfl rfl rfl ?_
    refine W.rd (X.extract rfl rfl) rfl rfl rfl ?_
    refine W.rd (X.extract rfl rfl) rfl rfl rfl ?_
    refine W.rd (X.assign rfl) rfl rfl rfl ?_
    refine W.rd (X.assign rfl) rfl rfl rfl ?_
    refine W.nil ?_
    refine At.next ?_
    refine V.keep [(0, Value.pointer (some ⟨b0, 0, none⟩)), (1, Value.int .i64 ((w64 (((a0).next) + t3)).tmod ((a0).m))), (2, Value.slice sa2 (a2).length sc2), (9, Value.bool (mhas ((a0).kept) ((w64 (((a0).next) + t3)).tmod ((a0).m))))] ⟨rfl, rfl, rfl, rfl, trivial⟩ ?_
    refine V.seq ?_
    refine V.region ?_
    refine W.rd (X.move rfl) rfl rfl rfl ?_
    refine W.nil ?_
    refine At.next ?_
    refine V.keep [(0, Value.pointer (some ⟨b0, 0, none⟩)), (1, Value.int .i64 ((w64 (((a0).next) + t3)).tmod ((a0).m))), (2, Value.slice sa2 (a2).length sc2), (49, Value.bool (mhas ((a0).kept) ((w64 (((a0).next) + t3)).tmod ((a0).m))))] ⟨rfl, rfl, rfl, rfl, trivial⟩ ?_
    by_cases c16 : mhas ((a0).kept) ((w64 (((a0).next) + t3)).tmod ((a0).m)) = true
    · replace H := ite_t c16 H
      refine V.condT (sb c16) ?_
      refine V.seq ?_
      refine V.region ?_
      refine W.rd (X.assign rfl) rfl rfl rfl ?_
      refine W.nil ?_
      refine At.next ?_
      refine V.keep [(6, Value.int .i64 (0))] ⟨rfl, trivial⟩ ?_
      refine V.ret ?_
      refine At.thenRet ?_
      replace HS := HS.re [1, 2, 3, 4, 5, 0, 6] (by kernel_rfl)
      have HS : Sep.St [blk b0 (#[Value.int .i64 ((a0).m), Value.int .i64 ((a0).window), Value.int .i64 ((a0).next), Value.map (some b3_1), Value.slice a4_1 ((a0).ready).length c4_1]) 47, mblk b3_1 k3_1, tieM (El.sl (El.int .u8)) k3_1 ((a0).kept), row 26 1 (.slice a4_1 ((a0).ready).length c4_1) ((a0).ready).length d4_1, tie (El.sl (El.int .u8)) d4_1 ((a0).ready), fsl 1 (.slice ea14 (mget ((a0).kept) ((w64 (((a0).next) + t3)).tmod ((a0).m)) []).length em15) (mget ((a0).kept) ((w64 (((a0).next) + t3)).tmod ((a0).m)) []).length ((mget ((a0).kept) ((w64 (((a0).next) + t3)).tmod ((a0).m)) []).map (Value.int .u8)), R] w0 w := HS
      replace HS := reorder_Order.close (a0) trivial HS
      have HS : Sep.St [reorder_Order.at b0 (a0), fsl 1 (.slice ea14 (mget ((a0).kept) ((w64 (((a0).next) + t3)).tmod ((a0).m)) []).length em15) (mget ((a0).kept) ((w64 (((a0).next) + t3)).tmod ((a0).m)) []).length ((mget ((a0).kept) ((w64 (((a0).next) + t3)).tmod ((a0).m)) []).map (Value.int .u8)), R] w0 w := HS
      replace HS := HS.sel [0, 2] [1] (by kernel_rfl)
      cases H
      exact At.ret1 rfl rfl ⟨_, rfl, rfl, HS⟩
    · replace H := ite_f c16 H
      refine V.condF (sb (b_f c16)) ?_
      refine V.skip ?_
      refine At.next ?_
      refine V.keep [(0, Value.pointer (some ⟨b0, 0, none⟩)), (1, Value.int .i64 ((w64 (((a0).next) + t3)).tmod ((a0).m))), (2, Value.slice sa2 (a2).length sc2)] ⟨rfl, rfl, rfl, trivial⟩ ?_
      refine V.seq ?_
      refine V.draw (es := [6, 7]) (bl := []) (f := [(50, Value.pointer (some ⟨b0, 0, none⟩)), (51, Value.pointer (some ⟨b0, 0, none⟩)), (52, Value.pointer (some ⟨b0, 0 + 3, none⟩)), (53, Value.map (some b3_1)), (54, Value.int .i64 ((w64 (((a0).next) + t3)).tmod ((a0).m))), (55, Value.slice sa2 (a2).length sc2)]) (fun w => Sep.St [fsl 1 (.slice ea14 (mget ((a0).kept) ((w64 (((a0).next) + t3)).tmod ((a0).m)) []).length em15) (mget ((a0).kept) ((w64 (((a0).next) + t3)).tmod ((a0).m)) []).length ((mget ((a0).kept) ((w64 (((a0).next) + t3)).tmod ((a0).m)) []).map (Value.int .u8)), blk b0 (#[Value.int .i64 ((a0).m), Value.int .i64 ((a0).window), Value.int .i64 ((a0).next), Value.map (some b3_1), Value.slice a4_1 ((a0).ready).length c4_1]) 47, mblk b3_1 k3_1, tieM (El.sl (El.int .u8)) k3_1 ((a0).kept), row 26 1 (.slice a4_1 ((a0).ready).length c4_1) ((a0).ready).length d4_1, tie (El.sl (El.int .u8)) d4_1 ((a0).ready), R] w0 w) mo HS.drew rfl ?_
      refine T.event _ [(55, Value.slice sa2 (a2).length sc2)] rfl rfl ⟨⟨_, Value.pointer (some ⟨b0, 0, none⟩), [(0, Value.pointer (some ⟨b0, 0, none⟩))], 50, rfl, rfl, ⟨.inl ⟨rfl, rfl⟩, trivial⟩, .run rfl (fun w HS => X.move rfl), rfl, rfl, rfl⟩, ⟨_, Value.pointer (some ⟨b0, 0, none⟩), [(50, Value.pointer (some ⟨b0, 0, none⟩))], 51, rfl, rfl, ⟨.inr ⟨rfl, rfl⟩, trivial⟩, .run rfl (fun w HS => X.nilCheck rfl), rfl, rfl, rfl⟩, ⟨_, Value.pointer (some ⟨b0, 0 + 3, none⟩), [(51, Value.pointer (some ⟨b0, 0, none⟩))], 52, rfl, rfl, ⟨.inr ⟨rfl, rfl⟩, trivial⟩, .run rfl (fun w HS => X.fieldAddr 3 fo47_3 rfl), rfl, rfl, rfl⟩, ⟨_, Value.map (some b3_1), [(52, Value.pointer (some ⟨b0, 0 + 3, none⟩))], 53, rfl, rfl, ⟨.inr ⟨rfl, rfl⟩, trivial⟩, .run rfl (fun w HS => X.loadAt 1 HS rfl Try.underlying44 rfl rfl rfl), rfl, rfl, rfl⟩, ⟨_, Value.int .i64 ((w64 (((a0).next) + t3)).tmod ((a0).m)), [(1, Value.int .i64 ((w64 (((a0).next) + t3)).tmod ((a0).m)))], 54, rfl, rfl, ⟨.inl ⟨rfl, rfl⟩, trivial⟩, .run rfl (fun w HS => X.move rfl), rfl, rfl, rfl⟩, ⟨_, Value.slice sa2 (a2).length sc2, [(2, Value.slice sa2 (a2).length sc2)], 55, rfl, rfl, ⟨.inl ⟨rfl, rfl⟩, trivial⟩, .run rfl (fun w HS => X.move rfl), rfl, rfl, rfl⟩, trivial⟩ rfl ⟨.inr ⟨rfl, rfl⟩, trivial⟩ (Or.inl rfl) (by intro d hd; cases hd; exact ⟨by decide, rfl, rfl⟩) [] [5] rfl rfl (fun w HS => ?_)
      have HS : Sep.St [fsl 1 (.slice ea14 (mget ((a0).kept) ((w64 (((a0).next) + t3)).tmod ((a0).m)) []).length em15) (mget ((a0).kept) ((w64 (((a0).next) + t3)).tmod ((a0).m)) []).length ((mget ((a0).kept) ((w64 (((a0).next) + t3)).tmod ((a0).m)) []).map (Value.int .u8)), blk b0 (#[Value.int .i64 ((a0).m), Value.int .i64 ((a0).window), Value.int .i64 ((a0).next), Value.map (some b3_1), Value.slice a4_1 ((a0).ready).length c4_1]) 47, mblk b3_1 k3_1, tieM (El.sl (El.int .u8)) k3_1 ((a0).kept), row 26 1 (.slice a4_1 ((a0).ready).length c4_1) ((a0).ready).length d4_1, tie (El.sl (El.int .u8)) d4_1 ((a0).ready), R] w0 w := HS
      obtain ⟨t17, A18, H⟩ := bind_s H
      refine ⟨_, Y.call Try.func22 (by kernel_rfl) rfl (vs := [Value.slice sa2 (a2).length sc2]) rfl (slices_Clone_Sbytebyte.calls a2 _ w0 _ sa2 sc2 t17 (rdC.part 6 hr2 rfl) A18 (Sep.St.tailJoin (m := []) (r := [fsl 1 (.slice ea14 (mget ((a0).kept) ((w64 (((a0).next) + t3)).tmod ((a0).m)) []).length em15) (mget ((a0).kept) ((w64 (((a0).next) + t3)).tmod ((a0).m)) []).length ((mget ((a0).kept) ((w64 (((a0).next) + t3)).tmod ((a0).m)) []).map (Value.int .u8)), blk b0 (#[Value.int .i64 ((a0).m), Value.int .i64 ((a0).window), Value.int .i64 ((a0).next), Value.map (some b3_1), Value.slice a4_1 ((a0).ready).length c4_1]) 47, mblk b3_1 k3_1, tieM (El.sl (El.int .u8)) k3_1 ((a0).kept), row 26 1 (.slice a4_1 ((a0).ready).length c4_1) ((a0).ready).length d4_1, tie (El.sl (El.int .u8)) d4_1 ((a0).ready), R]) HS)), ?_⟩
      rintro _ w ⟨at17_0, ct17_0, rfl, HS⟩
      replace HS := Sep.St.tailOpen (m := [row 5 1 (.slice at17_0 (t17).length ct17_0) (t17).length ((t17).map (Value.int .u8))]) (r := [fsl 1 (.slice ea14 (mget ((a0).kept) ((w64 (((a0).next) + t3)).tmod ((a0).m)) []).length em15) (mget ((a0).kept) ((w64 (((a0).next) + t3)).tmod ((a0).m)) []).length ((mget ((a0).kept) ((w64 (((a0).next) + t3)).tmod ((a0).m)) []).map (Value.int .u8)), blk b0 (#[Value.int .i64 ((a0).m), Value.int .i64 ((a0).window), Value.int .i64 ((a0).next), Value.map (some b3_1), Value.slice a4_1 ((a0).ready).length c4_1]) 47, mblk b3_1 k3_1, tieM (El.sl (El.int .u8)) k3_1 ((a0).kept), row 26 1 (.slice a4_1 ((a0).ready).length c4_1) ((a0).ready).length d4_1, tie (El.sl (El.int .u8)) d4_1 ((a0).ready), R]) HS
      have HS : Sep.St [row 5 1 (.slice at17_0 (t17).length ct17_0) (t17).length ((t17).map (Value.int .u8)), fsl 1 (.slice ea14 (mget ((a0).kept) ((w64 (((a0).next) + t3)).tmod ((a0).m)) []).length em15) (mget ((a0).kept) ((w64 (((a0).next) + t3)).tmod ((a0).m)) []).length ((mget ((a0).kept) ((w64 (((a0).next) + t3)).tmod ((a0).m)) []).map (Value.int .u8)), blk b0 (#[Value.int .i64 ((a0).m), Value.int .i64 ((a0).window), Value.int .i64 ((a0).next), Value.map (some b3_1), Value.slice a4_1 ((a0).ready).length c4_1]) 47, mblk b3_1 k3_1, tieM (El.sl (El.int .u8)) k3_1 ((a0).kept), row 26 1 (.slice a4_1 ((a0).ready).length c4_1) ((a0).ready).length d4_1, tie (El.sl (El.int .u8)) d4_1 ((a0).ready), R] w0 w := HS
      refine ⟨[(56, Value.slice at17_0 (t17).length ct17_0)], fun w => Sep.St [row 5 1 (.slice at17_0 (t17).length ct17_0) (t17).length ((t17).map (Value.int .u8)), fsl 1 (.slice ea14 (mget ((a0).kept) ((w64 (((a0).next) + t3)).tmod ((a0).m)) []).length em15) (mget ((a0).kept) ((w64 (((a0).next) + t3)).tmod ((a0).m)) []).length ((mget ((a0).kept) ((w64 (((a0).next) + t3)).tmod ((a0).m)) []).map (Value.int .u8)), blk b0 (#[Value.int .i64 ((a0).m), Value.int .i64 ((a0).window), Value.int .i64 ((a0).next), Value.map (some b3_1), Value.slice a4_1 ((a0).ready).length c4_1]) 47, mblk b3_1 k3_1, tieM (El.sl (El.int .u8)) k3_1 ((a0).kept), row 26 1 (.slice a4_1 ((a0).ready).length c4_1) ((a0).ready).length d4_1, tie (El.sl (El.int .u8)) d4_1 ((a0).ready), R] w0 w, ⟨.inl ⟨rfl, rfl⟩, trivial⟩, ?_, HS⟩
      refine T.event _ [(53, Value.map (some b3_1)), (54, Value.int .i64 ((w64 (((a0).next) + t3)).tmod ((a0).m))), (56, Value.slice at17_0 (t17).length ct17_0)] rfl rfl ⟨⟨_, Value.pointer (some ⟨b0, 0, none⟩), [(0, Value.pointer (some ⟨b0, 0, none⟩))], 50, rfl, rfl, ⟨.inl ⟨rfl, rfl⟩, trivial⟩, .run rfl (fun w HS => X.move rfl), rfl, rfl, rfl⟩, ⟨_, Value.pointer (some ⟨b0, 0, none⟩), [(50, Value.pointer (some ⟨b0, 0, none⟩))], 51, rfl, rfl, ⟨.inr ⟨rfl, rfl⟩, trivial⟩, .run rfl (fun w HS => X.nilCheck rfl), rfl, rfl, rfl⟩, ⟨_, Value.pointer (some ⟨b0, 0 + 3, none⟩), [(51, Value.pointer (some ⟨b0, 0, none⟩))], 52, rfl, rfl, ⟨.inr ⟨rfl, rfl⟩, trivial⟩, .run rfl (fun w HS => X.fieldAddr 3 fo47_3 rfl), rfl, rfl, rfl⟩, ⟨_, Value.map (some b3_1), [(52, Value.pointer (some ⟨b0, 0 + 3, none⟩))], 53, rfl, rfl, ⟨.inr ⟨rfl, rfl⟩, trivial⟩, .run rfl (fun w HS => X.loadAt 2 HS rfl Try.underlying44 rfl rfl rfl), rfl, rfl, rfl⟩, ⟨_, Value.int .i64 ((w64 (((a0).next) + t3)).tmod ((a0).m)), [(1, Value.int .i64 ((w64 (((a0).next) + t3)).tmod ((a0).m)))], 54, rfl, rfl, ⟨.inl ⟨rfl, rfl⟩, trivial⟩, .run rfl (fun w HS => X.move rfl), rfl, rfl, rfl⟩, trivial⟩ rfl ⟨.inr ⟨rfl, rfl⟩, ⟨.inr ⟨rfl, rfl⟩, ⟨.inr ⟨rfl, rfl⟩, trivial⟩⟩⟩ (Or.inl rfl) (by intro d hd; cases hd) [] [0, 1, 2, 3, 4] rfl rfl (fun w HS => ?_)
      have HS : Sep.St [row 5 1 (.slice at17_0 (t17).length ct17_0) (t17).length ((t17).map (Value.int .u8)), fsl 1 (.slice ea14 (mget ((a0).kept) ((w64 (((a0).next) + t3)).tmod ((a0).m)) []).length em15) (mget ((a0).kept) ((w64 (((a0).next) + t3)).tmod ((a0).m)) []).length ((mget ((a0).kept) ((w64 (((a0).next) + t3)).tmod ((a0).m)) []).map (Value.int .u8)), blk b0 (#[Value.int .i64 ((a0).m), Value.int .i64 ((a0).window), Value.int .i64 ((a0).next), Value.map (some b3_1), Value.slice a4_1 ((a0).ready).length c4_1]) 47, mblk b3_1 k3_1, tieM (El.sl (El.int .u8)) k3_1 ((a0).kept), row 26 1 (.slice a4_1 ((a0).ready).length c4_1) ((a0).ready).length d4_1, tie (El.sl (El.int .u8)) d4_1 ((a0).ready), R] w0 w := HS
      replace HS := St.row_freeze HS
      have HS : Sep.St [fsl 1 (.slice at17_0 (t17).length ct17_0) (t17).length ((t17).map (Value.int .u8)), fsl 1 (.slice ea14 (mget ((a0).kept) ((w64 (((a0).next) + t3)).tmod ((a0).m)) []).length em15) (mget ((a0).kept) ((w64 (((a0).next) + t3)).tmod ((a0).m)) []).length ((mget ((a0).kept) ((w64 (((a0).next) + t3)).tmod ((a0).m)) []).map (Value.int .u8)), blk b0 (#[Value.int .i64 ((a0).m), Value.int .i64 ((a0).window), Value.int .i64 ((a0).next), Value.map (some b3_1), Value.slice a4_1 ((a0).ready).length c4_1]) 47, mblk b3_1 k3_1, tieM (El.sl (El.int .u8)) k3_1 ((a0).kept), row 26 1 (.slice a4_1 ((a0).ready).length c4_1) ((a0).ready).length d4_1, tie (El.sl (El.int .u8)) d4_1 ((a0).ready), R] w0 w := HS
      replace HS := HS.more 0 rfl (fun _ t => t) fsl.pers
      have HS : Sep.St [fsl 1 (.slice at17_0 (t17).length ct17_0) (t17).length ((t17).map (Value.int .u8)), fsl 1 (.slice at17_0 (t17).length ct17_0) (t17).length ((t17).map (Value.int .u8)), fsl 1 (.slice ea14 (mget ((a0).kept) ((w64 (((a0).next) + t3)).tmod ((a0).m)) []).length em15) (mget ((a0).kept) ((w64 (((a0).next) + t3)).tmod ((a0).m)) []).length ((mget ((a0).kept) ((w64 (((a0).next) + t3)).tmod ((a0).m)) []).map (Value.int .u8)), blk b0 (#[Value.int .i64 ((a0).m), Value.int .i64 ((a0).window), Value.int .i64 ((a0).next), Value.map (some b3_1), Value.slice a4_1 ((a0).ready).length c4_1]) 47, mblk b3_1 k3_1, tieM (El.sl (El.int .u8)) k3_1 ((a0).kept), row 26 1 (.slice a4_1 ((a0).ready).length c4_1) ((a0).ready).length d4_1, tie (El.sl (El.int .u8)) d4_1 ((a0).ready), R] w0 w := HS
      replace HS := St.put (A := tie (El.int .u8) ((t17).map (Value.int .u8)) (t17)) (fun _ => int_tie) HS
      have HS : Sep.St [tie (El.int .u8) ((t17).map (Value.int .u8)) (t17), fsl 1 (.slice at17_0 (t17).length ct17_0) (t17).length ((t17).map (Value.int .u8)), fsl 1 (.slice at17_0 (t17).length ct17_0) (t17).length ((t17).map (Value.int .u8)), fsl 1 (.slice ea14 (mget ((a0).kept) ((w64 (((a0).next) + t3)).tmod ((a0).m)) []).length em15) (mget ((a0).kept) ((w64 (((a0).next) + t3)).tmod ((a0).m)) []).length ((mget ((a0).kept) ((w64 (((a0).next) + t3)).tmod ((a0).m)) []).map (Value.int .u8)), blk b0 (#[Value.int .i64 ((a0).m), Value.int .i64 ((a0).window), Value.int .i64 ((a0).next), Value.map (some b3_1), Value.slice a4_1 ((a0).ready).length c4_1]) 47, mblk b3_1 k3_1, tieM (El.sl (El.int .u8)) k3_1 ((a0).kept), row 26 1 (.slice a4_1 ((a0).ready).length c4_1) ((a0).ready).length d4_1, tie (El.sl (El.int .u8)) d4_1 ((a0).ready), R] w0 w := HS
      replace HS := St.swap HS
      replace HS := St.sl_close (E := (El.int .u8)) HS
      have HS : Sep.St [(El.sl (El.int .u8)).p [Value.slice at17_0 (t17).length ct17_0] (t17), fsl 1 (.slice at17_0 (t17).length ct17_0) (t17).length ((t17).map (Value.int .u8)), fsl 1 (.slice ea14 (mget ((a0).kept) ((w64 (((a0).next) + t3)).tmod ((a0).m)) []).length em15) (mget ((a0).kept) ((w64 (((a0).next) + t3)).tmod ((a0).m)) []).length ((mget ((a0).kept) ((w64 (((a0).next) + t3)).tmod ((a0).m)) []).map (Value.int .u8)), blk b0 (#[Value.int .i64 ((a0).m), Value.int .i64 ((a0).window), Value.int .i64 ((a0).next), Value.map (some b3_1), Value.slice a4_1 ((a0).ready).length c4_1]) 47, mblk b3_1 k3_1, tieM (El.sl (El.int .u8)) k3_1 ((a0).kept), row 26 1 (.slice a4_1 ((a0).ready).length c4_1) ((a0).ready).length d4_1, tie (El.sl (El.int .u8)) d4_1 ((a0).ready), R] w0 w := HS
      replace HS := HS.re [0, 5, 1, 2, 3, 4, 6, 7, 8] (by kernel_rfl)
      have HS : Sep.St [(El.sl (El.int .u8)).p [Value.slice at17_0 (t17).length ct17_0] (t17), tieM (El.sl (El.int .u8)) k3_1 ((a0).kept), fsl 1 (.slice at17_0 (t17).length ct17_0) (t17).length ((t17).map (Value.int .u8)), fsl 1 (.slice ea14 (mget ((a0).kept) ((w64 (((a0).next) + t3)).tmod ((a0).m)) []).length em15) (mget ((a0).kept) ((w64 (((a0).next) + t3)).tmod ((a0).m)) []).length ((mget ((a0).kept) ((w64 (((a0).next) + t3)).tmod ((a0).m)) []).map (Value.int .u8)), blk b0 (#[Value.int .i64 ((a0).m), Value.int .i64 ((a0).window), Value.int .i64 ((a0).next), Value.map (some b3_1), Value.slice a4_1 ((a0).ready).length c4_1]) 47, mblk b3_1 k3_1, row 26 1 (.slice a4_1 ((a0).ready).length c4_1) ((a0).ready).length d4_1, tie (El.sl (El.int .u8)) d4_1 ((a0).ready), R] w0 w := HS
      replace HS := St.tieM_put ((w64 (((a0).next) + t3)).tmod ((a0).m)) HS
      have HS : Sep.St [tieM (El.sl (El.int .u8)) (mput k3_1 ((w64 (((a0).next) + t3)).tmod ((a0).m)) (Value.slice at17_0 (t17).length ct17_0)) (mput ((a0).kept) ((w64 (((a0).next) + t3)).tmod ((a0).m)) t17), fsl 1 (.slice at17_0 (t17).length ct17_0) (t17).length ((t17).map (Value.int .u8)), fsl 1 (.slice ea14 (mget ((a0).kept) ((w64 (((a0).next) + t3)).tmod ((a0).m)) []).length em15) (mget ((a0).kept) ((w64 (((a0).next) + t3)).tmod ((a0).m)) []).length ((mget ((a0).kept) ((w64 (((a0).next) + t3)).tmod ((a0).m)) []).map (Value.int .u8)), blk b0 (#[Value.int .i64 ((a0).m), Value.int .i64 ((a0).window), Value.int .i64 ((a0).next), Value.map (some b3_1), Value.slice a4_1 ((a0).ready).length c4_1]) 47, mblk b3_1 k3_1, row 26 1 (.slice a4_1 ((a0).ready).length c4_1) ((a0).ready).length d4_1, tie (El.sl (El.int .u8)) d4_1 ((a0).ready), R] w0 w := HS
      refine ⟨_, Y.mapUpdate 4 Try.underlying44 Try.underlying3 HS rfl rfl rfl rfl, ?_⟩
      rintro _ w HS
      have HS : Sep.St [tieM (El.sl (El.int .u8)) (mput k3_1 ((w64 (((a0).next) + t3)).tmod ((a0).m)) (Value.slice at17_0 (t17).length ct17_0)) (mput ((a0).kept) ((w64 (((a0).next) + t3)).tmod ((a0).m)) t17), fsl 1 (.slice at17_0 (t17).length ct17_0) (t17).length ((t17).map (Value.int .u8)), fsl 1 (.slice ea14 (mget ((a0).kept) ((w64 (((a0).next) + t3)).tmod ((a0).m)) []).length em15) (mget ((a0).kept) ((w64 (((a0).next) + t3)).tmod ((a0).m)) []).length ((mget ((a0).kept) ((w64 (((a0).next) + t3)).tmod ((a0).m)) []).map (Value.int .u8)), blk b0 (#[Value.int .i64 ((a0).m), Value.int .i64 ((a0).window), Value.int .i64 ((a0).next), Value.map (some b3_1), Value.slice a4_1 ((a0).ready).length c4_1]) 47, mblk b3_1 (mput k3_1 ((w64 (((a0).next) + t3)).tmod ((a0).m)) (Value.slice at17_0 (t17).length ct17_0)), row 26 1 (.slice a4_1 ((a0).ready).length c4_1) ((a0).ready).length d4_1, tie (El.sl (El.int .u8)) d4_1 ((a0).ready), R] w0 w := HS
      refine ⟨[], fun w => Sep.St [tieM (El.sl (El.int .u8)) (mput k3_1 ((w64 (((a0).next) + t3)).tmod ((a0).m)) (Value.slice at17_0 (t17).length ct17_0)) (mput ((a0).kept) ((w64 (((a0).next) + t3)).tmod ((a0).m)) t17), fsl 1 (.slice at17_0 (t17).length ct17_0) (t17).length ((t17).map (Value.int .u8)), fsl 1 (.slice ea14 (mget ((a0).kept) ((w64 (((a0).next) + t3)).tmod ((a0).m)) []).length em15) (mget ((a0).kept) ((w64 (((a0).next) + t3)).tmod ((a0).m)) []).length ((mget ((a0).kept) ((w64 (((a0).next) + t3)).tmod ((a0).m)) []).map (Value.int .u8)), blk b0 (#[Value.int .i64 ((a0).m), Value.int .i64 ((a0).window), Value.int .i64 ((a0).next), Value.map (some b3_1), Value.slice a4_1 ((a0).ready).length c4_1]) 47, mblk b3_1 (mput k3_1 ((w64 (((a0).next) + t3)).tmod ((a0).m)) (Value.slice at17_0 (t17).length ct17_0)), row 26 1 (.slice a4_1 ((a0).ready).length c4_1) ((a0).ready).length d4_1, tie (El.sl (El.int .u8)) d4_1 ((a0).ready), R] w0 w, trivial, ?_, HS⟩
      refine T.fin [(0, Value.pointer (some ⟨b0, 0, none⟩))] rfl trivial ⟨.inl ⟨rfl, rfl⟩, trivial⟩ (fun w HS => ?_)
      have HS : Sep.St [tieM (El.sl (El.int .u8)) (mput k3_1 ((w64 (((a0).next) + t3)).tmod ((a0).m)) (Value.slice at17_0 (t17).length ct17_0)) (mput ((a0).kept) ((w64 (((a0).next) + t3)).tmod ((a0).m)) t17), fsl 1 (.slice at17_0 (t17).length ct17_0) (t17).length ((t17).map (Value.int .u8)), fsl 1 (.slice ea14 (mget ((a0).kept) ((w64 (((a0).next) + t3)).tmod ((a0).m)) []).length em15) (mget ((a0).kept) ((w64 (((a0).next) + t3)).tmod ((a0).m)) []).length ((mget ((a0).kept) ((w64 (((a0).next) + t3)).tmod ((a0).m)) []).map (Value.int .u8)), blk b0 (#[Value.int .i64 ((a0).m), Value.int .i64 ((a0).window), Value.int .i64 ((a0).next), Value.map (some b3_1), Value.slice a4_1 ((a0).ready).length c4_1]) 47, mblk b3_1 (mput k3_1 ((w64 (((a0).next) + t3)).tmod ((a0).m)) (Value.slice at17_0 (t17).length ct17_0)), row 26 1 (.slice a4_1 ((a0).ready).length c4_1) ((a0).ready).length d4_1, tie (El.sl (El.int .u8)) d4_1 ((a0).ready), R] w0 w := HS
      refine At.next ?_
      refine V.keep [(0, Value.pointer (some ⟨b0, 0, none⟩))] ⟨rfl, trivial⟩ ?_
      refine V.seq ?_
      refine V.region ?_
      refine W.rd (X.assign rfl) rfl rfl rfl ?_
      refine W.nil ?_
      refine At.next ?_
      refine V.keep [(0, Value.pointer (some ⟨b0, 0, none⟩)), (10, Value.int .i64 (0))] ⟨rfl, rfl, trivial⟩ ?_
      refine V.seq ?_
      refine V.seq ?_
      have hm19 := St.tieM_has 0 ((a0).next) HS rfl
      replace HS := St.tieM_get 0 ((a0).next) (z := .slice none 0 0) (d := []) sl_zero HS rfl
      obtain ⟨ea21, em22, hu20, HS⟩ := St.sl_openF (Value.int .u8) (fun t => tie_int t) HS
      have HS : Sep.St [fsl 1 (.slice ea21 (mget (mput ((a0).kept) ((w64 (((a0).next) + t3)).tmod ((a0).m)) t17) ((a0).next) []).length em22) (mget (mput ((a0).kept) ((w64 (((a0).next) + t3)).tmod ((a0).m)) t17) ((a0).next) []).length ((mget (mput ((a0).kept) ((w64 (((a0).next) + t3)).tmod ((a0).m)) t17) ((a0).next) []).map (Value.int .u8)), tieM (El.sl (El.int .u8)) (mput k3_1 ((w64 (((a0).next) + t3)).tmod ((a0).m)) (Value.slice at17_0 (t17).length ct17_0)) (mput ((a0).kept) ((w64 (((a0).next) + t3)).tmod ((a0).m)) t17), fsl 1 (.slice at17_0 (t17).length ct17_0) (t17).length ((t17).map (Value.int .u8)), fsl 1 (.slice ea14 (mget ((a0).kept) ((w64 (((a0).next) + t3)).tmod ((a0).m)) []).length em15) (mget ((a0).kept) ((w64 (((a0).next) + t3)).tmod ((a0).m)) []).length ((mget ((a0).kept) ((w64 (((a0).next) + t3)).tmod ((a0).m)) []).map (Value.int .u8)), blk b0 (#[Value.int .i64 ((a0).m), Value.int .i64 ((a0).window), Value.int .i64 ((a0).next), Value.map (some b3_1), Value.slice a4_1 ((a0).ready).length c4_1]) 47, mblk b3_1 (mput k3_1 ((w64 (((a0).next) + t3)).tmod ((a0).m)) (Value.slice at17_0 (t17).length ct17_0)), row 26 1 (.slice a4_1 ((a0).ready).length c4_1) ((a0).ready).length d4_1, tie (El.sl (El.int .u8)) d4_1 ((a0).ready), R] w0 w := HS
      refine V.draw (es := []) (bl := []) (f := [(58, Value.pointer (some ⟨b0, 0, none⟩)), (59, Value.pointer (some ⟨b0, 0, none⟩)), (60, Value.pointer (some ⟨b0, 0 + 3, none⟩)), (61, Value.map (some b3_1)), (62, Value.pointer (some ⟨b0, 0, none⟩)), (63, Value.pointer (some ⟨b0, 0, none⟩)), (64, Value.pointer (some ⟨b0, 0 + 2, none⟩)), (65, Value.int .i64 ((a0).next)), (66, Value.tuple #[Value.slice ea21 (mget (mput ((a0).kept) ((w64 (((a0).next) + t3)).tmod ((a0).m)) t17) ((a0).next) []).length em22, Value.bool (mhas (mput ((a0).kept) ((w64 (((a0).next) + t3)).tmod ((a0).m)) t17) ((a0).next))]), (57, Value.tuple #[Value.slice ea21 (mget (mput ((a0).kept) ((w64 (((a0).next) + t3)).tmod ((a0).m)) t17) ((a0).next) []).length em22, Value.bool (mhas (mput ((a0).kept) ((w64 (((a0).next) + t3)).tmod ((a0).m)) t17) ((a0).next))]), (67, Value.slice ea21 (mget (mput ((a0).kept) ((w64 (((a0).next) + t3)).tmod ((a0).m)) t17) ((a0).next) []).length em22), (68, Value.bool (mhas (mput ((a0).kept) ((w64 (((a0).next) + t3)).tmod ((a0).m)) t17) ((a0).next))), (11, Value.slice ea21 (mget (mput ((a0).kept) ((w64 (((a0).next) + t3)).tmod ((a0).m)) t17) ((a0).next) []).length em22), (12, Value.bool (mhas (mput ((a0).kept) ((w64 (((a0).next) + t3)).tmod ((a0).m)) t17) ((a0).next)))]) (fun w => Sep.St [fsl 1 (.slice ea21 (mget (mput ((a0).kept) ((w64 (((a0).next) + t3)).tmod ((a0).m)) t17) ((a0).next) []).length em22) (mget (mput ((a0).kept) ((w64 (((a0).next) + t3)).tmod ((a0).m)) t17) ((a0).next) []).length ((mget (mput ((a0).kept) ((w64 (((a0).next) + t3)).tmod ((a0).m)) t17) ((a0).next) []).map (Value.int .u8)), tieM (El.sl (El.int .u8)) (mput k3_1 ((w64 (((a0).next) + t3)).tmod ((a0).m)) (Value.slice at17_0 (t17).length ct17_0)) (mput ((a0).kept) ((w64 (((a0).next) + t3)).tmod ((a0).m)) t17), fsl 1 (.slice at17_0 (t17).length ct17_0) (t17).length ((t17).map (Value.int .u8)), fsl 1 (.slice ea14 (mget ((a0).kept) ((w64 (((a0).next) + t3)).tmod ((a0).m)) []).length em15) (mget ((a0).kept) ((w64 (((a0).next) + t3)).tmod ((a0).m)) []).length ((mget ((a0).kept) ((w64 (((a0).next) + t3)).tmod ((a0).m)) []).map (Value.int .u8)), blk b0 (#[Value.int .i64 ((a0).m), Value.int .i64 ((a0).window), Value.int .i64 ((a0).next), Value.map (some b3_1), Value.slice a4_1 ((a0).ready).length c4_1]) 47, mblk b3_1 (mput k3_1 ((w64 (((a0).next) + t3)).tmod ((a0).m)) (Value.slice at17_0 (t17).length ct17_0)), row 26 1 (.slice a4_1 ((a0).ready).length c4_1) ((a0).ready).length d4_1, tie (El.sl (El.int .u8)) d4_1 ((a0).ready), R] w0 w) mo HS.drew rfl ?_
      refine T.fin [(0, Value.pointer (some ⟨b0, 0, none⟩)), (10, Value.int .i64 (0)), (11, Value.slice ea21 (mget (mput ((a0).kept) ((w64 (((a0).next) + t3)).tmod ((a0).m)) t17) ((a0).next) []).length em22), (12, Value.bool (mhas (mput ((a0).kept) ((w64 (((a0).next) + t3)).tmod ((a0).m)) t17) ((a0).next)))] rfl ⟨⟨_, Value.pointer (some ⟨b0, 0, none⟩), [(0, Value.pointer (some ⟨b0, 0, none⟩))], 58, rfl, rfl, ⟨.inl ⟨rfl, rfl⟩, trivial⟩, .run rfl (fun w HS => X.move rfl), rfl, rfl, rfl⟩, ⟨_, Value.pointer (some ⟨b0, 0, none⟩), [(58, Value.pointer (some ⟨b0, 0, none⟩))], 59, rfl, rfl, ⟨.inr ⟨rfl, rfl⟩, trivial⟩, .run rfl (fun w HS => X.nilCheck rfl), rfl, rfl, rfl⟩, ⟨_, Value.pointer (some ⟨b0, 0 + 3, none⟩), [(59, Value.pointer (some ⟨b0, 0, none⟩))], 60, rfl, rfl, ⟨.inr ⟨rfl, rfl⟩, trivial⟩, .run rfl (fun w HS => X.fieldAddr 3 fo47_3 rfl), rfl, rfl, rfl⟩, ⟨_, Value.map (some b3_1), [(60, Value.pointer (some ⟨b0, 0 + 3, none⟩))], 61, rfl, rfl, ⟨.inr ⟨rfl, rfl⟩, trivial⟩, .run rfl (fun w HS => X.loadAt 4 HS rfl Try.underlying44 rfl rfl rfl), rfl, rfl, rfl⟩, ⟨_, Value.pointer (some ⟨b0, 0, none⟩), [(0, Value.pointer (some ⟨b0, 0, none⟩))], 62, rfl, rfl, ⟨.inl ⟨rfl, rfl⟩, trivial⟩, .run rfl (fun w HS => X.move rfl), rfl, rfl, rfl⟩, ⟨_, Value.pointer (some ⟨b0, 0, none⟩), [(62, Value.pointer (some ⟨b0, 0, none⟩))], 63, rfl, rfl, ⟨.inr ⟨rfl, rfl⟩, trivial⟩, .run rfl (fun w HS => X.nilCheck rfl), rfl, rfl, rfl⟩, ⟨_, Value.pointer (some ⟨b0, 0 + 2, none⟩), [(63, Value.pointer (some ⟨b0, 0, none⟩))], 64, rfl, rfl, ⟨.inr ⟨rfl, rfl⟩, trivial⟩, .run rfl (fun w HS => X.fieldAddr 2 fo47_2 rfl), rfl, rfl, rfl⟩, ⟨_, Value.int .i64 ((a0).next), [(64, Value.pointer (some ⟨b0, 0 + 2, none⟩))], 65, rfl, rfl, ⟨.inr ⟨rfl, rfl⟩, trivial⟩, .run rfl (fun w HS => X.loadAt 4 HS rfl Try.underlying3 rfl rfl rfl), rfl, rfl, rfl⟩, ⟨_, Value.tuple #[Value.slice ea21 (mget (mput ((a0).kept) ((w64 (((a0).next) + t3)).tmod ((a0).m)) t17) ((a0).next) []).length em22, Value.bool (mhas (mput ((a0).kept) ((w64 (((a0).next) + t3)).tmod ((a0).m)) t17) ((a0).next))], [(61, Value.map (some b3_1)), (65, Value.int .i64 ((a0).next))], 66, rfl, rfl, ⟨.inr ⟨rfl, rfl⟩, ⟨.inr ⟨rfl, rfl⟩, trivial⟩⟩, .run rfl (fun w HS => X.lookup (z := .slice none 0 0) 5 Try.underlying44 Try.underlying3 ze26 HS rfl rfl rfl hu20 hm19), rfl, rfl, rfl⟩, ⟨_, Value.tuple #[Value.slice ea21 (mget (mput ((a0).kept) ((w64 (((a0).next) + t3)).tmod ((a0).m)) t17) ((a0).next) []).length em22, Value.bool (mhas (mput ((a0).kept) ((w64 (((a0).next) + t3)).tmod ((a0).m)) t17) ((a0).next))], [(66, Value.tuple #[Value.slice ea21 (mget (mput ((a0).kept) ((w64 (((a0).next) + t3)).tmod ((a0).m)) t17) ((a0).next) []).length em22, Value.bool (mhas (mput ((a0).kept) ((w64 (((a0).next) + t3)).tmod ((a0).m)) t17) ((a0).next))])], 57, rfl, rfl, ⟨.inr ⟨rfl, rfl⟩, trivial⟩, .run rfl (fun w HS => X.move rfl), rfl, rfl, rfl⟩, ⟨_, Value.slice ea21 (mget (mput ((a0).kept) ((w64 (((a0).next) + t3)).tmod ((a0).m)) t17) ((a0).next) []).length em22, [(57, Value.tuple #[Value.slice ea21 (mget (mput ((a0).kept) ((w64 (((a0).next) + t3)).tmod ((a0).m)) t17) ((a0).next) []).length em22, Value.bool (mhas (mput ((a0).kept) ((w64 (((a0).next) + t3)).tmod ((a0).m)) t17) ((a0).next))])], 67, rfl, rfl, ⟨.inr ⟨rfl, rfl⟩, trivial⟩, .run rfl (fun w HS => X.extract rfl rfl), rfl, rfl, rfl⟩, ⟨_, Value.bool (mhas (mput ((a0).kept) ((w64 (((a0).next) + t3)).tmod ((a0).m)) t17) ((a0).next)), [(57, Value.tuple #[Value.slice ea21 (mget (mput ((a0).kept) ((w64 (((a0).next) + t3)).tmod ((a0).m)) t17) ((a0).next) []).length em22, Value.bool (mhas (mput ((a0).kept) ((w64 (((a0).next) + t3)).tmod ((a0).m)) t17) ((a0).next))])], 68, rfl, rfl, ⟨.inr ⟨rfl, rfl⟩, trivial⟩, .run rfl (fun w HS => X.extract rfl rfl), rfl, rfl, rfl⟩, ⟨_, Value.slice ea21 (mget (mput ((a0).kept) ((w64 (((a0).next) + t3)).tmod ((a0).m)) t17) ((a0).next) []).length em22, [(67, Value.slice ea21 (mget (mput ((a0).kept) ((w64 (((a0).next) + t3)).tmod ((a0).m)) t17) ((a0).next) []).length em22)], 11, rfl, rfl, ⟨.inr ⟨rfl, rfl⟩, trivial⟩, .run rfl (fun w HS => X.assign rfl), rfl, rfl, rfl⟩, ⟨_, Value.bool (mhas (mput ((a0).kept) ((w64 (((a0).next) + t3)).tmod ((a0).m)) t17) ((a0).next)), [(68, Value.bool (mhas (mput ((a0).kept) ((w64 (((a0).next) + t3)).tmod ((a0).m)) t17) ((a0).next)))], 12, rfl, rfl, ⟨.inr ⟨rfl, rfl⟩, trivial⟩, .run rfl (fun w HS => X.assign rfl), rfl, rfl, rfl⟩, trivial⟩ ⟨.inl ⟨rfl, rfl⟩, ⟨.inl ⟨rfl, rfl⟩, ⟨.inr ⟨rfl, rfl⟩, ⟨.inr ⟨rfl, rfl⟩, trivial⟩⟩⟩⟩ (fun w HS => ?_)
      have HS : Sep.St [fsl 1 (.slice ea21 (mget (mput ((a0).kept) ((w64 (((a0).next) + t3)).tmod ((a0).m)) t17) ((a0).next) []).length em22) (mget (mput ((a0).kept) ((w64 (((a0).next) + t3)).tmod ((a0).m)) t17) ((a0).next) []).length ((mget (mput ((a0).kept) ((w64 (((a0).next) + t3)).tmod ((a0).m)) t17) ((a0).next) []).map (Value.int .u8)), tieM (El.sl (El.int .u8)) (mput k3_1 ((w64 (((a0).next) + t3)).tmod ((a0).m)) (Value.slice at17_0 (t17).length ct17_0)) (mput ((a0).kept) ((w64 (((a0).next) + t3)).tmod ((a0).m)) t17), fsl 1 (.slice at17_0 (t17).length ct17_0) (t17).length ((t17).map (Value.int .u8)), fsl 1 (.slice ea14 (mget ((a0).kept) ((w64 (((a0).next) + t3)).tmod ((a0).m)) []).length em15) (mget ((a0).kept) ((w64 (((a0).next) + t3)).tmod ((a0).m)) []).length ((mget ((a0).kept) ((w64 (((a0).next) + t3)).tmod ((a0).m)) []).map (Value.int .u8)), blk b0 (#[Value.int .i64 ((a0).m), Value.int .i64 ((a0).window), Value.int .i64 ((a0).next), Value.map (some b3_1), Value.slice a4_1 ((a0).ready).length c4_1]) 47, mblk b3_1 (mput k3_1 ((w64 (((a0).next) + t3)).tmod ((a0).m)) (Value.slice at17_0 (t17).length ct17_0)), row 26 1 (.slice a4_1 ((a0).ready).length c4_1) ((a0).ready).length d4_1, tie (El.sl (El.int .u8)) d4_1 ((a0).ready), R] w0 w := HS
      refine At.next ?_
      refine V.keep [(0, Value.pointer (some ⟨b0, 0, none⟩)), (10, Value.int .i64 (0)), (11, Value.slice ea21 (mget (mput ((a0).kept) ((w64 (((a0).next) + t3)).tmod ((a0).m)) t17) ((a0).next) []).length em22), (12, Value.bool (mhas (mput ((a0).kept) ((w64 (((a0).next) + t3)).tmod ((a0).m)) t17) ((a0).next)))] ⟨rfl, rfl, rfl, rfl, trivial⟩ ?_
      refine V.block ?_
      replace HS := HS.re [4, 5, 1, 6, 7, 0, 2, 3, 8] (by kernel_rfl)
      have HS : Sep.St [blk b0 (#[Value.int .i64 ((a0).m), Value.int .i64 ((a0).window), Value.int .i64 ((a0).next), Value.map (some b3_1), Value.slice a4_1 ((a0).ready).length c4_1]) 47, mblk b3_1 (mput k3_1 ((w64 (((a0).next) + t3)).tmod ((a0).m)) (Value.slice at17_0 (t17).length ct17_0)), tieM (El.sl (El.int .u8)) (mput k3_1 ((w64 (((a0).next) + t3)).tmod ((a0).m)) (Value.slice at17_0 (t17).length ct17_0)) (mput ((a0).kept) ((w64 (((a0).next) + t3)).tmod ((a0).m)) t17), row 26 1 (.slice a4_1 ((a0).ready).length c4_1) ((a0).ready).length d4_1, tie (El.sl (El.int .u8)) d4_1 ((a0).ready), fsl 1 (.slice ea21 (mget (mput ((a0).kept) ((w64 (((a0).next) + t3)).tmod ((a0).m)) t17) ((a0).next) []).length em22) (mget (mput ((a0).kept) ((w64 (((a0).next) + t3)).tmod ((a0).m)) t17) ((a0).next) []).length ((mget (mput ((a0).kept) ((w64 (((a0).next) + t3)).tmod ((a0).m)) t17) ((a0).next) []).map (Value.int .u8)), fsl 1 (.slice at17_0 (t17).length ct17_0) (t17).length ((t17).map (Value.int .u8)), fsl 1 (.slice ea14 (mget ((a0).kept) ((w64 (((a0).next) + t3)).tmod ((a0).m)) []).length em15) (mget ((a0).kept) ((w64 (((a0).next) + t3)).tmod ((a0).m)) []).length ((mget ((a0).kept) ((w64 (((a0).next) + t3)).tmod ((a0).m)) []).map (Value.int .u8)), R] w0 w := HS
      replace HS := reorder_Order.close (({ m := (a0).m, window := (a0).window, next := (a0).next, kept := mput ((a0).kept) ((w64 (((a0).next) + t3)).tmod ((a0).m)) t17, ready := (a0).ready } : reorder_Order)) trivial HS
      have HS : Sep.St [reorder_Order.at b0 (({ m := (a0).m, window := (a0).window, next := (a0).next, kept := mput ((a0).kept) ((w64 (((a0).next) + t3)).tmod ((a0).m)) t17, ready := (a0).ready } : reorder_Order)), fsl 1 (.slice ea21 (mget (mput ((a0).kept) ((w64 (((a0).next) + t3)).tmod ((a0).m)) t17) ((a0).next) []).length em22) (mget (mput ((a0).kept) ((w64 (((a0).next) + t3)).tmod ((a0).m)) t17) ((a0).next) []).length ((mget (mput ((a0).kept) ((w64 (((a0).next) + t3)).tmod ((a0).m)) t17) ((a0).next) []).map (Value.int .u8)), fsl 1 (.slice at17_0 (t17).length ct17_0) (t17).length ((t17).map (Value.int .u8)), fsl 1 (.slice ea14 (mget ((a0).kept) ((w64 (((a0).next) + t3)).tmod ((a0).m)) []).length em15) (mget ((a0).kept) ((w64 (((a0).next) + t3)).tmod ((a0).m)) []).length ((mget ((a0).kept) ((w64 (((a0).next) + t3)).tmod ((a0).m)) []).map (Value.int .u8)), R] w0 w := HS
      refine V.loop (σ := Int × Bool × reorder_Order × Option Addr × Nat × List Int) (fun kq (st : Int × Bool × reorder_Order × Option Addr × Nat × List Int) w => match st with | (x26, x27, x28, ra29, rc30, x31) => Sep.St [reorder_Order.at b0 (x28), fsl 1 (.slice ra29 (x31).length rc30) (x31).length ((x31).map (Value.int .u8)), fsl 1 (.slice at17_0 (t17).length ct17_0) (t17).length ((t17).map (Value.int .u8)), fsl 1 (.slice ea14 (mget ((a0).kept) ((w64 (((a0).next) + t3)).tmod ((a0).m)) []).length em15) (mget ((a0).kept) ((w64 (((a0).next) + t3)).tmod ((a0).m)) []).length ((mget ((a0).kept) ((w64 (((a0).next) + t3)).tmod ((a0).m)) []).map (Value.int .u8)), R] w0 w ∧ reorder_Order_Put.l0 kq x26 x27 x28 x31 = some r ∧ kq ≤ k) (fun st => match st with | (x26, x27, x28, ra29, rc30, x31) => [(0, Value.pointer (some ⟨b0, 0, none⟩)), (10, Value.int .i64 (x26)), (11, Value.slice ra29 (x31).length rc30), (12, Value.bool (x27))]) k (0, mhas (mput ((a0).kept) ((w64 (((a0).next) + t3)).tmod ((a0).m)) t17) ((a0).next), ({ m := (a0).m, window := (a0).window, next := (a0).next, kept := mput ((a0).kept) ((w64 (((a0).next) + t3)).tmod ((a0).m)) t17, ready := (a0).ready } : reorder_Order), ea21, em22, mget (mput ((a0).kept) ((w64 (((a0).next) + t3)).tmod ((a0).m)) t17) ((a0).next) []) ⟨rfl, rfl, rfl, rfl, trivial⟩ ⟨HS, H, Nat.le_refl _⟩ ?_
      rintro kq32 ⟨x26, x27, x28, ra29, rc30, x31⟩ w ⟨HS, H, hk33⟩
      cases kq32 with
      | zero => exact absurd H (by simp [reorder_Order_Put.l0])
      | succ kq32 =>
        simp only [reorder_Order_Put.l0] at H
        have HS : Sep.St [reorder_Order.at b0 (x28), fsl 1 (.slice ra29 (x31).length rc30) (x31).length ((x31).map (Value.int .u8)), fsl 1 (.slice at17_0 (t17).length ct17_0) (t17).length ((t17).map (Value.int .u8)), fsl 1 (.slice ea14 (mget ((a0).kept) ((w64 (((a0).next) + t3)).tmod ((a0).m)) []).length em15) (mget ((a0).kept) ((w64 (((a0).next) + t3)).tmod ((a0).m)) []).length ((mget ((a0).kept) ((w64 (((a0).next) + t3)).tmod ((a0).m)) []).map (Value.int .u8)), R] w0 w := HS
        refine V.seq ?_
        refine V.seq ?_
        refine V.region ?_
        refine W.rd (X.move rfl) rfl rfl rfl ?_
        refine W.nil ?_
        refine At.next ?_
        refine V.keep [(0, Value.pointer (some ⟨b0, 0, none⟩)), (10, Value.int .i64 (x26)), (11, Value.slice ra29 (x31).length rc30), (69, Value.bool (x27))] ⟨rfl, rfl, rfl, rfl, trivial⟩ ?_
        by_cases c34 : x27 = true
        · replace H := ite_t c34 H
          refine V.condT (sb c34) ?_
          refine V.skip ?_
          refine At.next ?_
          refine V.keep [(0, Value.pointer (some ⟨b0, 0, none⟩)), (10, Value.int .i64 (x26)), (11, Value.slice ra29 (x31).length rc30)] ⟨rfl, rfl, rfl, trivial⟩ ?_
          refine V.seq ?_
          refine V.block ?_
          refine V.seq ?_
          obtain ⟨b3_35, k3_35, a4_35, c4_35, d4_35, hi36, HS⟩ := reorder_Order.open HS
          have HS : Sep.St [blk b0 (#[Value.int .i64 ((x28).m), Value.int .i64 ((x28).window), Value.int .i64 ((x28).next), Value.map (some b3_35), Value.slice a4_35 ((x28).ready).length c4_35]) 47, mblk b3_35 k3_35, tieM (El.sl (El.int .u8)) k3_35 ((x28).kept), row 26 1 (.slice a4_35 ((x28).ready).length c4_35) ((x28).ready).length d4_35, tie (El.sl (El.int .u8)) d4_35 ((x28).ready), fsl 1 (.slice ra29 (x31).length rc30) (x31).length ((x31).map (Value.int .u8)), fsl 1 (.slice at17_0 (t17).length ct17_0) (t17).length ((t17).map (Value.int .u8)), fsl 1 (.slice ea14 (mget ((a0).kept) ((w64 (((a0).next) + t3)).tmod ((a0).m)) []).length em15) (mget ((a0).kept) ((w64 (((a0).next) + t3)).tmod ((a0).m)) []).length ((mget ((a0).kept) ((w64 (((a0).next) + t3)).tmod ((a0).m)) []).map (Value.int .u8)), R] w0 w := HS
          refine V.draw (es := [8]) (bl := []) (f := [(82, Value.pointer (some ⟨b0, 0, none⟩)), (83, Value.pointer (some ⟨b0, 0, none⟩)), (84, Value.pointer (some ⟨b0, 0 + 3, none⟩)), (85, Value.map (some b3_35)), (86, Value.pointer (some ⟨b0, 0, none⟩)), (87, Value.pointer (some ⟨b0, 0, none⟩)), (88, Value.pointer (some ⟨b0, 0 + 2, none⟩)), (89, Value.int .i64 ((x28).next))]) (fun w => Sep.St [blk b0 (#[Value.int .i64 ((x28).m), Value.int .i64 ((x28).window), Value.int .i64 ((x28).next), Value.map (some b3_35), Value.slice a4_35 ((x28).ready).length c4_35]) 47, mblk b3_35 k3_35, tieM (El.sl (El.int .u8)) k3_35 ((x28).kept), row 26 1 (.slice a4_35 ((x28).ready).length c4_35) ((x28).ready).length d4_35, tie (El.sl (El.int .u8)) d4_35 ((x28).ready), fsl 1 (.slice ra29 (x31).length rc30) (x31).length ((x31).map (Value.int .u8)), fsl 1 (.slice at17_0 (t17).length ct17_0) (t17).length ((t17).map (Value.int .u8)), fsl 1 (.slice ea14 (mget ((a0).kept) ((w64 (((a0).next) + t3)).tmod ((a0).m)) []).length em15) (mget ((a0).kept) ((w64 (((a0).next) + t3)).tmod ((a0).m)) []).length ((mget ((a0).kept) ((w64 (((a0).next) + t3)).tmod ((a0).m)) []).map (Value.int .u8)), R] w0 w) mo HS.drew rfl ?_
          refine T.event _ [(85, Value.map (some b3_35)), (89, Value.int .i64 ((x28).next))] rfl rfl ⟨⟨_, Value.pointer (some ⟨b0, 0, none⟩), [(0, Value.pointer (some ⟨b0, 0, none⟩))], 82, rfl, rfl, ⟨.inl ⟨rfl, rfl⟩, trivial⟩, .run rfl (fun w HS => X.move rfl), rfl, rfl, rfl⟩, ⟨_, Value.pointer (some ⟨b0, 0, none⟩), [(82, Value.pointer (some ⟨b0, 0, none⟩))], 83, rfl, rfl, ⟨.inr ⟨rfl, rfl⟩, trivial⟩, .run rfl (fun w HS => X.nilCheck rfl), rfl, rfl, rfl⟩, ⟨_, Value.pointer (some ⟨b0, 0 + 3, none⟩), [(83, Value.pointer (some ⟨b0, 0, none⟩))], 84, rfl, rfl, ⟨.inr ⟨rfl, rfl⟩, trivial⟩, .run rfl (fun w HS => X.fieldAddr 3 fo47_3 rfl), rfl, rfl, rfl⟩, ⟨_, Value.map (some b3_35), [(84, Value.pointer (some ⟨b0, 0 + 3, none⟩))], 85, rfl, rfl, ⟨.inr ⟨rfl, rfl⟩, trivial⟩, .run rfl (fun w HS => X.loadAt 0 HS rfl Try.underlying44 rfl rfl rfl), rfl, rfl, rfl⟩, ⟨_, Value.pointer (some ⟨b0, 0, none⟩), [(0, Value.pointer (some ⟨b0, 0, none⟩))], 86, rfl, rfl, ⟨.inl ⟨rfl, rfl⟩, trivial⟩, .run rfl (fun w HS => X.move rfl), rfl, rfl, rfl⟩, ⟨_, Value.pointer (some ⟨b0, 0, none⟩), [(86, Value.pointer (some ⟨b0, 0, none⟩))], 87, rfl, rfl, ⟨.inr ⟨rfl, rfl⟩, trivial⟩, .run rfl (fun w HS => X.nilCheck rfl), rfl, rfl, rfl⟩, ⟨_, Value.pointer (some ⟨b0, 0 + 2, none⟩), [(87, Value.pointer (some ⟨b0, 0, none⟩))], 88, rfl, rfl, ⟨.inr ⟨rfl, rfl⟩, trivial⟩, .run rfl (fun w HS => X.fieldAddr 2 fo47_2 rfl), rfl, rfl, rfl⟩, ⟨_, Value.int .i64 ((x28).next), [(88, Value.pointer (some ⟨b0, 0 + 2, none⟩))], 89, rfl, rfl, ⟨.inr ⟨rfl, rfl⟩, trivial⟩, .run rfl (fun w HS => X.loadAt 0 HS rfl Try.underlying3 rfl rfl rfl), rfl, rfl, rfl⟩, trivial⟩ rfl ⟨.inr ⟨rfl, rfl⟩, ⟨.inr ⟨rfl, rfl⟩, trivial⟩⟩ (Or.inl rfl) (by intro d hd; cases hd) [] [0, 1, 2, 3, 4, 5, 6, 7] rfl rfl (fun w HS => ?_)
          have HS : Sep.St [blk b0 (#[Value.int .i64 ((x28).m), Value.int .i64 ((x28).window), Value.int .i64 ((x28).next), Value.map (some b3_35), Value.slice a4_35 ((x28).ready).length c4_35]) 47, mblk b3_35 k3_35, tieM (El.sl (El.int .u8)) k3_35 ((x28).kept), row 26 1 (.slice a4_35 ((x28).ready).length c4_35) ((x28).ready).length d4_35, tie (El.sl (El.int .u8)) d4_35 ((x28).ready), fsl 1 (.slice ra29 (x31).length rc30) (x31).length ((x31).map (Value.int .u8)), fsl 1 (.slice at17_0 (t17).length ct17_0) (t17).length ((t17).map (Value.int .u8)), fsl 1 (.slice ea14 (mget ((a0).kept) ((w64 (((a0).next) + t3)).tmod ((a0).m)) []).length em15) (mget ((a0).kept) ((w64 (((a0).next) + t3)).tmod ((a0).m)) []).length ((mget ((a0).kept) ((w64 (((a0).next) + t3)).tmod ((a0).m)) []).map (Value.int .u8)), R] w0 w := HS
          replace HS := HS.front 2 rfl
          have HS : Sep.St [tieM (El.sl (El.int .u8)) k3_35 ((x28).kept), blk b0 (#[Value.int .i64 ((x28).m), Value.int .i64 ((x28).window), Value.int .i64 ((x28).next), Value.map (some b3_35), Value.slice a4_35 ((x28).ready).length c4_35]) 47, mblk b3_35 k3_35, row 26 1 (.slice a4_35 ((x28).ready).length c4_35) ((x28).ready).length d4_35, tie (El.sl (El.int .u8)) d4_35 ((x28).ready), fsl 1 (.slice ra29 (x31).length rc30) (x31).length ((x31).map (Value.int .u8)), fsl 1 (.slice at17_0 (t17).length ct17_0) (t17).length ((t17).map (Value.int .u8)), fsl 1 (.slice ea14 (mget ((a0).kept) ((w64 (((a0).next) + t3)).tmod ((a0).m)) []).length em15) (mget ((a0).kept) ((w64 (((a0).next) + t3)).tmod ((a0).m)) []).length ((mget ((a0).kept) ((w64 (((a0).next) + t3)).tmod ((a0).m)) []).map (Value.int .u8)), R] w0 w := HS
          replace HS := St.tieM_del ((x28).next) HS
          have HS : Sep.St [tieM (El.sl (El.int .u8)) (mdel k3_35 ((x28).next)) (mdel ((x28).kept) ((x28).next)), blk b0 (#[Value.int .i64 ((x28).m), Value.int .i64 ((x28).window), Value.int .i64 ((x28).next), Value.map (some b3_35), Value.slice a4_35 ((x28).ready).length c4_35]) 47, mblk b3_35 k3_35, row 26 1 (.slice a4_35 ((x28).ready).length c4_35) ((x28).ready).length d4_35, tie (El.sl (El.int .u8)) d4_35 ((x28).ready), fsl 1 (.slice ra29 (x31).length rc30) (x31).length ((x31).map (Value.int .u8)), fsl 1 (.slice at17_0 (t17).length ct17_0) (t17).length ((t17).map (Value.int .u8)), fsl 1 (.slice ea14 (mget ((a0).kept) ((w64 (((a0).next) + t3)).tmod ((a0).m)) []).length em15) (mget ((a0).kept) ((w64 (((a0).next) + t3)).tmod ((a0).m)) []).length ((mget ((a0).kept) ((w64 (((a0).next) + t3)).tmod ((a0).m)) []).map (Value.int .u8)), R] w0 w := HS
          refine ⟨_, Y.delete 2 Try.underlying44 Try.underlying3 HS rfl rfl rfl, ?_⟩
          rintro _ w HS
          have HS : Sep.St [tieM (El.sl (El.int .u8)) (mdel k3_35 ((x28).next)) (mdel ((x28).kept) ((x28).next)), blk b0 (#[Value.int .i64 ((x28).m), Value.int .i64 ((x28).window), Value.int .i64 ((x28).next), Value.map (some b3_35), Value.slice a4_35 ((x28).ready).length c4_35]) 47, mblk b3_35 (mdel k3_35 ((x28).next)), row 26 1 (.slice a4_35 ((x28).ready).length c4_35) ((x28).ready).length d4_35, tie (El.sl (El.int .u8)) d4_35 ((x28).ready), fsl 1 (.slice ra29 (x31).length rc30) (x31).length ((x31).map (Value.int .u8)), fsl 1 (.slice at17_0 (t17).length ct17_0) (t17).length ((t17).map (Value.int .u8)), fsl 1 (.slice ea14 (mget ((a0).kept) ((w64 (((a0).next) + t3)).tmod ((a0).m)) []).length em15) (mget ((a0).kept) ((w64 (((a0).next) + t3)).tmod ((a0).m)) []).length ((mget ((a0).kept) ((w64 (((a0).next) + t3)).tmod ((a0).m)) []).map (Value.int .u8)), R] w0 w := HS
          refine ⟨[], fun w => Sep.St [tieM (El.sl (El.int .u8)) (mdel k3_35 ((x28).next)) (mdel ((x28).kept) ((x28).next)), blk b0 (#[Value.int .i64 ((x28).m), Value.int .i64 ((x28).window), Value.int .i64 ((x28).next), Value.map (some b3_35), Value.slice a4_35 ((x28).ready).length c4_35]) 47, mblk b3_35 (mdel k3_35 ((x28).next)), row 26 1 (.slice a4_35 ((x28).ready).length c4_35) ((x28).ready).length d4_35, tie (El.sl (El.int .u8)) d4_35 ((x28).ready), fsl 1 (.slice ra29 (x31).length rc30) (x31).length ((x31).map (Value.int .u8)), fsl 1 (.slice at17_0 (t17).length ct17_0) (t17).length ((t17).map (Value.int .u8)), fsl 1 (.slice ea14 (mget ((a0).kept) ((w64 (((a0).next) + t3)).tmod ((a0).m)) []).length em15) (mget ((a0).kept) ((w64 (((a0).next) + t3)).tmod ((a0).m)) []).length ((mget ((a0).kept) ((w64 (((a0).next) + t3)).tmod ((a0).m)) []).map (Value.int .u8)), R] w0 w, trivial, ?_, HS⟩
          refine T.fin [(0, Value.pointer (some ⟨b0, 0, none⟩)), (10, Value.int .i64 (x26)), (11, Value.slice ra29 (x31).length rc30)] rfl trivial ⟨.inl ⟨rfl, rfl⟩, ⟨.inl ⟨rfl, rfl⟩, ⟨.inl ⟨rfl, rfl⟩, trivial⟩⟩⟩ (fun w HS => ?_)
          have HS : Sep.St [tieM (El.sl (El.int .u8)) (mdel k3_35 ((x28).next)) (mdel ((x28).kept) ((x28).next)), blk b0 (#[Value.int .i64 ((x28).m), Value.int .i64 ((x28).window), Value.int .i64 ((x28).next), Value.map (some b3_35), Value.slice a4_35 ((x28).ready).length c4_35]) 47, mblk b3_35 (mdel k3_35 ((x28).next)), row 26 1 (.slice a4_35 ((x28).ready).length c4_35) ((x28).ready).length d4_35, tie (El.sl (El.int .u8)) d4_35 ((x28).ready), fsl 1 (.slice ra29 (x31).length rc30) (x31).length ((x31).map (Value.int .u8)), fsl 1 (.slice at17_0 (t17).length ct17_0) (t17).length ((t17).map (Value.int .u8)), fsl 1 (.slice ea14 (mget ((a0).kept) ((w64 (((a0).next) + t3)).tmod ((a0).m)) []).length em15) (mget ((a0).kept) ((w64 (((a0).next) + t3)).tmod ((a0).m)) []).length ((mget ((a0).kept) ((w64 (((a0).next) + t3)).tmod ((a0).m)) []).map (Value.int .u8)), R] w0 w := HS
          refine At.next ?_
          refine V.keep [(0, Value.pointer (some ⟨b0, 0, none⟩)), (10, Value.int .i64 (x26)), (11, Value.slice ra29 (x31).length rc30)] ⟨rfl, rfl, rfl, trivial⟩ ?_
          refine V.seq ?_
          refine V.region ?_
          refine W.rd (X.move rfl) rfl rfl rfl ?_
          refine W.rd (X.move rfl) rfl rfl rfl ?_
          refine W.rd (X.nilCheck rfl) rfl rfl rfl ?_
          refine W.rd (X.fieldAddr 4 fo47_4 rfl) rfl rfl rfl ?_
          refine W.rd (X.loadAt 1 HS rfl Try.underlying45 rfl rfl rfl) rfl rfl rfl ?_
          refine W.rd (X.move rfl) rfl rfl rfl ?_
          refine W.ev (Y.litB (e := 26) (sz := 1) (vs := #[(0, Value.slice ra29 (x31).length rc30)]) [Value.slice ra29 (x31).length rc30] HS (fun a ha => by simp only [List.map_toArray, List.map_cons, List.map_nil]; rw [ha.ev (x := .tmp 95) (v := Value.slice ra29 (x31).length rc30) rfl]; try rfl) rfl (by decide) (fun _ => by kernel_rfl)) rfl rfl rfl ?_
          rintro _ w ⟨lb37, rfl, HS⟩
          have HS : Sep.St [row 26 1 (.slice (some ⟨lb37, 0, none⟩) (([x31] : List (List Int))).length 1) (([x31] : List (List Int))).length ([Value.slice ra29 (x31).length rc30]), tieM (El.sl (El.int .u8)) (mdel k3_35 ((x28).next)) (mdel ((x28).kept) ((x28).next)), blk b0 (#[Value.int .i64 ((x28).m), Value.int .i64 ((x28).window), Value.int .i64 ((x28).next), Value.map (some b3_35), Value.slice a4_35 ((x28).ready).length c4_35]) 47, mblk b3_35 (mdel k3_35 ((x28).next)), row 26 1 (.slice a4_35 ((x28).ready).length c4_35) ((x28).ready).length d4_35, tie (El.sl (El.int .u8)) d4_35 ((x28).ready), fsl 1 (.slice ra29 (x31).length rc30) (x31).length ((x31).map (Value.int .u8)), fsl 1 (.slice at17_0 (t17).length ct17_0) (t17).length ((t17).map (Value.int .u8)), fsl 1 (.slice ea14 (mget ((a0).kept) ((w64 (((a0).next) + t3)).tmod ((a0).m)) []).length em15) (mget ((a0).kept) ((w64 (((a0).next) + t3)).tmod ((a0).m)) []).length ((mget ((a0).kept) ((w64 (((a0).next) + t3)).tmod ((a0).m)) []).map (Value.int .u8)), R] w0 w := HS
          replace HS := St.put (A := tie (El.sl (El.int .u8)) ([]) (([] : List (List Int)))) (fun _ => tie.nil) HS
          have HS : Sep.St [tie (El.sl (El.int .u8)) ([]) (([] : List (List Int))), row 26 1 (.slice (some ⟨lb37, 0, none⟩) (([x31] : List (List Int))).length 1) (([x31] : List (List Int))).length ([Value.slice ra29 (x31).length rc30]), tieM (El.sl (El.int .u8)) (mdel k3_35 ((x28).next)) (mdel ((x28).kept) ((x28).next)), blk b0 (#[Value.int .i64 ((x28).m), Value.int .i64 ((x28).window), Value.int .i64 ((x28).next), Value.map (some b3_35), Value.slice a4_35 ((x28).ready).length c4_35]) 47, mblk b3_35 (mdel k3_35 ((x28).next)), row 26 1 (.slice a4_35 ((x28).ready).length c4_35) ((x28).ready).length d4_35, tie (El.sl (El.int .u8)) d4_35 ((x28).ready), fsl 1 (.slice ra29 (x31).length rc30) (x31).length ((x31).map (Value.int .u8)), fsl 1 (.slice at17_0 (t17).length ct17_0) (t17).length ((t17).map (Value.int .u8)), fsl 1 (.slice ea14 (mget ((a0).kept) ((w64 (((a0).next) + t3)).tmod ((a0).m)) []).length em15) (mget ((a0).kept) ((w64 (((a0).next) + t3)).tmod ((a0).m)) []).length ((mget ((a0).kept) ((w64 (((a0).next) + t3)).tmod ((a0).m)) []).map (Value.int .u8)), R] w0 w := HS
          replace HS := HS.more 7 rfl (fun _ t => t) fsl.pers
          have HS : Sep.St [fsl 1 (.slice ra29 (x31).length rc30) (x31).length ((x31).map (Value.int .u8)), tie (El.sl (El.int .u8)) ([]) (([] : List (List Int))), row 26 1 (.slice (some ⟨lb37, 0, none⟩) (([x31] : List (List Int))).length 1) (([x31] : List (List Int))).length ([Value.slice ra29 (x31).length rc30]), tieM (El.sl (El.int .u8)) (mdel k3_35 ((x28).next)) (mdel ((x28).kept) ((x28).next)), blk b0 (#[Value.int .i64 ((x28).m), Value.int .i64 ((x28).window), Value.int .i64 ((x28).next), Value.map (some b3_35), Value.slice a4_35 ((x28).ready).length c4_35]) 47, mblk b3_35 (mdel k3_35 ((x28).next)), row 26 1 (.slice a4_35 ((x28).ready).length c4_35) ((x28).ready).length d4_35, tie (El.sl (El.int .u8)) d4_35 ((x28).ready), fsl 1 (.slice ra29 (x31).length rc30) (x31).length ((x31).map (Value.int .u8)), fsl 1 (.slice at17_0 (t17).length ct17_0) (t17).length ((t17).map (Value.int .u8)), fsl 1 (.slice ea14 (mget ((a0).kept) ((w64 (((a0).next) + t3)).tmod ((a0).m)) []).length em15) (mget ((a0).kept) ((w64 (((a0).next) + t3)).tmod ((a0).m)) []).length ((mget ((a0).kept) ((w64 (((a0).next) + t3)).tmod ((a0).m)) []).map (Value.int .u8)), R] w0 w := HS
          replace HS := St.put (A := tie (El.int .u8) ((x31).map (Value.int .u8)) (x31)) (fun _ => int_tie) HS
          have HS : Sep.St [tie (El.int .u8) ((x31).map (Value.int .u8)) (x31), fsl 1 (.slice ra29 (x31).length rc30) (x31).length ((x31).map (Value.int .u8)), tie (El.sl (El.int .u8)) ([]) (([] : List (List Int))), row 26 1 (.slice (some ⟨lb37, 0, none⟩) (([x31] : List (List Int))).length 1) (([x31] : List (List Int))).length ([Value.slice ra29 (x31).length rc30]), tieM (El.sl (El.int .u8)) (mdel k3_35 ((x28).next)) (mdel ((x28).kept) ((x28).next)), blk b0 (#[Value.int .i64 ((x28).m), Value.int .i64 ((x28).window), Value.int .i64 ((x28).next), Value.map (some b3_35), Value.slice a4_35 ((x28).ready).length c4_35]) 47, mblk b3_35 (mdel k3_35 ((x28).next)), row 26 1 (.slice a4_35 ((x28).ready).length c4_35) ((x28).ready).length d4_35, tie (El.sl (El.int .u8)) d4_35 ((x28).ready), fsl 1 (.slice ra29 (x31).length rc30) (x31).length ((x31).map (Value.int .u8)), fsl 1 (.slice at17_0 (t17).length ct17_0) (t17).length ((t17).map (Value.int .u8)), fsl 1 (.slice ea14 (mget ((a0).kept) ((w64 (((a0).next) + t3)).tmod ((a0).m)) []).length em15) (mget ((a0).kept) ((w64 (((a0).next) + t3)).tmod ((a0).m)) []).length ((mget ((a0).kept) ((w64 (((a0).next) + t3)).tmod ((a0).m)) []).map (Value.int .u8)), R] w0 w := HS
          replace HS := St.swap HS
          replace HS := St.sl_close (E := (El.int .u8)) HS
          have HS : Sep.St [(El.sl (El.int .u8)).p [Value.slice ra29 (x31).length rc30] (x31), tie (El.sl (El.int .u8)) ([]) (([] : List (List Int))), row 26 1 (.slice (some ⟨lb37, 0, none⟩) (([x31] : List (List Int))).length 1) (([x31] : List (List Int))).length ([Value.slice ra29 (x31).length rc30]), tieM (El.sl (El.int .u8)) (mdel k3_35 ((x28).next)) (mdel ((x28).kept) ((x28).next)), blk b0 (#[Value.int .i64 ((x28).m), Value.int .i64 ((x28).window), Value.int .i64 ((x28).next), Value.map (some b3_35), Value.slice a4_35 ((x28).ready).length c4_35]) 47, mblk b3_35 (mdel k3_35 ((x28).next)), row 26 1 (.slice a4_35 ((x28).ready).length c4_35) ((x28).ready).length d4_35, tie (El.sl (El.int .u8)) d4_35 ((x28).ready), fsl 1 (.slice ra29 (x31).length rc30) (x31).length ((x31).map (Value.int .u8)), fsl 1 (.slice at17_0 (t17).length ct17_0) (t17).length ((t17).map (Value.int .u8)), fsl 1 (.slice ea14 (mget ((a0).kept) ((w64 (((a0).next) + t3)).tmod ((a0).m)) []).length em15) (mget ((a0).kept) ((w64 (((a0).next) + t3)).tmod ((a0).m)) []).length ((mget ((a0).kept) ((w64 (((a0).next) + t3)).tmod ((a0).m)) []).map (Value.int .u8)), R] w0 w := HS
          replace HS := HS.front 1 rfl
          have HS : Sep.St [tie (El.sl (El.int .u8)) ([]) (([] : List (List Int))), (El.sl (El.int .u8)).p [Value.slice ra29 (x31).length rc30] (x31), row 26 1 (.slice (some ⟨lb37, 0, none⟩) (([x31] : List (List Int))).length 1) (([x31] : List (List Int))).length ([Value.slice ra29 (x31).length rc30]), tieM (El.sl (El.int .u8)) (mdel k3_35 ((x28).next)) (mdel ((x28).kept) ((x28).next)), blk b0 (#[Value.int .i64 ((x28).m), Value.int .i64 ((x28).window), Value.int .i64 ((x28).next), Value.map (some b3_35), Value.slice a4_35 ((x28).ready).length c4_35]) 47, mblk b3_35 (mdel k3_35 ((x28).next)), row 26 1 (.slice a4_35 ((x28).ready).length c4_35) ((x28).ready).length d4_35, tie (El.sl (El.int .u8)) d4_35 ((x28).ready), fsl 1 (.slice ra29 (x31).length rc30) (x31).length ((x31).map (Value.int .u8)), fsl 1 (.slice at17_0 (t17).length ct17_0) (t17).length ((t17).map (Value.int .u8)), fsl 1 (.slice ea14 (mget ((a0).kept) ((w64 (((a0).next) + t3)).tmod ((a0).m)) []).length em15) (mget ((a0).kept) ((w64 (((a0).next) + t3)).tmod ((a0).m)) []).length ((mget ((a0).kept) ((w64 (((a0).next) + t3)).tmod ((a0).m)) []).map (Value.int .u8)), R] w0 w := HS
          replace HS := HS.front 1 rfl
          have HS : Sep.St [(El.sl (El.int .u8)).p [Value.slice ra29 (x31).length rc30] (x31), tie (El.sl (El.int .u8)) ([]) (([] : List (List Int))), row 26 1 (.slice (some ⟨lb37, 0, none⟩) (([x31] : List (List Int))).length 1) (([x31] : List (List Int))).length ([Value.slice ra29 (x31).length rc30]), tieM (El.sl (El.int .u8)) (mdel k3_35 ((x28).next)) (mdel ((x28).kept) ((x28).next)), blk b0 (#[Value.int .i64 ((x28).m), Value.int .i64 ((x28).window), Value.int .i64 ((x28).next), Value.map (some b3_35), Value.slice a4_35 ((x28).ready).length c4_35]) 47, mblk b3_35 (mdel k3_35 ((x28).next)), row 26 1 (.slice a4_35 ((x28).ready).length c4_35) ((x28).ready).length d4_35, tie (El.sl (El.int .u8)) d4_35 ((x28).ready), fsl 1 (.slice ra29 (x31).length rc30) (x31).length ((x31).map (Value.int .u8)), fsl 1 (.slice at17_0 (t17).length ct17_0) (t17).length ((t17).map (Value.int .u8)), fsl 1 (.slice ea14 (mget ((a0).kept) ((w64 (((a0).next) + t3)).tmod ((a0).m)) []).length em15) (mget ((a0).kept) ((w64 (((a0).next) + t3)).tmod ((a0).m)) []).length ((mget ((a0).kept) ((w64 (((a0).next) + t3)).tmod ((a0).m)) []).map (Value.int .u8)), R] w0 w := HS
          replace HS := St.tie_cons HS
          have HS : Sep.St [tie (El.sl (El.int .u8)) ([Value.slice ra29 (x31).length rc30]) (([x31] : List (List Int))), row 26 1 (.slice (some ⟨lb37, 0, none⟩) (([x31] : List (List Int))).length 1) (([x31] : List (List Int))).length ([Value.slice ra29 (x31).length rc30]), tieM (El.sl (El.int .u8)) (mdel k3_35 ((x28).next)) (mdel ((x28).kept) ((x28).next)), blk b0 (#[Value.int .i64 ((x28).m), Value.int .i64 ((x28).window), Value.int .i64 ((x28).next), Value.map (some b3_35), Value.slice a4_35 ((x28).ready).length c4_35]) 47, mblk b3_35 (mdel k3_35 ((x28).next)), row 26 1 (.slice a4_35 ((x28).ready).length c4_35) ((x28).ready).length d4_35, tie (El.sl (El.int .u8)) d4_35 ((x28).ready), fsl 1 (.slice ra29 (x31).length rc30) (x31).length ((x31).map (Value.int .u8)), fsl 1 (.slice at17_0 (t17).length ct17_0) (t17).length ((t17).map (Value.int .u8)), fsl 1 (.slice ea14 (mget ((a0).kept) ((w64 (((a0).next) + t3)).tmod ((a0).m)) []).length em15) (mget ((a0).kept) ((w64 (((a0).next) + t3)).tmod ((a0).m)) []).length ((mget ((a0).kept) ((w64 (((a0).next) + t3)).tmod ((a0).m)) []).map (Value.int .u8)), R] w0 w := HS
          obtain ⟨c40, H⟩ := ite_n H
          refine W.ev (Y.app (xs := (x28).ready) (ys := ([x31] : List (List Int))) 5 Try.underlying45 ap26 rfl (by decide) HS rfl rfl rfl (rdC.at 1 row_rd HS rfl) (St.tie_one 0 HS rfl) (by omega) (by omega)) rfl rfl rfl ?_
          rintro _ w ⟨ra41, rc42, rfl, HS⟩
          have HS : Sep.St [tie (El.sl (El.int .u8)) ([Value.slice ra29 (x31).length rc30]) (([x31] : List (List Int))), row 26 1 (.slice (some ⟨lb37, 0, none⟩) (([x31] : List (List Int))).length 1) (([x31] : List (List Int))).length ([Value.slice ra29 (x31).length rc30]), tieM (El.sl (El.int .u8)) (mdel k3_35 ((x28).next)) (mdel ((x28).kept) ((x28).next)), blk b0 (#[Value.int .i64 ((x28).m), Value.int .i64 ((x28).window), Value.int .i64 ((x28).next), Value.map (some b3_35), Value.slice a4_35 ((x28).ready).length c4_35]) 47, mblk b3_35 (mdel k3_35 ((x28).next)), row 26 1 (.slice ra41 (((x28).ready) ++ ([x31] : List (List Int))).length rc42) (((x28).ready) ++ ([x31] : List (List Int))).length (d4_35 ++ ([Value.slice ra29 (x31).length rc30])), tie (El.sl (El.int .u8)) d4_35 ((x28).ready), fsl 1 (.slice ra29 (x31).length rc30) (x31).length ((x31).map (Value.int .u8)), fsl 1 (.slice at17_0 (t17).length ct17_0) (t17).length ((t17).map (Value.int .u8)), fsl 1 (.slice ea14 (mget ((a0).kept) ((w64 (((a0).next) + t3)).tmod ((a0).m)) []).length em15) (mget ((a0).kept) ((w64 (((a0).next) + t3)).tmod ((a0).m)) []).length ((mget ((a0).kept) ((w64 (((a0).next) + t3)).tmod ((a0).m)) []).map (Value.int .u8)), R] w0 w := HS
          replace HS := HS.front 6 rfl
          have HS : Sep.St [tie (El.sl (El.int .u8)) d4_35 ((x28).ready), tie (El.sl (El.int .u8)) ([Value.slice ra29 (x31).length rc30]) (([x31] : List (List Int))), row 26 1 (.slice (some ⟨lb37, 0, none⟩) (([x31] : List (List Int))).length 1) (([x31] : List (List Int))).length ([Value.slice ra29 (x31).length rc30]), tieM (El.sl (El.int .u8)) (mdel k3_35 ((x28).next)) (mdel ((x28).kept) ((x28).next)), blk b0 (#[Value.int .i64 ((x28).m), Value.int .i64 ((x28).window), Value.int .i64 ((x28).next), Value.map (some b3_35), Value.slice a4_35 ((x28).ready).length c4_35]) 47, mblk b3_35 (mdel k3_35 ((x28).next)), row 26 1 (.slice ra41 (((x28).ready) ++ ([x31] : List (List Int))).length rc42) (((x28).ready) ++ ([x31] : List (List Int))).length (d4_35 ++ ([Value.slice ra29 (x31).length rc30])), fsl 1 (.slice ra29 (x31).length rc30) (x31).length ((x31).map (Value.int .u8)), fsl 1 (.slice at17_0 (t17).length ct17_0) (t17).length ((t17).map (Value.int .u8)), fsl 1 (.slice ea14 (mget ((a0).kept) ((w64 (((a0).next) + t3)).tmod ((a0).m)) []).length em15) (mget ((a0).kept) ((w64 (((a0).next) + t3)).tmod ((a0).m)) []).length ((mget ((a0).kept) ((w64 (((a0).next) + t3)).tmod ((a0).m)) []).map (Value.int .u8)), R] w0 w := HS
          replace HS := St.tie_app 1 HS rfl
          have HS : Sep.St [tie (El.sl (El.int .u8)) (d4_35 ++ ([Value.slice ra29 (x31).length rc30])) (((x28).ready) ++ ([x31] : List (List Int))), tie (El.sl (El.int .u8)) ([Value.slice ra29 (x31).length rc30]) (([x31] : List (List Int))), row 26 1 (.slice (some ⟨lb37, 0, none⟩) (([x31] : List (List Int))).length 1) (([x31] : List (List Int))).length ([Value.slice ra29 (x31).length rc30]), tieM (El.sl (El.int .u8)) (mdel k3_35 ((x28).next)) (mdel ((x28).kept) ((x28).next)), blk b0 (#[Value.int .i64 ((x28).m), Value.int .i64 ((x28).window), Value.int .i64 ((x28).next), Value.map (some b3_35), Value.slice a4_35 ((x28).ready).length c4_35]) 47, mblk b3_35 (mdel k3_35 ((x28).next)), row 26 1 (.slice ra41 (((x28).ready) ++ ([x31] : List (List Int))).length rc42) (((x28).ready) ++ ([x31] : List (List Int))).length (d4_35 ++ ([Value.slice ra29 (x31).length rc30])), fsl 1 (.slice ra29 (x31).length rc30) (x31).length ((x31).map (Value.int .u8)), fsl 1 (.slice at17_0 (t17).length ct17_0) (t17).length ((t17).map (Value.int .u8)), fsl 1 (.slice ea14 (mget ((a0).kept) ((w64 (((a0).next) + t3)).tmod ((a0).m)) []).length em15) (mget ((a0).kept) ((w64 (((a0).next) + t3)).tmod ((a0).m)) []).length ((mget ((a0).kept) ((w64 (((a0).next) + t3)).tmod ((a0).m)) []).map (Value.int .u8)), R] w0 w := HS
          refine W.rd (X.nilCheck rfl) rfl rfl rfl ?_
          refine W.rd (X.fieldAddr 4 fo47_4 rfl) rfl rfl rfl ?_
          refine W.ev_none (Y.storeAt 4 HS rfl inf45 rfl rfl rfl rfl rfl rfl) rfl rfl ?_
          rintro _ w HS
          have HS : Sep.St [tie (El.sl (El.int .u8)) (d4_35 ++ ([Value.slice ra29 (x31).length rc30])) (((x28).ready) ++ ([x31] : List (List Int))), tie (El.sl (El.int .u8)) ([Value.slice ra29 (x31).length rc30]) (([x31] : List (List Int))), row 26 1 (.slice (some ⟨lb37, 0, none⟩) (([x31] : List (List Int))).length 1) (([x31] : List (List Int))).length ([Value.slice ra29 (x31).length rc30]), tieM (El.sl (El.int .u8)) (mdel k3_35 ((x28).next)) (mdel ((x28).kept) ((x28).next)), blk b0 (#[Value.int .i64 ((x28).m), Value.int .i64 ((x28).window), Value.int .i64 ((x28).next), Value.map (some b3_35), Value.slice ra41 (((x28).ready) ++ ([x31] : List (List Int))).length rc42]) 47, mblk b3_35 (mdel k3_35 ((x28).next)), row 26 1 (.slice ra41 (((x28).ready) ++ ([x31] : List (List Int))).length rc42) (((x28).ready) ++ ([x31] : List (List Int))).length (d4_35 ++ ([Value.slice ra29 (x31).length rc30])), fsl 1 (.slice ra29 (x31).length rc30) (x31).length ((x31).map (Value.int .u8)), fsl 1 (.slice at17_0 (t17).length ct17_0) (t17).length ((t17).map (Value.int .u8)), fsl 1 (.slice ea14 (mget ((a0).kept) ((w64 (((a0).next) + t3)).tmod ((a0).m)) []).length em15) (mget ((a0).kept) ((w64 (((a0).next) + t3)).tmod ((a0).m)) []).length ((mget ((a0).kept) ((w64 (((a0).next) + t3)).tmod ((a0).m)) []).map (Value.int .u8)), R] w0 w := HS
          refine W.nil ?_
          refine At.next ?_
          refine V.keep [(0, Value.pointer (some ⟨b0, 0, none⟩)), (10, Value.int .i64 (x26))] ⟨rfl, rfl, trivial⟩ ?_
          refine V.seq ?_
          refine V.draw (es := [9, 12]) (bl := [10, 11]) (f := [(100, Value.pointer (some ⟨b0, 0, none⟩)), (101, Value.pointer (some ⟨b0, 0, none⟩)), (102, Value.pointer (some ⟨b0, 0, none⟩)), (103, Value.pointer (some ⟨b0, 0 + 2, none⟩)), (104, Value.int .i64 ((x28).next)), (105, Value.pointer (some ⟨b0, 0, none⟩)), (106, Value.pointer (some ⟨b0, 0, none⟩)), (107, Value.pointer (some ⟨b0, 0 + 0, none⟩)), (108, Value.int .i64 ((x28).m))]) (fun w => Sep.St [tie (El.sl (El.int .u8)) (d4_35 ++ ([Value.slice ra29 (x31).length rc30])) (((x28).ready) ++ ([x31] : List (List Int))), tie (El.sl (El.int .u8)) ([Value.slice ra29 (x31).length rc30]) (([x31] : List (List Int))), row 26 1 (.slice (some ⟨lb37, 0, none⟩) (([x31] : List (List Int))).length 1) (([x31] : List (List Int))).length ([Value.slice ra29 (x31).length rc30]), tieM (El.sl (El.int .u8)) (mdel k3_35 ((x28).next)) (mdel ((x28).kept) ((x28).next)), blk b0 (#[Value.int .i64 ((x28).m), Value.int .i64 ((x28).window), Value.int .i64 ((x28).next), Value.map (some b3_35), Value.slice ra41 (((x28).ready) ++ ([x31] : List (List Int))).length rc42]) 47, mblk b3_35 (mdel k3_35 ((x28).next)), row 26 1 (.slice ra41 (((x28).ready) ++ ([x31] : List (List Int))).length rc42) (((x28).ready) ++ ([x31] : List (List Int))).length (d4_35 ++ ([Value.slice ra29 (x31).length rc30])), fsl 1 (.slice ra29 (x31).length rc30) (x31).length ((x31).map (Value.int .u8)), fsl 1 (.slice at17_0 (t17).length ct17_0) (t17).length ((t17).map (Value.int .u8)), fsl 1 (.slice ea14 (mget ((a0).kept) ((w64 (((a0).next) + t3)).tmod ((a0).m)) []).length em15) (mget ((a0).kept) ((w64 (((a0).next) + t3)).tmod ((a0).m)) []).length ((mget ((a0).kept) ((w64 (((a0).next) + t3)).tmod ((a0).m)) []).map (Value.int .u8)), R] w0 w) mo HS.drew rfl ?_
          refine T.event _ [(104, Value.int .i64 ((x28).next)), (108, Value.int .i64 ((x28).m))] rfl rfl ⟨⟨_, Value.pointer (some ⟨b0, 0, none⟩), [(0, Value.pointer (some ⟨b0, 0, none⟩))], 100, rfl, rfl, ⟨.inl ⟨rfl, rfl⟩, trivial⟩, .run rfl (fun w HS => X.move rfl), rfl, rfl, rfl⟩, ⟨_, Value.pointer (some ⟨b0, 0, none⟩), [(0, Value.pointer (some ⟨b0, 0, none⟩))], 101, rfl, rfl, ⟨.inl ⟨rfl, rfl⟩, trivial⟩, .run rfl (fun w HS => X.move rfl), rfl, rfl, rfl⟩, ⟨_, Value.pointer (some ⟨b0, 0, none⟩), [(101, Value.pointer (some ⟨b0, 0, none⟩))], 102, rfl, rfl, ⟨.inr ⟨rfl, rfl⟩, trivial⟩, .run rfl (fun w HS => X.nilCheck rfl), rfl, rfl, rfl⟩, ⟨_, Value.pointer (some ⟨b0, 0 + 2, none⟩), [(102, Value.pointer (some ⟨b0, 0, none⟩))], 103, rfl, rfl, ⟨.inr ⟨rfl, rfl⟩, trivial⟩, .run rfl (fun w HS => X.fieldAddr 2 fo47_2 rfl), rfl, rfl, rfl⟩, ⟨_, Value.int .i64 ((x28).next), [(103, Value.pointer (some ⟨b0, 0 + 2, none⟩))], 104, rfl, rfl, ⟨.inr ⟨rfl, rfl⟩, trivial⟩, .run rfl (fun w HS => X.loadAt 4 HS rfl Try.underlying3 rfl rfl rfl), rfl, rfl, rfl⟩, ⟨_, Value.pointer (some ⟨b0, 0, none⟩), [(0, Value.pointer (some ⟨b0, 0, none⟩))], 105, rfl, rfl, ⟨.inl ⟨rfl, rfl⟩, trivial⟩, .run rfl (fun w HS => X.move rfl), rfl, rfl, rfl⟩, ⟨_, Value.pointer (some ⟨b0, 0, none⟩), [(105, Value.pointer (some ⟨b0, 0, none⟩))], 106, rfl, rfl, ⟨.inr ⟨rfl, rfl⟩, trivial⟩, .run rfl (fun w HS => X.nilCheck rfl), rfl, rfl, rfl⟩, ⟨_, Value.pointer (some ⟨b0, 0 + 0, none⟩), [(106, Value.pointer (some ⟨b0, 0, none⟩))], 107, rfl, rfl, ⟨.inr ⟨rfl, rfl⟩, trivial⟩, .run rfl (fun w HS => X.fieldAddr 0 fo47_0 rfl), rfl, rfl, rfl⟩, ⟨_, Value.int .i64 ((x28).m), [(107, Value.pointer (some ⟨b0, 0 + 0, none⟩))], 108, rfl, rfl, ⟨.inr ⟨rfl, rfl⟩, trivial⟩, .run rfl (fun w HS => X.loadAt 4 HS rfl Try.underlying3 rfl rfl rfl), rfl, rfl, rfl⟩, trivial⟩ rfl ⟨.inr ⟨rfl, rfl⟩, ⟨.inr ⟨rfl, rfl⟩, trivial⟩⟩ (Or.inl rfl) (by intro d hd; cases hd; exact ⟨by decide, rfl, rfl⟩) [] [1, 2, 3, 4, 5, 6, 7, 8] rfl rfl (fun w HS => ?_)
          have HS : Sep.St [tie (El.sl (El.int .u8)) (d4_35 ++ ([Value.slice ra29 (x31).length rc30])) (((x28).ready) ++ ([x31] : List (List Int))), tie (El.sl (El.int .u8)) ([Value.slice ra29 (x31).length rc30]) (([x31] : List (List Int))), row 26 1 (.slice (some ⟨lb37, 0, none⟩) (([x31] : List (List Int))).length 1) (([x31] : List (List Int))).length ([Value.slice ra29 (x31).length rc30]), tieM (El.sl (El.int .u8)) (mdel k3_35 ((x28).next)) (mdel ((x28).kept) ((x28).next)), blk b0 (#[Value.int .i64 ((x28).m), Value.int .i64 ((x28).window), Value.int .i64 ((x28).next), Value.map (some b3_35), Value.slice ra41 (((x28).ready) ++ ([x31] : List (List Int))).length rc42]) 47, mblk b3_35 (mdel k3_35 ((x28).next)), row 26 1 (.slice ra41 (((x28).ready) ++ ([x31] : List (List Int))).length rc42) (((x28).ready) ++ ([x31] : List (List Int))).length (d4_35 ++ ([Value.slice ra29 (x31).length rc30])), fsl 1 (.slice ra29 (x31).length rc30) (x31).length ((x31).map (Value.int .u8)), fsl 1 (.slice at17_0 (t17).length ct17_0) (t17).length ((t17).map (Value.int .u8)), fsl 1 (.slice ea14 (mget ((a0).kept) ((w64 (((a0).next) + t3)).tmod ((a0).m)) []).length em15) (mget ((a0).kept) ((w64 (((a0).next) + t3)).tmod ((a0).m)) []).length ((mget ((a0).kept) ((w64 (((a0).next) + t3)).tmod ((a0).m)) []).map (Value.int .u8)), R] w0 w := HS
          obtain ⟨t43, A44, H⟩ := bind_s H
          refine ⟨_, Y.call Try.func23 (by kernel_rfl) rfl (vs := [Value.int .i64 ((x28).next), Value.int .i64 ((x28).m)]) rfl (serial_Next.calls ((x28).next) ((x28).m) _ w0 _  t43  A44 (Sep.St.tailJoin (m := []) (r := [tie (El.sl (El.int .u8)) (d4_35 ++ ([Value.slice ra29 (x31).length rc30])) (((x28).ready) ++ ([x31] : List (List Int))), tie (El.sl (El.int .u8)) ([Value.slice ra29 (x31).length rc30]) (([x31] : List (List Int))), row 26 1 (.slice (some ⟨lb37, 0, none⟩) (([x31] : List (List Int))).length 1) (([x31] : List (List Int))).length ([Value.slice ra29 (x31).length rc30]), tieM (El.sl (El.int .u8)) (mdel k3_35 ((x28).next)) (mdel ((x28).kept) ((x28).next)), blk b0 (#[Value.int .i64 ((x28).m), Value.int .i64 ((x28).window), Value.int .i64 ((x28).next), Value.map (some b3_35), Value.slice ra41 (((x28).ready) ++ ([x31] : List (List Int))).length rc42]) 47, mblk b3_35 (mdel k3_35 ((x28).next)), row 26 1 (.slice ra41 (((x28).ready) ++ ([x31] : List (List Int))).length rc42) (((x28).ready) ++ ([x31] : List (List Int))).length (d4_35 ++ ([Value.slice ra29 (x31).length rc30])), fsl 1 (.slice ra29 (x31).length rc30) (x31).length ((x31).map (Value.int .u8)), fsl 1 (.slice at17_0 (t17).length ct17_0) (t17).length ((t17).map (Value.int .u8)), fsl 1 (.slice ea14 (mget ((a0).kept) ((w64 (((a0).next) + t3)).tmod ((a0).m)) []).length em15) (mget ((a0).kept) ((w64 (((a0).next) + t3)).tmod ((a0).m)) []).length ((mget ((a0).kept) ((w64 (((a0).next) + t3)).tmod ((a0).m)) []).map (Value.int .u8)), R]) HS)), ?_⟩
          rintro _ w ⟨rfl, HS⟩
          replace HS := Sep.St.tailOpen (m := []) (r := [tie (El.sl (El.int .u8)) (d4_35 ++ ([Value.slice ra29 (x31).length rc30])) (((x28).ready) ++ ([x31] : List (List Int))), tie (El.sl (El.int .u8)) ([Value.slice ra29 (x31).length rc30]) (([x31] : List (List Int))), row 26 1 (.slice (some ⟨lb37, 0, none⟩) (([x31] : List (List Int))).length 1) (([x31] : List (List Int))).length ([Value.slice ra29 (x31).length rc30]), tieM (El.sl (El.int .u8)) (mdel k3_35 ((x28).next)) (mdel ((x28).kept) ((x28).next)), blk b0 (#[Value.int .i64 ((x28).m), Value.int .i64 ((x28).window), Value.int .i64 ((x28).next), Value.map (some b3_35), Value.slice ra41 (((x28).ready) ++ ([x31] : List (List Int))).length rc42]) 47, mblk b3_35 (mdel k3_35 ((x28).next)), row 26 1 (.slice ra41 (((x28).ready) ++ ([x31] : List (List Int))).length rc42) (((x28).ready) ++ ([x31] : List (List Int))).length (d4_35 ++ ([Value.slice ra29 (x31).length rc30])), fsl 1 (.slice ra29 (x31).length rc30) (x31).length ((x31).map (Value.int .u8)), fsl 1 (.slice at17_0 (t17).length ct17_0) (t17).length ((t17).map (Value.int .u8)), fsl 1 (.slice ea14 (mget ((a0).kept) ((w64 (((a0).next) + t3)).tmod ((a0).m)) []).length em15) (mget ((a0).kept) ((w64 (((a0).next) + t3)).tmod ((a0).m)) []).length ((mget ((a0).kept) ((w64 (((a0).next) + t3)).tmod ((a0).m)) []).map (Value.int .u8)), R]) HS
          have HS : Sep.St [tie (El.sl (El.int .u8)) (d4_35 ++ ([Value.slice ra29 (x31).length rc30])) (((x28).ready) ++ ([x31] : List (List Int))), tie (El.sl (El.int .u8)) ([Value.slice ra29 (x31).length rc30]) (([x31] : List (List Int))), row 26 1 (.slice (some ⟨lb37, 0, none⟩) (([x31] : List (List Int))).length 1) (([x31] : List (List Int))).length ([Value.slice ra29 (x31).length rc30]), tieM (El.sl (El.int .u8)) (mdel k3_35 ((x28).next)) (mdel ((x28).kept) ((x28).next)), blk b0 (#[Value.int .i64 ((x28).m), Value.int .i64 ((x28).window), Value.int .i64 ((x28).next), Value.map (some b3_35), Value.slice ra41 (((x28).ready) ++ ([x31] : List (List Int))).length rc42]) 47, mblk b3_35 (mdel k3_35 ((x28).next)), row 26 1 (.slice ra41 (((x28).ready) ++ ([x31] : List (List Int))).length rc42) (((x28).ready) ++ ([x31] : List (List Int))).length (d4_35 ++ ([Value.slice ra29 (x31).length rc30])), fsl 1 (.slice ra29 (x31).length rc30) (x31).length ((x31).map (Value.int .u8)), fsl 1 (.slice at17_0 (t17).length ct17_0) (t17).length ((t17).map (Value.int .u8)), fsl 1 (.slice ea14 (mget ((a0).kept) ((w64 (((a0).next) + t3)).tmod ((a0).m)) []).length em15) (mget ((a0).kept) ((w64 (((a0).next) + t3)).tmod ((a0).m)) []).length ((mget ((a0).kept) ((w64 (((a0).next) + t3)).tmod ((a0).m)) []).map (Value.int .u8)), R] w0 w := HS
          refine ⟨[(109, Value.int .i64 (t43)), (110, Value.pointer (some ⟨b0, 0, none⟩)), (111, Value.pointer (some ⟨b0, 0 + 2, none⟩))], fun w => Sep.St [tie (El.sl (El.int .u8)) (d4_35 ++ ([Value.slice ra29 (x31).length rc30])) (((x28).ready) ++ ([x31] : List (List Int))), tie (El.sl (El.int .u8)) ([Value.slice ra29 (x31).length rc30]) (([x31] : List (List Int))), row 26 1 (.slice (some ⟨lb37, 0, none⟩) (([x31] : List (List Int))).length 1) (([x31] : List (List Int))).length ([Value.slice ra29 (x31).length rc30]), tieM (El.sl (El.int .u8)) (mdel k3_35 ((x28).next)) (mdel ((x28).kept) ((x28).next)), blk b0 (#[Value.int .i64 ((x28).m), Value.int .i64 ((x28).window), Value.int .i64 ((x28).next), Value.map (some b3_35), Value.slice ra41 (((x28).ready) ++ ([x31] : List (List Int))).length rc42]) 47, mblk b3_35 (mdel k3_35 ((x28).next)), row 26 1 (.slice ra41 (((x28).ready) ++ ([x31] : List (List Int))).length rc42) (((x28).ready) ++ ([x31] : List (List Int))).length (d4_35 ++ ([Value.slice ra29 (x31).length rc30])), fsl 1 (.slice ra29 (x31).length rc30) (x31).length ((x31).map (Value.int .u8)), fsl 1 (.slice at17_0 (t17).length ct17_0) (t17).length ((t17).map (Value.int .u8)), fsl 1 (.slice ea14 (mget ((a0).kept) ((w64 (((a0).next) + t3)).tmod ((a0).m)) []).length em15) (mget ((a0).kept) ((w64 (((a0).next) + t3)).tmod ((a0).m)) []).length ((mget ((a0).kept) ((w64 (((a0).next) + t3)).tmod ((a0).m)) []).map (Value.int .u8)), R] w0 w, ⟨.inl ⟨rfl, rfl⟩, ⟨.inr ⟨by decide, rfl⟩, ⟨.inr ⟨by decide, rfl⟩, trivial⟩⟩⟩, ?_, HS⟩
          refine T.event _ [(109, Value.int .i64 (t43)), (111, Value.pointer (some ⟨b0, 0 + 2, none⟩))] rfl rfl ⟨⟨_, Value.pointer (some ⟨b0, 0, none⟩), [(0, Value.pointer (some ⟨b0, 0, none⟩))], 100, rfl, rfl, ⟨.inl ⟨rfl, rfl⟩, trivial⟩, .run rfl (fun w HS => X.move rfl), rfl, rfl, rfl⟩, ⟨_, Value.pointer (some ⟨b0, 0, none⟩), [(100, Value.pointer (some ⟨b0, 0, none⟩))], 110, rfl, rfl, ⟨.inr ⟨rfl, rfl⟩, trivial⟩, .run rfl (fun w HS => X.nilCheck rfl), rfl, rfl, rfl⟩, ⟨_, Value.pointer (some ⟨b0, 0 + 2, none⟩), [(110, Value.pointer (some ⟨b0, 0, none⟩))], 111, rfl, rfl, ⟨.inr ⟨rfl, rfl⟩, trivial⟩, .run rfl (fun w HS => X.fieldAddr 2 fo47_2 rfl), rfl, rfl, rfl⟩, trivial⟩ rfl ⟨.inr ⟨rfl, rfl⟩, ⟨.inr ⟨rfl, rfl⟩, trivial⟩⟩ (Or.inl rfl) (by intro d hd; cases hd) [] [0, 10, 11] rfl rfl (fun w HS => ?_)
          have HS : Sep.St [tie (El.sl (El.int .u8)) (d4_35 ++ ([Value.slice ra29 (x31).length rc30])) (((x28).ready) ++ ([x31] : List (List Int))), tie (El.sl (El.int .u8)) ([Value.slice ra29 (x31).length rc30]) (([x31] : List (List Int))), row 26 1 (.slice (some ⟨lb37, 0, none⟩) (([x31] : List (List Int))).length 1) (([x31] : List (List Int))).length ([Value.slice ra29 (x31).length rc30]), tieM (El.sl (El.int .u8)) (mdel k3_35 ((x28).next)) (mdel ((x28).kept) ((x28).next)), blk b0 (#[Value.int .i64 ((x28).m), Value.int .i64 ((x28).window), Value.int .i64 ((x28).next), Value.map (some b3_35), Value.slice ra41 (((x28).ready) ++ ([x31] : List (List Int))).length rc42]) 47, mblk b3_35 (mdel k3_35 ((x28).next)), row 26 1 (.slice ra41 (((x28).ready) ++ ([x31] : List (List Int))).length rc42) (((x28).ready) ++ ([x31] : List (List Int))).length (d4_35 ++ ([Value.slice ra29 (x31).length rc30])), fsl 1 (.slice ra29 (x31).length rc30) (x31).length ((x31).map (Value.int .u8)), fsl 1 (.slice at17_0 (t17).length ct17_0) (t17).length ((t17).map (Value.int .u8)), fsl 1 (.slice ea14 (mget ((a0).kept) ((w64 (((a0).next) + t3)).tmod ((a0).m)) []).length em15) (mget ((a0).kept) ((w64 (((a0).next) + t3)).tmod ((a0).m)) []).length ((mget ((a0).kept) ((w64 (((a0).next) + t3)).tmod ((a0).m)) []).map (Value.int .u8)), R] w0 w := HS
          refine ⟨_, Y.storeAt 4 HS rfl inf3 rfl rfl rfl rfl rfl rfl, ?_⟩
          rintro _ w HS
          have HS : Sep.St [tie (El.sl (El.int .u8)) (d4_35 ++ ([Value.slice ra29 (x31).length rc30])) (((x28).ready) ++ ([x31] : List (List Int))), tie (El.sl (El.int .u8)) ([Value.slice ra29 (x31).length rc30]) (([x31] : List (List Int))), row 26 1 (.slice (some ⟨lb37, 0, none⟩) (([x31] : List (List Int))).length 1) (([x31] : List (List Int))).length ([Value.slice ra29 (x31).length rc30]), tieM (El.sl (El.int .u8)) (mdel k3_35 ((x28).next)) (mdel ((x28).kept) ((x28).next)), blk b0 (#[Value.int .i64 ((x28).m), Value.int .i64 ((x28).window), Value.int .i64 (t43), Value.map (some b3_35), Value.slice ra41 (((x28).ready) ++ ([x31] : List (List Int))).length rc42]) 47, mblk b3_35 (mdel k3_35 ((x28).next)), row 26 1 (.slice ra41 (((x28).ready) ++ ([x31] : List (List Int))).length rc42) (((x28).ready) ++ ([x31] : List (List Int))).length (d4_35 ++ ([Value.slice ra29 (x31).length rc30])), fsl 1 (.slice ra29 (x31).length rc30) (x31).length ((x31).map (Value.int .u8)), fsl 1 (.slice at17_0 (t17).length ct17_0) (t17).length ((t17).map (Value.int .u8)), fsl 1 (.slice ea14 (mget ((a0).kept) ((w64 (((a0).next) + t3)).tmod ((a0).m)) []).length em15) (mget ((a0).kept) ((w64 (((a0).next) + t3)).tmod ((a0).m)) []).length ((mget ((a0).kept) ((w64 (((a0).next) + t3)).tmod ((a0).m)) []).map (Value.int .u8)), R] w0 w := HS
          refine ⟨[], fun w => Sep.St [tie (El.sl (El.int .u8)) (d4_35 ++ ([Value.slice ra29 (x31).length rc30])) (((x28).ready) ++ ([x31] : List (List Int))), tie (El.sl (El.int .u8)) ([Value.slice ra29 (x31).length rc30]) (([x31] : List (List Int))), row 26 1 (.slice (some ⟨lb37, 0, none⟩) (([x31] : List (List Int))).length 1) (([x31] : List (List Int))).length ([Value.slice ra29 (x31).length rc30]), tieM (El.sl (El.int .u8)) (mdel k3_35 ((x28).next)) (mdel ((x28).kept) ((x28).next)), blk b0 (#[Value.int .i64 ((x28).m), Value.int .i64 ((x28).window), Value.int .i64 (t43), Value.map (some b3_35), Value.slice ra41 (((x28).ready) ++ ([x31] : List (List Int))).length rc42]) 47, mblk b3_35 (mdel k3_35 ((x28).next)), row 26 1 (.slice ra41 (((x28).ready) ++ ([x31] : List (List Int))).length rc42) (((x28).ready) ++ ([x31] : List (List Int))).length (d4_35 ++ ([Value.slice ra29 (x31).length rc30])), fsl 1 (.slice ra29 (x31).length rc30) (x31).length ((x31).map (Value.int .u8)), fsl 1 (.slice at17_0 (t17).length ct17_0) (t17).length ((t17).map (Value.int .u8)), fsl 1 (.slice ea14 (mget ((a0).kept) ((w64 (((a0).next) + t3)).tmod ((a0).m)) []).length em15) (mget ((a0).kept) ((w64 (((a0).next) + t3)).tmod ((a0).m)) []).length ((mget ((a0).kept) ((w64 (((a0).next) + t3)).tmod ((a0).m)) []).map (Value.int .u8)), R] w0 w, trivial, ?_, HS⟩
          refine T.fin [(0, Value.pointer (some ⟨b0, 0, none⟩)), (10, Value.int .i64 (x26))] rfl trivial ⟨.inl ⟨rfl, rfl⟩, ⟨.inl ⟨rfl, rfl⟩, trivial⟩⟩ (fun w HS => ?_)
          have HS : Sep.St [tie (El.sl (El.int .u8)) (d4_35 ++ ([Value.slice ra29 (x31).length rc30])) (((x28).ready) ++ ([x31] : List (List Int))), tie (El.sl (El.int .u8)) ([Value.slice ra29 (x31).length rc30]) (([x31] : List (List Int))), row 26 1 (.slice (some ⟨lb37, 0, none⟩) (([x31] : List (List Int))).length 1) (([x31] : List (List Int))).length ([Value.slice ra29 (x31).length rc30]), tieM (El.sl (El.int .u8)) (mdel k3_35 ((x28).next)) (mdel ((x28).kept) ((x28).next)), blk b0 (#[Value.int .i64 ((x28).m), Value.int .i64 ((x28).window), Value.int .i64 (t43), Value.map (some b3_35), Value.slice ra41 (((x28).ready) ++ ([x31] : List (List Int))).length rc42]) 47, mblk b3_35 (mdel k3_35 ((x28).next)), row 26 1 (.slice ra41 (((x28).ready) ++ ([x31] : List (List Int))).length rc42) (((x28).ready) ++ ([x31] : List (List Int))).length (d4_35 ++ ([Value.slice ra29 (x31).length rc30])), fsl 1 (.slice ra29 (x31).length rc30) (x31).length ((x31).map (Value.int .u8)), fsl 1 (.slice at17_0 (t17).length ct17_0) (t17).length ((t17).map (Value.int .u8)), fsl 1 (.slice ea14 (mget ((a0).kept) ((w64 (((a0).next) + t3)).tmod ((a0).m)) []).length em15) (mget ((a0).kept) ((w64 (((a0).next) + t3)).tmod ((a0).m)) []).length ((mget ((a0).kept) ((w64 (((a0).next) + t3)).tmod ((a0).m)) []).map (Value.int .u8)), R] w0 w := HS
          refine At.next ?_
          refine V.keep [(0, Value.pointer (some ⟨b0, 0, none⟩)), (10, Value.int .i64 (x26))] ⟨rfl, rfl, trivial⟩ ?_
          refine V.region ?_
          refine W.rd (X.move rfl) rfl rfl rfl ?_
          refine W.rd (X.add rfl rfl) rfl rfl rfl ?_
          refine W.rd (X.assign rfl) rfl rfl rfl ?_
          refine W.nil ?_
          refine At.blockEnd ?_
          refine At.next ?_
          refine V.keep [(0, Value.pointer (some ⟨b0, 0, none⟩)), (10, Value.int .i64 (w64 (x26 + 1)))] ⟨rfl, rfl, trivial⟩ ?_
          have hm45 := St.tieM_has 3 t43 HS rfl
          replace HS := St.tieM_get 3 t43 (z := .slice none 0 0) (d := []) sl_zero HS rfl
          obtain ⟨ea47, em48, hu46, HS⟩ := St.sl_openF (Value.int .u8) (fun t => tie_int t) HS
          have HS : Sep.St [fsl 1 (.slice ea47 (mget (mdel ((x28).kept) ((x28).next)) t43 []).length em48) (mget (mdel ((x28).kept) ((x28).next)) t43 []).length ((mget (mdel ((x28).kept) ((x28).next)) t43 []).map (Value.int .u8)), tie (El.sl (El.int .u8)) (d4_35 ++ ([Value.slice ra29 (x31).length rc30])) (((x28).ready) ++ ([x31] : List (List Int))), tie (El.sl (El.int .u8)) ([Value.slice ra29 (x31).length rc30]) (([x31] : List (List Int))), row 26 1 (.slice (some ⟨lb37, 0, none⟩) (([x31] : List (List Int))).length 1) (([x31] : List (List Int))).length ([Value.slice ra29 (x31).length rc30]), tieM (El.sl (El.int .u8)) (mdel k3_35 ((x28).next)) (mdel ((x28).kept) ((x28).next)), blk b0 (#[Value.int .i64 ((x28).m), Value.int .i64 ((x28).window), Value.int .i64 (t43), Value.map (some b3_35), Value.slice ra41 (((x28).ready) ++ ([x31] : List (List Int))).length rc42]) 47, mblk b3_35 (mdel k3_35 ((x28).next)), row 26 1 (.slice ra41 (((x28).ready) ++ ([x31] : List (List Int))).length rc42) (((x28).ready) ++ ([x31] : List (List Int))).length (d4_35 ++ ([Value.slice ra29 (x31).length rc30])), fsl 1 (.slice ra29 (x31).length rc30) (x31).length ((x31).map (Value.int .u8)), fsl 1 (.slice at17_0 (t17).length ct17_0) (t17).length ((t17).map (Value.int .u8)), fsl 1 (.slice ea14 (mget ((a0).kept) ((w64 (((a0).next) + t3)).tmod ((a0).m)) []).length em15) (mget ((a0).kept) ((w64 (((a0).next) + t3)).tmod ((a0).m)) []).length ((mget ((a0).kept) ((w64 (((a0).next) + t3)).tmod ((a0).m)) []).map (Value.int .u8)), R] w0 w := HS
          refine V.draw (es := []) (bl := []) (f := [(71, Value.pointer (some ⟨b0, 0, none⟩)), (72, Value.pointer (some ⟨b0, 0, none⟩)), (73, Value.pointer (some ⟨b0, 0 + 3, none⟩)), (74, Value.map (some b3_35)), (75, Value.pointer (some ⟨b0, 0, none⟩)), (76, Value.pointer (some ⟨b0, 0, none⟩)), (77, Value.pointer (some ⟨b0, 0 + 2, none⟩)), (78, Value.int .i64 (t43)), (79, Value.tuple #[Value.slice ea47 (mget (mdel ((x28).kept) ((x28).next)) t43 []).length em48, Value.bool (mhas (mdel ((x28).kept) ((x28).next)) t43)]), (70, Value.tuple #[Value.slice ea47 (mget (mdel ((x28).kept) ((x28).next)) t43 []).length em48, Value.bool (mhas (mdel ((x28).kept) ((x28).next)) t43)]), (80, Value.slice ea47 (mget (mdel ((x28).kept) ((x28).next)) t43 []).length em48), (81, Value.bool (mhas (mdel ((x28).kept) ((x28).next)) t43)), (11, Value.slice ea47 (mget (mdel ((x28).kept) ((x28).next)) t43 []).length em48), (12, Value.bool (mhas (mdel ((x28).kept) ((x28).next)) t43))]) (fun w => Sep.St [fsl 1 (.slice ea47 (mget (mdel ((x28).kept) ((x28).next)) t43 []).length em48) (mget (mdel ((x28).kept) ((x28).next)) t43 []).length ((mget (mdel ((x28).kept) ((x28).next)) t43 []).map (Value.int .u8)), tie (El.sl (El.int .u8)) (d4_35 ++ ([Value.slice ra29 (x31).length rc30])) (((x28).ready) ++ ([x31] : List (List Int))), tie (El.sl (El.int .u8)) ([Value.slice ra29 (x31).length rc30]) (([x31] : List (List Int))), row 26 1 (.slice (some ⟨lb37, 0, none⟩) (([x31] : List (List Int))).length 1) (([x31] : List (List Int))).length ([Value.slice ra29 (x31).length rc30]), tieM (El.sl (El.int .u8)) (mdel k3_35 ((x28).next)) (mdel ((x28).kept) ((x28).next)), blk b0 (#[Value.int .i64 ((x28).m), Value.int .i64 ((x28).window), Value.int .i64 (t43), Value.map (some b3_35), Value.slice ra41 (((x28).ready) ++ ([x31] : List (List Int))).length rc42]) 47, mblk b3_35 (mdel k3_35 ((x28).next)), row 26 1 (.slice ra41 (((x28).ready) ++ ([x31] : List (List Int))).length rc42) (((x28).ready) ++ ([x31] : List (List Int))).length (d4_35 ++ ([Value.slice ra29 (x31).length rc30])), fsl 1 (.slice ra29 (x31).length rc30) (x31).length ((x31).map (Value.int .u8)), fsl 1 (.slice at17_0 (t17).length ct17_0) (t17).length ((t17).map (Value.int .u8)), fsl 1 (.slice ea14 (mget ((a0).kept) ((w64 (((a0).next) + t3)).tmod ((a0).m)) []).length em15) (mget ((a0).kept) ((w64 (((a0).next) + t3)).tmod ((a0).m)) []).length ((mget ((a0).kept) ((w64 (((a0).next) + t3)).tmod ((a0).m)) []).map (Value.int .u8)), R] w0 w) mo HS.drew rfl ?_
          refine T.fin [(0, Value.pointer (some ⟨b0, 0, none⟩)), (10, Value.int .i64 (w64 (x26 + 1))), (11, Value.slice ea47 (mget (mdel ((x28).kept) ((x28).next)) t43 []).length em48), (12, Value.bool (mhas (mdel ((x28).kept) ((x28).next)) t43))] rfl ⟨⟨_, Value.pointer (some ⟨b0, 0, none⟩), [(0, Value.pointer (some ⟨b0, 0, none⟩))], 71, rfl, rfl, ⟨.inl ⟨rfl, rfl⟩, trivial⟩, .run rfl (fun w HS => X.move rfl), rfl, rfl, rfl⟩, ⟨_, Value.pointer (some ⟨b0, 0, none⟩), [(71, Value.pointer (some ⟨b0, 0, none⟩))], 72, rfl, rfl, ⟨.inr ⟨rfl, rfl⟩, trivial⟩, .run rfl (fun w HS => X.nilCheck rfl), rfl, rfl, rfl⟩, ⟨_, Value.pointer (some ⟨b0, 0 + 3, none⟩), [(72, Value.pointer (some ⟨b0, 0, none⟩))], 73, rfl, rfl, ⟨.inr ⟨rfl, rfl⟩, trivial⟩, .run rfl (fun w HS => X.fieldAddr 3 fo47_3 rfl), rfl, rfl, rfl⟩, ⟨_, Value.map (some b3_35), [(73, Value.pointer (some ⟨b0, 0 + 3, none⟩))], 74, rfl, rfl, ⟨.inr ⟨rfl, rfl⟩, trivial⟩, .run rfl (fun w HS => X.loadAt 5 HS rfl Try.underlying44 rfl rfl rfl), rfl, rfl, rfl⟩, ⟨_, Value.pointer (some ⟨b0, 0, none⟩), [(0, Value.pointer (some ⟨b0, 0, none⟩))], 75, rfl, rfl, ⟨.inl ⟨rfl, rfl⟩, trivial⟩, .run rfl (fun w HS => X.move rfl), rfl, rfl, rfl⟩, ⟨_, Value.pointer (some ⟨b0, 0, none⟩), [(75, Value.pointer (some ⟨b0, 0, none⟩))], 76, rfl, rfl, ⟨.inr ⟨rfl, rfl⟩, trivial⟩, .run rfl (fun w HS => X.nilCheck rfl), rfl, rfl, rfl⟩, ⟨_, Value.pointer (some ⟨b0, 0 + 2, none⟩), [(76, Value.pointer (some ⟨b0, 0, none⟩))], 77, rfl, rfl, ⟨.inr ⟨rfl, rfl⟩, trivial⟩, .run rfl (fun w HS => X.fieldAddr 2 fo47_2 rfl), rfl, rfl, rfl⟩, ⟨_, Value.int .i64 (t43), [(77, Value.pointer (some ⟨b0, 0 + 2, none⟩))], 78, rfl, rfl, ⟨.inr ⟨rfl, rfl⟩, trivial⟩, .run rfl (fun w HS => X.loadAt 5 HS rfl Try.underlying3 rfl rfl rfl), rfl, rfl, rfl⟩, ⟨_, Value.tuple #[Value.slice ea47 (mget (mdel ((x28).kept) ((x28).next)) t43 []).length em48, Value.bool (mhas (mdel ((x28).kept) ((x28).next)) t43)], [(74, Value.map (some b3_35)), (78, Value.int .i64 (t43))], 79, rfl, rfl, ⟨.inr ⟨rfl, rfl⟩, ⟨.inr ⟨rfl, rfl⟩, trivial⟩⟩, .run rfl (fun w HS => X.lookup (z := .slice none 0 0) 6 Try.underlying44 Try.underlying3 ze26 HS rfl rfl rfl hu46 hm45), rfl, rfl, rfl⟩, ⟨_, Value.tuple #[Value.slice ea47 (mget (mdel ((x28).kept) ((x28).next)) t43 []).length em48, Value.bool (mhas (mdel ((x28).kept) ((x28).next)) t43)], [(79, Value.tuple #[Value.slice ea47 (mget (mdel ((x28).kept) ((x28).next)) t43 []).length em48, Value.bool (mhas (mdel ((x28).kept) ((x28).next)) t43)])], 70, rfl, rfl, ⟨.inr ⟨rfl, rfl⟩, trivial⟩, .run rfl (fun w HS => X.move rfl), rfl, rfl, rfl⟩, ⟨_, Value.slice ea47 (mget (mdel ((x28).kept) ((x28).next)) t43 []).length em48, [(70, Value.tuple #[Value.slice ea47 (mget (mdel ((x28).kept) ((x28).next)) t43 []).length em48, Value.bool (mhas (mdel ((x28).kept) ((x28).next)) t43)])], 80, rfl, rfl, ⟨.inr ⟨rfl, rfl⟩, trivial⟩, .run rfl (fun w HS => X.extract rfl rfl), rfl, rfl, rfl⟩, ⟨_, Value.bool (mhas (mdel ((x28).kept) ((x28).next)) t43), [(70, Value.tuple #[Value.slice ea47 (mget (mdel ((x28).kept) ((x28).next)) t43 []).length em48, Value.bool (mhas (mdel ((x28).kept) ((x28).next)) t43)])], 81, rfl, rfl, ⟨.inr ⟨rfl, rfl⟩, trivial⟩, .run rfl (fun w HS => X.extract rfl rfl), rfl, rfl, rfl⟩, ⟨_, Value.slice ea47 (mget (mdel ((x28).kept) ((x28).next)) t43 []).length em48, [(80, Value.slice ea47 (mget (mdel ((x28).kept) ((x28).next)) t43 []).length em48)], 11, rfl, rfl, ⟨.inr ⟨rfl, rfl⟩, trivial⟩, .run rfl (fun w HS => X.assign rfl), rfl, rfl, rfl⟩, ⟨_, Value.bool (mhas (mdel ((x28).kept) ((x28).next)) t43), [(81, Value.bool (mhas (mdel ((x28).kept) ((x28).next)) t43))], 12, rfl, rfl, ⟨.inr ⟨rfl, rfl⟩, trivial⟩, .run rfl (fun w HS => X.assign rfl), rfl, rfl, rfl⟩, trivial⟩ ⟨.inl ⟨rfl, rfl⟩, ⟨.inl ⟨rfl, rfl⟩, ⟨.inr ⟨rfl, rfl⟩, ⟨.inr ⟨rfl, rfl⟩, trivial⟩⟩⟩⟩ (fun w HS => ?_)
          have HS : Sep.St [fsl 1 (.slice ea47 (mget (mdel ((x28).kept) ((x28).next)) t43 []).length em48) (mget (mdel ((x28).kept) ((x28).next)) t43 []).length ((mget (mdel ((x28).kept) ((x28).next)) t43 []).map (Value.int .u8)), tie (El.sl (El.int .u8)) (d4_35 ++ ([Value.slice ra29 (x31).length rc30])) (((x28).ready) ++ ([x31] : List (List Int))), tie (El.sl (El.int .u8)) ([Value.slice ra29 (x31).length rc30]) (([x31] : List (List Int))), row 26 1 (.slice (some ⟨lb37, 0, none⟩) (([x31] : List (List Int))).length 1) (([x31] : List (List Int))).length ([Value.slice ra29 (x31).length rc30]), tieM (El.sl (El.int .u8)) (mdel k3_35 ((x28).next)) (mdel ((x28).kept) ((x28).next)), blk b0 (#[Value.int .i64 ((x28).m), Value.int .i64 ((x28).window), Value.int .i64 (t43), Value.map (some b3_35), Value.slice ra41 (((x28).ready) ++ ([x31] : List (List Int))).length rc42]) 47, mblk b3_35 (mdel k3_35 ((x28).next)), row 26 1 (.slice ra41 (((x28).ready) ++ ([x31] : List (List Int))).length rc42) (((x28).ready) ++ ([x31] : List (List Int))).length (d4_35 ++ ([Value.slice ra29 (x31).length rc30])), fsl 1 (.slice ra29 (x31).length rc30) (x31).length ((x31).map (Value.int .u8)), fsl 1 (.slice at17_0 (t17).length ct17_0) (t17).length ((t17).map (Value.int .u8)), fsl 1 (.slice ea14 (mget ((a0).kept) ((w64 (((a0).next) + t3)).tmod ((a0).m)) []).length em15) (mget ((a0).kept) ((w64 (((a0).next) + t3)).tmod ((a0).m)) []).length ((mget ((a0).kept) ((w64 (((a0).next) + t3)).tmod ((a0).m)) []).map (Value.int .u8)), R] w0 w := HS
          replace HS := HS.re [5, 6, 4, 7, 1, 0, 2, 3, 8, 9, 10, 11] (by kernel_rfl)
          have HS : Sep.St [blk b0 (#[Value.int .i64 ((x28).m), Value.int .i64 ((x28).window), Value.int .i64 (t43), Value.map (some b3_35), Value.slice ra41 (((x28).ready) ++ ([x31] : List (List Int))).length rc42]) 47, mblk b3_35 (mdel k3_35 ((x28).next)), tieM (El.sl (El.int .u8)) (mdel k3_35 ((x28).next)) (mdel ((x28).kept) ((x28).next)), row 26 1 (.slice ra41 (((x28).ready) ++ ([x31] : List (List Int))).length rc42) (((x28).ready) ++ ([x31] : List (List Int))).length (d4_35 ++ ([Value.slice ra29 (x31).length rc30])), tie (El.sl (El.int .u8)) (d4_35 ++ ([Value.slice ra29 (x31).length rc30])) (((x28).ready) ++ ([x31] : List (List Int))), fsl 1 (.slice ea47 (mget (mdel ((x28).kept) ((x28).next)) t43 []).length em48) (mget (mdel ((x28).kept) ((x28).next)) t43 []).length ((mget (mdel ((x28).kept) ((x28).next)) t43 []).map (Value.int .u8)), tie (El.sl (El.int .u8)) ([Value.slice ra29 (x31).length rc30]) (([x31] : List (List Int))), row 26 1 (.slice (some ⟨lb37, 0, none⟩) (([x31] : List (List Int))).length 1) (([x31] : List (List Int))).length ([Value.slice ra29 (x31).length rc30]), fsl 1 (.slice ra29 (x31).length rc30) (x31).length ((x31).map (Value.int .u8)), fsl 1 (.slice at17_0 (t17).length ct17_0) (t17).length ((t17).map (Value.int .u8)), fsl 1 (.slice ea14 (mget ((a0).kept) ((w64 (((a0).next) + t3)).tmod ((a0).m)) []).length em15) (mget ((a0).kept) ((w64 (((a0).next) + t3)).tmod ((a0).m)) []).length ((mget ((a0).kept) ((w64 (((a0).next) + t3)).tmod ((a0).m)) []).map (Value.int .u8)), R] w0 w := HS
          replace HS := reorder_Order.close (({ m := (x28).m, window := (x28).window, next := t43, kept := mdel ((x28).kept) ((x28).next), ready := ((x28).ready) ++ ([x31] : List (List Int)) } : reorder_Order)) trivial HS
          have HS : Sep.St [reorder_Order.at b0 (({ m := (x28).m, window := (x28).window, next := t43, kept := mdel ((x28).kept) ((x28).next), ready := ((x28).ready) ++ ([x31] : List (List Int)) } : reorder_Order)), fsl 1 (.slice ea47 (mget (mdel ((x28).kept) ((x28).next)) t43 []).length em48) (mget (mdel ((x28).kept) ((x28).next)) t43 []).length ((mget (mdel ((x28).kept) ((x28).next)) t43 []).map (Value.int .u8)), tie (El.sl (El.int .u8)) ([Value.slice ra29 (x31).length rc30]) (([x31] : List (List Int))), row 26 1 (.slice (some ⟨lb37, 0, none⟩) (([x31] : List (List Int))).length 1) (([x31] : List (List Int))).length ([Value.slice ra29 (x31).length rc30]), fsl 1 (.slice ra29 (x31).length rc30) (x31).length ((x31).map (Value.int .u8)), fsl 1 (.slice at17_0 (t17).length ct17_0) (t17).length ((t17).map (Value.int .u8)), fsl 1 (.slice ea14 (mget ((a0).kept) ((w64 (((a0).next) + t3)).tmod ((a0).m)) []).length em15) (mget ((a0).kept) ((w64 (((a0).next) + t3)).tmod ((a0).m)) []).length ((mget ((a0).kept) ((w64 (((a0).next) + t3)).tmod ((a0).m)) []).map (Value.int .u8)), R] w0 w := HS
          replace HS := HS.sel [0, 1, 5, 6, 7] [2, 3, 4] (by kernel_rfl)
          exact At.round kq32 (by omega) (w64 (x26 + 1), mhas (mdel ((x28).kept) ((x28).next)) t43, ({ m := (x28).m, window := (x28).window, next := t43, kept := mdel ((x28).kept) ((x28).next), ready := ((x28).ready) ++ ([x31] : List (List Int)) } : reorder_Order), ea47, em48, mget (mdel ((x28).kept) ((x28).next)) t43 []) ⟨rfl, rfl, rfl, rfl, trivial⟩ ⟨HS, H, by omega⟩
        · replace H := ite_f c34 H
          refine V.condF (sb (b_f c34)) ?_
          refine V.exit ?_
          refine At.thenExit ?_
          refine At.thenExit ?_
          refine At.blockExit ?_
          refine At.next ?_
          refine V.keep [(10, Value.int .i64 (x26))] ⟨rfl, trivial⟩ ?_
          refine V.seq ?_
          refine V.region ?_
          refine W.rd (X.move rfl) rfl rfl rfl ?_
          refine W.rd (X.assign rfl) rfl rfl rfl ?_
          refine W.nil ?_
          refine At.next ?_
          refine V.keep [(6, Value.int .i64 (x26))] ⟨rfl, trivial⟩ ?_
          refine V.ret ?_
          replace HS := HS.sel [0, 4] [1, 2, 3] (by kernel_rfl)
          cases H
          exact At.ret1 rfl rfl ⟨_, rfl, rfl, HS⟩

/-! ### (*signalman/reorder.Order).Gap: function 10 -/
def reorder_Order_Gap.f (a0 : reorder_Order) : Option (Bool) := some (decide ((((a0).kept).length : Int) > 0))
set_option maxRecDepth 100000 in
set_option maxHeartbeats 4000000 in
theorem reorder_Order_Gap.calls (a0 : reorder_Order) (R : As) (w0 w : World) (b0 : Nat) (b3_p0 : Nat) (k3_p0 : List (Int × Value)) (a4_p0 : Option Addr) (c4_p0 : Nat) (d4_p0 : List Value) (r : Bool)  (H : reorder_Order_Gap.f a0 = some r) (HS : Sep.St [blk b0 (#[Value.int .i64 ((a0).m), Value.int .i64 ((a0).window), Value.int .i64 ((a0).next), Value.map (some b3_p0), Value.slice a4_p0 ((a0).ready).length c4_p0]) 47, mblk b3_p0 k3_p0, tieM (El.sl (El.int .u8)) k3_p0 ((a0).kept), row 26 1 (.slice a4_p0 ((a0).ready).length c4_p0) ((a0).ready).length d4_p0, tie (El.sl (El.int .u8)) d4_p0 ((a0).ready), R] w0 w) : Calls Try.prog 10 #[Value.pointer (some ⟨b0, 0, none⟩)] w (Ret fun u w => u = Value.bool (r) ∧ Sep.St [blk b0 (#[Value.int .i64 ((a0).m), Value.int .i64 ((a0).window), Value.int .i64 ((a0).next), Value.map (some b3_p0), Value.slice a4_p0 ((a0).ready).length c4_p0]) 47, mblk b3_p0 k3_p0, tieM (El.sl (El.int .u8)) k3_p0 ((a0).kept), row 26 1 (.slice a4_p0 ((a0).ready).length c4_p0) ((a0).ready).length d4_p0, tie (El.sl (El.int .u8)) d4_p0 ((a0).ready), R] w0 w) := by
  unfold reorder_Order_Gap.f at H
  refine calls_enter Try.func10 rfl rfl ?_
  have H : _ = some r := H
  refine V.seq ?_
  refine V.region ?_
  refine W.rd (X.assign rfl) rfl rfl rfl ?_
  refine W.nil ?_
  refine At.next ?_
  refine V.keep [(0, Value.pointer (some ⟨b0, 0, none⟩))] ⟨rfl, trivial⟩ ?_
  refine V.seq ?_
  refine V.region ?_
  refine W.rd (X.move rfl) rfl rfl rfl ?_
  refine W.rd (X.nilCheck rfl) rfl rfl rfl ?_
  refine W.rd (X.fieldAddr 3 fo47_3 rfl) rfl rfl rfl ?_
  refine W.rd (X.loadAt 0 HS rfl Try.underlying44 rfl rfl rfl) rfl rfl rfl ?_
  refine W.rd (X.lenMap (m := (a0).kept) 1 Try.underlying44 HS rfl (St.tieM_len 2 HS rfl) rfl) rfl rfl rfl ?_
  refine W.rd (X.cmp (decide ((((a0).kept).length : Int) > 0)) rfl rfl rfl rfl) rfl rfl rfl ?_
  refine W.rd (X.assign rfl) rfl rfl rfl ?_
  refine W.nil ?_
  refine At.next ?_
  refine V.keep [(2, Value.bool (decide ((((a0).kept).length : Int) > 0)))] ⟨rfl, trivial⟩ ?_
  refine V.ret ?_
  cases H
  exact At.ret1 rfl rfl ⟨_, rfl, rfl, HS⟩

/-! ### (*signalman/reorder.Order).Take: function 11 -/
def reorder_Order_Take.f (a0 : reorder_Order) : Option (List Int × Bool × reorder_Order) := (if (((a0).ready).length : Int) = 0 then some (([] : List Int), false, a0) else (if 0 ≤ (0 : Int) ∧ (0 : Int) < (((a0).ready).length : Int) then (if 0 ≤ (1 : Int) ∧ (1 : Int) ≤ (((a0).ready).length : Int) ∧ (((a0).ready).length : Int) ≤ (((a0).ready).length : Int) then some (((a0).ready).getD ((0 : Int)).toNat [], true, ({ m := (a0).m, window := (a0).window, next := (a0).next, kept := (a0).kept, ready := cut ((a0).ready) (1 : Int) (((a0).ready).length : Int) } : reorder_Order)) else none) else none))
set_option maxRecDepth 100000 in
set_option maxHeartbeats 4000000 in
theorem reorder_Order_Take.calls (a0 : reorder_Order) (R : As) (w0 w : World) (b0 : Nat) (r : List Int × Bool × reorder_Order)  (H : reorder_Order_Take.f a0 = some r) (HS : Sep.St [reorder_Order.at b0 (a0), R] w0 w) : Calls Try.prog 11 #[Value.pointer (some ⟨b0, 0, none⟩)] w (Ret fun u w => ∃ (aq0 : Option Addr) (cq0 : Nat), u = Value.tuple #[Value.slice aq0 (r.1).length cq0, Value.bool (r.2.1)] ∧ Sep.St [fsl 1 (.slice aq0 (r.1).length cq0) (r.1).length ((r.1).map (Value.int .u8)), reorder_Order.at b0 (r.2.2), R] w0 w) := by
  unfold reorder_Order_Take.f at H
  refine calls_enter Try.func11 rfl rfl ?_
  have H : _ = some r := H
  refine V.seq ?_
  refine V.region ?_
  refine W.rd (X.assign rfl) rfl rfl rfl ?_
  refine W.rd (X.assign rfl) rfl rfl rfl ?_
  refine W.nil ?_
  refine At.next ?_
  refine V.keep [(0, Value.pointer (some ⟨b0, 0, none⟩))] ⟨rfl, trivial⟩ ?_
  refine V.seq ?_
  refine V.seq ?_
  refine V.region ?_
  refine W.rd (X.move rfl) rfl rfl rfl ?_
  refine W.rd (X.nilCheck rfl) rfl rfl rfl ?_
  obtain ⟨b3_1, k3_1, a4_1, c4_1, d4_1, hi2, HS⟩ := reorder_Order.open HS
  have HS : Sep.St [blk b0 (#[Value.int .i64 ((a0).m), Value.int .i64 ((a0).window), Value.int .i64 ((a0).next), Value.map (some b3_1), Value.slice a4_1 ((a0).ready).length c4_1]) 47, mblk b3_1 k3_1, tieM (El.sl (El.int .u8)) k3_1 ((a0).kept), row 26 1 (.slice a4_1 ((a0).ready).length c4_1) ((a0).ready).length d4_1, tie (El.sl (El.int .u8)) d4_1 ((a0).ready), R] w0 w := HS
  refine W.rd (X.fieldAddr 4 fo47_4 rfl) rfl rfl rfl ?_
  refine W.rd (X.loadAt 0 HS rfl Try.underlying45 rfl rfl rfl) rfl rfl rfl ?_
  refine W.rd (X.lenSl Try.underlying45 rfl) rfl rfl rfl ?_
  refine W.rd (X.cmp (decide ((((a0).ready).length : Int) = 0)) rfl rfl rfl rfl) rfl rfl rfl ?_
  refine W.nil ?_
  refine At.next ?_
  refine V.keep [(0, Value.pointer (some ⟨b0, 0, none⟩)), (10, Value.bool (decide ((((a0).ready).length : Int) = 0)))] ⟨rfl, rfl, trivial⟩ ?_
  by_cases c3 : (((a0).ready).length : Int) = 0
  · replace H := ite_t c3 H
    refine V.condT (sb (decide_eq_true c3)) ?_
    refine V.seq ?_
    refine V.region ?_
    refine W.rd (X.assign rfl) rfl rfl rfl ?_
    refine W.rd (X.assign rfl) rfl rfl rfl ?_
    refine W.nil ?_
    refine At.next ?_
    refine V.keep [(2, Value.slice none 0 0), (3, Value.bool (false))] ⟨rfl, rfl, trivial⟩ ?_
    refine V.ret ?_
    refine At.thenRet ?_
    replace HS := row_nil' (e := 5) 1 none HS
    have HS : Sep.St [row 5 1 (.slice none (([] : List Int)).length 0) (([] : List Int)).length ((([] : List Int)).map (Value.int .u8)), blk b0 (#[Value.int .i64 ((a0).m), Value.int .i64 ((a0).window), Value.int .i64 ((a0).next), Value.map (some b3_1), Value.slice a4_1 ((a0).ready).length c4_1]) 47, mblk b3_1 k3_1, tieM (El.sl (El.int .u8)) k3_1 ((a0).kept), row 26 1 (.slice a4_1 ((a0).ready).length c4_1) ((a0).ready).length d4_1, tie (El.sl (El.int .u8)) d4_1 ((a0).ready), R] w0 w := HS
    replace HS := St.row_freeze HS
    have HS : Sep.St [fsl 1 (.slice none (([] : List Int)).length 0) (([] : List Int)).length ((([] : List Int)).map (Value.int .u8)), blk b0 (#[Value.int .i64 ((a0).m), Value.int .i64 ((a0).window), Value.int .i64 ((a0).next), Value.map (some b3_1), Value.slice a4_1 ((a0).ready).length c4_1]) 47, mblk b3_1 k3_1, tieM (El.sl (El.int .u8)) k3_1 ((a0).kept), row 26 1 (.slice a4_1 ((a0).ready).length c4_1) ((a0).ready).length d4_1, tie (El.sl (El.int .u8)) d4_1 ((a0).ready), R] w0 w := HS
    replace HS := HS.re [1, 2, 3, 4, 5, 0, 6] (by kernel_rfl)
    have HS : Sep.St [blk b0 (#[Value.int .i64 ((a0).m), Value.int .i64 ((a0).window), Value.int .i64 ((a0).next), Value.map (some b3_1), Value.slice a4_1 ((a0).ready).length c4_1]) 47, mblk b3_1 k3_1, tieM (El.sl (El.int .u8)) k3_1 ((a0).kept), row 26 1 (.slice a4_1 ((a0).ready).length c4_1) ((a0).ready).length d4_1, tie (El.sl (El.int .u8)) d4_1 ((a0).ready), fsl 1 (.slice none (([] : List Int)).length 0) (([] : List Int)).length ((([] : List Int)).map (Value.int .u8)), R] w0 w := HS
    replace HS := reorder_Order.close (a0) trivial HS
    have HS : Sep.St [reorder_Order.at b0 (a0), fsl 1 (.slice none (([] : List Int)).length 0) (([] : List Int)).length ((([] : List Int)).map (Value.int .u8)), R] w0 w := HS
    replace HS := HS.sel [1, 0, 2] [] (by kernel_rfl)
    cases H
    exact At.ret2 rfl rfl rfl ⟨_, rfl, none, 0, rfl, HS⟩
  · replace H := ite_f c3 H
    refine V.condF (sb (decide_eq_false c3)) ?_
    refine V.skip ?_
    refine At.next ?_
    refine V.keep [(0, Value.pointer (some ⟨b0, 0, none⟩))] ⟨rfl, trivial⟩ ?_
    refine V.seq ?_
    refine V.region ?_
    refine W.rd (X.move rfl) rfl rfl rfl ?_
    refine W.rd (X.nilCheck rfl) rfl rfl rfl ?_
    refine W.rd (X.fieldAddr 4 fo47_4 rfl) rfl rfl rfl ?_
    refine W.rd (X.loadAt 0 HS rfl Try.underlying45 rfl rfl rfl) rfl rfl rfl ?_
    obtain ⟨c4, H⟩ := ite_n H
    obtain ⟨eb5, eo6, hh⟩ := ((rdC.at 3 row_rd HS rfl)).some (by decide) c4.1 c4.2; subst hh
    refine W.rd (X.indexSl Try.underlying45 inf26 rfl rfl c4.1 c4.2) rfl rfl rfl ?_
    obtain ⟨ec7, hc8, HS⟩ := St.tie_at 4 HS rfl ([]) c4.1 c4.2
    obtain ⟨ea9, em10, he12, HN⟩ := St.sl_openF (Value.int .u8) (fun t => tie_int t) HS; clear HS; subst he12; have HS := HN
    have HS : Sep.St [fsl 1 (.slice ea9 (((a0).ready).getD ((0 : Int)).toNat []).length em10) (((a0).ready).getD ((0 : Int)).toNat []).length ((((a0).ready).getD ((0 : Int)).toNat []).map (Value.int .u8)), blk b0 (#[Value.int .i64 ((a0).m), Value.int .i64 ((a0).window), Value.int .i64 ((a0).next), Value.map (some b3_1), Value.slice (some ⟨eb5, eo6, none⟩) ((a0).ready).length c4_1]) 47, mblk b3_1 k3_1, tieM (El.sl (El.int .u8)) k3_1 ((a0).kept), row 26 1 (.slice (some ⟨eb5, eo6, none⟩) ((a0).ready).length c4_1) ((a0).ready).length d4_1, tie (El.sl (El.int .u8)) d4_1 ((a0).ready), R] w0 w := HS
    refine W.rd (X.load Try.underlying26 rfl rfl (((rdC.at 4 row_rd HS rfl)).cellEl0 (hc8 0 _ rfl))) rfl rfl rfl ?_
    refine W.rd (X.assign rfl) rfl rfl rfl ?_
    refine W.nil ?_
    refine At.next ?_
    refine V.keep [(0, Value.pointer (some ⟨b0, 0, none⟩)), (4, Value.slice ea9 (((a0).ready).getD ((0 : Int)).toNat []).length em10)] ⟨rfl, rfl, trivial⟩ ?_
    refine V.seq ?_
    refine V.region ?_
    refine W.rd (X.move rfl) rfl rfl rfl ?_
    refine W.rd (X.move rfl) rfl rfl rfl ?_
    refine W.rd (X.nilCheck rfl) rfl rfl rfl ?_
    refine W.rd (X.fieldAddr 4 fo47_4 rfl) rfl rfl rfl ?_
    refine W.rd (X.loadAt 1 HS rfl Try.underlying45 rfl rfl rfl) rfl rfl rfl ?_
    obtain ⟨c13, H⟩ := ite_n H
    refine W.rd (X.slL Try.underlying45 inf26 rfl rfl c13) rfl rfl rfl ?_
    refine W.rd (X.nilCheck rfl) rfl rfl rfl ?_
    refine W.rd (X.fieldAddr 4 fo47_4 rfl) rfl rfl rfl ?_
    refine W.ev_none (Y.storeAt 1 HS rfl inf45 rfl rfl rfl rfl rfl rfl) rfl rfl ?_
    rintro _ w HS
    have HS : Sep.St [fsl 1 (.slice ea9 (((a0).ready).getD ((0 : Int)).toNat []).length em10) (((a0).ready).getD ((0 : Int)).toNat []).length ((((a0).ready).getD ((0 : Int)).toNat []).map (Value.int .u8)), blk b0 (#[Value.int .i64 ((a0).m), Value.int .i64 ((a0).window), Value.int .i64 ((a0).next), Value.map (some b3_1), Value.slice (vaddr (some ⟨eb5, eo6, none⟩) c4_1 ((1 : Int)).toNat 1) (cut ((a0).ready) (1 : Int) (((a0).ready).length : Int)).length (c4_1 - ((1 : Int)).toNat)]) 47, mblk b3_1 k3_1, tieM (El.sl (El.int .u8)) k3_1 ((a0).kept), row 26 1 (.slice (some ⟨eb5, eo6, none⟩) ((a0).ready).length c4_1) ((a0).ready).length d4_1, tie (El.sl (El.int .u8)) d4_1 ((a0).ready), R] w0 w := HS
    refine W.nil ?_
    refine At.next ?_
    refine V.keep [(4, Value.slice ea9 (((a0).ready).getD ((0 : Int)).toNat []).length em10)] ⟨rfl, trivial⟩ ?_
    refine V.seq ?_
    refine V.region ?_
    refine W.rd (X.move rfl) rfl rfl rfl ?_
    refine W.rd (X.assign rfl) rfl rfl rfl ?_
    refine W.rd (X.assign rfl) rfl rfl rfl ?_
    refine W.nil ?_
    refine At.next ?_
    refine V.keep [(2, Value.slice ea9 (((a0).ready).getD ((0 : Int)).toNat []).length em10), (3, Value.bool (true))] ⟨rfl, rfl, trivial⟩ ?_
    refine V.ret ?_
    replace HS := HS.front 4 rfl
    have HS : Sep.St [row 26 1 (.slice (some ⟨eb5, eo6, none⟩) ((a0).ready).length c4_1) ((a0).ready).length d4_1, fsl 1 (.slice ea9 (((a0).ready).getD ((0 : Int)).toNat []).length em10) (((a0).ready).getD ((0 : Int)).toNat []).length ((((a0).ready).getD ((0 : Int)).toNat []).map (Value.int .u8)), blk b0 (#[Value.int .i64 ((a0).m), Value.int .i64 ((a0).window), Value.int .i64 ((a0).next), Value.map (some b3_1), Value.slice (vaddr (some ⟨eb5, eo6, none⟩) c4_1 ((1 : Int)).toNat 1) (cut ((a0).ready) (1 : Int) (((a0).ready).length : Int)).length (c4_1 - ((1 : Int)).toNat)]) 47, mblk b3_1 k3_1, tieM (El.sl (El.int .u8)) k3_1 ((a0).kept), tie (El.sl (El.int .u8)) d4_1 ((a0).ready), R] w0 w := HS
    replace HS := St.row_sub HS c13
    replace HS := HS.front 5 rfl
    have HS : Sep.St [tie (El.sl (El.int .u8)) d4_1 ((a0).ready), row 26 1 (.slice (vaddr (some ⟨eb5, eo6, none⟩) c4_1 ((1 : Int)).toNat 1) (cut ((a0).ready) (1 : Int) (((a0).ready).length : Int)).length (c4_1 - ((1 : Int)).toNat)) (cut ((a0).ready) (1 : Int) (((a0).ready).length : Int)).length (cutC 1 d4_1 (1 : Int) (((a0).ready).length : Int)), fsl 1 (.slice ea9 (((a0).ready).getD ((0 : Int)).toNat []).length em10) (((a0).ready).getD ((0 : Int)).toNat []).length ((((a0).ready).getD ((0 : Int)).toNat []).map (Value.int .u8)), blk b0 (#[Value.int .i64 ((a0).m), Value.int .i64 ((a0).window), Value.int .i64 ((a0).next), Value.map (some b3_1), Value.slice (vaddr (some ⟨eb5, eo6, none⟩) c4_1 ((1 : Int)).toNat 1) (cut ((a0).ready) (1 : Int) (((a0).ready).length : Int)).length (c4_1 - ((1 : Int)).toNat)]) 47, mblk b3_1 k3_1, tieM (El.sl (El.int .u8)) k3_1 ((a0).kept), R] w0 w := HS
    replace HS := St.tie_cut (1 : Int) (((a0).ready).length : Int) HS
    have HS : Sep.St [tie (El.sl (El.int .u8)) (cutC 1 d4_1 (1 : Int) (((a0).ready).length : Int)) (cut ((a0).ready) (1 : Int) (((a0).ready).length : Int)), row 26 1 (.slice (vaddr (some ⟨eb5, eo6, none⟩) c4_1 ((1 : Int)).toNat 1) (cut ((a0).ready) (1 : Int) (((a0).ready).length : Int)).length (c4_1 - ((1 : Int)).toNat)) (cut ((a0).ready) (1 : Int) (((a0).ready).length : Int)).length (cutC 1 d4_1 (1 : Int) (((a0).ready).length : Int)), fsl 1 (.slice ea9 (((a0).ready).getD ((0 : Int)).toNat []).length em10) (((a0).ready).getD ((0 : Int)).toNat []).length ((((a0).ready).getD ((0 : Int)).toNat []).map (Value.int .u8)), blk b0 (#[Value.int .i64 ((a0).m), Value.int .i64 ((a0).window), Value.int .i64 ((a0).next), Value.map (some b3_1), Value.slice (vaddr (some ⟨eb5, eo6, none⟩) c4_1 ((1 : Int)).toNat 1) (cut ((a0).ready) (1 : Int) (((a0).ready).length : Int)).length (c4_1 - ((1 : Int)).toNat)]) 47, mblk b3_1 k3_1, tieM (El.sl (El.int .u8)) k3_1 ((a0).kept), R] w0 w := HS
    have HS : Sep.St [tie (El.sl (El.int .u8)) (cutC 1 d4_1 (1 : Int) (((a0).ready).length : Int)) (cut ((a0).ready) (1 : Int) (((a0).ready).length : Int)), row 26 1 (.slice (vaddr (some ⟨eb5, eo6, none⟩) c4_1 ((1 : Int)).toNat 1) (cut ((a0).ready) (1 : Int) (((a0).ready).length : Int)).length (c4_1 - ((1 : Int)).toNat)) (cut ((a0).ready) (1 : Int) (((a0).ready).length : Int)).length (cutC 1 d4_1 (1 : Int) (((a0).ready).length : Int)), fsl 1 (.slice ea9 (((a0).ready).getD ((0 : Int)).toNat []).length em10) (((a0).ready).getD ((0 : Int)).toNat []).length ((((a0).ready).getD ((0 : Int)).toNat []).map (Value.int .u8)), blk b0 (#[Value.int .i64 ((a0).m), Value.int .i64 ((a0).window), Value.int .i64 ((a0).next), Value.map (some b3_1), Value.slice (vaddr (some ⟨eb5, eo6, none⟩) c4_1 ((1 : Int)).toNat 1) (cut ((a0).ready) (1 : Int) (((a0).ready).length : Int)).length (c4_1 - ((1 : Int)).toNat)]) 47, mblk b3_1 k3_1, tieM (El.sl (El.int .u8)) k3_1 ((a0).kept), R] w0 w := HS
    replace HS := HS.re [3, 4, 5, 1, 0, 2, 6] (by kernel_rfl)
    have HS : Sep.St [blk b0 (#[Value.int .i64 ((a0).m), Value.int .i64 ((a0).window), Value.int .i64 ((a0).next), Value.map (some b3_1), Value.slice (vaddr (some ⟨eb5, eo6, none⟩) c4_1 ((1 : Int)).toNat 1) (cut ((a0).ready) (1 : Int) (((a0).ready).length : Int)).length (c4_1 - ((1 : Int)).toNat)]) 47, mblk b3_1 k3_1, tieM (El.sl (El.int .u8)) k3_1 ((a0).kept), row 26 1 (.slice (vaddr (some ⟨eb5, eo6, none⟩) c4_1 ((1 : Int)).toNat 1) (cut ((a0).ready) (1 : Int) (((a0).ready).length : Int)).length (c4_1 - ((1 : Int)).toNat)) (cut ((a0).ready) (1 : Int) (((a0).ready).length : Int)).length (cutC 1 d4_1 (1 : Int) (((a0).ready).length : Int)), tie (El.sl (El.int .u8)) (cutC 1 d4_1 (1 : Int) (((a0).ready).length : Int)) (cut ((a0).ready) (1 : Int) (((a0).ready).length : Int)), fsl 1 (.slice ea9 (((a0).ready).getD ((0 : Int)).toNat []).length em10) (((a0).ready).getD ((0 : Int)).toNat []).length ((((a0).ready).getD ((0 : Int)).toNat []).map (Value.int .u8)), R] w0 w := HS
    replace HS := reorder_Order.close (({ m := (a0).m, window := (a0).window, next := (a0).next, kept := (a0).kept, ready := cut ((a0).ready) (1 : Int) (((a0).ready).length : Int) } : reorder_Order)) trivial HS
    have HS : Sep.St [reorder_Order.at b0 (({ m := (a0).m, window := (a0).window, next := (a0).next, kept := (a0).kept, ready := cut ((a0).ready) (1 : Int) (((a0).ready).length : Int) } : reorder_Order)), fsl 1 (.slice ea9 (((a0).ready).getD ((0 : Int)).toNat []).length em10) (((a0).ready).getD ((0 : Int)).toNat []).length ((((a0).ready).getD ((0 : Int)).toNat []).map (Value.int .u8)), R] w0 w := HS
    replace HS := HS.sel [1, 0, 2] [] (by kernel_rfl)
    cases H
    exact At.ret2 rfl rfl rfl ⟨_, rfl, ea9, em10, rfl, HS⟩

/-! ### signalman/signalmanlaw14.alive: function 7 -/
def signalmanlaw14_alive.f (k : Nat)  : Option (Bool) := ((reorder_New.f 128 4).bind fun t1 => ((reorder_Order_Put.f k t1 1 ([98] : List Int)).bind fun t7 => ((reorder_Order_Gap.f t7.2).bind fun t11 => ((reorder_Order_Put.f k t7.2 0 ([97] : List Int)).bind fun t16 => ((reorder_Order_Take.f t16.2).bind fun t18 => (if t7.1 = 0 then (if t11 = true then (if t16.1 = 2 then (if t18.2.1 = true then some (sEq (t18.1) (([97] : List Int))) else some (false)) else some (false)) else some (false)) else some (false)))))))
set_option maxRecDepth 100000 in
set_option maxHeartbeats 4000000 in
theorem signalmanlaw14_alive.calls (k : Nat)  (R : As) (w0 w : World)  (r : Bool)  (H : signalmanlaw14_alive.f k  = some r) (HS : Sep.St [R] w0 w) : Calls Try.prog 7 #[] w (Ret fun u w => u = Value.bool (r) ∧ Sep.St [R] w0 w) := by
  unfold signalmanlaw14_alive.f at H
  refine calls_enter Try.func7 rfl rfl ?_
  have H : _ = some r := H
  refine V.seq ?_
  refine V.region ?_
  refine W.rd (X.assign rfl) rfl rfl rfl ?_
  refine W.nil ?_
  refine At.next ?_
  refine V.keep [] trivial ?_
  refine V.seq ?_
  refine V.region ?_
  obtain ⟨t1, A2, H⟩ := bind_s H
  refine W.ev (Y.call Try.func8 (by kernel_rfl) rfl (vs := [Value.int .i64 (128), Value.int .i64 (4)]) rfl (reorder_New.calls 128 4 _ w0 _  t1  A2 (Sep.St.tailJoin (m := []) (r := [R]) HS))) rfl rfl rfl ?_
  rintro _ w ⟨bt1_0, rfl, HS⟩
  replace HS := Sep.St.tailOpen (m := [reorder_Order.at bt1_0 (t1)]) (r := [R]) HS
  have HS : Sep.St [reorder_Order.at bt1_0 (t1), R] w0 w := HS
  refine W.rd (X.assign rfl) rfl rfl rfl ?_
  refine W.nil ?_
  refine At.next ?_
  refine V.keep [(1, Value.pointer (some ⟨bt1_0, 0, none⟩))] ⟨rfl, trivial⟩ ?_
  refine V.seq ?_
  refine V.seq ?_
  refine V.region ?_
  refine W.rd (X.move rfl) rfl rfl rfl ?_
  refine W.rd (X.eqP Try.underlying23 rfl rfl) rfl rfl rfl ?_
  refine W.nil ?_
  refine At.next ?_
  refine V.keep [(1, Value.pointer (some ⟨bt1_0, 0, none⟩)), (9, Value.bool (false))] ⟨rfl, rfl, trivial⟩ ?_
  refine V.condF rfl ?_
  refine V.skip ?_
  refine At.next ?_
  refine V.keep [(1, Value.pointer (some ⟨bt1_0, 0, none⟩))] ⟨rfl, trivial⟩ ?_
  refine V.seq ?_
  refine V.region ?_
  refine W.rd (X.move rfl) rfl rfl rfl ?_
  refine W.ev (Y.litB (e := 5) (sz := 1) (vs := #[(0, Value.int .u8 (98))]) [Value.int .u8 (98)] HS (fun a ha => by simp only [List.map_toArray, List.map_cons, List.map_nil]; try rfl) rfl (by decide) (fun _ => by kernel_rfl)) rfl rfl rfl ?_
  rintro _ w ⟨lb6, rfl, HS⟩
  have HS : Sep.St [row 5 1 (.slice (some ⟨lb6, 0, none⟩) (([98] : List Int)).length 1) (([98] : List Int)).length ((([98] : List Int)).map (Value.int .u8)), reorder_Order.at bt1_0 (t1), R] w0 w := HS
  refine W.ev (Y.markS 0 HS rfl (by decide) Try.underlying26 Try.underlying5 rfl) rfl rfl rfl ?_
  rintro _ w ⟨rfl, HS⟩
  have HS : Sep.St [fsl 1 (.slice (some ⟨lb6, 0, none⟩) (([98] : List Int)).length 1) (([98] : List Int)).length ((([98] : List Int)).map (Value.int .u8)), reorder_Order.at bt1_0 (t1), R] w0 w := HS
  obtain ⟨t7, A8, H⟩ := bind_s H
  replace HS := HS.re [1, 0, 2] (by kernel_rfl)
  have HS : Sep.St [reorder_Order.at bt1_0 (t1), fsl 1 (.slice (some ⟨lb6, 0, none⟩) (([98] : List Int)).length 1) (([98] : List Int)).length ((([98] : List Int)).map (Value.int .u8)), R] w0 w := HS
  refine W.ev (Y.call Try.func9 (by kernel_rfl) rfl (vs := [Value.pointer (some ⟨bt1_0, 0, none⟩), Value.int .i64 (1), Value.slice (some ⟨lb6, 0, none⟩) (([98] : List Int)).length 1]) rfl (reorder_Order_Put.calls k t1 1 ([98] : List Int) _ w0 _ bt1_0 (some ⟨lb6, 0, none⟩) 1 t7 (rdC.part 0 fsl.rd rfl) A8 (Sep.St.tailJoin (m := [reorder_Order.at bt1_0 (t1)]) (r := [fsl 1 (.slice (some ⟨lb6, 0, none⟩) (([98] : List Int)).length 1) (([98] : List Int)).length ((([98] : List Int)).map (Value.int .u8)), R]) HS))) rfl rfl rfl ?_
  rintro _ w ⟨rfl, HS⟩
  replace HS := Sep.St.tailOpen (m := [reorder_Order.at bt1_0 (t7.2)]) (r := [fsl 1 (.slice (some ⟨lb6, 0, none⟩) (([98] : List Int)).length 1) (([98] : List Int)).length ((([98] : List Int)).map (Value.int .u8)), R]) HS
  have HS : Sep.St [reorder_Order.at bt1_0 (t7.2), fsl 1 (.slice (some ⟨lb6, 0, none⟩) (([98] : List Int)).length 1) (([98] : List Int)).length ((([98] : List Int)).map (Value.int .u8)), R] w0 w := HS
  refine W.rd (X.assign rfl) rfl rfl rfl ?_
  refine W.nil ?_
  refine At.next ?_
  refine V.keep [(1, Value.pointer (some ⟨bt1_0, 0, none⟩)), (2, Value.int .i64 (t7.1))] ⟨rfl, rfl, trivial⟩ ?_
  refine V.seq ?_
  refine V.region ?_
  refine W.rd (X.move rfl) rfl rfl rfl ?_
  obtain ⟨b3_9, k3_9, a4_9, c4_9, d4_9, hi10, HS⟩ := reorder_Order.open HS
  have HS : Sep.St [blk bt1_0 (#[Value.int .i64 ((t7.2).m), Value.int .i64 ((t7.2).window), Value.int .i64 ((t7.2).next), Value.map (some b3_9), Value.slice a4_9 ((t7.2).ready).length c4_9]) 47, mblk b3_9 k3_9, tieM (El.sl (El.int .u8)) k3_9 ((t7.2).kept), row 26 1 (.slice a4_9 ((t7.2).ready).length c4_9) ((t7.2).ready).length d4_9, tie (El.sl (El.int .u8)) d4_9 ((t7.2).ready), fsl 1 (.slice (some ⟨lb6, 0, none⟩) (([98] : List Int)).length 1) (([98] : List Int)).length ((([98] : List Int)).map (Value.int .u8)), R] w0 w := HS
  obtain ⟨t11, A12, H⟩ := bind_s H
  refine W.ev (Y.call Try.func10 (by kernel_rfl) rfl (vs := [Value.pointer (some ⟨bt1_0, 0, none⟩)]) rfl (reorder_Order_Gap.calls t7.2 _ w0 _ bt1_0 b3_9 k3_9 a4_9 c4_9 d4_9 t11  A12 (Sep.St.tailJoin (m := [blk bt1_0 (#[Value.int .i64 ((t7.2).m), Value.int .i64 ((t7.2).window), Value.int .i64 ((t7.2).next), Value.map (some b3_9), Value.slice a4_9 ((t7.2).ready).length c4_9]) 47, mblk b3_9 k3_9, tieM (El.sl (El.int .u8)) k3_9 ((t7.2).kept), row 26 1 (.slice a4_9 ((t7.2).ready).length c4_9) ((t7.2).ready).length d4_9, tie (El.sl (El.int .u8)) d4_9 ((t7.2).ready)]) (r := [fsl 1 (.slice (some ⟨lb6, 0, none⟩) (([98] : List Int)).length 1) (([98] : List Int)).length ((([98] : List Int)).map (Value.int .u8)), R]) HS))) rfl rfl rfl ?_
  rintro _ w ⟨rfl, HS⟩
  replace HS := Sep.St.tailOpen (m := [blk bt1_0 (#[Value.int .i64 ((t7.2).m), Value.int .i64 ((t7.2).window), Value.int .i64 ((t7.2).next), Value.map (some b3_9), Value.slice a4_9 ((t7.2).ready).length c4_9]) 47, mblk b3_9 k3_9, tieM (El.sl (El.int .u8)) k3_9 ((t7.2).kept), row 26 1 (.slice a4_9 ((t7.2).ready).length c4_9) ((t7.2).ready).length d4_9, tie (El.sl (El.int .u8)) d4_9 ((t7.2).ready)]) (r := [fsl 1 (.slice (some ⟨lb6, 0, none⟩) (([98] : List Int)).length 1) (([98] : List Int)).length ((([98] : List Int)).map (Value.int .u8)), R]) HS
  have HS : Sep.St [blk bt1_0 (#[Value.int .i64 ((t7.2).m), Value.int .i64 ((t7.2).window), Value.int .i64 ((t7.2).next), Value.map (some b3_9), Value.slice a4_9 ((t7.2).ready).length c4_9]) 47, mblk b3_9 k3_9, tieM (El.sl (El.int .u8)) k3_9 ((t7.2).kept), row 26 1 (.slice a4_9 ((t7.2).ready).length c4_9) ((t7.2).ready).length d4_9, tie (El.sl (El.int .u8)) d4_9 ((t7.2).ready), fsl 1 (.slice (some ⟨lb6, 0, none⟩) (([98] : List Int)).length 1) (([98] : List Int)).length ((([98] : List Int)).map (Value.int .u8)), R] w0 w := HS
  refine W.rd (X.assign rfl) rfl rfl rfl ?_
  refine W.nil ?_
  refine At.next ?_
  refine V.keep [(1, Value.pointer (some ⟨bt1_0, 0, none⟩)), (2, Value.int .i64 (t7.1)), (3, Value.bool (t11))] ⟨rfl, rfl, rfl, trivial⟩ ?_
  refine V.seq ?_
  refine V.region ?_
  refine W.rd (X.move rfl) rfl rfl rfl ?_
  refine W.ev (Y.litB (e := 5) (sz := 1) (vs := #[(0, Value.int .u8 (97))]) [Value.int .u8 (97)] HS (fun a ha => by simp only [List.map_toArray, List.map_cons, List.map_nil]; try rfl) rfl (by decide) (fun _ => by kernel_rfl)) rfl rfl rfl ?_
  rintro _ w ⟨lb15, rfl, HS⟩
  have HS : Sep.St [row 5 1 (.slice (some ⟨lb15, 0, none⟩) (([97] : List Int)).length 1) (([97] : List Int)).length ((([97] : List Int)).map (Value.int .u8)), blk bt1_0 (#[Value.int .i64 ((t7.2).m), Value.int .i64 ((t7.2).window), Value.int .i64 ((t7.2).next), Value.map (some b3_9), Value.slice a4_9 ((t7.2).ready).length c4_9]) 47, mblk b3_9 k3_9, tieM (El.sl (El.int .u8)) k3_9 ((t7.2).kept), row 26 1 (.slice a4_9 ((t7.2).ready).length c4_9) ((t7.2).ready).length d4_9, tie (El.sl (El.int .u8)) d4_9 ((t7.2).ready), fsl 1 (.slice (some ⟨lb6, 0, none⟩) (([98] : List Int)).length 1) (([98] : List Int)).length ((([98] : List Int)).map (Value.int .u8)), R] w0 w := HS
  refine W.ev (Y.markS 0 HS rfl (by decide) Try.underlying26 Try.underlying5 rfl) rfl rfl rfl ?_
  rintro _ w ⟨rfl, HS⟩
  have HS : Sep.St [fsl 1 (.slice (some ⟨lb15, 0, none⟩) (([97] : List Int)).length 1) (([97] : List Int)).length ((([97] : List Int)).map (Value.int .u8)), blk bt1_0 (#[Value.int .i64 ((t7.2).m), Value.int .i64 ((t7.2).window), Value.int .i64 ((t7.2).next), Value.map (some b3_9), Value.slice a4_9 ((t7.2).ready).length c4_9]) 47, mblk b3_9 k3_9, tieM (El.sl (El.int .u8)) k3_9 ((t7.2).kept), row 26 1 (.slice a4_9 ((t7.2).ready).length c4_9) ((t7.2).ready).length d4_9, tie (El.sl (El.int .u8)) d4_9 ((t7.2).ready), fsl 1 (.slice (some ⟨lb6, 0, none⟩) (([98] : List Int)).length 1) (([98] : List Int)).length ((([98] : List Int)).map (Value.int .u8)), R] w0 w := HS
  replace HS := HS.re [1, 2, 3, 4, 5, 0, 6, 7] (by kernel_rfl)
  have HS : Sep.St [blk bt1_0 (#[Value.int .i64 ((t7.2).m), Value.int .i64 ((t7.2).window), Value.int .i64 ((t7.2).next), Value.map (some b3_9), Value.slice a4_9 ((t7.2).ready).length c4_9]) 47, mblk b3_9 k3_9, tieM (El.sl (El.int .u8)) k3_9 ((t7.2).kept), row 26 1 (.slice a4_9 ((t7.2).ready).length c4_9) ((t7.2).ready).length d4_9, tie (El.sl (El.int .u8)) d4_9 ((t7.2).ready), fsl 1 (.slice (some ⟨lb15, 0, none⟩) (([97] : List Int)).length 1) (([97] : List Int)).length ((([97] : List Int)).map (Value.int .u8)), fsl 1 (.slice (some ⟨lb6, 0, none⟩) (([98] : List Int)).length 1) (([98] : List Int)).length ((([98] : List Int)).map (Value.int .u8)), R] w0 w := HS
  replace HS := reorder_Order.close (t7.2) trivial HS
  have HS : Sep.St [reorder_Order.at bt1_0 (t7.2), fsl 1 (.slice (some ⟨lb15, 0, none⟩) (([97] : List Int)).length 1) (([97] : List Int)).length ((([97] : List Int)).map (Value.int .u8)), fsl 1 (.slice (some ⟨lb6, 0, none⟩) (([98] : List Int)).length 1) (([98] : List Int)).length ((([98] : List Int)).map (Value.int .u8)), R] w0 w := HS
  obtain ⟨t16, A17, H⟩ := bind_s H
  refine W.ev (Y.call Try.func9 (by kernel_rfl) rfl (vs := [Value.pointer (some ⟨bt1_0, 0, none⟩), Value.int .i64 (0), Value.slice (some ⟨lb15, 0, none⟩) (([97] : List Int)).length 1]) rfl (reorder_Order_Put.calls k t7.2 0 ([97] : List Int) _ w0 _ bt1_0 (some ⟨lb15, 0, none⟩) 1 t16 (rdC.part 0 fsl.rd rfl) A17 (Sep.St.tailJoin (m := [reorder_Order.at bt1_0 (t7.2)]) (r := [fsl 1 (.slice (some ⟨lb15, 0, none⟩) (([97] : List Int)).length 1) (([97] : List Int)).length ((([97] : List Int)).map (Value.int .u8)), fsl 1 (.slice (some ⟨lb6, 0, none⟩) (([98] : List Int)).length 1) (([98] : List Int)).length ((([98] : List Int)).map (Value.int .u8)), R]) HS))) rfl rfl rfl ?_
  rintro _ w ⟨rfl, HS⟩
  replace HS := Sep.St.tailOpen (m := [reorder_Order.at bt1_0 (t16.2)]) (r := [fsl 1 (.slice (some ⟨lb15, 0, none⟩) (([97] : List Int)).length 1) (([97] : List Int)).length ((([97] : List Int)).map (Value.int .u8)), fsl 1 (.slice (some ⟨lb6, 0, none⟩) (([98] : List Int)).length 1) (([98] : List Int)).length ((([98] : List Int)).map (Value.int .u8)), R]) HS
  have HS : Sep.St [reorder_Order.at bt1_0 (t16.2), fsl 1 (.slice (some ⟨lb15, 0, none⟩) (([97] : List Int)).length 1) (([97] : List Int)).length ((([97] : List Int)).map (Value.int .u8)), fsl 1 (.slice (some ⟨lb6, 0, none⟩) (([98] : List Int)).length 1) (([98] : List Int)).length ((([98] : List Int)).map (Value.int .u8)), R] w0 w := HS
  refine W.rd (X.assign rfl) rfl rfl rfl ?_
  refine W.nil ?_
  refine At.next ?_
  refine V.keep [(1, Value.pointer (some ⟨bt1_0, 0, none⟩)), (2, Value.int .i64 (t7.1)), (3, Value.bool (t11)), (4, Value.int .i64 (t16.1))] ⟨rfl, rfl, rfl, rfl, trivial⟩ ?_
  refine V.seq ?_
  refine V.region ?_
  refine W.rd (X.move rfl) rfl rfl rfl ?_
  obtain ⟨t18, A19, H⟩ := bind_s H
  refine W.ev (Y.call Try.func11 (by kernel_rfl) rfl (vs := [Value.pointer (some ⟨bt1_0, 0, none⟩)]) rfl (reorder_Order_Take.calls t16.2 _ w0 _ bt1_0 t18  A19 (Sep.St.tailJoin (m := [reorder_Order.at bt1_0 (t16.2)]) (r := [fsl 1 (.slice (some ⟨lb15, 0, none⟩) (([97] : List Int)).length 1) (([97] : List Int)).length ((([97] : List Int)).map (Value.int .u8)), fsl 1 (.slice (some ⟨lb6, 0, none⟩) (([98] : List Int)).length 1) (([98] : List Int)).length ((([98] : List Int)).map (Value.int .u8)), R]) HS))) rfl rfl rfl ?_
  rintro _ w ⟨at18_0, ct18_0, rfl, HS⟩
  replace HS := Sep.St.tailOpen (m := [fsl 1 (.slice at18_0 (t18.1).length ct18_0) (t18.1).length ((t18.1).map (Value.int .u8)), reorder_Order.at bt1_0 (t18.2.2)]) (r := [fsl 1 (.slice (some ⟨lb15, 0, none⟩) (([97] : List Int)).length 1) (([97] : List Int)).length ((([97] : List Int)).map (Value.int .u8)), fsl 1 (.slice (some ⟨lb6, 0, none⟩) (([98] : List Int)).length 1) (([98] : List Int)).length ((([98] : List Int)).map (Value.int .u8)), R]) HS
  have HS : Sep.St [fsl 1 (.slice at18_0 (t18.1).length ct18_0) (t18.1).length ((t18.1).map (Value.int .u8)), reorder_Order.at bt1_0 (t18.2.2), fsl 1 (.slice (some ⟨lb15, 0, none⟩) (([97] : List Int)).length 1) (([97] : List Int)).length ((([97] : List Int)).map (Value.int .u8)), fsl 1 (.slice (some ⟨lb6, 0, none⟩) (([98] : List Int)).length 1) (([98] : List Int)).length ((([98] : List Int)).map (Value.int .u8)), R] w0 w := HS
  refine W.rd (X.move rfl) rfl rfl rfl ?_
  refine W.rd (X.extract rfl rfl) rfl rfl rfl ?_
  refine W.rd (X.extract rfl rfl) rfl rfl rfl ?_
  refine W.rd (X.assign rfl) rfl rfl rfl ?_
  refine W.rd (X.assign rfl) rfl rfl rfl ?_
  refine W.nil ?_
  refine At.next ?_
  refine V.keep [(2, Value.int .i64 (t7.1)), (3, Value.bool (t11)), (4, Value.int .i64 (t16.1)), (5, Value.slice at18_0 (t18.1).length ct18_0), (6, Value.bool (t18.2.1))] ⟨rfl, rfl, rfl, rfl, rfl, trivial⟩ ?_
  refine V.seq ?_
  refine V.region ?_
  refine W.rd (X.move rfl) rfl rfl rfl ?_
  refine W.rd (X.cmp (decide (t7.1 = 0)) rfl rfl rfl rfl) rfl rfl rfl ?_
  refine W.rd (X.move rfl) rfl rfl rfl ?_
  by_cases c20 : t7.1 = 0
  · replace H := ite_t c20 H
    refine W.want 27 rfl (sb (decide_eq_true c20)) ?_
    refine W.rd (X.move rfl) rfl rfl rfl ?_
    refine W.rd (X.pickT (sb (decide_eq_true c20)) rfl) rfl rfl rfl ?_
    refine W.rd (X.move rfl) rfl rfl rfl ?_
    by_cases c21 : t11 = true
    · replace H := ite_t c21 H
      refine W.want 30 rfl (sb c21) ?_
      refine W.rd (X.move rfl) rfl rfl rfl ?_
      refine W.want 30 rfl (sb c21) ?_
      refine W.rd (X.cmp (decide (t16.1 = 2)) rfl rfl rfl rfl) rfl rfl rfl ?_
      refine W.rd (X.pickT (sb c21) rfl) rfl rfl rfl ?_
      refine W.rd (X.move rfl) rfl rfl rfl ?_
      by_cases c22 : t16.1 = 2
      · replace H := ite_t c22 H
        refine W.want 34 rfl (sb (decide_eq_true c22)) ?_
        refine W.rd (X.move rfl) rfl rfl rfl ?_
        refine W.rd (X.pickT (sb (decide_eq_true c22)) rfl) rfl rfl rfl ?_
        refine W.rd (X.move rfl) rfl rfl rfl ?_
        by_cases c23 : t18.2.1 = true
        · replace H := ite_t c23 H
          refine W.want 37 rfl (sb c23) ?_
          refine W.rd (X.move rfl) rfl rfl rfl ?_
          refine W.want 37 rfl (sb c23) ?_
          refine W.rd (X.bytesStr Try.underlying26 Try.underlying5 Try.underlying9 rfl (rdC.at 0 fsl.rd HS rfl)) rfl rfl rfl ?_
          refine W.want 37 rfl (sb c23) ?_
          refine W.rd (X.eqStr (a := t18.1) (b := ([97] : List Int)) rfl rfl) rfl rfl rfl ?_
          refine W.rd (X.pickT (sb c23) rfl) rfl rfl rfl ?_
          refine W.rd (X.assign rfl) rfl rfl rfl ?_
          refine W.nil ?_
          refine At.next ?_
          refine V.keep [(0, Value.bool (sEq (t18.1) (([97] : List Int))))] ⟨rfl, trivial⟩ ?_
          refine V.ret ?_
          replace HS := HS.sel [4] [0, 1, 2, 3] (by kernel_rfl)
          cases H
          exact At.ret1 rfl rfl ⟨_, rfl, rfl, HS⟩
        · replace H := ite_f c23 H
          refine W.pass 37 rfl (sb (b_f c23)) rfl rfl ?_
          refine W.pass 37 rfl (sb (b_f c23)) rfl rfl ?_
          refine W.pass 37 rfl (sb (b_f c23)) rfl rfl ?_
          refine W.rd (X.pickF (sb (b_f c23)) rfl) rfl rfl rfl ?_
          refine W.rd (X.assign rfl) rfl rfl rfl ?_
          refine W.nil ?_
          refine At.next ?_
          refine V.keep [(0, Value.bool (false))] ⟨rfl, trivial⟩ ?_
          refine V.ret ?_
          replace HS := HS.sel [4] [0, 1, 2, 3] (by kernel_rfl)
          cases H
          exact At.ret1 rfl rfl ⟨_, rfl, rfl, HS⟩
      · replace H := ite_f c22 H
        refine W.pass 34 rfl (sb (decide_eq_false c22)) rfl rfl ?_
        refine W.rd (X.pickF (sb (decide_eq_false c22)) rfl) rfl rfl rfl ?_
        refine W.rd (X.move rfl) rfl rfl rfl ?_
        refine W.pass 37 rfl rfl rfl rfl ?_
        refine W.pass 37 rfl rfl rfl rfl ?_
        refine W.pass 37 rfl rfl rfl rfl ?_
        refine W.rd (X.pickF rfl rfl) rfl rfl rfl ?_
        refine W.rd (X.assign rfl) rfl rfl rfl ?_
        refine W.nil ?_
        refine At.next ?_
        refine V.keep [(0, Value.bool (false))] ⟨rfl, trivial⟩ ?_
        refine V.ret ?_
        replace HS := HS.sel [4] [0, 1, 2, 3] (by kernel_rfl)
        cases H
        exact At.ret1 rfl rfl ⟨_, rfl, rfl, HS⟩
    · replace H := ite_f c21 H
      refine W.pass 30 rfl (sb (b_f c21)) rfl rfl ?_
      refine W.pass 30 rfl (sb (b_f c21)) rfl rfl ?_
      refine W.rd (X.pickF (sb (b_f c21)) rfl) rfl rfl rfl ?_
      refine W.rd (X.move rfl) rfl rfl rfl ?_
      refine W.pass 34 rfl rfl rfl rfl ?_
      refine W.rd (X.pickF rfl rfl) rfl rfl rfl ?_
      refine W.rd (X.move rfl) rfl rfl rfl ?_
      refine W.pass 37 rfl rfl rfl rfl ?_
      refine W.pass 37 rfl rfl rfl rfl ?_
      refine W.pass 37 rfl rfl rfl rfl ?_
      refine W.rd (X.pickF rfl rfl) rfl rfl rfl ?_
      refine W.rd (X.assign rfl) rfl rfl rfl ?_
      refine W.nil ?_
      refine At.next ?_
      refine V.keep [(0, Value.bool (false))] ⟨rfl, trivial⟩ ?_
      refine V.ret ?_
      replace HS := HS.sel [4] [0, 1, 2, 3] (by kernel_rfl)
      cases H
      exact At.ret1 rfl rfl ⟨_, rfl, rfl, HS⟩
  · replace H := ite_f c20 H
    refine W.pass 27 rfl (sb (decide_eq_false c20)) rfl rfl ?_
    refine W.rd (X.pickF (sb (decide_eq_false c20)) rfl) rfl rfl rfl ?_
    refine W.rd (X.move rfl) rfl rfl rfl ?_
    refine W.pass 30 rfl rfl rfl rfl ?_
    refine W.pass 30 rfl rfl rfl rfl ?_
    refine W.rd (X.pickF rfl rfl) rfl rfl rfl ?_
    refine W.rd (X.move rfl) rfl rfl rfl ?_
    refine W.pass 34 rfl rfl rfl rfl ?_
    refine W.rd (X.pickF rfl rfl) rfl rfl rfl ?_
    refine W.rd (X.move rfl) rfl rfl rfl ?_
    refine W.pass 37 rfl rfl rfl rfl ?_
    refine W.pass 37 rfl rfl rfl rfl ?_
    refine W.pass 37 rfl rfl rfl rfl ?_
    refine W.rd (X.pickF rfl rfl) rfl rfl rfl ?_
    refine W.rd (X.assign rfl) rfl rfl rfl ?_
    refine W.nil ?_
    refine At.next ?_
    refine V.keep [(0, Value.bool (false))] ⟨rfl, trivial⟩ ?_
    refine V.ret ?_
    replace HS := HS.sel [4] [0, 1, 2, 3] (by kernel_rfl)
    cases H
    exact At.ret1 rfl rfl ⟨_, rfl, rfl, HS⟩

/-! ### (*signalman/reorder.Order).Next: function 12 -/
def reorder_Order_Next.f (a0 : reorder_Order) : Option (Int) := some ((a0).next)
set_option maxRecDepth 100000 in
set_option maxHeartbeats 4000000 in
theorem reorder_Order_Next.calls (a0 : reorder_Order) (R : As) (w0 w : World) (b0 : Nat) (b3_p0 : Nat) (k3_p0 : List (Int × Value)) (a4_p0 : Option Addr) (c4_p0 : Nat) (d4_p0 : List Value) (r : Int)  (H : reorder_Order_Next.f a0 = some r) (HS : Sep.St [blk b0 (#[Value.int .i64 ((a0).m), Value.int .i64 ((a0).window), Value.int .i64 ((a0).next), Value.map (some b3_p0), Value.slice a4_p0 ((a0).ready).length c4_p0]) 47, mblk b3_p0 k3_p0, tieM (El.sl (El.int .u8)) k3_p0 ((a0).kept), row 26 1 (.slice a4_p0 ((a0).ready).length c4_p0) ((a0).ready).length d4_p0, tie (El.sl (El.int .u8)) d4_p0 ((a0).ready), R] w0 w) : Calls Try.prog 12 #[Value.pointer (some ⟨b0, 0, none⟩)] w (Ret fun u w => u = Value.int .i64 (r) ∧ Sep.St [blk b0 (#[Value.int .i64 ((a0).m), Value.int .i64 ((a0).window), Value.int .i64 ((a0).next), Value.map (some b3_p0), Value.slice a4_p0 ((a0).ready).length c4_p0]) 47, mblk b3_p0 k3_p0, tieM (El.sl (El.int .u8)) k3_p0 ((a0).kept), row 26 1 (.slice a4_p0 ((a0).ready).length c4_p0) ((a0).ready).length d4_p0, tie (El.sl (El.int .u8)) d4_p0 ((a0).ready), R] w0 w) := by
  unfold reorder_Order_Next.f at H
  refine calls_enter Try.func12 rfl rfl ?_
  have H : _ = some r := H
  refine V.seq ?_
  refine V.region ?_
  refine W.rd (X.assign rfl) rfl rfl rfl ?_
  refine W.nil ?_
  refine At.next ?_
  refine V.keep [(0, Value.pointer (some ⟨b0, 0, none⟩))] ⟨rfl, trivial⟩ ?_
  refine V.seq ?_
  refine V.region ?_
  refine W.rd (X.move rfl) rfl rfl rfl ?_
  refine W.rd (X.nilCheck rfl) rfl rfl rfl ?_
  refine W.rd (X.fieldAddr 2 fo47_2 rfl) rfl rfl rfl ?_
  refine W.rd (X.loadAt 0 HS rfl Try.underlying3 rfl rfl rfl) rfl rfl rfl ?_
  refine W.rd (X.assign rfl) rfl rfl rfl ?_
  refine W.nil ?_
  refine At.next ?_
  refine V.keep [(2, Value.int .i64 ((a0).next))] ⟨rfl, trivial⟩ ?_
  refine V.ret ?_
  cases H
  exact At.ret1 rfl rfl ⟨_, rfl, rfl, HS⟩
end Go.Proofs.Ytcjmffcpldjbpaa

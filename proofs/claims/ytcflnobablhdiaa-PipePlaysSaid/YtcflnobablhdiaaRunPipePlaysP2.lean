/- PipePlays: the functions that its law reaches, as plain functions, and that the machine's calls come to what these say. Conditions: those that stand at each. -/
import Derived.Test.YtcflnobablhdiaaRunPipePlaysP1
set_option linter.all false
namespace Go.Proofs.Ytcflnobablhdiaa
open Go.RowKit Go.Proofs.Ytcflnobablhdiaa.Sep Go.Proofs.Ytcflnobablhdiaa.Walk
/-! ### (*signalman/signalmanref6.Pipe).Fault: function 16 -/
mutual
def signalmanref6_Pipe_Fault.j0 (a0 : signalmanref6_Pipe) (a2 : Int) (a3 : Int) (x21 : Bool) : Option (Bool × signalmanref6_Pipe) := (if x21 = true then some (false, a0) else (if 0 ≤ a2 ∧ a2 < (((a0).b).length : Int) then some (true, ({ room := (a0).room, b := ((a0).b).set (a2).toNat (a3), gone := (a0).gone, stands := (a0).stands } : signalmanref6_Pipe)) else none))
def signalmanref6_Pipe_Fault.j1 (a0 : signalmanref6_Pipe) (a2 : Int) (a3 : Int) (x34 : Bool) : Option (Bool × signalmanref6_Pipe) := (if x34 = true then some (false, a0) else (if 0 ≤ (0 : Int) ∧ (0 : Int) ≤ a2 ∧ a2 ≤ (((a0).b).length : Int) then (if 0 ≤ a2 ∧ a2 ≤ (((a0).b).length : Int) ∧ (((a0).b).length : Int) ≤ (((a0).b).length : Int) then (if ((([] : List Int)).length : Int) + (cut ((a0).b) (0 : Int) a2).length ≤ 1099511627776 then (if ((([] : List Int) ++ (cut ((a0).b) (0 : Int) a2)).length : Int) + (([a3] : List Int)).length ≤ 1099511627776 then (if (((([] : List Int) ++ (cut ((a0).b) (0 : Int) a2)) ++ ([a3] : List Int)).length : Int) + (cut ((a0).b) a2 (((a0).b).length : Int)).length ≤ 1099511627776 then some (true, ({ room := (a0).room, b := ((([] : List Int) ++ (cut ((a0).b) (0 : Int) a2)) ++ ([a3] : List Int)) ++ (cut ((a0).b) a2 (((a0).b).length : Int)), gone := (a0).gone, stands := (a0).stands } : signalmanref6_Pipe)) else none) else none) else none) else none) else none))
end
def signalmanref6_Pipe_Fault.f (a0 : signalmanref6_Pipe) (a1 : Int) (a2 : Int) (a3 : Int) : Option (Bool × signalmanref6_Pipe) := (if a1 = 0 then some (true, ({ room := (a0).room, b := (a0).b, gone := false, stands := false } : signalmanref6_Pipe)) else (if a1 = 1 then some (true, ({ room := (a0).room, b := (a0).b, gone := true, stands := (a0).stands } : signalmanref6_Pipe)) else (if a1 = 2 then some (true, ({ room := (a0).room, b := (a0).b, gone := (a0).gone, stands := true } : signalmanref6_Pipe)) else (if a1 = 3 then ((signalmanref1_Cut.f a2 0 (((a0).b).length : Int)).bind fun t13 => (if 0 ≤ t13 ∧ t13 ≤ (((a0).b).length : Int) ∧ (((a0).b).length : Int) ≤ (((a0).b).length : Int) then (if ((([] : List Int)).length : Int) + (cut ((a0).b) t13 (((a0).b).length : Int)).length ≤ 1099511627776 then some (true, ({ room := (a0).room, b := ([] : List Int) ++ (cut ((a0).b) t13 (((a0).b).length : Int)), gone := (a0).gone, stands := (a0).stands } : signalmanref6_Pipe)) else none) else none)) else (if a1 = 4 then (if a2 < 0 then (signalmanref6_Pipe_Fault.j0 a0 a2 a3 true) else (signalmanref6_Pipe_Fault.j0 a0 a2 a3 (decide (a2 ≥ (((a0).b).length : Int))))) else (if a1 = 5 then (if a2 < 0 then (signalmanref6_Pipe_Fault.j1 a0 a2 a3 true) else (if a2 > (((a0).b).length : Int) then (signalmanref6_Pipe_Fault.j1 a0 a2 a3 true) else (signalmanref6_Pipe_Fault.j1 a0 a2 a3 (decide ((((a0).b).length : Int) ≥ ((a0).room)))))) else some (false, a0)))))))
set_option maxRecDepth 100000 in
set_option maxHeartbeats 4000000 in
theorem signalmanref6_Pipe_Fault.calls (a0 : signalmanref6_Pipe) (a1 : Int) (a2 : Int) (a3 : Int) (R : As) (w0 w : World) (b0 : Nat) (r : Bool × signalmanref6_Pipe)  (H : signalmanref6_Pipe_Fault.f a0 a1 a2 a3 = some r) (HS : Sep.St [signalmanref6_Pipe.at b0 (a0), R] w0 w) : Calls Try.prog 16 #[Value.pointer (some ⟨b0, 0, none⟩), Value.int .i64 (a1), Value.int .i64 (a2), Value.int .u8 (a3)] w (Ret fun u w => u = Value.bool (r.1) ∧ Sep.St [signalmanref6_Pipe.at b0 (r.2), R] w0 w) := by
  unfold signalmanref6_Pipe_Fault.f at H
  refine calls_enter Try.func16 rfl rfl ?_
  have H : _ = some r := H
  refine V.seq ?_
  refine V.region ?_
  refine W.rd (X.assign rfl) rfl rfl rfl ?_
  refine W.nil ?_
  refine At.next ?_
  refine V.keep [(0, Value.pointer (some ⟨b0, 0, none⟩)), (1, Value.int .i64 (a1)), (2, Value.int .i64 (a2)), (3, Value.int .u8 (a3))] ⟨rfl, rfl, rfl, rfl, trivial⟩ ?_
  refine V.seq ?_
  refine V.seq ?_
  refine V.region ?_
  refine W.rd (X.move rfl) rfl rfl rfl ?_
  refine W.nil ?_
  refine At.next ?_
  refine V.keep [(0, Value.pointer (some ⟨b0, 0, none⟩)), (2, Value.int .i64 (a2)), (3, Value.int .u8 (a3)), (9, Value.int .i64 (a1))] ⟨rfl, rfl, rfl, rfl, trivial⟩ ?_
  refine V.block ?_
  refine V.seq ?_
  refine V.region ?_
  refine W.rd (X.cmp (decide (a1 = 0)) rfl rfl rfl rfl) rfl rfl rfl ?_
  refine W.rd (X.assign rfl) rfl rfl rfl ?_
  refine W.nil ?_
  refine At.next ?_
  refine V.keep [(0, Value.pointer (some ⟨b0, 0, none⟩)), (2, Value.int .i64 (a2)), (3, Value.int .u8 (a3)), (9, Value.int .i64 (a1)), (10, Value.bool (decide (a1 = 0)))] ⟨rfl, rfl, rfl, rfl, rfl, trivial⟩ ?_
  by_cases c1 : a1 = 0
  · replace H := ite_t c1 H
    refine V.condT (sb (decide_eq_true c1)) ?_
    refine V.seq ?_
    refine V.region ?_
    refine W.rd (X.move rfl) rfl rfl rfl ?_
    refine W.rd (X.nilCheck rfl) rfl rfl rfl ?_
    obtain ⟨a1_2, c1_2, hi3, HS⟩ := signalmanref6_Pipe.open HS
    have HS : Sep.St [blk b0 (#[Value.int .i64 ((a0).room), Value.slice a1_2 ((a0).b).length c1_2, Value.bool ((a0).gone), Value.bool ((a0).stands)]) 46, row 5 1 (.slice a1_2 ((a0).b).length c1_2) ((a0).b).length (((a0).b).map (Value.int .u8)), R] w0 w := HS
    refine W.rd (X.fieldAddr 2 fo46_2 rfl) rfl rfl rfl ?_
    refine W.ev_none (Y.storeAt 0 HS rfl inf4 rfl rfl rfl rfl rfl rfl) rfl rfl ?_
    rintro _ w HS
    have HS : Sep.St [blk b0 (#[Value.int .i64 ((a0).room), Value.slice a1_2 ((a0).b).length c1_2, Value.bool (false), Value.bool ((a0).stands)]) 46, row 5 1 (.slice a1_2 ((a0).b).length c1_2) ((a0).b).length (((a0).b).map (Value.int .u8)), R] w0 w := HS
    refine W.nil ?_
    refine At.next ?_
    refine V.keep [(0, Value.pointer (some ⟨b0, 0, none⟩))] ⟨rfl, trivial⟩ ?_
    refine V.region ?_
    refine W.rd (X.move rfl) rfl rfl rfl ?_
    refine W.rd (X.nilCheck rfl) rfl rfl rfl ?_
    refine W.rd (X.fieldAddr 3 fo46_3 rfl) rfl rfl rfl ?_
    refine W.ev_none (Y.storeAt 0 HS rfl inf4 rfl rfl rfl rfl rfl rfl) rfl rfl ?_
    rintro _ w HS
    have HS : Sep.St [blk b0 (#[Value.int .i64 ((a0).room), Value.slice a1_2 ((a0).b).length c1_2, Value.bool (false), Value.bool (false)]) 46, row 5 1 (.slice a1_2 ((a0).b).length c1_2) ((a0).b).length (((a0).b).map (Value.int .u8)), R] w0 w := HS
    refine W.nil ?_
    refine At.blockEnd ?_
    refine At.next ?_
    refine V.keep [] trivial ?_
    refine V.seq ?_
    refine V.region ?_
    refine W.rd (X.assign rfl) rfl rfl rfl ?_
    refine W.nil ?_
    refine At.next ?_
    refine V.keep [(8, Value.bool (true))] ⟨rfl, trivial⟩ ?_
    refine V.ret ?_
    replace HS := signalmanref6_Pipe.close (({ room := (a0).room, b := (a0).b, gone := false, stands := false } : signalmanref6_Pipe)) trivial HS
    have HS : Sep.St [signalmanref6_Pipe.at b0 (({ room := (a0).room, b := (a0).b, gone := false, stands := false } : signalmanref6_Pipe)), R] w0 w := HS
    cases H
    exact At.ret1 rfl rfl ⟨_, rfl, rfl, HS⟩
  · replace H := ite_f c1 H
    refine V.condF (sb (decide_eq_false c1)) ?_
    refine V.seq ?_
    refine V.region ?_
    refine W.rd (X.cmp (decide (a1 = 1)) rfl rfl rfl rfl) rfl rfl rfl ?_
    refine W.rd (X.assign rfl) rfl rfl rfl ?_
    refine W.nil ?_
    refine At.next ?_
    refine V.keep [(0, Value.pointer (some ⟨b0, 0, none⟩)), (2, Value.int .i64 (a2)), (3, Value.int .u8 (a3)), (9, Value.int .i64 (a1)), (18, Value.bool (decide (a1 = 1)))] ⟨rfl, rfl, rfl, rfl, rfl, trivial⟩ ?_
    by_cases c4 : a1 = 1
    · replace H := ite_t c4 H
      refine V.condT (sb (decide_eq_true c4)) ?_
      refine V.region ?_
      refine W.rd (X.move rfl) rfl rfl rfl ?_
      refine W.rd (X.nilCheck rfl) rfl rfl rfl ?_
      obtain ⟨a1_5, c1_5, hi6, HS⟩ := signalmanref6_Pipe.open HS
      have HS : Sep.St [blk b0 (#[Value.int .i64 ((a0).room), Value.slice a1_5 ((a0).b).length c1_5, Value.bool ((a0).gone), Value.bool ((a0).stands)]) 46, row 5 1 (.slice a1_5 ((a0).b).length c1_5) ((a0).b).length (((a0).b).map (Value.int .u8)), R] w0 w := HS
      refine W.rd (X.fieldAddr 2 fo46_2 rfl) rfl rfl rfl ?_
      refine W.ev_none (Y.storeAt 0 HS rfl inf4 rfl rfl rfl rfl rfl rfl) rfl rfl ?_
      rintro _ w HS
      have HS : Sep.St [blk b0 (#[Value.int .i64 ((a0).room), Value.slice a1_5 ((a0).b).length c1_5, Value.bool (true), Value.bool ((a0).stands)]) 46, row 5 1 (.slice a1_5 ((a0).b).length c1_5) ((a0).b).length (((a0).b).map (Value.int .u8)), R] w0 w := HS
      refine W.nil ?_
      refine At.blockEnd ?_
      refine At.next ?_
      refine V.keep [] trivial ?_
      refine V.seq ?_
      refine V.region ?_
      refine W.rd (X.assign rfl) rfl rfl rfl ?_
      refine W.nil ?_
      refine At.next ?_
      refine V.keep [(8, Value.bool (true))] ⟨rfl, trivial⟩ ?_
      refine V.ret ?_
      replace HS := signalmanref6_Pipe.close (({ room := (a0).room, b := (a0).b, gone := true, stands := (a0).stands } : signalmanref6_Pipe)) trivial HS
      have HS : Sep.St [signalmanref6_Pipe.at b0 (({ room := (a0).room, b := (a0).b, gone := true, stands := (a0).stands } : signalmanref6_Pipe)), R] w0 w := HS
      cases H
      exact At.ret1 rfl rfl ⟨_, rfl, rfl, HS⟩
    · replace H := ite_f c4 H
      refine V.condF (sb (decide_eq_false c4)) ?_
      refine V.seq ?_
      refine V.region ?_
      refine W.rd (X.cmp (decide (a1 = 2)) rfl rfl rfl rfl) rfl rfl rfl ?_
      refine W.rd (X.assign rfl) rfl rfl rfl ?_
      refine W.nil ?_
      refine At.next ?_
      refine V.keep [(0, Value.pointer (some ⟨b0, 0, none⟩)), (2, Value.int .i64 (a2)), (3, Value.int .u8 (a3)), (9, Value.int .i64 (a1)), (23, Value.bool (decide (a1 = 2)))] ⟨rfl, rfl, rfl, rfl, rfl, trivial⟩ ?_
      by_cases c7 : a1 = 2
      · replace H := ite_t c7 H
        refine V.condT (sb (decide_eq_true c7)) ?_
        refine V.region ?_
        refine W.rd (X.move rfl) rfl rfl rfl ?_
        refine W.rd (X.nilCheck rfl) rfl rfl rfl ?_
        obtain ⟨a1_8, c1_8, hi9, HS⟩ := signalmanref6_Pipe.open HS
        have HS : Sep.St [blk b0 (#[Value.int .i64 ((a0).room), Value.slice a1_8 ((a0).b).length c1_8, Value.bool ((a0).gone), Value.bool ((a0).stands)]) 46, row 5 1 (.slice a1_8 ((a0).b).length c1_8) ((a0).b).length (((a0).b).map (Value.int .u8)), R] w0 w := HS
        refine W.rd (X.fieldAddr 3 fo46_3 rfl) rfl rfl rfl ?_
        refine W.ev_none (Y.storeAt 0 HS rfl inf4 rfl rfl rfl rfl rfl rfl) rfl rfl ?_
        rintro _ w HS
        have HS : Sep.St [blk b0 (#[Value.int .i64 ((a0).room), Value.slice a1_8 ((a0).b).length c1_8, Value.bool ((a0).gone), Value.bool (true)]) 46, row 5 1 (.slice a1_8 ((a0).b).length c1_8) ((a0).b).length (((a0).b).map (Value.int .u8)), R] w0 w := HS
        refine W.nil ?_
        refine At.blockEnd ?_
        refine At.next ?_
        refine V.keep [] trivial ?_
        refine V.seq ?_
        refine V.region ?_
        refine W.rd (X.assign rfl) rfl rfl rfl ?_
        refine W.nil ?_
        refine At.next ?_
        refine V.keep [(8, Value.bool (true))] ⟨rfl, trivial⟩ ?_
        refine V.ret ?_
        replace HS := signalmanref6_Pipe.close (({ room := (a0).room, b := (a0).b, gone := (a0).gone, stands := true } : signalmanref6_Pipe)) trivial HS
        have HS : Sep.St [signalmanref6_Pipe.at b0 (({ room := (a0).room, b := (a0).b, gone := (a0).gone, stands := true } : signalmanref6_Pipe)), R] w0 w := HS
        cases H
        exact At.ret1 rfl rfl ⟨_, rfl, rfl, HS⟩
      · replace H := ite_f c7 H
        refine V.condF (sb (decide_eq_false c7)) ?_
        refine V.seq ?_
        refine V.region ?_
        refine W.rd (X.cmp (decide (a1 = 3)) rfl rfl rfl rfl) rfl rfl rfl ?_
        refine W.rd (X.assign rfl) rfl rfl rfl ?_
        refine W.nil ?_
        refine At.next ?_
        refine V.keep [(0, Value.pointer (some ⟨b0, 0, none⟩)), (2, Value.int .i64 (a2)), (3, Value.int .u8 (a3)), (9, Value.int .i64 (a1)), (28, Value.bool (decide (a1 = 3)))] ⟨rfl, rfl, rfl, rfl, rfl, trivial⟩ ?_
        by_cases c10 : a1 = 3
        · replace H := ite_t c10 H
          refine V.condT (sb (decide_eq_true c10)) ?_
          obtain ⟨a1_11, c1_11, hi12, HS⟩ := signalmanref6_Pipe.open HS
          have HS : Sep.St [blk b0 (#[Value.int .i64 ((a0).room), Value.slice a1_11 ((a0).b).length c1_11, Value.bool ((a0).gone), Value.bool ((a0).stands)]) 46, row 5 1 (.slice a1_11 ((a0).b).length c1_11) ((a0).b).length (((a0).b).map (Value.int .u8)), R] w0 w := HS
          refine V.draw (es := [11, 13, 16]) (bl := [12, 14, 15]) (f := [(30, Value.pointer (some ⟨b0, 0, none⟩)), (31, Value.pointer (some ⟨b0, 0, none⟩)), (32, Value.pointer (some ⟨b0, 0, none⟩)), (33, Value.pointer (some ⟨b0, 0 + 1, none⟩)), (34, Value.slice a1_11 ((a0).b).length c1_11), (35, Value.int .i64 (a2)), (36, Value.pointer (some ⟨b0, 0, none⟩)), (37, Value.pointer (some ⟨b0, 0, none⟩)), (38, Value.pointer (some ⟨b0, 0 + 1, none⟩)), (39, Value.slice a1_11 ((a0).b).length c1_11), (40, Value.int .i64 ((((a0).b).length : Int)))]) (fun w => Sep.St [blk b0 (#[Value.int .i64 ((a0).room), Value.slice a1_11 ((a0).b).length c1_11, Value.bool ((a0).gone), Value.bool ((a0).stands)]) 46, row 5 1 (.slice a1_11 ((a0).b).length c1_11) ((a0).b).length (((a0).b).map (Value.int .u8)), R] w0 w) mo HS.drew rfl ?_
          refine T.event _ [(35, Value.int .i64 (a2)), (40, Value.int .i64 ((((a0).b).length : Int)))] rfl rfl ⟨⟨_, Value.pointer (some ⟨b0, 0, none⟩), [(0, Value.pointer (some ⟨b0, 0, none⟩))], 30, rfl, rfl, ⟨.inl ⟨rfl, rfl⟩, trivial⟩, .run rfl (fun w HS => X.move rfl), rfl, rfl, rfl⟩, ⟨_, Value.pointer (some ⟨b0, 0, none⟩), [(0, Value.pointer (some ⟨b0, 0, none⟩))], 31, rfl, rfl, ⟨.inl ⟨rfl, rfl⟩, trivial⟩, .run rfl (fun w HS => X.move rfl), rfl, rfl, rfl⟩, ⟨_, Value.pointer (some ⟨b0, 0, none⟩), [(31, Value.pointer (some ⟨b0, 0, none⟩))], 32, rfl, rfl, ⟨.inr ⟨rfl, rfl⟩, trivial⟩, .run rfl (fun w HS => X.nilCheck rfl), rfl, rfl, rfl⟩, ⟨_, Value.pointer (some ⟨b0, 0 + 1, none⟩), [(32, Value.pointer (some ⟨b0, 0, none⟩))], 33, rfl, rfl, ⟨.inr ⟨rfl, rfl⟩, trivial⟩, .run rfl (fun w HS => X.fieldAddr 1 fo46_1 rfl), rfl, rfl, rfl⟩, ⟨_, Value.slice a1_11 ((a0).b).length c1_11, [(33, Value.pointer (some ⟨b0, 0 + 1, none⟩))], 34, rfl, rfl, ⟨.inr ⟨rfl, rfl⟩, trivial⟩, .run rfl (fun w HS => X.loadAt 0 HS rfl Try.underlying27 rfl rfl rfl), rfl, rfl, rfl⟩, ⟨_, Value.int .i64 (a2), [(2, Value.int .i64 (a2))], 35, rfl, rfl, ⟨.inl ⟨rfl, rfl⟩, trivial⟩, .run rfl (fun w HS => X.move rfl), rfl, rfl, rfl⟩, ⟨_, Value.pointer (some ⟨b0, 0, none⟩), [(0, Value.pointer (some ⟨b0, 0, none⟩))], 36, rfl, rfl, ⟨.inl ⟨rfl, rfl⟩, trivial⟩, .run rfl (fun w HS => X.move rfl), rfl, rfl, rfl⟩, ⟨_, Value.pointer (some ⟨b0, 0, none⟩), [(36, Value.pointer (some ⟨b0, 0, none⟩))], 37, rfl, rfl, ⟨.inr ⟨rfl, rfl⟩, trivial⟩, .run rfl (fun w HS => X.nilCheck rfl), rfl, rfl, rfl⟩, ⟨_, Value.pointer (some ⟨b0, 0 + 1, none⟩), [(37, Value.pointer (some ⟨b0, 0, none⟩))], 38, rfl, rfl, ⟨.inr ⟨rfl, rfl⟩, trivial⟩, .run rfl (fun w HS => X.fieldAddr 1 fo46_1 rfl), rfl, rfl, rfl⟩, ⟨_, Value.slice a1_11 ((a0).b).length c1_11, [(38, Value.pointer (some ⟨b0, 0 + 1, none⟩))], 39, rfl, rfl, ⟨.inr ⟨rfl, rfl⟩, trivial⟩, .run rfl (fun w HS => X.loadAt 0 HS rfl Try.underlying27 rfl rfl rfl), rfl, rfl, rfl⟩, ⟨_, Value.int .i64 ((((a0).b).length : Int)), [(39, Value.slice a1_11 ((a0).b).length c1_11)], 40, rfl, rfl, ⟨.inr ⟨rfl, rfl⟩, trivial⟩, .run rfl (fun w HS => X.lenSl Try.underlying27 rfl), rfl, rfl, rfl⟩, trivial⟩ rfl ⟨.inr ⟨rfl, rfl⟩, ⟨.inr ⟨rfl, rfl⟩, trivial⟩⟩ (Or.inl rfl) (by intro d hd; cases hd; exact ⟨by decide, rfl, rfl⟩) [14, 15] [5, 6, 7, 8, 9, 10] rfl rfl (fun w HS => ?_)
          have HS : Sep.St [blk b0 (#[Value.int .i64 ((a0).room), Value.slice a1_11 ((a0).b).length c1_11, Value.bool ((a0).gone), Value.bool ((a0).stands)]) 46, row 5 1 (.slice a1_11 ((a0).b).length c1_11) ((a0).b).length (((a0).b).map (Value.int .u8)), R] w0 w := HS
          obtain ⟨t13, A14, H⟩ := bind_s H
          refine ⟨_, Y.call Try.func21 (by kernel_rfl) rfl (vs := [Value.int .i64 (a2), Value.int .i64 (0), Value.int .i64 ((((a0).b).length : Int))]) rfl (signalmanref1_Cut.calls a2 0 (((a0).b).length : Int) _ w0 _  t13  A14 (Sep.St.tailJoin (m := []) (r := [blk b0 (#[Value.int .i64 ((a0).room), Value.slice a1_11 ((a0).b).length c1_11, Value.bool ((a0).gone), Value.bool ((a0).stands)]) 46, row 5 1 (.slice a1_11 ((a0).b).length c1_11) ((a0).b).length (((a0).b).map (Value.int .u8)), R]) HS)), ?_⟩
          rintro _ w ⟨rfl, HS⟩
          replace HS := Sep.St.tailOpen (m := []) (r := [blk b0 (#[Value.int .i64 ((a0).room), Value.slice a1_11 ((a0).b).length c1_11, Value.bool ((a0).gone), Value.bool ((a0).stands)]) 46, row 5 1 (.slice a1_11 ((a0).b).length c1_11) ((a0).b).length (((a0).b).map (Value.int .u8)), R]) HS
          have HS : Sep.St [blk b0 (#[Value.int .i64 ((a0).room), Value.slice a1_11 ((a0).b).length c1_11, Value.bool ((a0).gone), Value.bool ((a0).stands)]) 46, row 5 1 (.slice a1_11 ((a0).b).length c1_11) ((a0).b).length (((a0).b).map (Value.int .u8)), R] w0 w := HS
          obtain ⟨c15, H⟩ := ite_n H
          refine ⟨[(41, Value.int .i64 (t13)), (42, Value.slice (vaddr a1_11 c1_11 (t13).toNat 1) (cut ((a0).b) t13 (((a0).b).length : Int)).length (c1_11 - (t13).toNat))], fun w => Sep.St [blk b0 (#[Value.int .i64 ((a0).room), Value.slice a1_11 ((a0).b).length c1_11, Value.bool ((a0).gone), Value.bool ((a0).stands)]) 46, row 5 1 (.slice a1_11 ((a0).b).length c1_11) ((a0).b).length (((a0).b).map (Value.int .u8)), R] w0 w, ⟨.inl ⟨rfl, rfl⟩, ⟨.inr ⟨by decide, rfl⟩, trivial⟩⟩, ?_, HS⟩
          refine T.event _ [(42, Value.slice (vaddr a1_11 c1_11 (t13).toNat 1) (cut ((a0).b) t13 (((a0).b).length : Int)).length (c1_11 - (t13).toNat))] rfl rfl ⟨⟨_, Value.pointer (some ⟨b0, 0, none⟩), [(0, Value.pointer (some ⟨b0, 0, none⟩))], 30, rfl, rfl, ⟨.inl ⟨rfl, rfl⟩, trivial⟩, .run rfl (fun w HS => X.move rfl), rfl, rfl, rfl⟩, ⟨_, Value.pointer (some ⟨b0, 0, none⟩), [(0, Value.pointer (some ⟨b0, 0, none⟩))], 31, rfl, rfl, ⟨.inl ⟨rfl, rfl⟩, trivial⟩, .run rfl (fun w HS => X.move rfl), rfl, rfl, rfl⟩, ⟨_, Value.pointer (some ⟨b0, 0, none⟩), [(31, Value.pointer (some ⟨b0, 0, none⟩))], 32, rfl, rfl, ⟨.inr ⟨rfl, rfl⟩, trivial⟩, .run rfl (fun w HS => X.nilCheck rfl), rfl, rfl, rfl⟩, ⟨_, Value.pointer (some ⟨b0, 0 + 1, none⟩), [(32, Value.pointer (some ⟨b0, 0, none⟩))], 33, rfl, rfl, ⟨.inr ⟨rfl, rfl⟩, trivial⟩, .run rfl (fun w HS => X.fieldAddr 1 fo46_1 rfl), rfl, rfl, rfl⟩, ⟨_, Value.slice a1_11 ((a0).b).length c1_11, [(33, Value.pointer (some ⟨b0, 0 + 1, none⟩))], 34, rfl, rfl, ⟨.inr ⟨rfl, rfl⟩, trivial⟩, .run rfl (fun w HS => X.loadAt 0 HS rfl Try.underlying27 rfl rfl rfl), rfl, rfl, rfl⟩, ⟨_, Value.slice (vaddr a1_11 c1_11 (t13).toNat 1) (cut ((a0).b) t13 (((a0).b).length : Int)).length (c1_11 - (t13).toNat), [(34, Value.slice a1_11 ((a0).b).length c1_11), (41, Value.int .i64 (t13))], 42, rfl, rfl, ⟨.inr ⟨rfl, rfl⟩, ⟨.inr ⟨rfl, rfl⟩, trivial⟩⟩, .run rfl (fun w HS => X.slL Try.underlying27 inf5 rfl rfl c15), rfl, rfl, rfl⟩, trivial⟩ rfl ⟨.inr ⟨rfl, rfl⟩, trivial⟩ (Or.inl rfl) (by intro d hd; cases hd; exact ⟨by decide, rfl, rfl⟩) [] [1, 2, 3, 4, 12] rfl rfl (fun w HS => ?_)
          have HS : Sep.St [blk b0 (#[Value.int .i64 ((a0).room), Value.slice a1_11 ((a0).b).length c1_11, Value.bool ((a0).gone), Value.bool ((a0).stands)]) 46, row 5 1 (.slice a1_11 ((a0).b).length c1_11) ((a0).b).length (((a0).b).map (Value.int .u8)), R] w0 w := HS
          obtain ⟨c16, H⟩ := ite_n H
          replace HS := row_nil' (e := 5) 1 none HS
          have HS : Sep.St [row 5 1 (.slice none (([] : List Int)).length 0) (([] : List Int)).length ((([] : List Int)).map (Value.int .u8)), blk b0 (#[Value.int .i64 ((a0).room), Value.slice a1_11 ((a0).b).length c1_11, Value.bool ((a0).gone), Value.bool ((a0).stands)]) 46, row 5 1 (.slice a1_11 ((a0).b).length c1_11) ((a0).b).length (((a0).b).map (Value.int .u8)), R] w0 w := HS
          refine ⟨_, Y.appF (Value.int .u8) (fun _ => rfl) 0 Try.underlying27 ap5 rfl HS rfl rfl rfl (rdC.at 2 (rdC.subM row_rd c15) HS rfl) (by omega) (by omega), ?_⟩
          rintro _ w ⟨ra17, rc18, rfl, HS⟩
          have HS : Sep.St [row 5 1 (.slice ra17 (([] : List Int) ++ (cut ((a0).b) t13 (((a0).b).length : Int))).length rc18) (([] : List Int) ++ (cut ((a0).b) t13 (((a0).b).length : Int))).length ((([] : List Int) ++ (cut ((a0).b) t13 (((a0).b).length : Int))).map (Value.int .u8)), blk b0 (#[Value.int .i64 ((a0).room), Value.slice a1_11 ((a0).b).length c1_11, Value.bool ((a0).gone), Value.bool ((a0).stands)]) 46, row 5 1 (.slice a1_11 ((a0).b).length c1_11) ((a0).b).length (((a0).b).map (Value.int .u8)), R] w0 w := HS
          refine ⟨[(43, Value.slice ra17 (([] : List Int) ++ (cut ((a0).b) t13 (((a0).b).length : Int))).length rc18), (44, Value.pointer (some ⟨b0, 0, none⟩)), (45, Value.pointer (some ⟨b0, 0 + 1, none⟩))], fun w => Sep.St [row 5 1 (.slice ra17 (([] : List Int) ++ (cut ((a0).b) t13 (((a0).b).length : Int))).length rc18) (([] : List Int) ++ (cut ((a0).b) t13 (((a0).b).length : Int))).length ((([] : List Int) ++ (cut ((a0).b) t13 (((a0).b).length : Int))).map (Value.int .u8)), blk b0 (#[Value.int .i64 ((a0).room), Value.slice a1_11 ((a0).b).length c1_11, Value.bool ((a0).gone), Value.bool ((a0).stands)]) 46, row 5 1 (.slice a1_11 ((a0).b).length c1_11) ((a0).b).length (((a0).b).map (Value.int .u8)), R] w0 w, ⟨.inl ⟨rfl, rfl⟩, ⟨.inr ⟨by decide, rfl⟩, ⟨.inr ⟨by decide, rfl⟩, trivial⟩⟩⟩, ?_, HS⟩
          refine T.event _ [(43, Value.slice ra17 (([] : List Int) ++ (cut ((a0).b) t13 (((a0).b).length : Int))).length rc18), (45, Value.pointer (some ⟨b0, 0 + 1, none⟩))] rfl rfl ⟨⟨_, Value.pointer (some ⟨b0, 0, none⟩), [(0, Value.pointer (some ⟨b0, 0, none⟩))], 30, rfl, rfl, ⟨.inl ⟨rfl, rfl⟩, trivial⟩, .run rfl (fun w HS => X.move rfl), rfl, rfl, rfl⟩, ⟨_, Value.pointer (some ⟨b0, 0, none⟩), [(30, Value.pointer (some ⟨b0, 0, none⟩))], 44, rfl, rfl, ⟨.inr ⟨rfl, rfl⟩, trivial⟩, .run rfl (fun w HS => X.nilCheck rfl), rfl, rfl, rfl⟩, ⟨_, Value.pointer (some ⟨b0, 0 + 1, none⟩), [(44, Value.pointer (some ⟨b0, 0, none⟩))], 45, rfl, rfl, ⟨.inr ⟨rfl, rfl⟩, trivial⟩, .run rfl (fun w HS => X.fieldAddr 1 fo46_1 rfl), rfl, rfl, rfl⟩, trivial⟩ rfl ⟨.inr ⟨rfl, rfl⟩, ⟨.inr ⟨rfl, rfl⟩, trivial⟩⟩ (Or.inl rfl) (by intro d hd; cases hd) [] [0, 14, 15] rfl rfl (fun w HS => ?_)
          have HS : Sep.St [row 5 1 (.slice ra17 (([] : List Int) ++ (cut ((a0).b) t13 (((a0).b).length : Int))).length rc18) (([] : List Int) ++ (cut ((a0).b) t13 (((a0).b).length : Int))).length ((([] : List Int) ++ (cut ((a0).b) t13 (((a0).b).length : Int))).map (Value.int .u8)), blk b0 (#[Value.int .i64 ((a0).room), Value.slice a1_11 ((a0).b).length c1_11, Value.bool ((a0).gone), Value.bool ((a0).stands)]) 46, row 5 1 (.slice a1_11 ((a0).b).length c1_11) ((a0).b).length (((a0).b).map (Value.int .u8)), R] w0 w := HS
          refine ⟨_, Y.storeAt 1 HS rfl inf27 rfl rfl rfl rfl rfl rfl, ?_⟩
          rintro _ w HS
          have HS : Sep.St [row 5 1 (.slice ra17 (([] : List Int) ++ (cut ((a0).b) t13 (((a0).b).length : Int))).length rc18) (([] : List Int) ++ (cut ((a0).b) t13 (((a0).b).length : Int))).length ((([] : List Int) ++ (cut ((a0).b) t13 (((a0).b).length : Int))).map (Value.int .u8)), blk b0 (#[Value.int .i64 ((a0).room), Value.slice ra17 (([] : List Int) ++ (cut ((a0).b) t13 (((a0).b).length : Int))).length rc18, Value.bool ((a0).gone), Value.bool ((a0).stands)]) 46, row 5 1 (.slice a1_11 ((a0).b).length c1_11) ((a0).b).length (((a0).b).map (Value.int .u8)), R] w0 w := HS
          refine ⟨[], fun w => Sep.St [row 5 1 (.slice ra17 (([] : List Int) ++ (cut ((a0).b) t13 (((a0).b).length : Int))).length rc18) (([] : List Int) ++ (cut ((a0).b) t13 (((a0).b).length : Int))).length ((([] : List Int) ++ (cut ((a0).b) t13 (((a0).b).length : Int))).map (Value.int .u8)), blk b0 (#[Value.int .i64 ((a0).room), Value.slice ra17 (([] : List Int) ++ (cut ((a0).b) t13 (((a0).b).length : Int))).length rc18, Value.bool ((a0).gone), Value.bool ((a0).stands)]) 46, row 5 1 (.slice a1_11 ((a0).b).length c1_11) ((a0).b).length (((a0).b).map (Value.int .u8)), R] w0 w, trivial, ?_, HS⟩
          refine T.fin [] rfl trivial trivial (fun w HS => ?_)
          have HS : Sep.St [row 5 1 (.slice ra17 (([] : List Int) ++ (cut ((a0).b) t13 (((a0).b).length : Int))).length rc18) (([] : List Int) ++ (cut ((a0).b) t13 (((a0).b).length : Int))).length ((([] : List Int) ++ (cut ((a0).b) t13 (((a0).b).length : Int))).map (Value.int .u8)), blk b0 (#[Value.int .i64 ((a0).room), Value.slice ra17 (([] : List Int) ++ (cut ((a0).b) t13 (((a0).b).length : Int))).length rc18, Value.bool ((a0).gone), Value.bool ((a0).stands)]) 46, row 5 1 (.slice a1_11 ((a0).b).length c1_11) ((a0).b).length (((a0).b).map (Value.int .u8)), R] w0 w := HS
          refine At.blockEnd ?_
          refine At.next ?_
          refine V.keep [] trivial ?_
          refine V.seq ?_
          refine V.region ?_
          refine W.rd (X.assign rfl) rfl rfl rfl ?_
          refine W.nil ?_
          refine At.next ?_
          refine V.keep [(8, Value.bool (true))] ⟨rfl, trivial⟩ ?_
          refine V.ret ?_
          replace HS := HS.re [1, 0, 2, 3] (by kernel_rfl)
          have HS : Sep.St [blk b0 (#[Value.int .i64 ((a0).room), Value.slice ra17 (([] : List Int) ++ (cut ((a0).b) t13 (((a0).b).length : Int))).length rc18, Value.bool ((a0).gone), Value.bool ((a0).stands)]) 46, row 5 1 (.slice ra17 (([] : List Int) ++ (cut ((a0).b) t13 (((a0).b).length : Int))).length rc18) (([] : List Int) ++ (cut ((a0).b) t13 (((a0).b).length : Int))).length ((([] : List Int) ++ (cut ((a0).b) t13 (((a0).b).length : Int))).map (Value.int .u8)), row 5 1 (.slice a1_11 ((a0).b).length c1_11) ((a0).b).length (((a0).b).map (Value.int .u8)), R] w0 w := HS
          replace HS := signalmanref6_Pipe.close (({ room := (a0).room, b := ([] : List Int) ++ (cut ((a0).b) t13 (((a0).b).length : Int)), gone := (a0).gone, stands := (a0).stands } : signalmanref6_Pipe)) trivial HS
          have HS : Sep.St [signalmanref6_Pipe.at b0 (({ room := (a0).room, b := ([] : List Int) ++ (cut ((a0).b) t13 (((a0).b).length : Int)), gone := (a0).gone, stands := (a0).stands } : signalmanref6_Pipe)), row 5 1 (.slice a1_11 ((a0).b).length c1_11) ((a0).b).length (((a0).b).map (Value.int .u8)), R] w0 w := HS
          replace HS := HS.sel [0, 2] [1] (by kernel_rfl)
          cases H
          exact At.ret1 rfl rfl ⟨_, rfl, rfl, HS⟩
        · replace H := ite_f c10 H
          refine V.condF (sb (decide_eq_false c10)) ?_
          refine V.seq ?_
          refine V.region ?_
          refine W.rd (X.cmp (decide (a1 = 4)) rfl rfl rfl rfl) rfl rfl rfl ?_
          refine W.rd (X.assign rfl) rfl rfl rfl ?_
          refine W.nil ?_
          refine At.next ?_
          refine V.keep [(0, Value.pointer (some ⟨b0, 0, none⟩)), (2, Value.int .i64 (a2)), (3, Value.int .u8 (a3)), (9, Value.int .i64 (a1)), (46, Value.bool (decide (a1 = 4)))] ⟨rfl, rfl, rfl, rfl, rfl, trivial⟩ ?_
          by_cases c19 : a1 = 4
          · replace H := ite_t c19 H
            refine V.condT (sb (decide_eq_true c19)) ?_
            refine V.seq ?_
            refine V.meet (σ := Bool) (fun st w => match st with | x21 => Sep.St [signalmanref6_Pipe.at b0 (a0), R] w0 w ∧ signalmanref6_Pipe_Fault.j0 a0 a2 a3 x21 = some r) (fun st => match st with | x21 => [(0, Value.pointer (some ⟨b0, 0, none⟩)), (2, Value.int .i64 (a2)), (3, Value.int .u8 (a3)), (58, Value.bool (x21))]) ?_ ?_
            · refine V.region ?_
              refine W.rd (X.move rfl) rfl rfl rfl ?_
              refine W.rd (X.cmp (decide (a2 < 0)) rfl rfl rfl rfl) rfl rfl rfl ?_
              refine W.rd (X.move rfl) rfl rfl rfl ?_
              by_cases c29 : a2 < 0
              · replace H := ite_t c29 H
                refine W.pass 50 rfl (sb (decide_eq_true c29)) rfl rfl ?_
                refine W.pass 50 rfl (sb (decide_eq_true c29)) rfl rfl ?_
                refine W.pass 50 rfl (sb (decide_eq_true c29)) rfl rfl ?_
                refine W.pass 50 rfl (sb (decide_eq_true c29)) rfl rfl ?_
                refine W.pass 50 rfl (sb (decide_eq_true c29)) rfl rfl ?_
                refine W.pass 50 rfl (sb (decide_eq_true c29)) rfl rfl ?_
                refine W.pass 50 rfl (sb (decide_eq_true c29)) rfl rfl ?_
                refine W.rd (X.pickT (sb (decide_eq_true c29)) rfl) rfl rfl rfl ?_
                refine W.nil ?_
                exact At.meet (true) ⟨rfl, rfl, rfl, rfl, trivial⟩ ⟨HS, H⟩
              · replace H := ite_f c29 H
                refine W.want 50 rfl (sb (decide_eq_false c29)) ?_
                refine W.rd (X.move rfl) rfl rfl rfl ?_
                refine W.want 50 rfl (sb (decide_eq_false c29)) ?_
                refine W.rd (X.move rfl) rfl rfl rfl ?_
                refine W.want 50 rfl (sb (decide_eq_false c29)) ?_
                refine W.rd (X.nilCheck rfl) rfl rfl rfl ?_
                refine W.want 50 rfl (sb (decide_eq_false c29)) ?_
                obtain ⟨a1_30, c1_30, hi31, HS⟩ := signalmanref6_Pipe.open HS
                have HS : Sep.St [blk b0 (#[Value.int .i64 ((a0).room), Value.slice a1_30 ((a0).b).length c1_30, Value.bool ((a0).gone), Value.bool ((a0).stands)]) 46, row 5 1 (.slice a1_30 ((a0).b).length c1_30) ((a0).b).length (((a0).b).map (Value.int .u8)), R] w0 w := HS
                refine W.rd (X.fieldAddr 1 fo46_1 rfl) rfl rfl rfl ?_
                refine W.want 50 rfl (sb (decide_eq_false c29)) ?_
                refine W.rd (X.loadAt 0 HS rfl Try.underlying27 rfl rfl rfl) rfl rfl rfl ?_
                refine W.want 50 rfl (sb (decide_eq_false c29)) ?_
                refine W.rd (X.lenSl Try.underlying27 rfl) rfl rfl rfl ?_
                refine W.want 50 rfl (sb (decide_eq_false c29)) ?_
                refine W.rd (X.cmp (decide (a2 ≥ (((a0).b).length : Int))) rfl rfl rfl rfl) rfl rfl rfl ?_
                refine W.rd (X.pickF (sb (decide_eq_false c29)) rfl) rfl rfl rfl ?_
                refine W.nil ?_
                replace HS := signalmanref6_Pipe.close (a0) trivial HS
                have HS : Sep.St [signalmanref6_Pipe.at b0 (a0), R] w0 w := HS
                exact At.meet (decide (a2 ≥ (((a0).b).length : Int))) ⟨rfl, rfl, rfl, rfl, trivial⟩ ⟨HS, H⟩
            · rintro x21 w ⟨HS, H⟩
              unfold signalmanref6_Pipe_Fault.j0 at H
              have HS : Sep.St [signalmanref6_Pipe.at b0 (a0), R] w0 w := HS
              by_cases c23 : x21 = true
              · replace H := ite_t c23 H
                refine V.condT (sb c23) ?_
                refine V.seq ?_
                refine V.region ?_
                refine W.rd (X.assign rfl) rfl rfl rfl ?_
                refine W.nil ?_
                refine At.next ?_
                refine V.keep [(8, Value.bool (false))] ⟨rfl, trivial⟩ ?_
                refine V.ret ?_
                refine At.thenRet ?_
                refine At.blockRet ?_
                refine At.thenRet ?_
                cases H
                exact At.ret1 rfl rfl ⟨_, rfl, rfl, HS⟩
              · replace H := ite_f c23 H
                refine V.condF (sb (b_f c23)) ?_
                refine V.skip ?_
                refine At.next ?_
                refine V.keep [(0, Value.pointer (some ⟨b0, 0, none⟩)), (2, Value.int .i64 (a2)), (3, Value.int .u8 (a3))] ⟨rfl, rfl, rfl, trivial⟩ ?_
                refine V.region ?_
                refine W.rd (X.move rfl) rfl rfl rfl ?_
                refine W.rd (X.nilCheck rfl) rfl rfl rfl ?_
                obtain ⟨a1_24, c1_24, hi25, HS⟩ := signalmanref6_Pipe.open HS
                have HS : Sep.St [blk b0 (#[Value.int .i64 ((a0).room), Value.slice a1_24 ((a0).b).length c1_24, Value.bool ((a0).gone), Value.bool ((a0).stands)]) 46, row 5 1 (.slice a1_24 ((a0).b).length c1_24) ((a0).b).length (((a0).b).map (Value.int .u8)), R] w0 w := HS
                refine W.rd (X.fieldAddr 1 fo46_1 rfl) rfl rfl rfl ?_
                refine W.rd (X.loadAt 0 HS rfl Try.underlying27 rfl rfl rfl) rfl rfl rfl ?_
                refine W.rd (X.move rfl) rfl rfl rfl ?_
                refine W.rd (X.move rfl) rfl rfl rfl ?_
                obtain ⟨c26, H⟩ := ite_n H
                obtain ⟨eb27, eo28, hh⟩ := ((rdC.at 1 row_rd HS rfl)).some (by decide) c26.1 c26.2; subst hh
                refine W.rd (X.indexSl Try.underlying27 inf5 rfl rfl c26.1 c26.2) rfl rfl rfl ?_
                refine W.ev_none (Y.storeRowF (Value.int .u8) (fun _ => rfl) 1 HS rfl inf5 rfl rfl c26.1 c26.2) rfl rfl ?_
                rintro _ w HS
                have HS : Sep.St [blk b0 (#[Value.int .i64 ((a0).room), Value.slice (some ⟨eb27, eo28, none⟩) (((a0).b).set (a2).toNat (a3)).length c1_24, Value.bool ((a0).gone), Value.bool ((a0).stands)]) 46, row 5 1 (.slice (some ⟨eb27, eo28, none⟩) (((a0).b).set (a2).toNat (a3)).length c1_24) (((a0).b).set (a2).toNat (a3)).length ((((a0).b).set (a2).toNat (a3)).map (Value.int .u8)), R] w0 w := by simpa only [List.length_set, List.set_cons_succ, List.set_cons_zero] using HS
                refine W.again 62 (v := Value.slice (some ⟨eb27, eo28, none⟩) (((a0).b).set (a2).toNat (a3)).length c1_24) (by rw [List.length_set]; rfl) ?_
                refine W.nil ?_
                refine At.blockEnd ?_
                refine At.next ?_
                refine V.keep [] trivial ?_
                refine V.seq ?_
                refine V.region ?_
                refine W.rd (X.assign rfl) rfl rfl rfl ?_
                refine W.nil ?_
                refine At.next ?_
                refine V.keep [(8, Value.bool (true))] ⟨rfl, trivial⟩ ?_
                refine V.ret ?_
                replace HS := signalmanref6_Pipe.close (({ room := (a0).room, b := ((a0).b).set (a2).toNat (a3), gone := (a0).gone, stands := (a0).stands } : signalmanref6_Pipe)) trivial HS
                have HS : Sep.St [signalmanref6_Pipe.at b0 (({ room := (a0).room, b := ((a0).b).set (a2).toNat (a3), gone := (a0).gone, stands := (a0).stands } : signalmanref6_Pipe)), R] w0 w := HS
                cases H
                exact At.ret1 rfl rfl ⟨_, rfl, rfl, HS⟩
          · replace H := ite_f c19 H
            refine V.condF (sb (decide_eq_false c19)) ?_
            refine V.seq ?_
            refine V.region ?_
            refine W.rd (X.cmp (decide (a1 = 5)) rfl rfl rfl rfl) rfl rfl rfl ?_
            refine W.rd (X.assign rfl) rfl rfl rfl ?_
            refine W.nil ?_
            refine At.next ?_
            refine V.keep [(0, Value.pointer (some ⟨b0, 0, none⟩)), (2, Value.int .i64 (a2)), (3, Value.int .u8 (a3)), (66, Value.bool (decide (a1 = 5)))] ⟨rfl, rfl, rfl, rfl, trivial⟩ ?_
            by_cases c32 : a1 = 5
            · replace H := ite_t c32 H
              refine V.condT (sb (decide_eq_true c32)) ?_
              refine V.seq ?_
              refine V.meet (σ := Bool) (fun st w => match st with | x34 => Sep.St [signalmanref6_Pipe.at b0 (a0), R] w0 w ∧ signalmanref6_Pipe_Fault.j1 a0 a2 a3 x34 = some r) (fun st => match st with | x34 => [(0, Value.pointer (some ⟨b0, 0, none⟩)), (2, Value.int .i64 (a2)), (3, Value.int .u8 (a3)), (90, Value.bool (x34))]) ?_ ?_
              · by_cases c65 : a2 < 0
                · replace H := ite_t c65 H
                  refine V.draw (es := []) (bl := []) (f := [(68, Value.int .i64 (a2)), (69, Value.bool (decide (a2 < 0))), (70, Value.bool (decide (a2 < 0))), (71, undef), (72, undef), (73, undef), (74, undef), (75, undef), (76, undef), (77, undef), (78, Value.bool (true)), (79, Value.bool (true)), (80, undef), (81, undef), (82, undef), (83, undef), (84, undef), (85, undef), (86, undef), (87, undef), (88, undef), (89, undef), (90, Value.bool (true))]) (fun w => Sep.St [signalmanref6_Pipe.at b0 (a0), R] w0 w) mo HS.drew rfl ?_
                  refine T.fin [(0, Value.pointer (some ⟨b0, 0, none⟩)), (2, Value.int .i64 (a2)), (3, Value.int .u8 (a3)), (90, Value.bool (true))] rfl ⟨⟨_, Value.int .i64 (a2), [(2, Value.int .i64 (a2))], 68, rfl, rfl, ⟨.inl ⟨rfl, rfl⟩, trivial⟩, .run rfl (fun w HS => X.move rfl), rfl, rfl, rfl⟩, ⟨_, Value.bool (decide (a2 < 0)), [(68, Value.int .i64 (a2))], 69, rfl, rfl, ⟨.inr ⟨rfl, rfl⟩, trivial⟩, .run rfl (fun w HS => X.cmp (decide (a2 < 0)) rfl rfl rfl rfl), rfl, rfl, rfl⟩, ⟨_, Value.bool (decide (a2 < 0)), [(69, Value.bool (decide (a2 < 0)))], 70, rfl, rfl, ⟨.inr ⟨rfl, rfl⟩, trivial⟩, .run rfl (fun w HS => X.move rfl), rfl, rfl, rfl⟩, ⟨_, undef, [(70, Value.bool (decide (a2 < 0)))], 71, rfl, rfl, ⟨.inr ⟨rfl, rfl⟩, trivial⟩, .pass 2 false true 70 rfl rfl (sb (decide_eq_true c65)) rfl rfl, rfl, rfl, rfl⟩, ⟨_, undef, [(70, Value.bool (decide (a2 < 0)))], 72, rfl, rfl, ⟨.inr ⟨rfl, rfl⟩, trivial⟩, .pass 2 false true 70 rfl rfl (sb (decide_eq_true c65)) rfl rfl, rfl, rfl, rfl⟩, ⟨_, undef, [(70, Value.bool (decide (a2 < 0)))], 73, rfl, rfl, ⟨.inr ⟨rfl, rfl⟩, trivial⟩, .pass 2 false true 70 rfl rfl (sb (decide_eq_true c65)) rfl rfl, rfl, rfl, rfl⟩, ⟨_, undef, [(70, Value.bool (decide (a2 < 0)))], 74, rfl, rfl, ⟨.inr ⟨rfl, rfl⟩, trivial⟩, .pass 2 false true 70 rfl rfl (sb (decide_eq_true c65)) rfl rfl, rfl, rfl, rfl⟩, ⟨_, undef, [(70, Value.bool (decide (a2 < 0)))], 75, rfl, rfl, ⟨.inr ⟨rfl, rfl⟩, trivial⟩, .pass 2 false true 70 rfl rfl (sb (decide_eq_true c65)) rfl rfl, rfl, rfl, rfl⟩, ⟨_, undef, [(70, Value.bool (decide (a2 < 0)))], 76, rfl, rfl, ⟨.inr ⟨rfl, rfl⟩, trivial⟩, .pass 2 false true 70 rfl rfl (sb (decide_eq_true c65)) rfl rfl, rfl, rfl, rfl⟩, ⟨_, undef, [(70, Value.bool (decide (a2 < 0)))], 77, rfl, rfl, ⟨.inr ⟨rfl, rfl⟩, trivial⟩, .pass 2 false true 70 rfl rfl (sb (decide_eq_true c65)) rfl rfl, rfl, rfl, rfl⟩, ⟨_, Value.bool (true), [(70, Value.bool (decide (a2 < 0))), (77, undef)], 78, rfl, rfl, ⟨.inr ⟨rfl, rfl⟩, ⟨.inr ⟨rfl, rfl⟩, trivial⟩⟩, .run rfl (fun w HS => X.pickT (sb (decide_eq_true c65)) rfl), rfl, rfl, rfl⟩, ⟨_, Value.bool (true), [(78, Value.bool (true))], 79, rfl, rfl, ⟨.inr ⟨rfl, rfl⟩, trivial⟩, .run rfl (fun w HS => X.move rfl), rfl, rfl, rfl⟩, ⟨_, undef, [(79, Value.bool (true))], 80, rfl, rfl, ⟨.inr ⟨rfl, rfl⟩, trivial⟩, .pass 11 false true 79 rfl rfl rfl rfl rfl, rfl, rfl, rfl⟩, ⟨_, undef, [(79, Value.bool (true))], 81, rfl, rfl, ⟨.inr ⟨rfl, rfl⟩, trivial⟩, .pass 11 false true 79 rfl rfl rfl rfl rfl, rfl, rfl, rfl⟩, ⟨_, undef, [(79, Value.bool (true))], 82, rfl, rfl, ⟨.inr ⟨rfl, rfl⟩, trivial⟩, .pass 11 false true 79 rfl rfl rfl rfl rfl, rfl, rfl, rfl⟩, ⟨_, undef, [(79, Value.bool (true))], 83, rfl, rfl, ⟨.inr ⟨rfl, rfl⟩, trivial⟩, .pass 11 false true 79 rfl rfl rfl rfl rfl, rfl, rfl, rfl⟩, ⟨_, undef, [(79, Value.bool (true))], 84, rfl, rfl, ⟨.inr ⟨rfl, rfl⟩, trivial⟩, .pass 11 false true 79 rfl rfl rfl rfl rfl, rfl, rfl, rfl⟩, ⟨_, undef, [(79, Value.bool (true))], 85, rfl, rfl, ⟨.inr ⟨rfl, rfl⟩, trivial⟩, .pass 11 false true 79 rfl rfl rfl rfl rfl, rfl, rfl, rfl⟩, ⟨_, undef, [(79, Value.bool (true))], 86, rfl, rfl, ⟨.inr ⟨rfl, rfl⟩, trivial⟩, .pass 11 false true 79 rfl rfl rfl rfl rfl, rfl, rfl, rfl⟩, ⟨_, undef, [(79, Value.bool (true))], 87, rfl, rfl, ⟨.inr ⟨rfl, rfl⟩, trivial⟩, .pass 11 false true 79 rfl rfl rfl rfl rfl, rfl, rfl, rfl⟩, ⟨_, undef, [(79, Value.bool (true))], 88, rfl, rfl, ⟨.inr ⟨rfl, rfl⟩, trivial⟩, .pass 11 false true 79 rfl rfl rfl rfl rfl, rfl, rfl, rfl⟩, ⟨_, undef, [(79, Value.bool (true))], 89, rfl, rfl, ⟨.inr ⟨rfl, rfl⟩, trivial⟩, .pass 11 false true 79 rfl rfl rfl rfl rfl, rfl, rfl, rfl⟩, ⟨_, Value.bool (true), [(79, Value.bool (true)), (89, undef)], 90, rfl, rfl, ⟨.inr ⟨rfl, rfl⟩, ⟨.inr ⟨rfl, rfl⟩, trivial⟩⟩, .run rfl (fun w HS => X.pickT rfl rfl), rfl, rfl, rfl⟩, trivial⟩ ⟨.inl ⟨rfl, rfl⟩, ⟨.inl ⟨rfl, rfl⟩, ⟨.inl ⟨rfl, rfl⟩, ⟨.inr ⟨rfl, rfl⟩, trivial⟩⟩⟩⟩ (fun w HS => ?_)
                  have HS : Sep.St [signalmanref6_Pipe.at b0 (a0), R] w0 w := HS
                  exact At.meet (true) ⟨rfl, rfl, rfl, rfl, trivial⟩ ⟨HS, H⟩
                · replace H := ite_f c65 H
                  obtain ⟨a1_66, c1_66, hi67, HS⟩ := signalmanref6_Pipe.open HS
                  have HS : Sep.St [blk b0 (#[Value.int .i64 ((a0).room), Value.slice a1_66 ((a0).b).length c1_66, Value.bool ((a0).gone), Value.bool ((a0).stands)]) 46, row 5 1 (.slice a1_66 ((a0).b).length c1_66) ((a0).b).length (((a0).b).map (Value.int .u8)), R] w0 w := HS
                  by_cases c68 : a2 > (((a0).b).length : Int)
                  · replace H := ite_t c68 H
                    refine V.draw (es := []) (bl := []) (f := [(68, Value.int .i64 (a2)), (69, Value.bool (decide (a2 < 0))), (70, Value.bool (decide (a2 < 0))), (71, Value.int .i64 (a2)), (72, Value.pointer (some ⟨b0, 0, none⟩)), (73, Value.pointer (some ⟨b0, 0, none⟩)), (74, Value.pointer (some ⟨b0, 0 + 1, none⟩)), (75, Value.slice a1_66 ((a0).b).length c1_66), (76, Value.int .i64 ((((a0).b).length : Int))), (77, Value.bool (decide (a2 > (((a0).b).length : Int)))), (78, Value.bool (decide (a2 > (((a0).b).length : Int)))), (79, Value.bool (decide (a2 > (((a0).b).length : Int)))), (80, undef), (81, undef), (82, undef), (83, undef), (84, undef), (85, undef), (86, undef), (87, undef), (88, undef), (89, undef), (90, Value.bool (true))]) (fun w => Sep.St [blk b0 (#[Value.int .i64 ((a0).room), Value.slice a1_66 ((a0).b).length c1_66, Value.bool ((a0).gone), Value.bool ((a0).stands)]) 46, row 5 1 (.slice a1_66 ((a0).b).length c1_66) ((a0).b).length (((a0).b).map (Value.int .u8)), R] w0 w) mo HS.drew rfl ?_
                    refine T.fin [(0, Value.pointer (some ⟨b0, 0, none⟩)), (2, Value.int .i64 (a2)), (3, Value.int .u8 (a3)), (90, Value.bool (true))] rfl ⟨⟨_, Value.int .i64 (a2), [(2, Value.int .i64 (a2))], 68, rfl, rfl, ⟨.inl ⟨rfl, rfl⟩, trivial⟩, .run rfl (fun w HS => X.move rfl), rfl, rfl, rfl⟩, ⟨_, Value.bool (decide (a2 < 0)), [(68, Value.int .i64 (a2))], 69, rfl, rfl, ⟨.inr ⟨rfl, rfl⟩, trivial⟩, .run rfl (fun w HS => X.cmp (decide (a2 < 0)) rfl rfl rfl rfl), rfl, rfl, rfl⟩, ⟨_, Value.bool (decide (a2 < 0)), [(69, Value.bool (decide (a2 < 0)))], 70, rfl, rfl, ⟨.inr ⟨rfl, rfl⟩, trivial⟩, .run rfl (fun w HS => X.move rfl), rfl, rfl, rfl⟩, ⟨_, Value.int .i64 (a2), [(2, Value.int .i64 (a2)), (70, Value.bool (decide (a2 < 0)))], 71, rfl, rfl, ⟨.inl ⟨rfl, rfl⟩, ⟨.inr ⟨rfl, rfl⟩, trivial⟩⟩, .want 2 false 70 rfl rfl (sb (decide_eq_false c65)) (fun w HS => X.move rfl), rfl, rfl, rfl⟩, ⟨_, Value.pointer (some ⟨b0, 0, none⟩), [(0, Value.pointer (some ⟨b0, 0, none⟩)), (70, Value.bool (decide (a2 < 0)))], 72, rfl, rfl, ⟨.inl ⟨rfl, rfl⟩, ⟨.inr ⟨rfl, rfl⟩, trivial⟩⟩, .want 2 false 70 rfl rfl (sb (decide_eq_false c65)) (fun w HS => X.move rfl), rfl, rfl, rfl⟩, ⟨_, Value.pointer (some ⟨b0, 0, none⟩), [(72, Value.pointer (some ⟨b0, 0, none⟩)), (70, Value.bool (decide (a2 < 0)))], 73, rfl, rfl, ⟨.inr ⟨rfl, rfl⟩, ⟨.inr ⟨rfl, rfl⟩, trivial⟩⟩, .want 2 false 70 rfl rfl (sb (decide_eq_false c65)) (fun w HS => X.nilCheck rfl), rfl, rfl, rfl⟩, ⟨_, Value.pointer (some ⟨b0, 0 + 1, none⟩), [(73, Value.pointer (some ⟨b0, 0, none⟩)), (70, Value.bool (decide (a2 < 0)))], 74, rfl, rfl, ⟨.inr ⟨rfl, rfl⟩, ⟨.inr ⟨rfl, rfl⟩, trivial⟩⟩, .want 2 false 70 rfl rfl (sb (decide_eq_false c65)) (fun w HS => X.fieldAddr 1 fo46_1 rfl), rfl, rfl, rfl⟩, ⟨_, Value.slice a1_66 ((a0).b).length c1_66, [(74, Value.pointer (some ⟨b0, 0 + 1, none⟩)), (70, Value.bool (decide (a2 < 0)))], 75, rfl, rfl, ⟨.inr ⟨rfl, rfl⟩, ⟨.inr ⟨rfl, rfl⟩, trivial⟩⟩, .want 2 false 70 rfl rfl (sb (decide_eq_false c65)) (fun w HS => X.loadAt 0 HS rfl Try.underlying27 rfl rfl rfl), rfl, rfl, rfl⟩, ⟨_, Value.int .i64 ((((a0).b).length : Int)), [(75, Value.slice a1_66 ((a0).b).length c1_66), (70, Value.bool (decide (a2 < 0)))], 76, rfl, rfl, ⟨.inr ⟨rfl, rfl⟩, ⟨.inr ⟨rfl, rfl⟩, trivial⟩⟩, .want 2 false 70 rfl rfl (sb (decide_eq_false c65)) (fun w HS => X.lenSl Try.underlying27 rfl), rfl, rfl, rfl⟩, ⟨_, Value.bool (decide (a2 > (((a0).b).length : Int))), [(71, Value.int .i64 (a2)), (76, Value.int .i64 ((((a0).b).length : Int))), (70, Value.bool (decide (a2 < 0)))], 77, rfl, rfl, ⟨.inr ⟨rfl, rfl⟩, ⟨.inr ⟨rfl, rfl⟩, ⟨.inr ⟨rfl, rfl⟩, trivial⟩⟩⟩, .want 2 false 70 rfl rfl (sb (decide_eq_false c65)) (fun w HS => X.cmp (decide (a2 > (((a0).b).length : Int))) rfl rfl rfl rfl), rfl, rfl, rfl⟩, ⟨_, Value.bool (decide (a2 > (((a0).b).length : Int))), [(70, Value.bool (decide (a2 < 0))), (77, Value.bool (decide (a2 > (((a0).b).length : Int))))], 78, rfl, rfl, ⟨.inr ⟨rfl, rfl⟩, ⟨.inr ⟨rfl, rfl⟩, trivial⟩⟩, .run rfl (fun w HS => X.pickF (sb (decide_eq_false c65)) rfl), rfl, rfl, rfl⟩, ⟨_, Value.bool (decide (a2 > (((a0).b).length : Int))), [(78, Value.bool (decide (a2 > (((a0).b).length : Int))))], 79, rfl, rfl, ⟨.inr ⟨rfl, rfl⟩, trivial⟩, .run rfl (fun w HS => X.move rfl), rfl, rfl, rfl⟩, ⟨_, undef, [(79, Value.bool (decide (a2 > (((a0).b).length : Int))))], 80, rfl, rfl, ⟨.inr ⟨rfl, rfl⟩, trivial⟩, .pass 11 false true 79 rfl rfl (sb (decide_eq_true c68)) rfl rfl, rfl, rfl, rfl⟩, ⟨_, undef, [(79, Value.bool (decide (a2 > (((a0).b).length : Int))))], 81, rfl, rfl, ⟨.inr ⟨rfl, rfl⟩, trivial⟩, .pass 11 false true 79 rfl rfl (sb (decide_eq_true c68)) rfl rfl, rfl, rfl, rfl⟩, ⟨_, undef, [(79, Value.bool (decide (a2 > (((a0).b).length : Int))))], 82, rfl, rfl, ⟨.inr ⟨rfl, rfl⟩, trivial⟩, .pass 11 false true 79 rfl rfl (sb (decide_eq_true c68)) rfl rfl, rfl, rfl, rfl⟩, ⟨_, undef, [(79, Value.bool (decide (a2 > (((a0).b).length : Int))))], 83, rfl, rfl, ⟨.inr ⟨rfl, rfl⟩, trivial⟩, .pass 11 false true 79 rfl rfl (sb (decide_eq_true c68)) rfl rfl, rfl, rfl, rfl⟩, ⟨_, undef, [(79, Value.bool (decide (a2 > (((a0).b).length : Int))))], 84, rfl, rfl, ⟨.inr ⟨rfl, rfl⟩, trivial⟩, .pass 11 false true 79 rfl rfl (sb (decide_eq_true c68)) rfl rfl, rfl, rfl, rfl⟩, ⟨_, undef, [(79, Value.bool (decide (a2 > (((a0).b).length : Int))))], 85, rfl, rfl, ⟨.inr ⟨rfl, rfl⟩, trivial⟩, .pass 11 false true 79 rfl rfl (sb (decide_eq_true c68)) rfl rfl, rfl, rfl, rfl⟩, ⟨_, undef, [(79, Value.bool (decide (a2 > (((a0).b).length : Int))))], 86, rfl, rfl, ⟨.inr ⟨rfl, rfl⟩, trivial⟩, .pass 11 false true 79 rfl rfl (sb (decide_eq_true c68)) rfl rfl, rfl, rfl, rfl⟩, ⟨_, undef, [(79, Value.bool (decide (a2 > (((a0).b).length : Int))))], 87, rfl, rfl, ⟨.inr ⟨rfl, rfl⟩, trivial⟩, .pass 11 false true 79 rfl rfl (sb (decide_eq_true c68)) rfl rfl, rfl, rfl, rfl⟩, ⟨_, undef, [(79, Value.bool (decide (a2 > (((a0).b).length : Int))))], 88, rfl, rfl, ⟨.inr ⟨rfl, rfl⟩, trivial⟩, .pass 11 false true 79 rfl rfl (sb (decide_eq_true c68)) rfl rfl, rfl, rfl, rfl⟩, ⟨_, undef, [(79, Value.bool (decide (a2 > (((a0).b).length : Int))))], 89, rfl, rfl, ⟨.inr ⟨rfl, rfl⟩, trivial⟩, .pass 11 false true 79 rfl rfl (sb (decide_eq_true c68)) rfl rfl, rfl, rfl, rfl⟩, ⟨_, Value.bool (true), [(79, Value.bool (decide (a2 > (((a0).b).length : Int)))), (89, undef)], 90, rfl, rfl, ⟨.inr ⟨rfl, rfl⟩, ⟨.inr ⟨rfl, rfl⟩, trivial⟩⟩, .run rfl (fun w HS => X.pickT (sb (decide_eq_true c68)) rfl), rfl, rfl, rfl⟩, trivial⟩ ⟨.inl ⟨rfl, rfl⟩, ⟨.inl ⟨rfl, rfl⟩, ⟨.inl ⟨rfl, rfl⟩, ⟨.inr ⟨rfl, rfl⟩, trivial⟩⟩⟩⟩ (fun w HS => ?_)
                    have HS : Sep.St [blk b0 (#[Value.int .i64 ((a0).room), Value.slice a1_66 ((a0).b).length c1_66, Value.bool ((a0).gone), Value.bool ((a0).stands)]) 46, row 5 1 (.slice a1_66 ((a0).b).length c1_66) ((a0).b).length (((a0).b).map (Value.int .u8)), R] w0 w := HS
                    replace HS := signalmanref6_Pipe.close (a0) trivial HS
                    have HS : Sep.St [signalmanref6_Pipe.at b0 (a0), R] w0 w := HS
                    exact At.meet (true) ⟨rfl, rfl, rfl, rfl, trivial⟩ ⟨HS, H⟩
                  · replace H := ite_f c68 H
                    refine V.draw (es := []) (bl := []) (f := [(68, Value.int .i64 (a2)), (69, Value.bool (decide (a2 < 0))), (70, Value.bool (decide (a2 < 0))), (71, Value.int .i64 (a2)), (72, Value.pointer (some ⟨b0, 0, none⟩)), (73, Value.pointer (some ⟨b0, 0, none⟩)), (74, Value.pointer (some ⟨b0, 0 + 1, none⟩)), (75, Value.slice a1_66 ((a0).b).length c1_66), (76, Value.int .i64 ((((a0).b).length : Int))), (77, Value.bool (decide (a2 > (((a0).b).length : Int)))), (78, Value.bool (decide (a2 > (((a0).b).length : Int)))), (79, Value.bool (decide (a2 > (((a0).b).length : Int)))), (80, Value.pointer (some ⟨b0, 0, none⟩)), (81, Value.pointer (some ⟨b0, 0, none⟩)), (82, Value.pointer (some ⟨b0, 0 + 1, none⟩)), (83, Value.slice a1_66 ((a0).b).length c1_66), (84, Value.int .i64 ((((a0).b).length : Int))), (85, Value.pointer (some ⟨b0, 0, none⟩)), (86, Value.pointer (some ⟨b0, 0, none⟩)), (87, Value.pointer (some ⟨b0, 0 + 0, none⟩)), (88, Value.int .i64 ((a0).room)), (89, Value.bool (decide ((((a0).b).length : Int) ≥ ((a0).room)))), (90, Value.bool (decide ((((a0).b).length : Int) ≥ ((a0).room))))]) (fun w => Sep.St [blk b0 (#[Value.int .i64 ((a0).room), Value.slice a1_66 ((a0).b).length c1_66, Value.bool ((a0).gone), Value.bool ((a0).stands)]) 46, row 5 1 (.slice a1_66 ((a0).b).length c1_66) ((a0).b).length (((a0).b).map (Value.int .u8)), R] w0 w) mo HS.drew rfl ?_
                    refine T.fin [(0, Value.pointer (some ⟨b0, 0, none⟩)), (2, Value.int .i64 (a2)), (3, Value.int .u8 (a3)), (90, Value.bool (decide ((((a0).b).length : Int) ≥ ((a0).room))))] rfl ⟨⟨_, Value.int .i64 (a2), [(2, Value.int .i64 (a2))], 68, rfl, rfl, ⟨.inl ⟨rfl, rfl⟩, trivial⟩, .run rfl (fun w HS => X.move rfl), rfl, rfl, rfl⟩, ⟨_, Value.bool (decide (a2 < 0)), [(68, Value.int .i64 (a2))], 69, rfl, rfl, ⟨.inr ⟨rfl, rfl⟩, trivial⟩, .run rfl (fun w HS => X.cmp (decide (a2 < 0)) rfl rfl rfl rfl), rfl, rfl, rfl⟩, ⟨_, Value.bool (decide (a2 < 0)), [(69, Value.bool (decide (a2 < 0)))], 70, rfl, rfl, ⟨.inr ⟨rfl, rfl⟩, trivial⟩, .run rfl (fun w HS => X.move rfl), rfl, rfl, rfl⟩, ⟨_, Value.int .i64 (a2), [(2, Value.int .i64 (a2)), (70, Value.bool (decide (a2 < 0)))], 71, rfl, rfl, ⟨.inl ⟨rfl, rfl⟩, ⟨.inr ⟨rfl, rfl⟩, trivial⟩⟩, .want 2 false 70 rfl rfl (sb (decide_eq_false c65)) (fun w HS => X.move rfl), rfl, rfl, rfl⟩, ⟨_, Value.pointer (some ⟨b0, 0, none⟩), [(0, Value.pointer (some ⟨b0, 0, none⟩)), (70, Value.bool (decide (a2 < 0)))], 72, rfl, rfl, ⟨.inl ⟨rfl, rfl⟩, ⟨.inr ⟨rfl, rfl⟩, trivial⟩⟩, .want 2 false 70 rfl rfl (sb (decide_eq_false c65)) (fun w HS => X.move rfl), rfl, rfl, rfl⟩, ⟨_, Value.pointer (some ⟨b0, 0, none⟩), [(72, Value.pointer (some ⟨b0, 0, none⟩)), (70, Value.bool (decide (a2 < 0)))], 73, rfl, rfl, ⟨.inr ⟨rfl, rfl⟩, ⟨.inr ⟨rfl, rfl⟩, trivial⟩⟩, .want 2 false 70 rfl rfl (sb (decide_eq_false c65)) (fun w HS => X.nilCheck rfl), rfl, rfl, rfl⟩, ⟨_, Value.pointer (some ⟨b0, 0 + 1, none⟩), [(73, Value.pointer (some ⟨b0, 0, none⟩)), (70, Value.bool (decide (a2 < 0)))], 74, rfl, rfl, ⟨.inr ⟨rfl, rfl⟩, ⟨.inr ⟨rfl, rfl⟩, trivial⟩⟩, .want 2 false 70 rfl rfl (sb (decide_eq_false c65)) (fun w HS => X.fieldAddr 1 fo46_1 rfl), rfl, rfl, rfl⟩, ⟨_, Value.slice a1_66 ((a0).b).length c1_66, [(74, Value.pointer (some ⟨b0, 0 + 1, none⟩)), (70, Value.bool (decide (a2 < 0)))], 75, rfl, rfl, ⟨.inr ⟨rfl, rfl⟩, ⟨.inr ⟨rfl, rfl⟩, trivial⟩⟩, .want 2 false 70 rfl rfl (sb (decide_eq_false c65)) (fun w HS => X.loadAt 0 HS rfl Try.underlying27 rfl rfl rfl), rfl, rfl, rfl⟩, ⟨_, Value.int .i64 ((((a0).b).length : Int)), [(75, Value.slice a1_66 ((a0).b).length c1_66), (70, Value.bool (decide (a2 < 0)))], 76, rfl, rfl, ⟨.inr ⟨rfl, rfl⟩, ⟨.inr ⟨rfl, rfl⟩, trivial⟩⟩, .want 2 false 70 rfl rfl (sb (decide_eq_false c65)) (fun w HS => X.lenSl Try.underlying27 rfl), rfl, rfl, rfl⟩, ⟨_, Value.bool (decide (a2 > (((a0).b).length : Int))), [(71, Value.int .i64 (a2)), (76, Value.int .i64 ((((a0).b).length : Int))), (70, Value.bool (decide (a2 < 0)))], 77, rfl, rfl, ⟨.inr ⟨rfl, rfl⟩, ⟨.inr ⟨rfl, rfl⟩, ⟨.inr ⟨rfl, rfl⟩, trivial⟩⟩⟩, .want 2 false 70 rfl rfl (sb (decide_eq_false c65)) (fun w HS => X.cmp (decide (a2 > (((a0).b).length : Int))) rfl rfl rfl rfl), rfl, rfl, rfl⟩, ⟨_, Value.bool (decide (a2 > (((a0).b).length : Int))), [(70, Value.bool (decide (a2 < 0))), (77, Value.bool (decide (a2 > (((a0).b).length : Int))))], 78, rfl, rfl, ⟨.inr ⟨rfl, rfl⟩, ⟨.inr ⟨rfl, rfl⟩, trivial⟩⟩, .run rfl (fun w HS => X.pickF (sb (decide_eq_false c65)) rfl), rfl, rfl, rfl⟩, ⟨_, Value.bool (decide (a2 > (((a0).b).length : Int))), [(78, Value.bool (decide (a2 > (((a0).b).length : Int))))], 79, rfl, rfl, ⟨.inr ⟨rfl, rfl⟩, trivial⟩, .run rfl (fun w HS => X.move rfl), rfl, rfl, rfl⟩, ⟨_, Value.pointer (some ⟨b0, 0, none⟩), [(0, Value.pointer (some ⟨b0, 0, none⟩)), (79, Value.bool (decide (a2 > (((a0).b).length : Int))))], 80, rfl, rfl, ⟨.inl ⟨rfl, rfl⟩, ⟨.inr ⟨rfl, rfl⟩, trivial⟩⟩, .want 11 false 79 rfl rfl (sb (decide_eq_false c68)) (fun w HS => X.move rfl), rfl, rfl, rfl⟩, ⟨_, Value.pointer (some ⟨b0, 0, none⟩), [(80, Value.pointer (some ⟨b0, 0, none⟩)), (79, Value.bool (decide (a2 > (((a0).b).length : Int))))], 81, rfl, rfl, ⟨.inr ⟨rfl, rfl⟩, ⟨.inr ⟨rfl, rfl⟩, trivial⟩⟩, .want 11 false 79 rfl rfl (sb (decide_eq_false c68)) (fun w HS => X.nilCheck rfl), rfl, rfl, rfl⟩, ⟨_, Value.pointer (some ⟨b0, 0 + 1, none⟩), [(81, Value.pointer (some ⟨b0, 0, none⟩)), (79, Value.bool (decide (a2 > (((a0).b).length : Int))))], 82, rfl, rfl, ⟨.inr ⟨rfl, rfl⟩, ⟨.inr ⟨rfl, rfl⟩, trivial⟩⟩, .want 11 false 79 rfl rfl (sb (decide_eq_false c68)) (fun w HS => X.fieldAddr 1 fo46_1 rfl), rfl, rfl, rfl⟩, ⟨_, Value.slice a1_66 ((a0).b).length c1_66, [(82, Value.pointer (some ⟨b0, 0 + 1, none⟩)), (79, Value.bool (decide (a2 > (((a0).b).length : Int))))], 83, rfl, rfl, ⟨.inr ⟨rfl, rfl⟩, ⟨.inr ⟨rfl, rfl⟩, trivial⟩⟩, .want 11 false 79 rfl rfl (sb (decide_eq_false c68)) (fun w HS => X.loadAt 0 HS rfl Try.underlying27 rfl rfl rfl), rfl, rfl, rfl⟩, ⟨_, Value.int .i64 ((((a0).b).length : Int)), [(83, Value.slice a1_66 ((a0).b).length c1_66), (79, Value.bool (decide (a2 > (((a0).b).length : Int))))], 84, rfl, rfl, ⟨.inr ⟨rfl, rfl⟩, ⟨.inr ⟨rfl, rfl⟩, trivial⟩⟩, .want 11 false 79 rfl rfl (sb (decide_eq_false c68)) (fun w HS => X.lenSl Try.underlying27 rfl), rfl, rfl, rfl⟩, ⟨_, Value.pointer (some ⟨b0, 0, none⟩), [(0, Value.pointer (some ⟨b0, 0, none⟩)), (79, Value.bool (decide (a2 > (((a0).b).length : Int))))], 85, rfl, rfl, ⟨.inl ⟨rfl, rfl⟩, ⟨.inr ⟨rfl, rfl⟩, trivial⟩⟩, .want 11 false 79 rfl rfl (sb (decide_eq_false c68)) (fun w HS => X.move rfl), rfl, rfl, rfl⟩, ⟨_, Value.pointer (some ⟨b0, 0, none⟩), [(85, Value.pointer (some ⟨b0, 0, none⟩)), (79, Value.bool (decide (a2 > (((a0).b).length : Int))))], 86, rfl, rfl, ⟨.inr ⟨rfl, rfl⟩, ⟨.inr ⟨rfl, rfl⟩, trivial⟩⟩, .want 11 false 79 rfl rfl (sb (decide_eq_false c68)) (fun w HS => X.nilCheck rfl), rfl, rfl, rfl⟩, ⟨_, Value.pointer (some ⟨b0, 0 + 0, none⟩), [(86, Value.pointer (some ⟨b0, 0, none⟩)), (79, Value.bool (decide (a2 > (((a0).b).length : Int))))], 87, rfl, rfl, ⟨.inr ⟨rfl, rfl⟩, ⟨.inr ⟨rfl, rfl⟩, trivial⟩⟩, .want 11 false 79 rfl rfl (sb (decide_eq_false c68)) (fun w HS => X.fieldAddr 0 fo46_0 rfl), rfl, rfl, rfl⟩, ⟨_, Value.int .i64 ((a0).room), [(87, Value.pointer (some ⟨b0, 0 + 0, none⟩)), (79, Value.bool (decide (a2 > (((a0).b).length : Int))))], 88, rfl, rfl, ⟨.inr ⟨rfl, rfl⟩, ⟨.inr ⟨rfl, rfl⟩, trivial⟩⟩, .want 11 false 79 rfl rfl (sb (decide_eq_false c68)) (fun w HS => X.loadAt 0 HS rfl Try.underlying3 rfl rfl rfl), rfl, rfl, rfl⟩, ⟨_, Value.bool (decide ((((a0).b).length : Int) ≥ ((a0).room))), [(84, Value.int .i64 ((((a0).b).length : Int))), (88, Value.int .i64 ((a0).room)), (79, Value.bool (decide (a2 > (((a0).b).length : Int))))], 89, rfl, rfl, ⟨.inr ⟨rfl, rfl⟩, ⟨.inr ⟨rfl, rfl⟩, ⟨.inr ⟨rfl, rfl⟩, trivial⟩⟩⟩, .want 11 false 79 rfl rfl (sb (decide_eq_false c68)) (fun w HS => X.cmp (decide ((((a0).b).length : Int) ≥ ((a0).room))) rfl rfl rfl rfl), rfl, rfl, rfl⟩, ⟨_, Value.bool (decide ((((a0).b).length : Int) ≥ ((a0).room))), [(79, Value.bool (decide (a2 > (((a0).b).length : Int)))), (89, Value.bool (decide ((((a0).b).length : Int) ≥ ((a0).room))))], 90, rfl, rfl, ⟨.inr ⟨rfl, rfl⟩, ⟨.inr ⟨rfl, rfl⟩, trivial⟩⟩, .run rfl (fun w HS => X.pickF (sb (decide_eq_false c68)) rfl), rfl, rfl, rfl⟩, trivial⟩ ⟨.inl ⟨rfl, rfl⟩, ⟨.inl ⟨rfl, rfl⟩, ⟨.inl ⟨rfl, rfl⟩, ⟨.inr ⟨rfl, rfl⟩, trivial⟩⟩⟩⟩ (fun w HS => ?_)
                    have HS : Sep.St [blk b0 (#[Value.int .i64 ((a0).room), Value.slice a1_66 ((a0).b).length c1_66, Value.bool ((a0).gone), Value.bool ((a0).stands)]) 46, row 5 1 (.slice a1_66 ((a0).b).length c1_66) ((a0).b).length (((a0).b).map (Value.int .u8)), R] w0 w := HS
                    replace HS := signalmanref6_Pipe.close (a0) trivial HS
                    have HS : Sep.St [signalmanref6_Pipe.at b0 (a0), R] w0 w := HS
                    exact At.meet (decide ((((a0).b).length : Int) ≥ ((a0).room))) ⟨rfl, rfl, rfl, rfl, trivial⟩ ⟨HS, H⟩
              · rintro x34 w ⟨HS, H⟩
                unfold signalmanref6_Pipe_Fault.j1 at H
                have HS : Sep.St [signalmanref6_Pipe.at b0 (a0), R] w0 w := HS
                by_cases c36 : x34 = true
                · replace H := ite_t c36 H
                  refine V.condT (sb c36) ?_
                  refine V.seq ?_
                  refine V.region ?_
                  refine W.rd (X.assign rfl) rfl rfl rfl ?_
                  refine W.nil ?_
                  refine At.next ?_
                  refine V.keep [(8, Value.bool (false))] ⟨rfl, trivial⟩ ?_
                  refine V.ret ?_
                  refine At.thenRet ?_
                  refine At.blockRet ?_
                  refine At.thenRet ?_
                  cases H
                  exact At.ret1 rfl rfl ⟨_, rfl, rfl, HS⟩
                · replace H := ite_f c36 H
                  refine V.condF (sb (b_f c36)) ?_
                  refine V.skip ?_
                  refine At.next ?_
                  refine V.keep [(0, Value.pointer (some ⟨b0, 0, none⟩)), (2, Value.int .i64 (a2)), (3, Value.int .u8 (a3))] ⟨rfl, rfl, rfl, trivial⟩ ?_
                  obtain ⟨a1_37, c1_37, hi38, HS⟩ := signalmanref6_Pipe.open HS
                  have HS : Sep.St [blk b0 (#[Value.int .i64 ((a0).room), Value.slice a1_37 ((a0).b).length c1_37, Value.bool ((a0).gone), Value.bool ((a0).stands)]) 46, row 5 1 (.slice a1_37 ((a0).b).length c1_37) ((a0).b).length (((a0).b).map (Value.int .u8)), R] w0 w := HS
                  obtain ⟨c39, H⟩ := ite_n H
                  obtain ⟨c40, H⟩ := ite_n H
                  refine V.draw (es := [7, 9, 10, 17, 20]) (bl := [18, 19]) (f := [(91, Value.pointer (some ⟨b0, 0, none⟩)), (92, Value.pointer (some ⟨b0, 0, none⟩)), (93, Value.pointer (some ⟨b0, 0, none⟩)), (94, Value.pointer (some ⟨b0, 0 + 1, none⟩)), (95, Value.slice a1_37 ((a0).b).length c1_37), (96, Value.int .i64 (a2)), (97, Value.slice (vaddr a1_37 c1_37 ((0 : Int)).toNat 1) (cut ((a0).b) (0 : Int) a2).length (c1_37 - ((0 : Int)).toNat)), (99, Value.int .u8 (a3)), (102, Value.pointer (some ⟨b0, 0, none⟩)), (103, Value.pointer (some ⟨b0, 0, none⟩)), (104, Value.pointer (some ⟨b0, 0 + 1, none⟩)), (105, Value.slice a1_37 ((a0).b).length c1_37), (106, Value.int .i64 (a2)), (107, Value.slice (vaddr a1_37 c1_37 (a2).toNat 1) (cut ((a0).b) a2 (((a0).b).length : Int)).length (c1_37 - (a2).toNat))]) (fun w => Sep.St [blk b0 (#[Value.int .i64 ((a0).room), Value.slice a1_37 ((a0).b).length c1_37, Value.bool ((a0).gone), Value.bool ((a0).stands)]) 46, row 5 1 (.slice a1_37 ((a0).b).length c1_37) ((a0).b).length (((a0).b).map (Value.int .u8)), R] w0 w) mo HS.drew rfl ?_
                  refine T.two rfl rfl ⟨⟨_, Value.pointer (some ⟨b0, 0, none⟩), [(0, Value.pointer (some ⟨b0, 0, none⟩))], 91, rfl, rfl, ⟨.inl ⟨rfl, rfl⟩, trivial⟩, .run rfl (fun w HS => X.move rfl), rfl, rfl, rfl⟩, ⟨_, Value.pointer (some ⟨b0, 0, none⟩), [(0, Value.pointer (some ⟨b0, 0, none⟩))], 92, rfl, rfl, ⟨.inl ⟨rfl, rfl⟩, trivial⟩, .run rfl (fun w HS => X.move rfl), rfl, rfl, rfl⟩, ⟨_, Value.pointer (some ⟨b0, 0, none⟩), [(92, Value.pointer (some ⟨b0, 0, none⟩))], 93, rfl, rfl, ⟨.inr ⟨rfl, rfl⟩, trivial⟩, .run rfl (fun w HS => X.nilCheck rfl), rfl, rfl, rfl⟩, ⟨_, Value.pointer (some ⟨b0, 0 + 1, none⟩), [(93, Value.pointer (some ⟨b0, 0, none⟩))], 94, rfl, rfl, ⟨.inr ⟨rfl, rfl⟩, trivial⟩, .run rfl (fun w HS => X.fieldAddr 1 fo46_1 rfl), rfl, rfl, rfl⟩, ⟨_, Value.slice a1_37 ((a0).b).length c1_37, [(94, Value.pointer (some ⟨b0, 0 + 1, none⟩))], 95, rfl, rfl, ⟨.inr ⟨rfl, rfl⟩, trivial⟩, .run rfl (fun w HS => X.loadAt 0 HS rfl Try.underlying27 rfl rfl rfl), rfl, rfl, rfl⟩, ⟨_, Value.int .i64 (a2), [(2, Value.int .i64 (a2))], 96, rfl, rfl, ⟨.inl ⟨rfl, rfl⟩, trivial⟩, .run rfl (fun w HS => X.move rfl), rfl, rfl, rfl⟩, ⟨_, Value.slice (vaddr a1_37 c1_37 ((0 : Int)).toNat 1) (cut ((a0).b) (0 : Int) a2).length (c1_37 - ((0 : Int)).toNat), [(95, Value.slice a1_37 ((a0).b).length c1_37), (96, Value.int .i64 (a2))], 97, rfl, rfl, ⟨.inr ⟨rfl, rfl⟩, ⟨.inr ⟨rfl, rfl⟩, trivial⟩⟩, .run rfl (fun w HS => X.slH Try.underlying27 inf5 rfl rfl c39 ((rdC.at 1 row_rd HS rfl)).cap), rfl, rfl, rfl⟩, ⟨_, Value.int .u8 (a3), [(3, Value.int .u8 (a3))], 99, rfl, rfl, ⟨.inl ⟨rfl, rfl⟩, trivial⟩, .run rfl (fun w HS => X.move rfl), rfl, rfl, rfl⟩, ⟨_, Value.pointer (some ⟨b0, 0, none⟩), [(0, Value.pointer (some ⟨b0, 0, none⟩))], 102, rfl, rfl, ⟨.inl ⟨rfl, rfl⟩, trivial⟩, .run rfl (fun w HS => X.move rfl), rfl, rfl, rfl⟩, ⟨_, Value.pointer (some ⟨b0, 0, none⟩), [(102, Value.pointer (some ⟨b0, 0, none⟩))], 103, rfl, rfl, ⟨.inr ⟨rfl, rfl⟩, trivial⟩, .run rfl (fun w HS => X.nilCheck rfl), rfl, rfl, rfl⟩, ⟨_, Value.pointer (some ⟨b0, 0 + 1, none⟩), [(103, Value.pointer (some ⟨b0, 0, none⟩))], 104, rfl, rfl, ⟨.inr ⟨rfl, rfl⟩, trivial⟩, .run rfl (fun w HS => X.fieldAddr 1 fo46_1 rfl), rfl, rfl, rfl⟩, ⟨_, Value.slice a1_37 ((a0).b).length c1_37, [(104, Value.pointer (some ⟨b0, 0 + 1, none⟩))], 105, rfl, rfl, ⟨.inr ⟨rfl, rfl⟩, trivial⟩, .run rfl (fun w HS => X.loadAt 0 HS rfl Try.underlying27 rfl rfl rfl), rfl, rfl, rfl⟩, ⟨_, Value.int .i64 (a2), [(2, Value.int .i64 (a2))], 106, rfl, rfl, ⟨.inl ⟨rfl, rfl⟩, trivial⟩, .run rfl (fun w HS => X.move rfl), rfl, rfl, rfl⟩, ⟨_, Value.slice (vaddr a1_37 c1_37 (a2).toNat 1) (cut ((a0).b) a2 (((a0).b).length : Int)).length (c1_37 - (a2).toNat), [(105, Value.slice a1_37 ((a0).b).length c1_37), (106, Value.int .i64 (a2))], 107, rfl, rfl, ⟨.inr ⟨rfl, rfl⟩, ⟨.inr ⟨rfl, rfl⟩, trivial⟩⟩, .run rfl (fun w HS => X.slL Try.underlying27 inf5 rfl rfl c40), rfl, rfl, rfl⟩, trivial⟩ (T.step (es := [9, 10, 17, 20]) _ [(97, Value.slice (vaddr a1_37 c1_37 ((0 : Int)).toNat 1) (cut ((a0).b) (0 : Int) a2).length (c1_37 - ((0 : Int)).toNat))] rfl ⟨.inr ⟨rfl, rfl⟩, trivial⟩ (Or.inl rfl) (by intro d hd; cases hd; exact ⟨by decide, rfl, rfl⟩) [18, 19] [1, 2, 3, 4, 5, 6] rfl rfl rfl rfl rfl (fun w HS => ?_)) (T.step (es := [7, 10, 17, 20]) _ [(99, Value.int .u8 (a3))] rfl ⟨.inr ⟨rfl, rfl⟩, trivial⟩ (Or.inl rfl) (by intro d hd; cases hd; exact ⟨by decide, rfl, rfl⟩) [18, 19] [8] rfl rfl rfl rfl rfl (fun w HS => ?_))
                  · have HS : Sep.St [blk b0 (#[Value.int .i64 ((a0).room), Value.slice a1_37 ((a0).b).length c1_37, Value.bool ((a0).gone), Value.bool ((a0).stands)]) 46, row 5 1 (.slice a1_37 ((a0).b).length c1_37) ((a0).b).length (((a0).b).map (Value.int .u8)), R] w0 w := HS
                    obtain ⟨c41, H⟩ := ite_n H
                    replace HS := row_nil' (e := 5) 1 none HS
                    have HS : Sep.St [row 5 1 (.slice none (([] : List Int)).length 0) (([] : List Int)).length ((([] : List Int)).map (Value.int .u8)), blk b0 (#[Value.int .i64 ((a0).room), Value.slice a1_37 ((a0).b).length c1_37, Value.bool ((a0).gone), Value.bool ((a0).stands)]) 46, row 5 1 (.slice a1_37 ((a0).b).length c1_37) ((a0).b).length (((a0).b).map (Value.int .u8)), R] w0 w := HS
                    refine ⟨_, Y.appF (Value.int .u8) (fun _ => rfl) 0 Try.underlying27 ap5 rfl HS rfl rfl rfl (rdC.at 2 (rdC.subM row_rd c39) HS rfl) (by omega) (by omega), ?_⟩
                    rintro _ w ⟨ra42, rc43, rfl, HS⟩
                    have HS : Sep.St [row 5 1 (.slice ra42 (([] : List Int) ++ (cut ((a0).b) (0 : Int) a2)).length rc43) (([] : List Int) ++ (cut ((a0).b) (0 : Int) a2)).length ((([] : List Int) ++ (cut ((a0).b) (0 : Int) a2)).map (Value.int .u8)), blk b0 (#[Value.int .i64 ((a0).room), Value.slice a1_37 ((a0).b).length c1_37, Value.bool ((a0).gone), Value.bool ((a0).stands)]) 46, row 5 1 (.slice a1_37 ((a0).b).length c1_37) ((a0).b).length (((a0).b).map (Value.int .u8)), R] w0 w := HS
                    refine ⟨[(98, Value.slice ra42 (([] : List Int) ++ (cut ((a0).b) (0 : Int) a2)).length rc43)], fun w => Sep.St [row 5 1 (.slice ra42 (([] : List Int) ++ (cut ((a0).b) (0 : Int) a2)).length rc43) (([] : List Int) ++ (cut ((a0).b) (0 : Int) a2)).length ((([] : List Int) ++ (cut ((a0).b) (0 : Int) a2)).map (Value.int .u8)), blk b0 (#[Value.int .i64 ((a0).room), Value.slice a1_37 ((a0).b).length c1_37, Value.bool ((a0).gone), Value.bool ((a0).stands)]) 46, row 5 1 (.slice a1_37 ((a0).b).length c1_37) ((a0).b).length (((a0).b).map (Value.int .u8)), R] w0 w, ⟨.inl ⟨rfl, rfl⟩, trivial⟩, ?_, HS⟩
                    refine T.event _ [(99, Value.int .u8 (a3))] rfl rfl ⟨⟨_, Value.pointer (some ⟨b0, 0, none⟩), [(0, Value.pointer (some ⟨b0, 0, none⟩))], 91, rfl, rfl, ⟨.inl ⟨rfl, rfl⟩, trivial⟩, .run rfl (fun w HS => X.move rfl), rfl, rfl, rfl⟩, ⟨_, Value.int .u8 (a3), [(3, Value.int .u8 (a3))], 99, rfl, rfl, ⟨.inl ⟨rfl, rfl⟩, trivial⟩, .run rfl (fun w HS => X.move rfl), rfl, rfl, rfl⟩, ⟨_, Value.pointer (some ⟨b0, 0, none⟩), [(0, Value.pointer (some ⟨b0, 0, none⟩))], 102, rfl, rfl, ⟨.inl ⟨rfl, rfl⟩, trivial⟩, .run rfl (fun w HS => X.move rfl), rfl, rfl, rfl⟩, ⟨_, Value.pointer (some ⟨b0, 0, none⟩), [(102, Value.pointer (some ⟨b0, 0, none⟩))], 103, rfl, rfl, ⟨.inr ⟨rfl, rfl⟩, trivial⟩, .run rfl (fun w HS => X.nilCheck rfl), rfl, rfl, rfl⟩, ⟨_, Value.pointer (some ⟨b0, 0 + 1, none⟩), [(103, Value.pointer (some ⟨b0, 0, none⟩))], 104, rfl, rfl, ⟨.inr ⟨rfl, rfl⟩, trivial⟩, .run rfl (fun w HS => X.fieldAddr 1 fo46_1 rfl), rfl, rfl, rfl⟩, ⟨_, Value.slice a1_37 ((a0).b).length c1_37, [(104, Value.pointer (some ⟨b0, 0 + 1, none⟩))], 105, rfl, rfl, ⟨.inr ⟨rfl, rfl⟩, trivial⟩, .run rfl (fun w HS => X.loadAt 1 HS rfl Try.underlying27 rfl rfl rfl), rfl, rfl, rfl⟩, ⟨_, Value.int .i64 (a2), [(2, Value.int .i64 (a2))], 106, rfl, rfl, ⟨.inl ⟨rfl, rfl⟩, trivial⟩, .run rfl (fun w HS => X.move rfl), rfl, rfl, rfl⟩, ⟨_, Value.slice (vaddr a1_37 c1_37 (a2).toNat 1) (cut ((a0).b) a2 (((a0).b).length : Int)).length (c1_37 - (a2).toNat), [(105, Value.slice a1_37 ((a0).b).length c1_37), (106, Value.int .i64 (a2))], 107, rfl, rfl, ⟨.inr ⟨rfl, rfl⟩, ⟨.inr ⟨rfl, rfl⟩, trivial⟩⟩, .run rfl (fun w HS => X.slL Try.underlying27 inf5 rfl rfl c40), rfl, rfl, rfl⟩, trivial⟩ rfl ⟨.inr ⟨rfl, rfl⟩, trivial⟩ (Or.inl rfl) (by intro d hd; cases hd; exact ⟨by decide, rfl, rfl⟩) [18, 19] [8] rfl rfl (fun w HS => ?_)
                    have HS : Sep.St [row 5 1 (.slice ra42 (([] : List Int) ++ (cut ((a0).b) (0 : Int) a2)).length rc43) (([] : List Int) ++ (cut ((a0).b) (0 : Int) a2)).length ((([] : List Int) ++ (cut ((a0).b) (0 : Int) a2)).map (Value.int .u8)), blk b0 (#[Value.int .i64 ((a0).room), Value.slice a1_37 ((a0).b).length c1_37, Value.bool ((a0).gone), Value.bool ((a0).stands)]) 46, row 5 1 (.slice a1_37 ((a0).b).length c1_37) ((a0).b).length (((a0).b).map (Value.int .u8)), R] w0 w := HS
                    refine ⟨_, Y.litB (e := 5) (sz := 1) (vs := #[(0, Value.int .u8 (a3))]) [Value.int .u8 (a3)] HS (fun a ha => by simp only [List.map_toArray, List.map_cons, List.map_nil]; rw [ha.ev (x := .tmp 99) (v := Value.int .u8 (a3)) rfl]; try rfl) rfl (by decide) (fun _ => by kernel_rfl), ?_⟩
                    rintro _ w ⟨lb46, rfl, HS⟩
                    have HS : Sep.St [row 5 1 (.slice (some ⟨lb46, 0, none⟩) (([a3] : List Int)).length 1) (([a3] : List Int)).length ((([a3] : List Int)).map (Value.int .u8)), row 5 1 (.slice ra42 (([] : List Int) ++ (cut ((a0).b) (0 : Int) a2)).length rc43) (([] : List Int) ++ (cut ((a0).b) (0 : Int) a2)).length ((([] : List Int) ++ (cut ((a0).b) (0 : Int) a2)).map (Value.int .u8)), blk b0 (#[Value.int .i64 ((a0).room), Value.slice a1_37 ((a0).b).length c1_37, Value.bool ((a0).gone), Value.bool ((a0).stands)]) 46, row 5 1 (.slice a1_37 ((a0).b).length c1_37) ((a0).b).length (((a0).b).map (Value.int .u8)), R] w0 w := HS
                    refine ⟨[(100, Value.slice (some ⟨lb46, 0, none⟩) (([a3] : List Int)).length 1)], fun w => Sep.St [row 5 1 (.slice (some ⟨lb46, 0, none⟩) (([a3] : List Int)).length 1) (([a3] : List Int)).length ((([a3] : List Int)).map (Value.int .u8)), row 5 1 (.slice ra42 (([] : List Int) ++ (cut ((a0).b) (0 : Int) a2)).length rc43) (([] : List Int) ++ (cut ((a0).b) (0 : Int) a2)).length ((([] : List Int) ++ (cut ((a0).b) (0 : Int) a2)).map (Value.int .u8)), blk b0 (#[Value.int .i64 ((a0).room), Value.slice a1_37 ((a0).b).length c1_37, Value.bool ((a0).gone), Value.bool ((a0).stands)]) 46, row 5 1 (.slice a1_37 ((a0).b).length c1_37) ((a0).b).length (((a0).b).map (Value.int .u8)), R] w0 w, ⟨.inl ⟨rfl, rfl⟩, trivial⟩, ?_, HS⟩
                    refine T.event _ [(98, Value.slice ra42 (([] : List Int) ++ (cut ((a0).b) (0 : Int) a2)).length rc43), (100, Value.slice (some ⟨lb46, 0, none⟩) (([a3] : List Int)).length 1)] rfl rfl ⟨⟨_, Value.pointer (some ⟨b0, 0, none⟩), [(0, Value.pointer (some ⟨b0, 0, none⟩))], 91, rfl, rfl, ⟨.inl ⟨rfl, rfl⟩, trivial⟩, .run rfl (fun w HS => X.move rfl), rfl, rfl, rfl⟩, ⟨_, Value.pointer (some ⟨b0, 0, none⟩), [(0, Value.pointer (some ⟨b0, 0, none⟩))], 102, rfl, rfl, ⟨.inl ⟨rfl, rfl⟩, trivial⟩, .run rfl (fun w HS => X.move rfl), rfl, rfl, rfl⟩, ⟨_, Value.pointer (some ⟨b0, 0, none⟩), [(102, Value.pointer (some ⟨b0, 0, none⟩))], 103, rfl, rfl, ⟨.inr ⟨rfl, rfl⟩, trivial⟩, .run rfl (fun w HS => X.nilCheck rfl), rfl, rfl, rfl⟩, ⟨_, Value.pointer (some ⟨b0, 0 + 1, none⟩), [(103, Value.pointer (some ⟨b0, 0, none⟩))], 104, rfl, rfl, ⟨.inr ⟨rfl, rfl⟩, trivial⟩, .run rfl (fun w HS => X.fieldAddr 1 fo46_1 rfl), rfl, rfl, rfl⟩, ⟨_, Value.slice a1_37 ((a0).b).length c1_37, [(104, Value.pointer (some ⟨b0, 0 + 1, none⟩))], 105, rfl, rfl, ⟨.inr ⟨rfl, rfl⟩, trivial⟩, .run rfl (fun w HS => X.loadAt 2 HS rfl Try.underlying27 rfl rfl rfl), rfl, rfl, rfl⟩, ⟨_, Value.int .i64 (a2), [(2, Value.int .i64 (a2))], 106, rfl, rfl, ⟨.inl ⟨rfl, rfl⟩, trivial⟩, .run rfl (fun w HS => X.move rfl), rfl, rfl, rfl⟩, ⟨_, Value.slice (vaddr a1_37 c1_37 (a2).toNat 1) (cut ((a0).b) a2 (((a0).b).length : Int)).length (c1_37 - (a2).toNat), [(105, Value.slice a1_37 ((a0).b).length c1_37), (106, Value.int .i64 (a2))], 107, rfl, rfl, ⟨.inr ⟨rfl, rfl⟩, ⟨.inr ⟨rfl, rfl⟩, trivial⟩⟩, .run rfl (fun w HS => X.slL Try.underlying27 inf5 rfl rfl c40), rfl, rfl, rfl⟩, trivial⟩ rfl ⟨.inr ⟨rfl, rfl⟩, ⟨.inr ⟨rfl, rfl⟩, trivial⟩⟩ (Or.inl rfl) (by intro d hd; cases hd; exact ⟨by decide, rfl, rfl⟩) [18, 19] [] rfl rfl (fun w HS => ?_)
                    have HS : Sep.St [row 5 1 (.slice (some ⟨lb46, 0, none⟩) (([a3] : List Int)).length 1) (([a3] : List Int)).length ((([a3] : List Int)).map (Value.int .u8)), row 5 1 (.slice ra42 (([] : List Int) ++ (cut ((a0).b) (0 : Int) a2)).length rc43) (([] : List Int) ++ (cut ((a0).b) (0 : Int) a2)).length ((([] : List Int) ++ (cut ((a0).b) (0 : Int) a2)).map (Value.int .u8)), blk b0 (#[Value.int .i64 ((a0).room), Value.slice a1_37 ((a0).b).length c1_37, Value.bool ((a0).gone), Value.bool ((a0).stands)]) 46, row 5 1 (.slice a1_37 ((a0).b).length c1_37) ((a0).b).length (((a0).b).map (Value.int .u8)), R] w0 w := HS
                    obtain ⟨c47, H⟩ := ite_n H
                    refine ⟨_, Y.appF (Value.int .u8) (fun _ => rfl) 1 Try.underlying27 ap5 rfl HS rfl rfl rfl (rdC.at 0 row_rd HS rfl) (by omega) (by omega), ?_⟩
                    rintro _ w ⟨ra48, rc49, rfl, HS⟩
                    have HS : Sep.St [row 5 1 (.slice (some ⟨lb46, 0, none⟩) (([a3] : List Int)).length 1) (([a3] : List Int)).length ((([a3] : List Int)).map (Value.int .u8)), row 5 1 (.slice ra48 ((([] : List Int) ++ (cut ((a0).b) (0 : Int) a2)) ++ ([a3] : List Int)).length rc49) ((([] : List Int) ++ (cut ((a0).b) (0 : Int) a2)) ++ ([a3] : List Int)).length (((([] : List Int) ++ (cut ((a0).b) (0 : Int) a2)) ++ ([a3] : List Int)).map (Value.int .u8)), blk b0 (#[Value.int .i64 ((a0).room), Value.slice a1_37 ((a0).b).length c1_37, Value.bool ((a0).gone), Value.bool ((a0).stands)]) 46, row 5 1 (.slice a1_37 ((a0).b).length c1_37) ((a0).b).length (((a0).b).map (Value.int .u8)), R] w0 w := HS
                    refine ⟨[(101, Value.slice ra48 ((([] : List Int) ++ (cut ((a0).b) (0 : Int) a2)) ++ ([a3] : List Int)).length rc49)], fun w => Sep.St [row 5 1 (.slice (some ⟨lb46, 0, none⟩) (([a3] : List Int)).length 1) (([a3] : List Int)).length ((([a3] : List Int)).map (Value.int .u8)), row 5 1 (.slice ra48 ((([] : List Int) ++ (cut ((a0).b) (0 : Int) a2)) ++ ([a3] : List Int)).length rc49) ((([] : List Int) ++ (cut ((a0).b) (0 : Int) a2)) ++ ([a3] : List Int)).length (((([] : List Int) ++ (cut ((a0).b) (0 : Int) a2)) ++ ([a3] : List Int)).map (Value.int .u8)), blk b0 (#[Value.int .i64 ((a0).room), Value.slice a1_37 ((a0).b).length c1_37, Value.bool ((a0).gone), Value.bool ((a0).stands)]) 46, row 5 1 (.slice a1_37 ((a0).b).length c1_37) ((a0).b).length (((a0).b).map (Value.int .u8)), R] w0 w, ⟨.inl ⟨rfl, rfl⟩, trivial⟩, ?_, HS⟩
                    refine T.event _ [(101, Value.slice ra48 ((([] : List Int) ++ (cut ((a0).b) (0 : Int) a2)) ++ ([a3] : List Int)).length rc49), (107, Value.slice (vaddr a1_37 c1_37 (a2).toNat 1) (cut ((a0).b) a2 (((a0).b).length : Int)).length (c1_37 - (a2).toNat))] rfl rfl ⟨⟨_, Value.pointer (some ⟨b0, 0, none⟩), [(0, Value.pointer (some ⟨b0, 0, none⟩))], 91, rfl, rfl, ⟨.inl ⟨rfl, rfl⟩, trivial⟩, .run rfl (fun w HS => X.move rfl), rfl, rfl, rfl⟩, ⟨_, Value.pointer (some ⟨b0, 0, none⟩), [(0, Value.pointer (some ⟨b0, 0, none⟩))], 102, rfl, rfl, ⟨.inl ⟨rfl, rfl⟩, trivial⟩, .run rfl (fun w HS => X.move rfl), rfl, rfl, rfl⟩, ⟨_, Value.pointer (some ⟨b0, 0, none⟩), [(102, Value.pointer (some ⟨b0, 0, none⟩))], 103, rfl, rfl, ⟨.inr ⟨rfl, rfl⟩, trivial⟩, .run rfl (fun w HS => X.nilCheck rfl), rfl, rfl, rfl⟩, ⟨_, Value.pointer (some ⟨b0, 0 + 1, none⟩), [(103, Value.pointer (some ⟨b0, 0, none⟩))], 104, rfl, rfl, ⟨.inr ⟨rfl, rfl⟩, trivial⟩, .run rfl (fun w HS => X.fieldAddr 1 fo46_1 rfl), rfl, rfl, rfl⟩, ⟨_, Value.slice a1_37 ((a0).b).length c1_37, [(104, Value.pointer (some ⟨b0, 0 + 1, none⟩))], 105, rfl, rfl, ⟨.inr ⟨rfl, rfl⟩, trivial⟩, .run rfl (fun w HS => X.loadAt 2 HS rfl Try.underlying27 rfl rfl rfl), rfl, rfl, rfl⟩, ⟨_, Value.int .i64 (a2), [(2, Value.int .i64 (a2))], 106, rfl, rfl, ⟨.inl ⟨rfl, rfl⟩, trivial⟩, .run rfl (fun w HS => X.move rfl), rfl, rfl, rfl⟩, ⟨_, Value.slice (vaddr a1_37 c1_37 (a2).toNat 1) (cut ((a0).b) a2 (((a0).b).length : Int)).length (c1_37 - (a2).toNat), [(105, Value.slice a1_37 ((a0).b).length c1_37), (106, Value.int .i64 (a2))], 107, rfl, rfl, ⟨.inr ⟨rfl, rfl⟩, ⟨.inr ⟨rfl, rfl⟩, trivial⟩⟩, .run rfl (fun w HS => X.slL Try.underlying27 inf5 rfl rfl c40), rfl, rfl, rfl⟩, trivial⟩ rfl ⟨.inr ⟨rfl, rfl⟩, ⟨.inr ⟨rfl, rfl⟩, trivial⟩⟩ (Or.inl rfl) (by intro d hd; cases hd; exact ⟨by decide, rfl, rfl⟩) [] [11, 12, 13, 14, 15, 16] rfl rfl (fun w HS => ?_)
                    have HS : Sep.St [row 5 1 (.slice (some ⟨lb46, 0, none⟩) (([a3] : List Int)).length 1) (([a3] : List Int)).length ((([a3] : List Int)).map (Value.int .u8)), row 5 1 (.slice ra48 ((([] : List Int) ++ (cut ((a0).b) (0 : Int) a2)) ++ ([a3] : List Int)).length rc49) ((([] : List Int) ++ (cut ((a0).b) (0 : Int) a2)) ++ ([a3] : List Int)).length (((([] : List Int) ++ (cut ((a0).b) (0 : Int) a2)) ++ ([a3] : List Int)).map (Value.int .u8)), blk b0 (#[Value.int .i64 ((a0).room), Value.slice a1_37 ((a0).b).length c1_37, Value.bool ((a0).gone), Value.bool ((a0).stands)]) 46, row 5 1 (.slice a1_37 ((a0).b).length c1_37) ((a0).b).length (((a0).b).map (Value.int .u8)), R] w0 w := HS
                    obtain ⟨c50, H⟩ := ite_n H
                    refine ⟨_, Y.appF (Value.int .u8) (fun _ => rfl) 1 Try.underlying27 ap5 rfl HS rfl rfl rfl (rdC.at 3 (rdC.subM row_rd c40) HS rfl) (by omega) (by omega), ?_⟩
                    rintro _ w ⟨ra51, rc52, rfl, HS⟩
                    have HS : Sep.St [row 5 1 (.slice (some ⟨lb46, 0, none⟩) (([a3] : List Int)).length 1) (([a3] : List Int)).length ((([a3] : List Int)).map (Value.int .u8)), row 5 1 (.slice ra51 (((([] : List Int) ++ (cut ((a0).b) (0 : Int) a2)) ++ ([a3] : List Int)) ++ (cut ((a0).b) a2 (((a0).b).length : Int))).length rc52) (((([] : List Int) ++ (cut ((a0).b) (0 : Int) a2)) ++ ([a3] : List Int)) ++ (cut ((a0).b) a2 (((a0).b).length : Int))).length ((((([] : List Int) ++ (cut ((a0).b) (0 : Int) a2)) ++ ([a3] : List Int)) ++ (cut ((a0).b) a2 (((a0).b).length : Int))).map (Value.int .u8)), blk b0 (#[Value.int .i64 ((a0).room), Value.slice a1_37 ((a0).b).length c1_37, Value.bool ((a0).gone), Value.bool ((a0).stands)]) 46, row 5 1 (.slice a1_37 ((a0).b).length c1_37) ((a0).b).length (((a0).b).map (Value.int .u8)), R] w0 w := HS
                    refine ⟨[(108, Value.slice ra51 (((([] : List Int) ++ (cut ((a0).b) (0 : Int) a2)) ++ ([a3] : List Int)) ++ (cut ((a0).b) a2 (((a0).b).length : Int))).length rc52), (109, Value.pointer (some ⟨b0, 0, none⟩)), (110, Value.pointer (some ⟨b0, 0 + 1, none⟩))], fun w => Sep.St [row 5 1 (.slice (some ⟨lb46, 0, none⟩) (([a3] : List Int)).length 1) (([a3] : List Int)).length ((([a3] : List Int)).map (Value.int .u8)), row 5 1 (.slice ra51 (((([] : List Int) ++ (cut ((a0).b) (0 : Int) a2)) ++ ([a3] : List Int)) ++ (cut ((a0).b) a2 (((a0).b).length : Int))).length rc52) (((([] : List Int) ++ (cut ((a0).b) (0 : Int) a2)) ++ ([a3] : List Int)) ++ (cut ((a0).b) a2 (((a0).b).length : Int))).length ((((([] : List Int) ++ (cut ((a0).b) (0 : Int) a2)) ++ ([a3] : List Int)) ++ (cut ((a0).b) a2 (((a0).b).length : Int))).map (Value.int .u8)), blk b0 (#[Value.int .i64 ((a0).room), Value.slice a1_37 ((a0).b).length c1_37, Value.bool ((a0).gone), Value.bool ((a0).stands)]) 46, row 5 1 (.slice a1_37 ((a0).b).length c1_37) ((a0).b).length (((a0).b).map (Value.int .u8)), R] w0 w, ⟨.inl ⟨rfl, rfl⟩, ⟨.inr ⟨by decide, rfl⟩, ⟨.inr ⟨by decide, rfl⟩, trivial⟩⟩⟩, ?_, HS⟩
                    refine T.event _ [(108, Value.slice ra51 (((([] : List Int) ++ (cut ((a0).b) (0 : Int) a2)) ++ ([a3] : List Int)) ++ (cut ((a0).b) a2 (((a0).b).length : Int))).length rc52), (110, Value.pointer (some ⟨b0, 0 + 1, none⟩))] rfl rfl ⟨⟨_, Value.pointer (some ⟨b0, 0, none⟩), [(0, Value.pointer (some ⟨b0, 0, none⟩))], 91, rfl, rfl, ⟨.inl ⟨rfl, rfl⟩, trivial⟩, .run rfl (fun w HS => X.move rfl), rfl, rfl, rfl⟩, ⟨_, Value.pointer (some ⟨b0, 0, none⟩), [(91, Value.pointer (some ⟨b0, 0, none⟩))], 109, rfl, rfl, ⟨.inr ⟨rfl, rfl⟩, trivial⟩, .run rfl (fun w HS => X.nilCheck rfl), rfl, rfl, rfl⟩, ⟨_, Value.pointer (some ⟨b0, 0 + 1, none⟩), [(109, Value.pointer (some ⟨b0, 0, none⟩))], 110, rfl, rfl, ⟨.inr ⟨rfl, rfl⟩, trivial⟩, .run rfl (fun w HS => X.fieldAddr 1 fo46_1 rfl), rfl, rfl, rfl⟩, trivial⟩ rfl ⟨.inr ⟨rfl, rfl⟩, ⟨.inr ⟨rfl, rfl⟩, trivial⟩⟩ (Or.inl rfl) (by intro d hd; cases hd) [] [0, 18, 19] rfl rfl (fun w HS => ?_)
                    have HS : Sep.St [row 5 1 (.slice (some ⟨lb46, 0, none⟩) (([a3] : List Int)).length 1) (([a3] : List Int)).length ((([a3] : List Int)).map (Value.int .u8)), row 5 1 (.slice ra51 (((([] : List Int) ++ (cut ((a0).b) (0 : Int) a2)) ++ ([a3] : List Int)) ++ (cut ((a0).b) a2 (((a0).b).length : Int))).length rc52) (((([] : List Int) ++ (cut ((a0).b) (0 : Int) a2)) ++ ([a3] : List Int)) ++ (cut ((a0).b) a2 (((a0).b).length : Int))).length ((((([] : List Int) ++ (cut ((a0).b) (0 : Int) a2)) ++ ([a3] : List Int)) ++ (cut ((a0).b) a2 (((a0).b).length : Int))).map (Value.int .u8)), blk b0 (#[Value.int .i64 ((a0).room), Value.slice a1_37 ((a0).b).length c1_37, Value.bool ((a0).gone), Value.bool ((a0).stands)]) 46, row 5 1 (.slice a1_37 ((a0).b).length c1_37) ((a0).b).length (((a0).b).map (Value.int .u8)), R] w0 w := HS
                    refine ⟨_, Y.storeAt 2 HS rfl inf27 rfl rfl rfl rfl rfl rfl, ?_⟩
                    rintro _ w HS
                    have HS : Sep.St [row 5 1 (.slice (some ⟨lb46, 0, none⟩) (([a3] : List Int)).length 1) (([a3] : List Int)).length ((([a3] : List Int)).map (Value.int .u8)), row 5 1 (.slice ra51 (((([] : List Int) ++ (cut ((a0).b) (0 : Int) a2)) ++ ([a3] : List Int)) ++ (cut ((a0).b) a2 (((a0).b).length : Int))).length rc52) (((([] : List Int) ++ (cut ((a0).b) (0 : Int) a2)) ++ ([a3] : List Int)) ++ (cut ((a0).b) a2 (((a0).b).length : Int))).length ((((([] : List Int) ++ (cut ((a0).b) (0 : Int) a2)) ++ ([a3] : List Int)) ++ (cut ((a0).b) a2 (((a0).b).length : Int))).map (Value.int .u8)), blk b0 (#[Value.int .i64 ((a0).room), Value.slice ra51 (((([] : List Int) ++ (cut ((a0).b) (0 : Int) a2)) ++ ([a3] : List Int)) ++ (cut ((a0).b) a2 (((a0).b).length : Int))).length rc52, Value.bool ((a0).gone), Value.bool ((a0).stands)]) 46, row 5 1 (.slice a1_37 ((a0).b).length c1_37) ((a0).b).length (((a0).b).map (Value.int .u8)), R] w0 w := HS
                    refine ⟨[], fun w => Sep.St [row 5 1 (.slice (some ⟨lb46, 0, none⟩) (([a3] : List Int)).length 1) (([a3] : List Int)).length ((([a3] : List Int)).map (Value.int .u8)), row 5 1 (.slice ra51 (((([] : List Int) ++ (cut ((a0).b) (0 : Int) a2)) ++ ([a3] : List Int)) ++ (cut ((a0).b) a2 (((a0).b).length : Int))).length rc52) (((([] : List Int) ++ (cut ((a0).b) (0 : Int) a2)) ++ ([a3] : List Int)) ++ (cut ((a0).b) a2 (((a0).b).length : Int))).length ((((([] : List Int) ++ (cut ((a0).b) (0 : Int) a2)) ++ ([a3] : List Int)) ++ (cut ((a0).b) a2 (((a0).b).length : Int))).map (Value.int .u8)), blk b0 (#[Value.int .i64 ((a0).room), Value.slice ra51 (((([] : List Int) ++ (cut ((a0).b) (0 : Int) a2)) ++ ([a3] : List Int)) ++ (cut ((a0).b) a2 (((a0).b).length : Int))).length rc52, Value.bool ((a0).gone), Value.bool ((a0).stands)]) 46, row 5 1 (.slice a1_37 ((a0).b).length c1_37) ((a0).b).length (((a0).b).map (Value.int .u8)), R] w0 w, trivial, ?_, HS⟩
                    refine T.fin [] rfl trivial trivial (fun w HS => ?_)
                    have HS : Sep.St [row 5 1 (.slice (some ⟨lb46, 0, none⟩) (([a3] : List Int)).length 1) (([a3] : List Int)).length ((([a3] : List Int)).map (Value.int .u8)), row 5 1 (.slice ra51 (((([] : List Int) ++ (cut ((a0).b) (0 : Int) a2)) ++ ([a3] : List Int)) ++ (cut ((a0).b) a2 (((a0).b).length : Int))).length rc52) (((([] : List Int) ++ (cut ((a0).b) (0 : Int) a2)) ++ ([a3] : List Int)) ++ (cut ((a0).b) a2 (((a0).b).length : Int))).length ((((([] : List Int) ++ (cut ((a0).b) (0 : Int) a2)) ++ ([a3] : List Int)) ++ (cut ((a0).b) a2 (((a0).b).length : Int))).map (Value.int .u8)), blk b0 (#[Value.int .i64 ((a0).room), Value.slice ra51 (((([] : List Int) ++ (cut ((a0).b) (0 : Int) a2)) ++ ([a3] : List Int)) ++ (cut ((a0).b) a2 (((a0).b).length : Int))).length rc52, Value.bool ((a0).gone), Value.bool ((a0).stands)]) 46, row 5 1 (.slice a1_37 ((a0).b).length c1_37) ((a0).b).length (((a0).b).map (Value.int .u8)), R] w0 w := HS
                    refine At.blockEnd ?_
                    refine At.next ?_
                    refine V.keep [] trivial ?_
                    refine V.seq ?_
                    refine V.region ?_
                    refine W.rd (X.assign rfl) rfl rfl rfl ?_
                    refine W.nil ?_
                    refine At.next ?_
                    refine V.keep [(8, Value.bool (true))] ⟨rfl, trivial⟩ ?_
                    refine V.ret ?_
                    replace HS := HS.re [2, 1, 0, 3, 4] (by kernel_rfl)
                    have HS : Sep.St [blk b0 (#[Value.int .i64 ((a0).room), Value.slice ra51 (((([] : List Int) ++ (cut ((a0).b) (0 : Int) a2)) ++ ([a3] : List Int)) ++ (cut ((a0).b) a2 (((a0).b).length : Int))).length rc52, Value.bool ((a0).gone), Value.bool ((a0).stands)]) 46, row 5 1 (.slice ra51 (((([] : List Int) ++ (cut ((a0).b) (0 : Int) a2)) ++ ([a3] : List Int)) ++ (cut ((a0).b) a2 (((a0).b).length : Int))).length rc52) (((([] : List Int) ++ (cut ((a0).b) (0 : Int) a2)) ++ ([a3] : List Int)) ++ (cut ((a0).b) a2 (((a0).b).length : Int))).length ((((([] : List Int) ++ (cut ((a0).b) (0 : Int) a2)) ++ ([a3] : List Int)) ++ (cut ((a0).b) a2 (((a0).b).length : Int))).map (Value.int .u8)), row 5 1 (.slice (some ⟨lb46, 0, none⟩) (([a3] : List Int)).length 1) (([a3] : List Int)).length ((([a3] : List Int)).map (Value.int .u8)), row 5 1 (.slice a1_37 ((a0).b).length c1_37) ((a0).b).length (((a0).b).map (Value.int .u8)), R] w0 w := HS
                    replace HS := signalmanref6_Pipe.close (({ room := (a0).room, b := ((([] : List Int) ++ (cut ((a0).b) (0 : Int) a2)) ++ ([a3] : List Int)) ++ (cut ((a0).b) a2 (((a0).b).length : Int)), gone := (a0).gone, stands := (a0).stands } : signalmanref6_Pipe)) trivial HS
                    have HS : Sep.St [signalmanref6_Pipe.at b0 (({ room := (a0).room, b := ((([] : List Int) ++ (cut ((a0).b) (0 : Int) a2)) ++ ([a3] : List Int)) ++ (cut ((a0).b) a2 (((a0).b).length : Int)), gone := (a0).gone, stands := (a0).stands } : signalmanref6_Pipe)), row 5 1 (.slice (some ⟨lb46, 0, none⟩) (([a3] : List Int)).length 1) (([a3] : List Int)).length ((([a3] : List Int)).map (Value.int .u8)), row 5 1 (.slice a1_37 ((a0).b).length c1_37) ((a0).b).length (((a0).b).map (Value.int .u8)), R] w0 w := HS
                    replace HS := HS.sel [0, 3] [1, 2] (by kernel_rfl)
                    cases H
                    exact At.ret1 rfl rfl ⟨_, rfl, rfl, HS⟩
                  · have HS : Sep.St [blk b0 (#[Value.int .i64 ((a0).room), Value.slice a1_37 ((a0).b).length c1_37, Value.bool ((a0).gone), Value.bool ((a0).stands)]) 46, row 5 1 (.slice a1_37 ((a0).b).length c1_37) ((a0).b).length (((a0).b).map (Value.int .u8)), R] w0 w := HS
                    refine ⟨_, Y.litB (e := 5) (sz := 1) (vs := #[(0, Value.int .u8 (a3))]) [Value.int .u8 (a3)] HS (fun a ha => by simp only [List.map_toArray, List.map_cons, List.map_nil]; rw [ha.ev (x := .tmp 99) (v := Value.int .u8 (a3)) rfl]; try rfl) rfl (by decide) (fun _ => by kernel_rfl), ?_⟩
                    rintro _ w ⟨lb55, rfl, HS⟩
                    have HS : Sep.St [row 5 1 (.slice (some ⟨lb55, 0, none⟩) (([a3] : List Int)).length 1) (([a3] : List Int)).length ((([a3] : List Int)).map (Value.int .u8)), blk b0 (#[Value.int .i64 ((a0).room), Value.slice a1_37 ((a0).b).length c1_37, Value.bool ((a0).gone), Value.bool ((a0).stands)]) 46, row 5 1 (.slice a1_37 ((a0).b).length c1_37) ((a0).b).length (((a0).b).map (Value.int .u8)), R] w0 w := HS
                    refine ⟨[(100, Value.slice (some ⟨lb55, 0, none⟩) (([a3] : List Int)).length 1)], fun w => Sep.St [row 5 1 (.slice (some ⟨lb55, 0, none⟩) (([a3] : List Int)).length 1) (([a3] : List Int)).length ((([a3] : List Int)).map (Value.int .u8)), blk b0 (#[Value.int .i64 ((a0).room), Value.slice a1_37 ((a0).b).length c1_37, Value.bool ((a0).gone), Value.bool ((a0).stands)]) 46, row 5 1 (.slice a1_37 ((a0).b).length c1_37) ((a0).b).length (((a0).b).map (Value.int .u8)), R] w0 w, ⟨.inl ⟨rfl, rfl⟩, trivial⟩, ?_, HS⟩
                    refine T.event _ [(97, Value.slice (vaddr a1_37 c1_37 ((0 : Int)).toNat 1) (cut ((a0).b) (0 : Int) a2).length (c1_37 - ((0 : Int)).toNat))] rfl rfl ⟨⟨_, Value.pointer (some ⟨b0, 0, none⟩), [(0, Value.pointer (some ⟨b0, 0, none⟩))], 91, rfl, rfl, ⟨.inl ⟨rfl, rfl⟩, trivial⟩, .run rfl (fun w HS => X.move rfl), rfl, rfl, rfl⟩, ⟨_, Value.pointer (some ⟨b0, 0, none⟩), [(0, Value.pointer (some ⟨b0, 0, none⟩))], 92, rfl, rfl, ⟨.inl ⟨rfl, rfl⟩, trivial⟩, .run rfl (fun w HS => X.move rfl), rfl, rfl, rfl⟩, ⟨_, Value.pointer (some ⟨b0, 0, none⟩), [(92, Value.pointer (some ⟨b0, 0, none⟩))], 93, rfl, rfl, ⟨.inr ⟨rfl, rfl⟩, trivial⟩, .run rfl (fun w HS => X.nilCheck rfl), rfl, rfl, rfl⟩, ⟨_, Value.pointer (some ⟨b0, 0 + 1, none⟩), [(93, Value.pointer (some ⟨b0, 0, none⟩))], 94, rfl, rfl, ⟨.inr ⟨rfl, rfl⟩, trivial⟩, .run rfl (fun w HS => X.fieldAddr 1 fo46_1 rfl), rfl, rfl, rfl⟩, ⟨_, Value.slice a1_37 ((a0).b).length c1_37, [(94, Value.pointer (some ⟨b0, 0 + 1, none⟩))], 95, rfl, rfl, ⟨.inr ⟨rfl, rfl⟩, trivial⟩, .run rfl (fun w HS => X.loadAt 1 HS rfl Try.underlying27 rfl rfl rfl), rfl, rfl, rfl⟩, ⟨_, Value.int .i64 (a2), [(2, Value.int .i64 (a2))], 96, rfl, rfl, ⟨.inl ⟨rfl, rfl⟩, trivial⟩, .run rfl (fun w HS => X.move rfl), rfl, rfl, rfl⟩, ⟨_, Value.slice (vaddr a1_37 c1_37 ((0 : Int)).toNat 1) (cut ((a0).b) (0 : Int) a2).length (c1_37 - ((0 : Int)).toNat), [(95, Value.slice a1_37 ((a0).b).length c1_37), (96, Value.int .i64 (a2))], 97, rfl, rfl, ⟨.inr ⟨rfl, rfl⟩, ⟨.inr ⟨rfl, rfl⟩, trivial⟩⟩, .run rfl (fun w HS => X.slH Try.underlying27 inf5 rfl rfl c39 ((rdC.at 2 row_rd HS rfl)).cap), rfl, rfl, rfl⟩, ⟨_, Value.pointer (some ⟨b0, 0, none⟩), [(0, Value.pointer (some ⟨b0, 0, none⟩))], 102, rfl, rfl, ⟨.inl ⟨rfl, rfl⟩, trivial⟩, .run rfl (fun w HS => X.move rfl), rfl, rfl, rfl⟩, ⟨_, Value.pointer (some ⟨b0, 0, none⟩), [(102, Value.pointer (some ⟨b0, 0, none⟩))], 103, rfl, rfl, ⟨.inr ⟨rfl, rfl⟩, trivial⟩, .run rfl (fun w HS => X.nilCheck rfl), rfl, rfl, rfl⟩, ⟨_, Value.pointer (some ⟨b0, 0 + 1, none⟩), [(103, Value.pointer (some ⟨b0, 0, none⟩))], 104, rfl, rfl, ⟨.inr ⟨rfl, rfl⟩, trivial⟩, .run rfl (fun w HS => X.fieldAddr 1 fo46_1 rfl), rfl, rfl, rfl⟩, ⟨_, Value.slice a1_37 ((a0).b).length c1_37, [(104, Value.pointer (some ⟨b0, 0 + 1, none⟩))], 105, rfl, rfl, ⟨.inr ⟨rfl, rfl⟩, trivial⟩, .run rfl (fun w HS => X.loadAt 1 HS rfl Try.underlying27 rfl rfl rfl), rfl, rfl, rfl⟩, ⟨_, Value.int .i64 (a2), [(2, Value.int .i64 (a2))], 106, rfl, rfl, ⟨.inl ⟨rfl, rfl⟩, trivial⟩, .run rfl (fun w HS => X.move rfl), rfl, rfl, rfl⟩, ⟨_, Value.slice (vaddr a1_37 c1_37 (a2).toNat 1) (cut ((a0).b) a2 (((a0).b).length : Int)).length (c1_37 - (a2).toNat), [(105, Value.slice a1_37 ((a0).b).length c1_37), (106, Value.int .i64 (a2))], 107, rfl, rfl, ⟨.inr ⟨rfl, rfl⟩, ⟨.inr ⟨rfl, rfl⟩, trivial⟩⟩, .run rfl (fun w HS => X.slL Try.underlying27 inf5 rfl rfl c40), rfl, rfl, rfl⟩, trivial⟩ rfl ⟨.inr ⟨rfl, rfl⟩, trivial⟩ (Or.inl rfl) (by intro d hd; cases hd; exact ⟨by decide, rfl, rfl⟩) [18, 19] [1, 2, 3, 4, 5, 6] rfl rfl (fun w HS => ?_)
                    have HS : Sep.St [row 5 1 (.slice (some ⟨lb55, 0, none⟩) (([a3] : List Int)).length 1) (([a3] : List Int)).length ((([a3] : List Int)).map (Value.int .u8)), blk b0 (#[Value.int .i64 ((a0).room), Value.slice a1_37 ((a0).b).length c1_37, Value.bool ((a0).gone), Value.bool ((a0).stands)]) 46, row 5 1 (.slice a1_37 ((a0).b).length c1_37) ((a0).b).length (((a0).b).map (Value.int .u8)), R] w0 w := HS
                    obtain ⟨c56, H⟩ := ite_n H
                    replace HS := row_nil' (e := 5) 1 none HS
                    have HS : Sep.St [row 5 1 (.slice none (([] : List Int)).length 0) (([] : List Int)).length ((([] : List Int)).map (Value.int .u8)), row 5 1 (.slice (some ⟨lb55, 0, none⟩) (([a3] : List Int)).length 1) (([a3] : List Int)).length ((([a3] : List Int)).map (Value.int .u8)), blk b0 (#[Value.int .i64 ((a0).room), Value.slice a1_37 ((a0).b).length c1_37, Value.bool ((a0).gone), Value.bool ((a0).stands)]) 46, row 5 1 (.slice a1_37 ((a0).b).length c1_37) ((a0).b).length (((a0).b).map (Value.int .u8)), R] w0 w := HS
                    refine ⟨_, Y.appF (Value.int .u8) (fun _ => rfl) 0 Try.underlying27 ap5 rfl HS rfl rfl rfl (rdC.at 3 (rdC.subM row_rd c39) HS rfl) (by omega) (by omega), ?_⟩
                    rintro _ w ⟨ra57, rc58, rfl, HS⟩
                    have HS : Sep.St [row 5 1 (.slice ra57 (([] : List Int) ++ (cut ((a0).b) (0 : Int) a2)).length rc58) (([] : List Int) ++ (cut ((a0).b) (0 : Int) a2)).length ((([] : List Int) ++ (cut ((a0).b) (0 : Int) a2)).map (Value.int .u8)), row 5 1 (.slice (some ⟨lb55, 0, none⟩) (([a3] : List Int)).length 1) (([a3] : List Int)).length ((([a3] : List Int)).map (Value.int .u8)), blk b0 (#[Value.int .i64 ((a0).room), Value.slice a1_37 ((a0).b).length c1_37, Value.bool ((a0).gone), Value.bool ((a0).stands)]) 46, row 5 1 (.slice a1_37 ((a0).b).length c1_37) ((a0).b).length (((a0).b).map (Value.int .u8)), R] w0 w := HS
                    refine ⟨[(98, Value.slice ra57 (([] : List Int) ++ (cut ((a0).b) (0 : Int) a2)).length rc58)], fun w => Sep.St [row 5 1 (.slice ra57 (([] : List Int) ++ (cut ((a0).b) (0 : Int) a2)).length rc58) (([] : List Int) ++ (cut ((a0).b) (0 : Int) a2)).length ((([] : List Int) ++ (cut ((a0).b) (0 : Int) a2)).map (Value.int .u8)), row 5 1 (.slice (some ⟨lb55, 0, none⟩) (([a3] : List Int)).length 1) (([a3] : List Int)).length ((([a3] : List Int)).map (Value.int .u8)), blk b0 (#[Value.int .i64 ((a0).room), Value.slice a1_37 ((a0).b).length c1_37, Value.bool ((a0).gone), Value.bool ((a0).stands)]) 46, row 5 1 (.slice a1_37 ((a0).b).length c1_37) ((a0).b).length (((a0).b).map (Value.int .u8)), R] w0 w, ⟨.inl ⟨rfl, rfl⟩, trivial⟩, ?_, HS⟩
                    refine T.event _ [(98, Value.slice ra57 (([] : List Int) ++ (cut ((a0).b) (0 : Int) a2)).length rc58), (100, Value.slice (some ⟨lb55, 0, none⟩) (([a3] : List Int)).length 1)] rfl rfl ⟨⟨_, Value.pointer (some ⟨b0, 0, none⟩), [(0, Value.pointer (some ⟨b0, 0, none⟩))], 91, rfl, rfl, ⟨.inl ⟨rfl, rfl⟩, trivial⟩, .run rfl (fun w HS => X.move rfl), rfl, rfl, rfl⟩, ⟨_, Value.pointer (some ⟨b0, 0, none⟩), [(0, Value.pointer (some ⟨b0, 0, none⟩))], 102, rfl, rfl, ⟨.inl ⟨rfl, rfl⟩, trivial⟩, .run rfl (fun w HS => X.move rfl), rfl, rfl, rfl⟩, ⟨_, Value.pointer (some ⟨b0, 0, none⟩), [(102, Value.pointer (some ⟨b0, 0, none⟩))], 103, rfl, rfl, ⟨.inr ⟨rfl, rfl⟩, trivial⟩, .run rfl (fun w HS => X.nilCheck rfl), rfl, rfl, rfl⟩, ⟨_, Value.pointer (some ⟨b0, 0 + 1, none⟩), [(103, Value.pointer (some ⟨b0, 0, none⟩))], 104, rfl, rfl, ⟨.inr ⟨rfl, rfl⟩, trivial⟩, .run rfl (fun w HS => X.fieldAddr 1 fo46_1 rfl), rfl, rfl, rfl⟩, ⟨_, Value.slice a1_37 ((a0).b).length c1_37, [(104, Value.pointer (some ⟨b0, 0 + 1, none⟩))], 105, rfl, rfl, ⟨.inr ⟨rfl, rfl⟩, trivial⟩, .run rfl (fun w HS => X.loadAt 2 HS rfl Try.underlying27 rfl rfl rfl), rfl, rfl, rfl⟩, ⟨_, Value.int .i64 (a2), [(2, Value.int .i64 (a2))], 106, rfl, rfl, ⟨.inl ⟨rfl, rfl⟩, trivial⟩, .run rfl (fun w HS => X.move rfl), rfl, rfl, rfl⟩, ⟨_, Value.slice (vaddr a1_37 c1_37 (a2).toNat 1) (cut ((a0).b) a2 (((a0).b).length : Int)).length (c1_37 - (a2).toNat), [(105, Value.slice a1_37 ((a0).b).length c1_37), (106, Value.int .i64 (a2))], 107, rfl, rfl, ⟨.inr ⟨rfl, rfl⟩, ⟨.inr ⟨rfl, rfl⟩, trivial⟩⟩, .run rfl (fun w HS => X.slL Try.underlying27 inf5 rfl rfl c40), rfl, rfl, rfl⟩, trivial⟩ rfl ⟨.inr ⟨rfl, rfl⟩, ⟨.inr ⟨rfl, rfl⟩, trivial⟩⟩ (Or.inl rfl) (by intro d hd; cases hd; exact ⟨by decide, rfl, rfl⟩) [18, 19] [] rfl rfl (fun w HS => ?_)
                    have HS : Sep.St [row 5 1 (.slice ra57 (([] : List Int) ++ (cut ((a0).b) (0 : Int) a2)).length rc58) (([] : List Int) ++ (cut ((a0).b) (0 : Int) a2)).length ((([] : List Int) ++ (cut ((a0).b) (0 : Int) a2)).map (Value.int .u8)), row 5 1 (.slice (some ⟨lb55, 0, none⟩) (([a3] : List Int)).length 1) (([a3] : List Int)).length ((([a3] : List Int)).map (Value.int .u8)), blk b0 (#[Value.int .i64 ((a0).room), Value.slice a1_37 ((a0).b).length c1_37, Value.bool ((a0).gone), Value.bool ((a0).stands)]) 46, row 5 1 (.slice a1_37 ((a0).b).length c1_37) ((a0).b).length (((a0).b).map (Value.int .u8)), R] w0 w := HS
                    obtain ⟨c59, H⟩ := ite_n H
                    refine ⟨_, Y.appF (Value.int .u8) (fun _ => rfl) 0 Try.underlying27 ap5 rfl HS rfl rfl rfl (rdC.at 1 row_rd HS rfl) (by omega) (by omega), ?_⟩
                    rintro _ w ⟨ra60, rc61, rfl, HS⟩
                    have HS : Sep.St [row 5 1 (.slice ra60 ((([] : List Int) ++ (cut ((a0).b) (0 : Int) a2)) ++ ([a3] : List Int)).length rc61) ((([] : List Int) ++ (cut ((a0).b) (0 : Int) a2)) ++ ([a3] : List Int)).length (((([] : List Int) ++ (cut ((a0).b) (0 : Int) a2)) ++ ([a3] : List Int)).map (Value.int .u8)), row 5 1 (.slice (some ⟨lb55, 0, none⟩) (([a3] : List Int)).length 1) (([a3] : List Int)).length ((([a3] : List Int)).map (Value.int .u8)), blk b0 (#[Value.int .i64 ((a0).room), Value.slice a1_37 ((a0).b).length c1_37, Value.bool ((a0).gone), Value.bool ((a0).stands)]) 46, row 5 1 (.slice a1_37 ((a0).b).length c1_37) ((a0).b).length (((a0).b).map (Value.int .u8)), R] w0 w := HS
                    refine ⟨[(101, Value.slice ra60 ((([] : List Int) ++ (cut ((a0).b) (0 : Int) a2)) ++ ([a3] : List Int)).length rc61)], fun w => Sep.St [row 5 1 (.slice ra60 ((([] : List Int) ++ (cut ((a0).b) (0 : Int) a2)) ++ ([a3] : List Int)).length rc61) ((([] : List Int) ++ (cut ((a0).b) (0 : Int) a2)) ++ ([a3] : List Int)).length (((([] : List Int) ++ (cut ((a0).b) (0 : Int) a2)) ++ ([a3] : List Int)).map (Value.int .u8)), row 5 1 (.slice (some ⟨lb55, 0, none⟩) (([a3] : List Int)).length 1) (([a3] : List Int)).length ((([a3] : List Int)).map (Value.int .u8)), blk b0 (#[Value.int .i64 ((a0).room), Value.slice a1_37 ((a0).b).length c1_37, Value.bool ((a0).gone), Value.bool ((a0).stands)]) 46, row 5 1 (.slice a1_37 ((a0).b).length c1_37) ((a0).b).length (((a0).b).map (Value.int .u8)), R] w0 w, ⟨.inl ⟨rfl, rfl⟩, trivial⟩, ?_, HS⟩
                    refine T.event _ [(101, Value.slice ra60 ((([] : List Int) ++ (cut ((a0).b) (0 : Int) a2)) ++ ([a3] : List Int)).length rc61), (107, Value.slice (vaddr a1_37 c1_37 (a2).toNat 1) (cut ((a0).b) a2 (((a0).b).length : Int)).length (c1_37 - (a2).toNat))] rfl rfl ⟨⟨_, Value.pointer (some ⟨b0, 0, none⟩), [(0, Value.pointer (some ⟨b0, 0, none⟩))], 91, rfl, rfl, ⟨.inl ⟨rfl, rfl⟩, trivial⟩, .run rfl (fun w HS => X.move rfl), rfl, rfl, rfl⟩, ⟨_, Value.pointer (some ⟨b0, 0, none⟩), [(0, Value.pointer (some ⟨b0, 0, none⟩))], 102, rfl, rfl, ⟨.inl ⟨rfl, rfl⟩, trivial⟩, .run rfl (fun w HS => X.move rfl), rfl, rfl, rfl⟩, ⟨_, Value.pointer (some ⟨b0, 0, none⟩), [(102, Value.pointer (some ⟨b0, 0, none⟩))], 103, rfl, rfl, ⟨.inr ⟨rfl, rfl⟩, trivial⟩, .run rfl (fun w HS => X.nilCheck rfl), rfl, rfl, rfl⟩, ⟨_, Value.pointer (some ⟨b0, 0 + 1, none⟩), [(103, Value.pointer (some ⟨b0, 0, none⟩))], 104, rfl, rfl, ⟨.inr ⟨rfl, rfl⟩, trivial⟩, .run rfl (fun w HS => X.fieldAddr 1 fo46_1 rfl), rfl, rfl, rfl⟩, ⟨_, Value.slice a1_37 ((a0).b).length c1_37, [(104, Value.pointer (some ⟨b0, 0 + 1, none⟩))], 105, rfl, rfl, ⟨.inr ⟨rfl, rfl⟩, trivial⟩, .run rfl (fun w HS => X.loadAt 2 HS rfl Try.underlying27 rfl rfl rfl), rfl, rfl, rfl⟩, ⟨_, Value.int .i64 (a2), [(2, Value.int .i64 (a2))], 106, rfl, rfl, ⟨.inl ⟨rfl, rfl⟩, trivial⟩, .run rfl (fun w HS => X.move rfl), rfl, rfl, rfl⟩, ⟨_, Value.slice (vaddr a1_37 c1_37 (a2).toNat 1) (cut ((a0).b) a2 (((a0).b).length : Int)).length (c1_37 - (a2).toNat), [(105, Value.slice a1_37 ((a0).b).length c1_37), (106, Value.int .i64 (a2))], 107, rfl, rfl, ⟨.inr ⟨rfl, rfl⟩, ⟨.inr ⟨rfl, rfl⟩, trivial⟩⟩, .run rfl (fun w HS => X.slL Try.underlying27 inf5 rfl rfl c40), rfl, rfl, rfl⟩, trivial⟩ rfl ⟨.inr ⟨rfl, rfl⟩, ⟨.inr ⟨rfl, rfl⟩, trivial⟩⟩ (Or.inl rfl) (by intro d hd; cases hd; exact ⟨by decide, rfl, rfl⟩) [] [11, 12, 13, 14, 15, 16] rfl rfl (fun w HS => ?_)
                    have HS : Sep.St [row 5 1 (.slice ra60 ((([] : List Int) ++ (cut ((a0).b) (0 : Int) a2)) ++ ([a3] : List Int)).length rc61) ((([] : List Int) ++ (cut ((a0).b) (0 : Int) a2)) ++ ([a3] : List Int)).length (((([] : List Int) ++ (cut ((a0).b) (0 : Int) a2)) ++ ([a3] : List Int)).map (Value.int .u8)), row 5 1 (.slice (some ⟨lb55, 0, none⟩) (([a3] : List Int)).length 1) (([a3] : List Int)).length ((([a3] : List Int)).map (Value.int .u8)), blk b0 (#[Value.int .i64 ((a0).room), Value.slice a1_37 ((a0).b).length c1_37, Value.bool ((a0).gone), Value.bool ((a0).stands)]) 46, row 5 1 (.slice a1_37 ((a0).b).length c1_37) ((a0).b).length (((a0).b).map (Value.int .u8)), R] w0 w := HS
                    obtain ⟨c62, H⟩ := ite_n H
                    refine ⟨_, Y.appF (Value.int .u8) (fun _ => rfl) 0 Try.underlying27 ap5 rfl HS rfl rfl rfl (rdC.at 3 (rdC.subM row_rd c40) HS rfl) (by omega) (by omega), ?_⟩
                    rintro _ w ⟨ra63, rc64, rfl, HS⟩
                    have HS : Sep.St [row 5 1 (.slice ra63 (((([] : List Int) ++ (cut ((a0).b) (0 : Int) a2)) ++ ([a3] : List Int)) ++ (cut ((a0).b) a2 (((a0).b).length : Int))).length rc64) (((([] : List Int) ++ (cut ((a0).b) (0 : Int) a2)) ++ ([a3] : List Int)) ++ (cut ((a0).b) a2 (((a0).b).length : Int))).length ((((([] : List Int) ++ (cut ((a0).b) (0 : Int) a2)) ++ ([a3] : List Int)) ++ (cut ((a0).b) a2 (((a0).b).length : Int))).map (Value.int .u8)), row 5 1 (.slice (some ⟨lb55, 0, none⟩) (([a3] : List Int)).length 1) (([a3] : List Int)).length ((([a3] : List Int)).map (Value.int .u8)), blk b0 (#[Value.int .i64 ((a0).room), Value.slice a1_37 ((a0).b).length c1_37, Value.bool ((a0).gone), Value.bool ((a0).stands)]) 46, row 5 1 (.slice a1_37 ((a0).b).length c1_37) ((a0).b).length (((a0).b).map (Value.int .u8)), R] w0 w := HS
                    refine ⟨[(108, Value.slice ra63 (((([] : List Int) ++ (cut ((a0).b) (0 : Int) a2)) ++ ([a3] : List Int)) ++ (cut ((a0).b) a2 (((a0).b).length : Int))).length rc64), (109, Value.pointer (some ⟨b0, 0, none⟩)), (110, Value.pointer (some ⟨b0, 0 + 1, none⟩))], fun w => Sep.St [row 5 1 (.slice ra63 (((([] : List Int) ++ (cut ((a0).b) (0 : Int) a2)) ++ ([a3] : List Int)) ++ (cut ((a0).b) a2 (((a0).b).length : Int))).length rc64) (((([] : List Int) ++ (cut ((a0).b) (0 : Int) a2)) ++ ([a3] : List Int)) ++ (cut ((a0).b) a2 (((a0).b).length : Int))).length ((((([] : List Int) ++ (cut ((a0).b) (0 : Int) a2)) ++ ([a3] : List Int)) ++ (cut ((a0).b) a2 (((a0).b).length : Int))).map (Value.int .u8)), row 5 1 (.slice (some ⟨lb55, 0, none⟩) (([a3] : List Int)).length 1) (([a3] : List Int)).length ((([a3] : List Int)).map (Value.int .u8)), blk b0 (#[Value.int .i64 ((a0).room), Value.slice a1_37 ((a0).b).length c1_37, Value.bool ((a0).gone), Value.bool ((a0).stands)]) 46, row 5 1 (.slice a1_37 ((a0).b).length c1_37) ((a0).b).length (((a0).b).map (Value.int .u8)), R] w0 w, ⟨.inl ⟨rfl, rfl⟩, ⟨.inr ⟨by decide, rfl⟩, ⟨.inr ⟨by decide, rfl⟩, trivial⟩⟩⟩, ?_, HS⟩
                    refine T.event _ [(108, Value.slice ra63 (((([] : List Int) ++ (cut ((a0).b) (0 : Int) a2)) ++ ([a3] : List Int)) ++ (cut ((a0).b) a2 (((a0).b).length : Int))).length rc64), (110, Value.pointer (some ⟨b0, 0 + 1, none⟩))] rfl rfl ⟨⟨_, Value.pointer (some ⟨b0, 0, none⟩), [(0, Value.pointer (some ⟨b0, 0, none⟩))], 91, rfl, rfl, ⟨.inl ⟨rfl, rfl⟩, trivial⟩, .run rfl (fun w HS => X.move rfl), rfl, rfl, rfl⟩, ⟨_, Value.pointer (some ⟨b0, 0, none⟩), [(91, Value.pointer (some ⟨b0, 0, none⟩))], 109, rfl, rfl, ⟨.inr ⟨rfl, rfl⟩, trivial⟩, .run rfl (fun w HS => X.nilCheck rfl), rfl, rfl, rfl⟩, ⟨_, Value.pointer (some ⟨b0, 0 + 1, none⟩), [(109, Value.pointer (some ⟨b0, 0, none⟩))], 110, rfl, rfl, ⟨.inr ⟨rfl, rfl⟩, trivial⟩, .run rfl (fun w HS => X.fieldAddr 1 fo46_1 rfl), rfl, rfl, rfl⟩, trivial⟩ rfl ⟨.inr ⟨rfl, rfl⟩, ⟨.inr ⟨rfl, rfl⟩, trivial⟩⟩ (Or.inl rfl) (by intro d hd; cases hd) [] [0, 18, 19] rfl rfl (fun w HS => ?_)
                    have HS : Sep.St [row 5 1 (.slice ra63 (((([] : List Int) ++ (cut ((a0).b) (0 : Int) a2)) ++ ([a3] : List Int)) ++ (cut ((a0).b) a2 (((a0).b).length : Int))).length rc64) (((([] : List Int) ++ (cut ((a0).b) (0 : Int) a2)) ++ ([a3] : List Int)) ++ (cut ((a0).b) a2 (((a0).b).length : Int))).length ((((([] : List Int) ++ (cut ((a0).b) (0 : Int) a2)) ++ ([a3] : List Int)) ++ (cut ((a0).b) a2 (((a0).b).length : Int))).map (Value.int .u8)), row 5 1 (.slice (some ⟨lb55, 0, none⟩) (([a3] : List Int)).length 1) (([a3] : List Int)).length ((([a3] : List Int)).map (Value.int .u8)), blk b0 (#[Value.int .i64 ((a0).room), Value.slice a1_37 ((a0).b).length c1_37, Value.bool ((a0).gone), Value.bool ((a0).stands)]) 46, row 5 1 (.slice a1_37 ((a0).b).length c1_37) ((a0).b).length (((a0).b).map (Value.int .u8)), R] w0 w := HS
                    refine ⟨_, Y.storeAt 2 HS rfl inf27 rfl rfl rfl rfl rfl rfl, ?_⟩
                    rintro _ w HS
                    have HS : Sep.St [row 5 1 (.slice ra63 (((([] : List Int) ++ (cut ((a0).b) (0 : Int) a2)) ++ ([a3] : List Int)) ++ (cut ((a0).b) a2 (((a0).b).length : Int))).length rc64) (((([] : List Int) ++ (cut ((a0).b) (0 : Int) a2)) ++ ([a3] : List Int)) ++ (cut ((a0).b) a2 (((a0).b).length : Int))).length ((((([] : List Int) ++ (cut ((a0).b) (0 : Int) a2)) ++ ([a3] : List Int)) ++ (cut ((a0).b) a2 (((a0).b).length : Int))).map (Value.int .u8)), row 5 1 (.slice (some ⟨lb55, 0, none⟩) (([a3] : List Int)).length 1) (([a3] : List Int)).length ((([a3] : List Int)).map (Value.int .u8)), blk b0 (#[Value.int .i64 ((a0).room), Value.slice ra63 (((([] : List Int) ++ (cut ((a0).b) (0 : Int) a2)) ++ ([a3] : List Int)) ++ (cut ((a0).b) a2 (((a0).b).length : Int))).length rc64, Value.bool ((a0).gone), Value.bool ((a0).stands)]) 46, row 5 1 (.slice a1_37 ((a0).b).length c1_37) ((a0).b).length (((a0).b).map (Value.int .u8)), R] w0 w := HS
                    refine ⟨[], fun w => Sep.St [row 5 1 (.slice ra63 (((([] : List Int) ++ (cut ((a0).b) (0 : Int) a2)) ++ ([a3] : List Int)) ++ (cut ((a0).b) a2 (((a0).b).length : Int))).length rc64) (((([] : List Int) ++ (cut ((a0).b) (0 : Int) a2)) ++ ([a3] : List Int)) ++ (cut ((a0).b) a2 (((a0).b).length : Int))).length ((((([] : List Int) ++ (cut ((a0).b) (0 : Int) a2)) ++ ([a3] : List Int)) ++ (cut ((a0).b) a2 (((a0).b).length : Int))).map (Value.int .u8)), row 5 1 (.slice (some ⟨lb55, 0, none⟩) (([a3] : List Int)).length 1) (([a3] : List Int)).length ((([a3] : List Int)).map (Value.int .u8)), blk b0 (#[Value.int .i64 ((a0).room), Value.slice ra63 (((([] : List Int) ++ (cut ((a0).b) (0 : Int) a2)) ++ ([a3] : List Int)) ++ (cut ((a0).b) a2 (((a0).b).length : Int))).length rc64, Value.bool ((a0).gone), Value.bool ((a0).stands)]) 46, row 5 1 (.slice a1_37 ((a0).b).length c1_37) ((a0).b).length (((a0).b).map (Value.int .u8)), R] w0 w, trivial, ?_, HS⟩
                    refine T.fin [] rfl trivial trivial (fun w HS => ?_)
                    have HS : Sep.St [row 5 1 (.slice ra63 (((([] : List Int) ++ (cut ((a0).b) (0 : Int) a2)) ++ ([a3] : List Int)) ++ (cut ((a0).b) a2 (((a0).b).length : Int))).length rc64) (((([] : List Int) ++ (cut ((a0).b) (0 : Int) a2)) ++ ([a3] : List Int)) ++ (cut ((a0).b) a2 (((a0).b).length : Int))).length ((((([] : List Int) ++ (cut ((a0).b) (0 : Int) a2)) ++ ([a3] : List Int)) ++ (cut ((a0).b) a2 (((a0).b).length : Int))).map (Value.int .u8)), row 5 1 (.slice (some ⟨lb55, 0, none⟩) (([a3] : List Int)).length 1) (([a3] : List Int)).length ((([a3] : List Int)).map (Value.int .u8)), blk b0 (#[Value.int .i64 ((a0).room), Value.slice ra63 (((([] : List Int) ++ (cut ((a0).b) (0 : Int) a2)) ++ ([a3] : List Int)) ++ (cut ((a0).b) a2 (((a0).b).length : Int))).length rc64, Value.bool ((a0).gone), Value.bool ((a0).stands)]) 46, row 5 1 (.slice a1_37 ((a0).b).length c1_37) ((a0).b).length (((a0).b).map (Value.int .u8)), R] w0 w := HS
                    refine At.blockEnd ?_
                    refine At.next ?_
                    refine V.keep [] trivial ?_
                    refine V.seq ?_
                    refine V.region ?_
                    refine W.rd (X.assign rfl) rfl rfl rfl ?_
                    refine W.nil ?_
                    refine At.next ?_
                    refine V.keep [(8, Value.bool (true))] ⟨rfl, trivial⟩ ?_
                    refine V.ret ?_
                    replace HS := HS.re [2, 0, 1, 3, 4] (by kernel_rfl)
                    have HS : Sep.St [blk b0 (#[Value.int .i64 ((a0).room), Value.slice ra63 (((([] : List Int) ++ (cut ((a0).b) (0 : Int) a2)) ++ ([a3] : List Int)) ++ (cut ((a0).b) a2 (((a0).b).length : Int))).length rc64, Value.bool ((a0).gone), Value.bool ((a0).stands)]) 46, row 5 1 (.slice ra63 (((([] : List Int) ++ (cut ((a0).b) (0 : Int) a2)) ++ ([a3] : List Int)) ++ (cut ((a0).b) a2 (((a0).b).length : Int))).length rc64) (((([] : List Int) ++ (cut ((a0).b) (0 : Int) a2)) ++ ([a3] : List Int)) ++ (cut ((a0).b) a2 (((a0).b).length : Int))).length ((((([] : List Int) ++ (cut ((a0).b) (0 : Int) a2)) ++ ([a3] : List Int)) ++ (cut ((a0).b) a2 (((a0).b).length : Int))).map (Value.int .u8)), row 5 1 (.slice (some ⟨lb55, 0, none⟩) (([a3] : List Int)).length 1) (([a3] : List Int)).length ((([a3] : List Int)).map (Value.int .u8)), row 5 1 (.slice a1_37 ((a0).b).length c1_37) ((a0).b).length (((a0).b).map (Value.int .u8)), R] w0 w := HS
                    replace HS := signalmanref6_Pipe.close (({ room := (a0).room, b := ((([] : List Int) ++ (cut ((a0).b) (0 : Int) a2)) ++ ([a3] : List Int)) ++ (cut ((a0).b) a2 (((a0).b).length : Int)), gone := (a0).gone, stands := (a0).stands } : signalmanref6_Pipe)) trivial HS
                    have HS : Sep.St [signalmanref6_Pipe.at b0 (({ room := (a0).room, b := ((([] : List Int) ++ (cut ((a0).b) (0 : Int) a2)) ++ ([a3] : List Int)) ++ (cut ((a0).b) a2 (((a0).b).length : Int)), gone := (a0).gone, stands := (a0).stands } : signalmanref6_Pipe)), row 5 1 (.slice (some ⟨lb55, 0, none⟩) (([a3] : List Int)).length 1) (([a3] : List Int)).length ((([a3] : List Int)).map (Value.int .u8)), row 5 1 (.slice a1_37 ((a0).b).length c1_37) ((a0).b).length (((a0).b).map (Value.int .u8)), R] w0 w := HS
                    replace HS := HS.sel [0, 3] [1, 2] (by kernel_rfl)
                    cases H
                    exact At.ret1 rfl rfl ⟨_, rfl, rfl, HS⟩
            · replace H := ite_f c32 H
              refine V.condF (sb (decide_eq_false c32)) ?_
              refine V.seq ?_
              refine V.region ?_
              refine W.rd (X.assign rfl) rfl rfl rfl ?_
              refine W.nil ?_
              refine At.next ?_
              refine V.keep [(8, Value.bool (false))] ⟨rfl, trivial⟩ ?_
              refine V.ret ?_
              refine At.blockRet ?_
              refine At.thenRet ?_
              cases H
              exact At.ret1 rfl rfl ⟨_, rfl, rfl, HS⟩

/-! ### (*signalman/pipe.Pipe).Len: function 10 -/
def pipe_Pipe_Len.f (a0 : pipe_Pipe) : Option (Int) := some ((((a0).b).length : Int))
set_option maxRecDepth 100000 in
set_option maxHeartbeats 4000000 in
theorem pipe_Pipe_Len.calls (a0 : pipe_Pipe) (R : As) (w0 w : World) (b0 : Nat) (a1_p0 : Option Addr) (c1_p0 : Nat) (r : Int)  (H : pipe_Pipe_Len.f a0 = some r) (HS : Sep.St [blk b0 (#[Value.int .i64 ((a0).room), Value.slice a1_p0 ((a0).b).length c1_p0, Value.bool ((a0).cut), Value.bool ((a0).stall)]) 42, row 5 1 (.slice a1_p0 ((a0).b).length c1_p0) ((a0).b).length (((a0).b).map (Value.int .u8)), R] w0 w) : Calls Try.prog 10 #[Value.pointer (some ⟨b0, 0, none⟩)] w (Ret fun u w => u = Value.int .i64 (r) ∧ Sep.St [blk b0 (#[Value.int .i64 ((a0).room), Value.slice a1_p0 ((a0).b).length c1_p0, Value.bool ((a0).cut), Value.bool ((a0).stall)]) 42, row 5 1 (.slice a1_p0 ((a0).b).length c1_p0) ((a0).b).length (((a0).b).map (Value.int .u8)), R] w0 w) := by
  unfold pipe_Pipe_Len.f at H
  refine calls_enter Try.func10 rfl rfl ?_
  have H : _ = some r := H
  refine V.seq ?_
  refine V.region ?_
  refine W.rd (X.assign rfl) rfl rfl rfl ?_
  refine W.nil ?_
  refine At.next ?_
  refine V.keep [(0, Value.pointer (some ⟨b0, 0, none⟩))] ⟨rfl, trivial⟩ ?_
  refine V.seq ?_
  refine V.region ?_
  refine W.rd (X.move rfl) rfl rfl rfl ?_
  refine W.rd (X.nilCheck rfl) rfl rfl rfl ?_
  refine W.rd (X.fieldAddr 1 fo42_1 rfl) rfl rfl rfl ?_
  refine W.rd (X.loadAt 0 HS rfl Try.underlying27 rfl rfl rfl) rfl rfl rfl ?_
  refine W.rd (X.lenSl Try.underlying27 rfl) rfl rfl rfl ?_
  refine W.rd (X.assign rfl) rfl rfl rfl ?_
  refine W.nil ?_
  refine At.next ?_
  refine V.keep [(2, Value.int .i64 ((((a0).b).length : Int)))] ⟨rfl, trivial⟩ ?_
  refine V.ret ?_
  cases H
  exact At.ret1 rfl rfl ⟨_, rfl, rfl, HS⟩

/-! ### (*signalman/signalmanref6.Pipe).Len: function 17 -/
def signalmanref6_Pipe_Len.f (a0 : signalmanref6_Pipe) : Option (Int) := some ((((a0).b).length : Int))
set_option maxRecDepth 100000 in
set_option maxHeartbeats 4000000 in
theorem signalmanref6_Pipe_Len.calls (a0 : signalmanref6_Pipe) (R : As) (w0 w : World) (b0 : Nat) (a1_p0 : Option Addr) (c1_p0 : Nat) (r : Int)  (H : signalmanref6_Pipe_Len.f a0 = some r) (HS : Sep.St [blk b0 (#[Value.int .i64 ((a0).room), Value.slice a1_p0 ((a0).b).length c1_p0, Value.bool ((a0).gone), Value.bool ((a0).stands)]) 46, row 5 1 (.slice a1_p0 ((a0).b).length c1_p0) ((a0).b).length (((a0).b).map (Value.int .u8)), R] w0 w) : Calls Try.prog 17 #[Value.pointer (some ⟨b0, 0, none⟩)] w (Ret fun u w => u = Value.int .i64 (r) ∧ Sep.St [blk b0 (#[Value.int .i64 ((a0).room), Value.slice a1_p0 ((a0).b).length c1_p0, Value.bool ((a0).gone), Value.bool ((a0).stands)]) 46, row 5 1 (.slice a1_p0 ((a0).b).length c1_p0) ((a0).b).length (((a0).b).map (Value.int .u8)), R] w0 w) := by
  unfold signalmanref6_Pipe_Len.f at H
  refine calls_enter Try.func17 rfl rfl ?_
  have H : _ = some r := H
  refine V.seq ?_
  refine V.region ?_
  refine W.rd (X.assign rfl) rfl rfl rfl ?_
  refine W.nil ?_
  refine At.next ?_
  refine V.keep [(0, Value.pointer (some ⟨b0, 0, none⟩))] ⟨rfl, trivial⟩ ?_
  refine V.seq ?_
  refine V.region ?_
  refine W.rd (X.move rfl) rfl rfl rfl ?_
  refine W.rd (X.nilCheck rfl) rfl rfl rfl ?_
  refine W.rd (X.fieldAddr 1 fo46_1 rfl) rfl rfl rfl ?_
  refine W.rd (X.loadAt 0 HS rfl Try.underlying27 rfl rfl rfl) rfl rfl rfl ?_
  refine W.rd (X.lenSl Try.underlying27 rfl) rfl rfl rfl ?_
  refine W.rd (X.assign rfl) rfl rfl rfl ?_
  refine W.nil ?_
  refine At.next ?_
  refine V.keep [(2, Value.int .i64 ((((a0).b).length : Int)))] ⟨rfl, trivial⟩ ?_
  refine V.ret ?_
  cases H
  exact At.ret1 rfl rfl ⟨_, rfl, rfl, HS⟩

structure signalmanlaw8_Act where
  Way : Int
  N : Int
  Kind : Int
  C : Int
  B : List Int
deriving DecidableEq, Inhabited

def signalmanlaw8_Act.El : El signalmanlaw8_Act := El.iso (El.prod (El.int .i64) (El.prod (El.int .i64) (El.prod (El.int .i64) (El.prod (El.int .u8) (El.prod (El.sl (El.int .u8)) (El.unit)))))) (fun x => (x.Way, (x.N, (x.Kind, (x.C, (x.B, ()))))))
theorem signalmanlaw8_Act.unpack {c : List Value} {x : signalmanlaw8_Act} {L : List As} {w0 w : World} (hs : Sep.St (signalmanlaw8_Act.El.p c x :: L) w0 w) : ∃ a4 : Option Addr, ∃ m4 : Nat, c = [Value.int .i64 (x.Way), Value.int .i64 (x.N), Value.int .i64 (x.Kind), Value.int .u8 (x.C), Value.slice a4 (x.B).length m4] ∧ Sep.St (fsl 1 (.slice a4 (x.B).length m4) (x.B).length ((x.B).map (Value.int .u8)) :: L) w0 w := by
  have hs : Sep.St ((El.prod (El.int .i64) (El.prod (El.int .i64) (El.prod (El.int .i64) (El.prod (El.int .u8) (El.prod (El.sl (El.int .u8)) (El.unit)))))).p c (x.Way, (x.N, (x.Kind, (x.C, (x.B, ()))))) :: L) w0 w := hs
  obtain ⟨c0, r0, e0, hs⟩ := St.prod_open hs
  have hs : Sep.St ((El.int .i64).p c0 x.Way :: (El.prod (El.int .i64) (El.prod (El.int .i64) (El.prod (El.int .u8) (El.prod (El.sl (El.int .u8)) (El.unit))))).p r0 (x.N, (x.Kind, (x.C, (x.B, ())))) :: L) w0 w := hs
  obtain ⟨q0, hs⟩ := St.int_open hs
  have hs : Sep.St ((El.prod (El.int .i64) (El.prod (El.int .i64) (El.prod (El.int .u8) (El.prod (El.sl (El.int .u8)) (El.unit))))).p r0 (x.N, (x.Kind, (x.C, (x.B, ())))) :: L) w0 w := hs
  obtain ⟨c1, r1, e1, hs⟩ := St.prod_open hs
  have hs : Sep.St ((El.int .i64).p c1 x.N :: (El.prod (El.int .i64) (El.prod (El.int .u8) (El.prod (El.sl (El.int .u8)) (El.unit)))).p r1 (x.Kind, (x.C, (x.B, ()))) :: L) w0 w := hs
  obtain ⟨q1, hs⟩ := St.int_open hs
  have hs : Sep.St ((El.prod (El.int .i64) (El.prod (El.int .u8) (El.prod (El.sl (El.int .u8)) (El.unit)))).p r1 (x.Kind, (x.C, (x.B, ()))) :: L) w0 w := hs
  obtain ⟨c2, r2, e2, hs⟩ := St.prod_open hs
  have hs : Sep.St ((El.int .i64).p c2 x.Kind :: (El.prod (El.int .u8) (El.prod (El.sl (El.int .u8)) (El.unit))).p r2 (x.C, (x.B, ())) :: L) w0 w := hs
  obtain ⟨q2, hs⟩ := St.int_open hs
  have hs : Sep.St ((El.prod (El.int .u8) (El.prod (El.sl (El.int .u8)) (El.unit))).p r2 (x.C, (x.B, ())) :: L) w0 w := hs
  obtain ⟨c3, r3, e3, hs⟩ := St.prod_open hs
  have hs : Sep.St ((El.int .u8).p c3 x.C :: (El.prod (El.sl (El.int .u8)) (El.unit)).p r3 (x.B, ()) :: L) w0 w := hs
  obtain ⟨q3, hs⟩ := St.int_open hs
  have hs : Sep.St ((El.prod (El.sl (El.int .u8)) (El.unit)).p r3 (x.B, ()) :: L) w0 w := hs
  obtain ⟨c4, r4, e4, hs⟩ := St.prod_open hs
  have hs : Sep.St ((El.sl (El.int .u8)).p c4 x.B :: (El.unit).p r4 () :: L) w0 w := hs
  obtain ⟨a4, m4, q4, hs⟩ := St.sl_openF (Value.int .u8) (fun t => tie_int t) hs
  have hs : Sep.St (fsl 1 (.slice a4 (x.B).length m4) (x.B).length ((x.B).map (Value.int .u8)) :: (El.unit).p r4 () :: L) w0 w := hs
  replace hs := hs.front 1 rfl
  have hs : Sep.St ((El.unit).p r4 () :: fsl 1 (.slice a4 (x.B).length m4) (x.B).length ((x.B).map (Value.int .u8)) :: L) w0 w := hs
  obtain ⟨qu, hs⟩ := St.unit_open hs
  exact ⟨a4, m4, by rw [e0, q0, e1, q1, e2, q2, e3, q3, e4, q4, qu]; rfl, hs⟩
theorem signalmanlaw8_Act.pack {a4 : Option Addr} {m4 : Nat} {x : signalmanlaw8_Act} {L : List As} {w0 w : World} (hs : Sep.St (fsl 1 (.slice a4 (x.B).length m4) (x.B).length ((x.B).map (Value.int .u8)) :: L) w0 w) : Sep.St (signalmanlaw8_Act.El.p [Value.int .i64 (x.Way), Value.int .i64 (x.N), Value.int .i64 (x.Kind), Value.int .u8 (x.C), Value.slice a4 (x.B).length m4] x :: L) w0 w := by
  have h1 := St.join (m := [fsl 1 (.slice a4 (x.B).length m4) (x.B).length ((x.B).map (Value.int .u8))]) hs
  exact h1.mono fun h hh => ⟨[Value.int .i64 (x.Way)], [Value.int .i64 (x.N), Value.int .i64 (x.Kind), Value.int .u8 (x.C), Value.slice a4 (x.B).length m4], rfl, rfl, ⟨[Value.int .i64 (x.N)], [Value.int .i64 (x.Kind), Value.int .u8 (x.C), Value.slice a4 (x.B).length m4], rfl, rfl, ⟨[Value.int .i64 (x.Kind)], [Value.int .u8 (x.C), Value.slice a4 (x.B).length m4], rfl, rfl, ⟨[Value.int .u8 (x.C)], [Value.slice a4 (x.B).length m4], rfl, rfl, ⟨[Value.slice a4 (x.B).length m4], [], rfl, ⟨_, _, rfl, Sp.fsl 0 hh rfl, int_tie⟩, rfl⟩⟩⟩⟩⟩

def signalmanlaw8_Act.at (b : Nat) (x : signalmanlaw8_Act) : As := fun h => (True) ∧ ∃ a4 : Option Addr, ∃ c4 : Nat, Sp [blk b (#[Value.int .i64 ((x.Way)), Value.int .i64 ((x.N)), Value.int .i64 ((x.Kind)), Value.int .u8 ((x.C)), Value.slice a4 ((x.B)).length c4]) 39, fsl 1 (.slice a4 ((x.B)).length c4) ((x.B)).length (((x.B)).map (Value.int .u8))] h
theorem signalmanlaw8_Act.open {b : Nat} {x : signalmanlaw8_Act} {L : List As} {w0 w : World} (hs : Sep.St (signalmanlaw8_Act.at b x :: L) w0 w) : ∃ a4 : Option Addr, ∃ c4 : Nat, (True) ∧ Sep.St (blk b (#[Value.int .i64 ((x.Way)), Value.int .i64 ((x.N)), Value.int .i64 ((x.Kind)), Value.int .u8 ((x.C)), Value.slice a4 ((x.B)).length c4]) 39 :: fsl 1 (.slice a4 ((x.B)).length c4) ((x.B)).length (((x.B)).map (Value.int .u8)) :: L) w0 w := by
  have h1 := St.pure.1 (show St ((fun h => (True) ∧ (fun h => ∃ a4 : Option Addr, ∃ c4 : Nat, Sp [blk b (#[Value.int .i64 ((x.Way)), Value.int .i64 ((x.N)), Value.int .i64 ((x.Kind)), Value.int .u8 ((x.C)), Value.slice a4 ((x.B)).length c4]) 39, fsl 1 (.slice a4 ((x.B)).length c4) ((x.B)).length (((x.B)).map (Value.int .u8))] h) h) :: L) w0 w from hs)
  obtain ⟨hi, hs⟩ := h1
  obtain ⟨a4, hs⟩ := St.ex.1 (show St ((fun h => ∃ a4 : Option Addr, (fun h => ∃ c4 : Nat, Sp [blk b (#[Value.int .i64 ((x.Way)), Value.int .i64 ((x.N)), Value.int .i64 ((x.Kind)), Value.int .u8 ((x.C)), Value.slice a4 ((x.B)).length c4]) 39, fsl 1 (.slice a4 ((x.B)).length c4) ((x.B)).length (((x.B)).map (Value.int .u8))] h) h) :: L) w0 w from hs)
  obtain ⟨c4, hs⟩ := St.ex.1 (show St ((fun h => ∃ c4 : Nat, (fun h => Sp [blk b (#[Value.int .i64 ((x.Way)), Value.int .i64 ((x.N)), Value.int .i64 ((x.Kind)), Value.int .u8 ((x.C)), Value.slice a4 ((x.B)).length c4]) 39, fsl 1 (.slice a4 ((x.B)).length c4) ((x.B)).length (((x.B)).map (Value.int .u8))] h) h) :: L) w0 w from hs)
  exact ⟨a4, c4, hi, St.open (m := [blk b (#[Value.int .i64 ((x.Way)), Value.int .i64 ((x.N)), Value.int .i64 ((x.Kind)), Value.int .u8 ((x.C)), Value.slice a4 ((x.B)).length c4]) 39, fsl 1 (.slice a4 ((x.B)).length c4) ((x.B)).length (((x.B)).map (Value.int .u8))]) hs⟩
theorem signalmanlaw8_Act.close {b : Nat} (x : signalmanlaw8_Act) {a4 : Option Addr} {c4 : Nat} {L : List As} {w0 w : World} (hi : True) (hs : Sep.St (blk b (#[Value.int .i64 ((x.Way)), Value.int .i64 ((x.N)), Value.int .i64 ((x.Kind)), Value.int .u8 ((x.C)), Value.slice a4 ((x.B)).length c4]) 39 :: fsl 1 (.slice a4 ((x.B)).length c4) ((x.B)).length (((x.B)).map (Value.int .u8)) :: L) w0 w) : Sep.St (signalmanlaw8_Act.at b x :: L) w0 w := by
  have h2 := St.join (m := [blk b (#[Value.int .i64 ((x.Way)), Value.int .i64 ((x.N)), Value.int .i64 ((x.Kind)), Value.int .u8 ((x.C)), Value.slice a4 ((x.B)).length c4]) 39, fsl 1 (.slice a4 ((x.B)).length c4) ((x.B)).length (((x.B)).map (Value.int .u8))]) hs
  exact h2.mono fun h hh => ⟨hi, _, _, hh⟩
end Go.Proofs.Ytcflnobablhdiaa

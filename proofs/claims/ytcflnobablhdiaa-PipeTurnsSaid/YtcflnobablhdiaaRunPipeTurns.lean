/- PipeTurns: the functions that its law reaches, as plain functions, and that the machine's calls come to what these say. Conditions: those that stand at each. -/
import Derived.Test.YtcflnobablhdiaaProg
import Derived.Test.YtcflnobablhdiaaRaw
set_option linter.all false
namespace Go.Proofs.Ytcflnobablhdiaa
open Go.RowKit Go.Proofs.Ytcflnobablhdiaa.Sep Go.Proofs.Ytcflnobablhdiaa.Walk
theorem inf4 : (Try.prog.info? 4).map (·.size) = some 1 := by kernel_rfl
theorem inf5 : (Try.prog.info? 5).map (·.size) = some 1 := by kernel_rfl
theorem inf27 : (Try.prog.info? 27).map (·.size) = some 1 := by kernel_rfl
theorem fo42_0 : fieldOff Try.prog 42 0 = some 0 := by kernel_rfl
theorem fo42_1 : fieldOff Try.prog 42 1 = some 1 := by kernel_rfl
theorem fo42_2 : fieldOff Try.prog 42 2 = some 2 := by kernel_rfl
theorem fo42_3 : fieldOff Try.prog 42 3 = some 3 := by kernel_rfl
theorem ap5 : (Try.prog.info? 5).map (fun i => (i.zero, i.size, i.bytes)) = some (some (.int .u8 0), 1, 1) := by kernel_rfl
theorem mo : Try.prog.follows .mixedOrders = true := by kernel_rfl

structure pipe_Pipe where
  room : Int
  b : List Int
  cut : Bool
  stall : Bool
deriving DecidableEq, Inhabited

def pipe_Pipe.at (b : Nat) (x : pipe_Pipe) : As := fun h => (True) ∧ ∃ a1 : Option Addr, ∃ c1 : Nat, Sp [blk b (#[Value.int .i64 ((x.room)), Value.slice a1 ((x.b)).length c1, Value.bool ((x.cut)), Value.bool ((x.stall))]) 42, row 5 1 (.slice a1 ((x.b)).length c1) ((x.b)).length (((x.b)).map (Value.int .u8))] h
theorem pipe_Pipe.open {b : Nat} {x : pipe_Pipe} {L : List As} {w0 w : World} (hs : Sep.St (pipe_Pipe.at b x :: L) w0 w) : ∃ a1 : Option Addr, ∃ c1 : Nat, (True) ∧ Sep.St (blk b (#[Value.int .i64 ((x.room)), Value.slice a1 ((x.b)).length c1, Value.bool ((x.cut)), Value.bool ((x.stall))]) 42 :: row 5 1 (.slice a1 ((x.b)).length c1) ((x.b)).length (((x.b)).map (Value.int .u8)) :: L) w0 w := by
  have h1 := St.pure.1 (show St ((fun h => (True) ∧ (fun h => ∃ a1 : Option Addr, ∃ c1 : Nat, Sp [blk b (#[Value.int .i64 ((x.room)), Value.slice a1 ((x.b)).length c1, Value.bool ((x.cut)), Value.bool ((x.stall))]) 42, row 5 1 (.slice a1 ((x.b)).length c1) ((x.b)).length (((x.b)).map (Value.int .u8))] h) h) :: L) w0 w from hs)
  obtain ⟨hi, hs⟩ := h1
  obtain ⟨a1, hs⟩ := St.ex.1 (show St ((fun h => ∃ a1 : Option Addr, (fun h => ∃ c1 : Nat, Sp [blk b (#[Value.int .i64 ((x.room)), Value.slice a1 ((x.b)).length c1, Value.bool ((x.cut)), Value.bool ((x.stall))]) 42, row 5 1 (.slice a1 ((x.b)).length c1) ((x.b)).length (((x.b)).map (Value.int .u8))] h) h) :: L) w0 w from hs)
  obtain ⟨c1, hs⟩ := St.ex.1 (show St ((fun h => ∃ c1 : Nat, (fun h => Sp [blk b (#[Value.int .i64 ((x.room)), Value.slice a1 ((x.b)).length c1, Value.bool ((x.cut)), Value.bool ((x.stall))]) 42, row 5 1 (.slice a1 ((x.b)).length c1) ((x.b)).length (((x.b)).map (Value.int .u8))] h) h) :: L) w0 w from hs)
  exact ⟨a1, c1, hi, St.open (m := [blk b (#[Value.int .i64 ((x.room)), Value.slice a1 ((x.b)).length c1, Value.bool ((x.cut)), Value.bool ((x.stall))]) 42, row 5 1 (.slice a1 ((x.b)).length c1) ((x.b)).length (((x.b)).map (Value.int .u8))]) hs⟩
theorem pipe_Pipe.close {b : Nat} (x : pipe_Pipe) {a1 : Option Addr} {c1 : Nat} {L : List As} {w0 w : World} (hi : True) (hs : Sep.St (blk b (#[Value.int .i64 ((x.room)), Value.slice a1 ((x.b)).length c1, Value.bool ((x.cut)), Value.bool ((x.stall))]) 42 :: row 5 1 (.slice a1 ((x.b)).length c1) ((x.b)).length (((x.b)).map (Value.int .u8)) :: L) w0 w) : Sep.St (pipe_Pipe.at b x :: L) w0 w := by
  have h2 := St.join (m := [blk b (#[Value.int .i64 ((x.room)), Value.slice a1 ((x.b)).length c1, Value.bool ((x.cut)), Value.bool ((x.stall))]) 42, row 5 1 (.slice a1 ((x.b)).length c1) ((x.b)).length (((x.b)).map (Value.int .u8))]) hs
  exact h2.mono fun h hh => ⟨hi, _, _, hh⟩

/-! ### signalman/pipe.New: function 8 -/
def pipe_New.f (a0 : Int) : Option (pipe_Pipe) := some (({ room := imax (0) (imin (a0) (1048576)), b := ([] : List Int), cut := false, stall := false } : pipe_Pipe))
set_option maxRecDepth 100000 in
set_option maxHeartbeats 4000000 in
theorem pipe_New.calls (a0 : Int) (R : As) (w0 w : World)  (r : pipe_Pipe)  (H : pipe_New.f a0 = some r) (HS : Sep.St [R] w0 w) : Calls Try.prog 8 #[Value.int .i64 (a0)] w (Ret fun u w => ∃ (bq0 : Nat), u = Value.pointer (some ⟨bq0, 0, none⟩) ∧ Sep.St [pipe_Pipe.at bq0 (r), R] w0 w) := by
  unfold pipe_New.f at H
  refine calls_enter Try.func8 rfl rfl ?_
  have H : _ = some r := H
  refine V.seq ?_
  refine V.region ?_
  refine W.rd (X.assign rfl) rfl rfl rfl ?_
  refine W.nil ?_
  refine At.next ?_
  refine V.keep [(0, Value.int .i64 (a0))] ⟨rfl, trivial⟩ ?_
  refine V.seq ?_
  refine V.region ?_
  refine W.rd (X.move rfl) rfl rfl rfl ?_
  refine W.rd (X.min2 rfl rfl) rfl rfl rfl ?_
  refine W.rd (X.max2 rfl rfl) rfl rfl rfl ?_
  refine W.rd (X.build (vs := #[(0, Value.int .i64 (imax (0) (imin (a0) (1048576))))]) (v := Value.agg #[Value.int .i64 (imax (0) (imin (a0) (1048576))), Value.slice none 0 0, Value.bool (false), Value.bool (false)]) (fun a ha => by simp only [List.map_toArray, List.map_cons, List.map_nil]; rw [ha.ev (x := .tmp 5) (v := Value.int .i64 (imax (0) (imin (a0) (1048576)))) rfl]; try rfl) (fun _ => by kernel_rfl)) rfl rfl rfl ?_
  refine W.ev (Y.box HS rfl) rfl rfl rfl ?_
  rintro _ w ⟨nb1, rfl, HS⟩
  have HS : Sep.St [blk nb1 (#[Value.int .i64 (imax (0) (imin (a0) (1048576))), Value.slice none 0 0, Value.bool (false), Value.bool (false)]) 42, R] w0 w := HS
  refine W.rd (X.assign rfl) rfl rfl rfl ?_
  refine W.nil ?_
  refine At.next ?_
  refine V.keep [(2, Value.pointer (some ⟨nb1, 0, none⟩))] ⟨rfl, trivial⟩ ?_
  refine V.ret ?_
  replace HS := row_nil' (e := 5) 1 none HS
  have HS : Sep.St [row 5 1 (.slice none (([] : List Int)).length 0) (([] : List Int)).length ((([] : List Int)).map (Value.int .u8)), blk nb1 (#[Value.int .i64 (imax (0) (imin (a0) (1048576))), Value.slice none 0 0, Value.bool (false), Value.bool (false)]) 42, R] w0 w := HS
  replace HS := HS.re [1, 0, 2] (by kernel_rfl)
  have HS : Sep.St [blk nb1 (#[Value.int .i64 (imax (0) (imin (a0) (1048576))), Value.slice none (([] : List Int)).length 0, Value.bool (false), Value.bool (false)]) 42, row 5 1 (.slice none (([] : List Int)).length 0) (([] : List Int)).length ((([] : List Int)).map (Value.int .u8)), R] w0 w := HS
  replace HS := pipe_Pipe.close (({ room := imax (0) (imin (a0) (1048576)), b := ([] : List Int), cut := false, stall := false } : pipe_Pipe)) trivial HS
  have HS : Sep.St [pipe_Pipe.at nb1 (({ room := imax (0) (imin (a0) (1048576)), b := ([] : List Int), cut := false, stall := false } : pipe_Pipe)), R] w0 w := HS
  cases H
  exact At.ret1 rfl rfl ⟨_, rfl, nb1, rfl, HS⟩

/-! ### slices.Clone[[]byte,byte]: function 22 -/
def slices_Clone_Sbytebyte.f (a0 : List Int) : Option (List Int) := (if ((([] : List Int)).length : Int) + (a0).length ≤ 1099511627776 then some (([] : List Int) ++ a0) else none)
set_option maxRecDepth 100000 in
set_option maxHeartbeats 4000000 in
theorem slices_Clone_Sbytebyte.calls (a0 : List Int) (R : As) (w0 w : World) (sa0 : Option Addr) (sc0 : Nat) (r : List Int) (hr0 : rdC R 1 (.slice sa0 (a0).length sc0) (a0).length ((a0).map (Value.int .u8))) (H : slices_Clone_Sbytebyte.f a0 = some r) (HS : Sep.St [R] w0 w) : Calls Try.prog 22 #[Value.slice sa0 (a0).length sc0] w (Ret fun u w => ∃ (aq0 : Option Addr) (cq0 : Nat), u = Value.slice aq0 (r).length cq0 ∧ Sep.St [row 5 1 (.slice aq0 (r).length cq0) (r).length ((r).map (Value.int .u8)), R] w0 w) := by
  unfold slices_Clone_Sbytebyte.f at H
  refine calls_enter Try.func22 rfl rfl ?_
  have H : _ = some r := H
  refine V.seq ?_
  refine V.region ?_
  refine W.rd (X.assign rfl) rfl rfl rfl ?_
  refine W.nil ?_
  refine At.next ?_
  refine V.keep [(0, Value.slice sa0 (a0).length sc0)] ⟨rfl, trivial⟩ ?_
  refine V.seq ?_
  refine V.seq ?_
  refine V.region ?_
  refine W.rd (X.move rfl) rfl rfl rfl ?_
  refine W.rd (X.eqSl Try.underlying27 rfl rfl) rfl rfl rfl ?_
  refine W.nil ?_
  refine At.next ?_
  refine V.keep [(0, Value.slice sa0 (a0).length sc0), (4, Value.bool ((sa0).isNone))] ⟨rfl, rfl, trivial⟩ ?_
  by_cases cg1 : (sa0).isNone = false
  · refine V.condF (sb cg1) ?_
    refine V.skip ?_
    refine At.next ?_
    refine V.keep [(0, Value.slice sa0 (a0).length sc0)] ⟨rfl, trivial⟩ ?_
    refine V.seq ?_
    refine V.region ?_
    refine W.ev (Y.lit (e := 5) (sz := 1) (vs := #[]) [] HS (fun a ha => by simp only [List.map_toArray, List.map_cons, List.map_nil]; try rfl) rfl (by decide) (fun _ => by kernel_rfl)) rfl rfl rfl ?_
    rintro _ w ⟨ra4, rc5, rfl, HS⟩
    have HS : Sep.St [row 5 1 (.slice ra4 (([] : List Int)).length rc5) (([] : List Int)).length ((([] : List Int)).map (Value.int .u8)), R] w0 w := HS
    refine W.rd (X.move rfl) rfl rfl rfl ?_
    obtain ⟨c7, H⟩ := ite_n H
    refine W.ev (Y.appF (Value.int .u8) (fun _ => rfl) 0 Try.underlying27 ap5 rfl HS rfl rfl rfl (rdC.at 1 hr0 HS rfl) (by omega) (by omega)) rfl rfl rfl ?_
    rintro _ w ⟨ra8, rc9, rfl, HS⟩
    have HS : Sep.St [row 5 1 (.slice ra8 (([] : List Int) ++ a0).length rc9) (([] : List Int) ++ a0).length ((([] : List Int) ++ a0).map (Value.int .u8)), R] w0 w := HS
    refine W.rd (X.assign rfl) rfl rfl rfl ?_
    refine W.nil ?_
    refine At.next ?_
    refine V.keep [(2, Value.slice ra8 (([] : List Int) ++ a0).length rc9)] ⟨rfl, trivial⟩ ?_
    refine V.ret ?_
    cases H
    exact At.ret1 rfl rfl ⟨_, rfl, ra8, rc9, rfl, HS⟩
  · have hN2 : (sa0).isNone = true := by simpa using cg1
    have hz3 : a0 = [] := List.eq_nil_of_length_eq_zero ((rdC.at 0 hr0 HS rfl).nil (Option.isNone_iff_eq_none.1 hN2)).1
    have H : some (([] : List Int)) = some r := by simpa [hz3] using H
    refine V.condT (sb hN2) ?_
    refine V.seq ?_
    refine V.region ?_
    refine W.rd (X.assign rfl) rfl rfl rfl ?_
    refine W.nil ?_
    refine At.next ?_
    refine V.keep [(2, Value.slice none 0 0)] ⟨rfl, trivial⟩ ?_
    refine V.ret ?_
    refine At.thenRet ?_
    replace HS := row_nil' (e := 5) 1 none HS
    have HS : Sep.St [row 5 1 (.slice none (([] : List Int)).length 0) (([] : List Int)).length ((([] : List Int)).map (Value.int .u8)), R] w0 w := HS
    cases H
    exact At.ret1 rfl rfl ⟨_, rfl, none, 0, rfl, HS⟩

/-! ### slices.Delete[[]byte,byte]: function 23 -/
def slices_Delete_Sbytebyte.f (a0 : List Int) (a1 : Int) (a2 : Int) : Option (List Int) := (if 0 ≤ a1 ∧ a1 ≤ a2 ∧ a2 ≤ ((a0).length : Int) then (if a1 = a2 then some (a0) else (if 0 ≤ (0 : Int) ∧ (0 : Int) ≤ a1 ∧ a1 ≤ ((a0).length : Int) then (if 0 ≤ a2 ∧ a2 ≤ ((a0).length : Int) ∧ ((a0).length : Int) ≤ ((a0).length : Int) then some ((cut a0 (0 : Int) a1) ++ (cut a0 a2 ((a0).length : Int))) else none) else none)) else none)
set_option maxRecDepth 100000 in
set_option maxHeartbeats 4000000 in
theorem slices_Delete_Sbytebyte.calls (a0 : List Int) (a1 : Int) (a2 : Int) (R : As) (w0 w : World) (sa0 : Option Addr) (sc0 : Nat) (r : List Int)  (H : slices_Delete_Sbytebyte.f a0 a1 a2 = some r) (HS : Sep.St [row 5 1 (.slice sa0 (a0).length sc0) (a0).length ((a0).map (Value.int .u8)), R] w0 w) : Calls Try.prog 23 #[Value.slice sa0 (a0).length sc0, Value.int .i64 (a1), Value.int .i64 (a2)] w (Ret fun u w => ∃ (aq0 : Option Addr) (cq0 : Nat), u = Value.slice aq0 (r).length cq0 ∧ Sep.St [row 5 1 (.slice aq0 (r).length cq0) (r).length ((r).map (Value.int .u8)), R] w0 w) := by
  unfold slices_Delete_Sbytebyte.f at H
  refine calls_enter Try.func23 rfl rfl ?_
  have H : _ = some r := H
  refine V.seq ?_
  refine V.region ?_
  refine W.rd (X.assign rfl) rfl rfl rfl ?_
  refine W.nil ?_
  refine At.next ?_
  refine V.keep [(0, Value.slice sa0 (a0).length sc0), (1, Value.int .i64 (a1)), (2, Value.int .i64 (a2))] ⟨rfl, rfl, rfl, trivial⟩ ?_
  refine V.seq ?_
  refine V.region ?_
  refine W.rd (X.move rfl) rfl rfl rfl ?_
  refine W.rd (X.move rfl) rfl rfl rfl ?_
  refine W.rd (X.move rfl) rfl rfl rfl ?_
  refine W.rd (X.move rfl) rfl rfl rfl ?_
  refine W.rd (X.lenSl Try.underlying27 rfl) rfl rfl rfl ?_
  obtain ⟨c1, H⟩ := ite_n H
  refine W.rd (X.sl3 Try.underlying27 inf5 rfl rfl rfl rfl c1 (Int.ofNat_le.2 ((rdC.at 0 row_rd HS rfl)).cap)) rfl rfl rfl ?_
  refine W.nil ?_
  refine At.next ?_
  refine V.keep [(0, Value.slice sa0 (a0).length sc0), (1, Value.int .i64 (a1)), (2, Value.int .i64 (a2))] ⟨rfl, rfl, rfl, trivial⟩ ?_
  refine V.seq ?_
  refine V.seq ?_
  refine V.region ?_
  refine W.rd (X.move rfl) rfl rfl rfl ?_
  refine W.rd (X.move rfl) rfl rfl rfl ?_
  refine W.rd (X.cmp (decide (a1 = a2)) rfl rfl rfl rfl) rfl rfl rfl ?_
  refine W.nil ?_
  refine At.next ?_
  refine V.keep [(0, Value.slice sa0 (a0).length sc0), (1, Value.int .i64 (a1)), (2, Value.int .i64 (a2)), (16, Value.bool (decide (a1 = a2)))] ⟨rfl, rfl, rfl, rfl, trivial⟩ ?_
  by_cases c3 : a1 = a2
  · replace H := ite_t c3 H
    refine V.condT (sb (decide_eq_true c3)) ?_
    refine V.seq ?_
    refine V.region ?_
    refine W.rd (X.move rfl) rfl rfl rfl ?_
    refine W.rd (X.assign rfl) rfl rfl rfl ?_
    refine W.nil ?_
    refine At.next ?_
    refine V.keep [(6, Value.slice sa0 (a0).length sc0)] ⟨rfl, trivial⟩ ?_
    refine V.ret ?_
    refine At.thenRet ?_
    cases H
    exact At.ret1 rfl rfl ⟨_, rfl, sa0, sc0, rfl, HS⟩
  · replace H := ite_f c3 H
    refine V.condF (sb (decide_eq_false c3)) ?_
    refine V.skip ?_
    refine At.next ?_
    refine V.keep [(0, Value.slice sa0 (a0).length sc0), (1, Value.int .i64 (a1)), (2, Value.int .i64 (a2))] ⟨rfl, rfl, rfl, trivial⟩ ?_
    refine V.seq ?_
    refine V.region ?_
    refine W.rd (X.move rfl) rfl rfl rfl ?_
    refine W.rd (X.lenSl Try.underlying27 rfl) rfl rfl rfl ?_
    refine W.rd (X.assign rfl) rfl rfl rfl ?_
    refine W.nil ?_
    refine At.next ?_
    refine V.keep [(0, Value.slice sa0 (a0).length sc0), (1, Value.int .i64 (a1)), (2, Value.int .i64 (a2)), (7, Value.int .i64 (((a0).length : Int)))] ⟨rfl, rfl, rfl, rfl, trivial⟩ ?_
    refine V.seq ?_
    obtain ⟨c4, H⟩ := ite_n H
    obtain ⟨c5, H⟩ := ite_n H
    refine V.draw (es := [6]) (bl := [7]) (f := [(20, Value.slice sa0 (a0).length sc0), (21, Value.int .i64 (a1)), (22, Value.slice (vaddr sa0 sc0 ((0 : Int)).toNat 1) (cut a0 (0 : Int) a1).length (sc0 - ((0 : Int)).toNat)), (23, Value.slice sa0 (a0).length sc0), (24, Value.int .i64 (a2)), (25, Value.slice (vaddr sa0 sc0 (a2).toNat 1) (cut a0 a2 ((a0).length : Int)).length (sc0 - (a2).toNat))]) (fun w => Sep.St [row 5 1 (.slice sa0 (a0).length sc0) (a0).length ((a0).map (Value.int .u8)), R] w0 w) mo HS.drew rfl ?_
    refine T.event _ [(22, Value.slice (vaddr sa0 sc0 ((0 : Int)).toNat 1) (cut a0 (0 : Int) a1).length (sc0 - ((0 : Int)).toNat)), (25, Value.slice (vaddr sa0 sc0 (a2).toNat 1) (cut a0 a2 ((a0).length : Int)).length (sc0 - (a2).toNat))] rfl rfl ⟨⟨_, Value.slice sa0 (a0).length sc0, [(0, Value.slice sa0 (a0).length sc0)], 20, rfl, rfl, ⟨.inl ⟨rfl, rfl⟩, trivial⟩, .run rfl (fun w HS => X.move rfl), rfl, rfl, rfl⟩, ⟨_, Value.int .i64 (a1), [(1, Value.int .i64 (a1))], 21, rfl, rfl, ⟨.inl ⟨rfl, rfl⟩, trivial⟩, .run rfl (fun w HS => X.move rfl), rfl, rfl, rfl⟩, ⟨_, Value.slice (vaddr sa0 sc0 ((0 : Int)).toNat 1) (cut a0 (0 : Int) a1).length (sc0 - ((0 : Int)).toNat), [(20, Value.slice sa0 (a0).length sc0), (21, Value.int .i64 (a1))], 22, rfl, rfl, ⟨.inr ⟨rfl, rfl⟩, ⟨.inr ⟨rfl, rfl⟩, trivial⟩⟩, .run rfl (fun w HS => X.slH Try.underlying27 inf5 rfl rfl c4 ((rdC.at 0 row_rd HS rfl)).cap), rfl, rfl, rfl⟩, ⟨_, Value.slice sa0 (a0).length sc0, [(0, Value.slice sa0 (a0).length sc0)], 23, rfl, rfl, ⟨.inl ⟨rfl, rfl⟩, trivial⟩, .run rfl (fun w HS => X.move rfl), rfl, rfl, rfl⟩, ⟨_, Value.int .i64 (a2), [(2, Value.int .i64 (a2))], 24, rfl, rfl, ⟨.inl ⟨rfl, rfl⟩, trivial⟩, .run rfl (fun w HS => X.move rfl), rfl, rfl, rfl⟩, ⟨_, Value.slice (vaddr sa0 sc0 (a2).toNat 1) (cut a0 a2 ((a0).length : Int)).length (sc0 - (a2).toNat), [(23, Value.slice sa0 (a0).length sc0), (24, Value.int .i64 (a2))], 25, rfl, rfl, ⟨.inr ⟨rfl, rfl⟩, ⟨.inr ⟨rfl, rfl⟩, trivial⟩⟩, .run rfl (fun w HS => X.slL Try.underlying27 inf5 rfl rfl c5), rfl, rfl, rfl⟩, trivial⟩ rfl ⟨.inr ⟨rfl, rfl⟩, ⟨.inr ⟨rfl, rfl⟩, trivial⟩⟩ (Or.inl rfl) (by intro d hd; cases hd; exact ⟨by decide, rfl, rfl⟩) [] [0, 1, 2, 3, 4, 5] rfl rfl (fun w HS => ?_)
    have HS : Sep.St [row 5 1 (.slice sa0 (a0).length sc0) (a0).length ((a0).map (Value.int .u8)), R] w0 w := HS
    have hlt6 : a1 < a2 := by omega
    have hd7 : 0 ≤ a1 ∧ a1 < a2 ∧ a2 ≤ ((a0).length : Int) := by omega
    have hc8 : ((a0).length : Int) ≤ (sc0 : Int) := Int.ofNat_le.2 ((rdC.at 0 row_rd HS rfl)).cap
    have hl9 : (((cut a0 (0 : Int) a1) ++ (cut a0 a2 ((a0).length : Int))).length : Int) ≤ ((a0).length : Int) := by rw [List.length_append, cut_len ⟨by omega, by omega, by omega⟩, cut_len ⟨by omega, by omega, by omega⟩]; omega
    refine ⟨_, Y.appDelF (Value.int .u8) (fun _ => rfl) 0 Try.underlying27 ap5 HS rfl hd7 rfl rfl, ?_⟩
    rintro _ w ⟨rfl, HS⟩
    have HS : Sep.St [row 5 1 (.slice sa0 ((cut a0 (0 : Int) a1) ++ (cut a0 a2 ((a0).length : Int))).length sc0) ((cut a0 (0 : Int) a1) ++ (cut a0 a2 ((a0).length : Int))).length (((cut a0 (0 : Int) a1) ++ (cut a0 a2 ((a0).length : Int))).map (Value.int .u8)), R] w0 w := HS
    refine ⟨[(26, Value.slice sa0 ((cut a0 (0 : Int) a1) ++ (cut a0 a2 ((a0).length : Int))).length sc0), (0, Value.slice sa0 ((cut a0 (0 : Int) a1) ++ (cut a0 a2 ((a0).length : Int))).length sc0)], fun w => Sep.St [row 5 1 (.slice sa0 ((cut a0 (0 : Int) a1) ++ (cut a0 a2 ((a0).length : Int))).length sc0) ((cut a0 (0 : Int) a1) ++ (cut a0 a2 ((a0).length : Int))).length (((cut a0 (0 : Int) a1) ++ (cut a0 a2 ((a0).length : Int))).map (Value.int .u8)), R] w0 w, ⟨.inl ⟨rfl, rfl⟩, ⟨.inr ⟨by decide, rfl⟩, trivial⟩⟩, ?_, HS⟩
    refine T.fin [(0, Value.slice sa0 ((cut a0 (0 : Int) a1) ++ (cut a0 a2 ((a0).length : Int))).length sc0), (7, Value.int .i64 (((a0).length : Int)))] rfl ⟨⟨_, Value.slice sa0 ((cut a0 (0 : Int) a1) ++ (cut a0 a2 ((a0).length : Int))).length sc0, [(26, Value.slice sa0 ((cut a0 (0 : Int) a1) ++ (cut a0 a2 ((a0).length : Int))).length sc0)], 0, rfl, rfl, ⟨.inr ⟨rfl, rfl⟩, trivial⟩, .run rfl (fun w HS => X.assign rfl), rfl, rfl, rfl⟩, trivial⟩ ⟨.inr ⟨rfl, rfl⟩, ⟨.inl ⟨rfl, rfl⟩, trivial⟩⟩ (fun w HS => ?_)
    have HS : Sep.St [row 5 1 (.slice sa0 ((cut a0 (0 : Int) a1) ++ (cut a0 a2 ((a0).length : Int))).length sc0) ((cut a0 (0 : Int) a1) ++ (cut a0 a2 ((a0).length : Int))).length (((cut a0 (0 : Int) a1) ++ (cut a0 a2 ((a0).length : Int))).map (Value.int .u8)), R] w0 w := HS
    refine At.next ?_
    refine V.keep [(0, Value.slice sa0 ((cut a0 (0 : Int) a1) ++ (cut a0 a2 ((a0).length : Int))).length sc0), (7, Value.int .i64 (((a0).length : Int)))] ⟨rfl, rfl, trivial⟩ ?_
    refine V.seq ?_
    refine V.region ?_
    refine W.rd (X.move rfl) rfl rfl rfl ?_
    refine W.rd (X.move rfl) rfl rfl rfl ?_
    refine W.rd (X.lenSl Try.underlying27 rfl) rfl rfl rfl ?_
    refine W.rd (X.move rfl) rfl rfl rfl ?_
    refine W.rd (X.slC Try.underlying27 inf5 rfl rfl rfl ⟨by omega, hl9⟩ hc8) rfl rfl rfl ?_
    refine W.ev_none (Y.clearTail (n0 := (a0).length) 0 Try.underlying27 ap5 rfl rfl HS rfl (Int.ofNat_le.1 hl9) (Int.ofNat_le.1 hc8) rfl) rfl rfl ?_
    rintro _ w HS
    have HS : Sep.St [row 5 1 (.slice sa0 ((cut a0 (0 : Int) a1) ++ (cut a0 a2 ((a0).length : Int))).length sc0) ((cut a0 (0 : Int) a1) ++ (cut a0 a2 ((a0).length : Int))).length (((cut a0 (0 : Int) a1) ++ (cut a0 a2 ((a0).length : Int))).map (Value.int .u8)), R] w0 w := HS
    refine W.nil ?_
    refine At.next ?_
    refine V.keep [(0, Value.slice sa0 ((cut a0 (0 : Int) a1) ++ (cut a0 a2 ((a0).length : Int))).length sc0)] ⟨rfl, trivial⟩ ?_
    refine V.seq ?_
    refine V.region ?_
    refine W.rd (X.move rfl) rfl rfl rfl ?_
    refine W.rd (X.assign rfl) rfl rfl rfl ?_
    refine W.nil ?_
    refine At.next ?_
    refine V.keep [(6, Value.slice sa0 ((cut a0 (0 : Int) a1) ++ (cut a0 a2 ((a0).length : Int))).length sc0)] ⟨rfl, trivial⟩ ?_
    refine V.ret ?_
    cases H
    exact At.ret1 rfl rfl ⟨_, rfl, sa0, sc0, rfl, HS⟩

/-! ### (*signalman/pipe.Pipe).gone: function 19 -/
def pipe_Pipe_gone.f (a0 : pipe_Pipe) (a1 : Int) : Option (List Int × pipe_Pipe) := (if 0 ≤ (0 : Int) ∧ (0 : Int) ≤ imax (0) (imin (a1) ((((a0).b).length : Int))) ∧ imax (0) (imin (a1) ((((a0).b).length : Int))) ≤ (((a0).b).length : Int) then ((slices_Clone_Sbytebyte.f (cut ((a0).b) (0 : Int) (imax (0) (imin (a1) ((((a0).b).length : Int)))))).bind fun t4 => ((slices_Delete_Sbytebyte.f ((a0).b) 0 (imax (0) (imin (a1) ((((a0).b).length : Int))))).bind fun t6 => some (t4, ({ room := (a0).room, b := t6, cut := (a0).cut, stall := (a0).stall } : pipe_Pipe)))) else none)
set_option maxRecDepth 100000 in
set_option maxHeartbeats 4000000 in
theorem pipe_Pipe_gone.calls (a0 : pipe_Pipe) (a1 : Int) (R : As) (w0 w : World) (b0 : Nat) (r : List Int × pipe_Pipe)  (H : pipe_Pipe_gone.f a0 a1 = some r) (HS : Sep.St [pipe_Pipe.at b0 (a0), R] w0 w) : Calls Try.prog 19 #[Value.pointer (some ⟨b0, 0, none⟩), Value.int .i64 (a1)] w (Ret fun u w => ∃ (aq0 : Option Addr) (cq0 : Nat), u = Value.slice aq0 (r.1).length cq0 ∧ Sep.St [row 5 1 (.slice aq0 (r.1).length cq0) (r.1).length ((r.1).map (Value.int .u8)), pipe_Pipe.at b0 (r.2), R] w0 w) := by
  unfold pipe_Pipe_gone.f at H
  refine calls_enter Try.func19 rfl rfl ?_
  have H : _ = some r := H
  refine V.seq ?_
  refine V.region ?_
  refine W.rd (X.assign rfl) rfl rfl rfl ?_
  refine W.nil ?_
  refine At.next ?_
  refine V.keep [(0, Value.pointer (some ⟨b0, 0, none⟩)), (1, Value.int .i64 (a1))] ⟨rfl, rfl, trivial⟩ ?_
  refine V.seq ?_
  refine V.region ?_
  refine W.rd (X.move rfl) rfl rfl rfl ?_
  refine W.rd (X.move rfl) rfl rfl rfl ?_
  refine W.rd (X.nilCheck rfl) rfl rfl rfl ?_
  obtain ⟨a1_1, c1_1, hi2, HS⟩ := pipe_Pipe.open HS
  have HS : Sep.St [blk b0 (#[Value.int .i64 ((a0).room), Value.slice a1_1 ((a0).b).length c1_1, Value.bool ((a0).cut), Value.bool ((a0).stall)]) 42, row 5 1 (.slice a1_1 ((a0).b).length c1_1) ((a0).b).length (((a0).b).map (Value.int .u8)), R] w0 w := HS
  refine W.rd (X.fieldAddr 1 fo42_1 rfl) rfl rfl rfl ?_
  refine W.rd (X.loadAt 0 HS rfl Try.underlying27 rfl rfl rfl) rfl rfl rfl ?_
  refine W.rd (X.lenSl Try.underlying27 rfl) rfl rfl rfl ?_
  refine W.rd (X.min2 rfl rfl) rfl rfl rfl ?_
  refine W.rd (X.max2 rfl rfl) rfl rfl rfl ?_
  refine W.rd (X.assign rfl) rfl rfl rfl ?_
  refine W.nil ?_
  refine At.next ?_
  refine V.keep [(0, Value.pointer (some ⟨b0, 0, none⟩)), (1, Value.int .i64 (imax (0) (imin (a1) ((((a0).b).length : Int)))))] ⟨rfl, rfl, trivial⟩ ?_
  refine V.seq ?_
  refine V.region ?_
  refine W.rd (X.move rfl) rfl rfl rfl ?_
  refine W.rd (X.nilCheck rfl) rfl rfl rfl ?_
  refine W.rd (X.fieldAddr 1 fo42_1 rfl) rfl rfl rfl ?_
  refine W.rd (X.loadAt 0 HS rfl Try.underlying27 rfl rfl rfl) rfl rfl rfl ?_
  refine W.rd (X.move rfl) rfl rfl rfl ?_
  obtain ⟨c3, H⟩ := ite_n H
  refine W.rd (X.slH Try.underlying27 inf5 rfl rfl c3 ((rdC.at 1 row_rd HS rfl)).cap) rfl rfl rfl ?_
  obtain ⟨t4, A5, H⟩ := bind_s H
  refine W.ev (Y.call Try.func22 (by kernel_rfl) rfl (vs := [Value.slice (vaddr a1_1 c1_1 ((0 : Int)).toNat 1) (cut ((a0).b) (0 : Int) (imax (0) (imin (a1) ((((a0).b).length : Int))))).length (c1_1 - ((0 : Int)).toNat)]) rfl (slices_Clone_Sbytebyte.calls (cut ((a0).b) (0 : Int) (imax (0) (imin (a1) ((((a0).b).length : Int))))) _ w0 _ (vaddr a1_1 c1_1 ((0 : Int)).toNat 1) (c1_1 - ((0 : Int)).toNat) t4 (rdC.part 1 (rdC.subM row_rd c3) rfl) A5 (Sep.St.tailJoin (m := []) (r := [blk b0 (#[Value.int .i64 ((a0).room), Value.slice a1_1 ((a0).b).length c1_1, Value.bool ((a0).cut), Value.bool ((a0).stall)]) 42, row 5 1 (.slice a1_1 ((a0).b).length c1_1) ((a0).b).length (((a0).b).map (Value.int .u8)), R]) HS))) rfl rfl rfl ?_
  rintro _ w ⟨at4_0, ct4_0, rfl, HS⟩
  replace HS := Sep.St.tailOpen (m := [row 5 1 (.slice at4_0 (t4).length ct4_0) (t4).length ((t4).map (Value.int .u8))]) (r := [blk b0 (#[Value.int .i64 ((a0).room), Value.slice a1_1 ((a0).b).length c1_1, Value.bool ((a0).cut), Value.bool ((a0).stall)]) 42, row 5 1 (.slice a1_1 ((a0).b).length c1_1) ((a0).b).length (((a0).b).map (Value.int .u8)), R]) HS
  have HS : Sep.St [row 5 1 (.slice at4_0 (t4).length ct4_0) (t4).length ((t4).map (Value.int .u8)), blk b0 (#[Value.int .i64 ((a0).room), Value.slice a1_1 ((a0).b).length c1_1, Value.bool ((a0).cut), Value.bool ((a0).stall)]) 42, row 5 1 (.slice a1_1 ((a0).b).length c1_1) ((a0).b).length (((a0).b).map (Value.int .u8)), R] w0 w := HS
  refine W.rd (X.assign rfl) rfl rfl rfl ?_
  refine W.nil ?_
  refine At.next ?_
  refine V.keep [(0, Value.pointer (some ⟨b0, 0, none⟩)), (1, Value.int .i64 (imax (0) (imin (a1) ((((a0).b).length : Int))))), (5, Value.slice at4_0 (t4).length ct4_0)] ⟨rfl, rfl, rfl, trivial⟩ ?_
  refine V.seq ?_
  refine V.region ?_
  refine W.rd (X.move rfl) rfl rfl rfl ?_
  refine W.rd (X.move rfl) rfl rfl rfl ?_
  refine W.rd (X.nilCheck rfl) rfl rfl rfl ?_
  refine W.rd (X.fieldAddr 1 fo42_1 rfl) rfl rfl rfl ?_
  refine W.rd (X.loadAt 1 HS rfl Try.underlying27 rfl rfl rfl) rfl rfl rfl ?_
  refine W.rd (X.move rfl) rfl rfl rfl ?_
  obtain ⟨t6, A7, H⟩ := bind_s H
  replace HS := HS.re [2, 0, 1, 3] (by kernel_rfl)
  have HS : Sep.St [row 5 1 (.slice a1_1 ((a0).b).length c1_1) ((a0).b).length (((a0).b).map (Value.int .u8)), row 5 1 (.slice at4_0 (t4).length ct4_0) (t4).length ((t4).map (Value.int .u8)), blk b0 (#[Value.int .i64 ((a0).room), Value.slice a1_1 ((a0).b).length c1_1, Value.bool ((a0).cut), Value.bool ((a0).stall)]) 42, R] w0 w := HS
  refine W.ev (Y.call Try.func23 (by kernel_rfl) rfl (vs := [Value.slice a1_1 ((a0).b).length c1_1, Value.int .i64 (0), Value.int .i64 (imax (0) (imin (a1) ((((a0).b).length : Int))))]) rfl (slices_Delete_Sbytebyte.calls ((a0).b) 0 (imax (0) (imin (a1) ((((a0).b).length : Int)))) _ w0 _ a1_1 c1_1 t6  A7 (Sep.St.tailJoin (m := [row 5 1 (.slice a1_1 ((a0).b).length c1_1) ((a0).b).length (((a0).b).map (Value.int .u8))]) (r := [row 5 1 (.slice at4_0 (t4).length ct4_0) (t4).length ((t4).map (Value.int .u8)), blk b0 (#[Value.int .i64 ((a0).room), Value.slice a1_1 ((a0).b).length c1_1, Value.bool ((a0).cut), Value.bool ((a0).stall)]) 42, R]) HS))) rfl rfl rfl ?_
  rintro _ w ⟨at6_0, ct6_0, rfl, HS⟩
  replace HS := Sep.St.tailOpen (m := [row 5 1 (.slice at6_0 (t6).length ct6_0) (t6).length ((t6).map (Value.int .u8))]) (r := [row 5 1 (.slice at4_0 (t4).length ct4_0) (t4).length ((t4).map (Value.int .u8)), blk b0 (#[Value.int .i64 ((a0).room), Value.slice a1_1 ((a0).b).length c1_1, Value.bool ((a0).cut), Value.bool ((a0).stall)]) 42, R]) HS
  have HS : Sep.St [row 5 1 (.slice at6_0 (t6).length ct6_0) (t6).length ((t6).map (Value.int .u8)), row 5 1 (.slice at4_0 (t4).length ct4_0) (t4).length ((t4).map (Value.int .u8)), blk b0 (#[Value.int .i64 ((a0).room), Value.slice a1_1 ((a0).b).length c1_1, Value.bool ((a0).cut), Value.bool ((a0).stall)]) 42, R] w0 w := HS
  refine W.rd (X.nilCheck rfl) rfl rfl rfl ?_
  refine W.rd (X.fieldAddr 1 fo42_1 rfl) rfl rfl rfl ?_
  refine W.ev_none (Y.storeAt 2 HS rfl inf27 rfl rfl rfl rfl rfl rfl) rfl rfl ?_
  rintro _ w HS
  have HS : Sep.St [row 5 1 (.slice at6_0 (t6).length ct6_0) (t6).length ((t6).map (Value.int .u8)), row 5 1 (.slice at4_0 (t4).length ct4_0) (t4).length ((t4).map (Value.int .u8)), blk b0 (#[Value.int .i64 ((a0).room), Value.slice at6_0 (t6).length ct6_0, Value.bool ((a0).cut), Value.bool ((a0).stall)]) 42, R] w0 w := HS
  refine W.nil ?_
  refine At.next ?_
  refine V.keep [(5, Value.slice at4_0 (t4).length ct4_0)] ⟨rfl, trivial⟩ ?_
  refine V.seq ?_
  refine V.region ?_
  refine W.rd (X.move rfl) rfl rfl rfl ?_
  refine W.rd (X.assign rfl) rfl rfl rfl ?_
  refine W.nil ?_
  refine At.next ?_
  refine V.keep [(4, Value.slice at4_0 (t4).length ct4_0)] ⟨rfl, trivial⟩ ?_
  refine V.ret ?_
  replace HS := HS.re [2, 0, 1, 3] (by kernel_rfl)
  have HS : Sep.St [blk b0 (#[Value.int .i64 ((a0).room), Value.slice at6_0 (t6).length ct6_0, Value.bool ((a0).cut), Value.bool ((a0).stall)]) 42, row 5 1 (.slice at6_0 (t6).length ct6_0) (t6).length ((t6).map (Value.int .u8)), row 5 1 (.slice at4_0 (t4).length ct4_0) (t4).length ((t4).map (Value.int .u8)), R] w0 w := HS
  replace HS := pipe_Pipe.close (({ room := (a0).room, b := t6, cut := (a0).cut, stall := (a0).stall } : pipe_Pipe)) trivial HS
  have HS : Sep.St [pipe_Pipe.at b0 (({ room := (a0).room, b := t6, cut := (a0).cut, stall := (a0).stall } : pipe_Pipe)), row 5 1 (.slice at4_0 (t4).length ct4_0) (t4).length ((t4).map (Value.int .u8)), R] w0 w := HS
  replace HS := HS.sel [1, 0, 2] [] (by kernel_rfl)
  cases H
  exact At.ret1 rfl rfl ⟨_, rfl, at4_0, ct4_0, rfl, HS⟩

/-! ### (*signalman/pipe.Pipe).Take: function 11 -/
def pipe_Pipe_Take.f (a0 : pipe_Pipe) (a1 : Int) : Option (List Int × pipe_Pipe) := (if (a0).stall = true then some (([] : List Int), a0) else ((pipe_Pipe_gone.f a0 a1).bind fun t5 => some (t5.1, t5.2)))
set_option maxRecDepth 100000 in
set_option maxHeartbeats 4000000 in
theorem pipe_Pipe_Take.calls (a0 : pipe_Pipe) (a1 : Int) (R : As) (w0 w : World) (b0 : Nat) (r : List Int × pipe_Pipe)  (H : pipe_Pipe_Take.f a0 a1 = some r) (HS : Sep.St [pipe_Pipe.at b0 (a0), R] w0 w) : Calls Try.prog 11 #[Value.pointer (some ⟨b0, 0, none⟩), Value.int .i64 (a1)] w (Ret fun u w => ∃ (aq0 : Option Addr) (cq0 : Nat), u = Value.slice aq0 (r.1).length cq0 ∧ Sep.St [row 5 1 (.slice aq0 (r.1).length cq0) (r.1).length ((r.1).map (Value.int .u8)), pipe_Pipe.at b0 (r.2), R] w0 w) := by
  unfold pipe_Pipe_Take.f at H
  refine calls_enter Try.func11 rfl rfl ?_
  have H : _ = some r := H
  refine V.seq ?_
  refine V.region ?_
  refine W.rd (X.assign rfl) rfl rfl rfl ?_
  refine W.nil ?_
  refine At.next ?_
  refine V.keep [(0, Value.pointer (some ⟨b0, 0, none⟩)), (1, Value.int .i64 (a1))] ⟨rfl, rfl, trivial⟩ ?_
  refine V.seq ?_
  refine V.seq ?_
  refine V.region ?_
  refine W.rd (X.move rfl) rfl rfl rfl ?_
  refine W.rd (X.nilCheck rfl) rfl rfl rfl ?_
  obtain ⟨a1_2, c1_2, hi3, HS⟩ := pipe_Pipe.open HS
  have HS : Sep.St [blk b0 (#[Value.int .i64 ((a0).room), Value.slice a1_2 ((a0).b).length c1_2, Value.bool ((a0).cut), Value.bool ((a0).stall)]) 42, row 5 1 (.slice a1_2 ((a0).b).length c1_2) ((a0).b).length (((a0).b).map (Value.int .u8)), R] w0 w := HS
  refine W.rd (X.fieldAddr 3 fo42_3 rfl) rfl rfl rfl ?_
  refine W.rd (X.loadAt 0 HS rfl Try.underlying4 rfl rfl rfl) rfl rfl rfl ?_
  refine W.nil ?_
  refine At.next ?_
  refine V.keep [(0, Value.pointer (some ⟨b0, 0, none⟩)), (1, Value.int .i64 (a1)), (8, Value.bool ((a0).stall))] ⟨rfl, rfl, rfl, trivial⟩ ?_
  by_cases c4 : (a0).stall = true
  · replace H := ite_t c4 H
    refine V.condT (sb c4) ?_
    refine V.seq ?_
    refine V.region ?_
    refine W.rd (X.assign rfl) rfl rfl rfl ?_
    refine W.nil ?_
    refine At.next ?_
    refine V.keep [(4, Value.slice none 0 0)] ⟨rfl, trivial⟩ ?_
    refine V.ret ?_
    refine At.thenRet ?_
    replace HS := row_nil' (e := 5) 1 none HS
    have HS : Sep.St [row 5 1 (.slice none (([] : List Int)).length 0) (([] : List Int)).length ((([] : List Int)).map (Value.int .u8)), blk b0 (#[Value.int .i64 ((a0).room), Value.slice a1_2 ((a0).b).length c1_2, Value.bool ((a0).cut), Value.bool ((a0).stall)]) 42, row 5 1 (.slice a1_2 ((a0).b).length c1_2) ((a0).b).length (((a0).b).map (Value.int .u8)), R] w0 w := HS
    replace HS := HS.re [1, 2, 0, 3] (by kernel_rfl)
    have HS : Sep.St [blk b0 (#[Value.int .i64 ((a0).room), Value.slice a1_2 ((a0).b).length c1_2, Value.bool ((a0).cut), Value.bool ((a0).stall)]) 42, row 5 1 (.slice a1_2 ((a0).b).length c1_2) ((a0).b).length (((a0).b).map (Value.int .u8)), row 5 1 (.slice none (([] : List Int)).length 0) (([] : List Int)).length ((([] : List Int)).map (Value.int .u8)), R] w0 w := HS
    replace HS := pipe_Pipe.close (a0) trivial HS
    have HS : Sep.St [pipe_Pipe.at b0 (a0), row 5 1 (.slice none (([] : List Int)).length 0) (([] : List Int)).length ((([] : List Int)).map (Value.int .u8)), R] w0 w := HS
    replace HS := HS.sel [1, 0, 2] [] (by kernel_rfl)
    cases H
    exact At.ret1 rfl rfl ⟨_, rfl, none, 0, rfl, HS⟩
  · replace H := ite_f c4 H
    refine V.condF (sb (b_f c4)) ?_
    refine V.skip ?_
    refine At.next ?_
    refine V.keep [(0, Value.pointer (some ⟨b0, 0, none⟩)), (1, Value.int .i64 (a1))] ⟨rfl, rfl, trivial⟩ ?_
    refine V.seq ?_
    refine V.region ?_
    refine W.rd (X.move rfl) rfl rfl rfl ?_
    refine W.rd (X.move rfl) rfl rfl rfl ?_
    replace HS := pipe_Pipe.close (a0) trivial HS
    have HS : Sep.St [pipe_Pipe.at b0 (a0), R] w0 w := HS
    obtain ⟨t5, A6, H⟩ := bind_s H
    refine W.ev (Y.call Try.func19 (by kernel_rfl) rfl (vs := [Value.pointer (some ⟨b0, 0, none⟩), Value.int .i64 (a1)]) rfl (pipe_Pipe_gone.calls a0 a1 _ w0 _ b0 t5  A6 (Sep.St.tailJoin (m := [pipe_Pipe.at b0 (a0)]) (r := [R]) HS))) rfl rfl rfl ?_
    rintro _ w ⟨at5_0, ct5_0, rfl, HS⟩
    replace HS := Sep.St.tailOpen (m := [row 5 1 (.slice at5_0 (t5.1).length ct5_0) (t5.1).length ((t5.1).map (Value.int .u8)), pipe_Pipe.at b0 (t5.2)]) (r := [R]) HS
    have HS : Sep.St [row 5 1 (.slice at5_0 (t5.1).length ct5_0) (t5.1).length ((t5.1).map (Value.int .u8)), pipe_Pipe.at b0 (t5.2), R] w0 w := HS
    refine W.rd (X.assign rfl) rfl rfl rfl ?_
    refine W.nil ?_
    refine At.next ?_
    refine V.keep [(4, Value.slice at5_0 (t5.1).length ct5_0)] ⟨rfl, trivial⟩ ?_
    refine V.ret ?_
    cases H
    exact At.ret1 rfl rfl ⟨_, rfl, at5_0, ct5_0, rfl, HS⟩

/-! ### (*signalman/pipe.Pipe).Room: function 18 -/
def pipe_Pipe_Room.f (a0 : pipe_Pipe) : Option (Int) := some (w64 (((a0).room) - (((a0).b).length : Int)))
set_option maxRecDepth 100000 in
set_option maxHeartbeats 4000000 in
theorem pipe_Pipe_Room.calls (a0 : pipe_Pipe) (R : As) (w0 w : World) (b0 : Nat) (a1_p0 : Option Addr) (c1_p0 : Nat) (r : Int)  (H : pipe_Pipe_Room.f a0 = some r) (HS : Sep.St [blk b0 (#[Value.int .i64 ((a0).room), Value.slice a1_p0 ((a0).b).length c1_p0, Value.bool ((a0).cut), Value.bool ((a0).stall)]) 42, row 5 1 (.slice a1_p0 ((a0).b).length c1_p0) ((a0).b).length (((a0).b).map (Value.int .u8)), R] w0 w) : Calls Try.prog 18 #[Value.pointer (some ⟨b0, 0, none⟩)] w (Ret fun u w => u = Value.int .i64 (r) ∧ Sep.St [blk b0 (#[Value.int .i64 ((a0).room), Value.slice a1_p0 ((a0).b).length c1_p0, Value.bool ((a0).cut), Value.bool ((a0).stall)]) 42, row 5 1 (.slice a1_p0 ((a0).b).length c1_p0) ((a0).b).length (((a0).b).map (Value.int .u8)), R] w0 w) := by
  unfold pipe_Pipe_Room.f at H
  refine calls_enter Try.func18 rfl rfl ?_
  have H : _ = some r := H
  refine V.seq ?_
  refine V.region ?_
  refine W.rd (X.assign rfl) rfl rfl rfl ?_
  refine W.nil ?_
  refine At.next ?_
  refine V.keep [(0, Value.pointer (some ⟨b0, 0, none⟩))] ⟨rfl, trivial⟩ ?_
  refine V.seq ?_
  refine V.draw (es := []) (bl := []) (f := [(3, Value.pointer (some ⟨b0, 0, none⟩)), (4, Value.pointer (some ⟨b0, 0, none⟩)), (5, Value.pointer (some ⟨b0, 0 + 0, none⟩)), (6, Value.int .i64 ((a0).room)), (7, Value.pointer (some ⟨b0, 0, none⟩)), (8, Value.pointer (some ⟨b0, 0, none⟩)), (9, Value.pointer (some ⟨b0, 0 + 1, none⟩)), (10, Value.slice a1_p0 ((a0).b).length c1_p0), (11, Value.int .i64 ((((a0).b).length : Int))), (12, Value.int .i64 (w64 (((a0).room) - (((a0).b).length : Int)))), (2, Value.int .i64 (w64 (((a0).room) - (((a0).b).length : Int))))]) (fun w => Sep.St [blk b0 (#[Value.int .i64 ((a0).room), Value.slice a1_p0 ((a0).b).length c1_p0, Value.bool ((a0).cut), Value.bool ((a0).stall)]) 42, row 5 1 (.slice a1_p0 ((a0).b).length c1_p0) ((a0).b).length (((a0).b).map (Value.int .u8)), R] w0 w) mo HS.drew rfl ?_
  refine T.fin [(2, Value.int .i64 (w64 (((a0).room) - (((a0).b).length : Int))))] rfl ⟨⟨_, Value.pointer (some ⟨b0, 0, none⟩), [(0, Value.pointer (some ⟨b0, 0, none⟩))], 3, rfl, rfl, ⟨.inl ⟨rfl, rfl⟩, trivial⟩, .run rfl (fun w HS => X.move rfl), rfl, rfl, rfl⟩, ⟨_, Value.pointer (some ⟨b0, 0, none⟩), [(3, Value.pointer (some ⟨b0, 0, none⟩))], 4, rfl, rfl, ⟨.inr ⟨rfl, rfl⟩, trivial⟩, .run rfl (fun w HS => X.nilCheck rfl), rfl, rfl, rfl⟩, ⟨_, Value.pointer (some ⟨b0, 0 + 0, none⟩), [(4, Value.pointer (some ⟨b0, 0, none⟩))], 5, rfl, rfl, ⟨.inr ⟨rfl, rfl⟩, trivial⟩, .run rfl (fun w HS => X.fieldAddr 0 fo42_0 rfl), rfl, rfl, rfl⟩, ⟨_, Value.int .i64 ((a0).room), [(5, Value.pointer (some ⟨b0, 0 + 0, none⟩))], 6, rfl, rfl, ⟨.inr ⟨rfl, rfl⟩, trivial⟩, .run rfl (fun w HS => X.loadAt 0 HS rfl Try.underlying3 rfl rfl rfl), rfl, rfl, rfl⟩, ⟨_, Value.pointer (some ⟨b0, 0, none⟩), [(0, Value.pointer (some ⟨b0, 0, none⟩))], 7, rfl, rfl, ⟨.inl ⟨rfl, rfl⟩, trivial⟩, .run rfl (fun w HS => X.move rfl), rfl, rfl, rfl⟩, ⟨_, Value.pointer (some ⟨b0, 0, none⟩), [(7, Value.pointer (some ⟨b0, 0, none⟩))], 8, rfl, rfl, ⟨.inr ⟨rfl, rfl⟩, trivial⟩, .run rfl (fun w HS => X.nilCheck rfl), rfl, rfl, rfl⟩, ⟨_, Value.pointer (some ⟨b0, 0 + 1, none⟩), [(8, Value.pointer (some ⟨b0, 0, none⟩))], 9, rfl, rfl, ⟨.inr ⟨rfl, rfl⟩, trivial⟩, .run rfl (fun w HS => X.fieldAddr 1 fo42_1 rfl), rfl, rfl, rfl⟩, ⟨_, Value.slice a1_p0 ((a0).b).length c1_p0, [(9, Value.pointer (some ⟨b0, 0 + 1, none⟩))], 10, rfl, rfl, ⟨.inr ⟨rfl, rfl⟩, trivial⟩, .run rfl (fun w HS => X.loadAt 0 HS rfl Try.underlying27 rfl rfl rfl), rfl, rfl, rfl⟩, ⟨_, Value.int .i64 ((((a0).b).length : Int)), [(10, Value.slice a1_p0 ((a0).b).length c1_p0)], 11, rfl, rfl, ⟨.inr ⟨rfl, rfl⟩, trivial⟩, .run rfl (fun w HS => X.lenSl Try.underlying27 rfl), rfl, rfl, rfl⟩, ⟨_, Value.int .i64 (w64 (((a0).room) - (((a0).b).length : Int))), [(6, Value.int .i64 ((a0).room)), (11, Value.int .i64 ((((a0).b).length : Int)))], 12, rfl, rfl, ⟨.inr ⟨rfl, rfl⟩, ⟨.inr ⟨rfl, rfl⟩, trivial⟩⟩, .run rfl (fun w HS => X.sub rfl rfl), rfl, rfl, rfl⟩, ⟨_, Value.int .i64 (w64 (((a0).room) - (((a0).b).length : Int))), [(12, Value.int .i64 (w64 (((a0).room) - (((a0).b).length : Int))))], 2, rfl, rfl, ⟨.inr ⟨rfl, rfl⟩, trivial⟩, .run rfl (fun w HS => X.assign rfl), rfl, rfl, rfl⟩, trivial⟩ ⟨.inr ⟨rfl, rfl⟩, trivial⟩ (fun w HS => ?_)
  have HS : Sep.St [blk b0 (#[Value.int .i64 ((a0).room), Value.slice a1_p0 ((a0).b).length c1_p0, Value.bool ((a0).cut), Value.bool ((a0).stall)]) 42, row 5 1 (.slice a1_p0 ((a0).b).length c1_p0) ((a0).b).length (((a0).b).map (Value.int .u8)), R] w0 w := HS
  refine At.next ?_
  refine V.keep [(2, Value.int .i64 (w64 (((a0).room) - (((a0).b).length : Int))))] ⟨rfl, trivial⟩ ?_
  refine V.ret ?_
  cases H
  exact At.ret1 rfl rfl ⟨_, rfl, rfl, HS⟩

/-! ### (*signalman/pipe.Pipe).Put: function 9 -/
def pipe_Pipe_Put.f (a0 : pipe_Pipe) (a1 : List Int) : Option (Int × pipe_Pipe) := (if (a0).cut = true then some (((a1).length : Int), a0) else ((pipe_Pipe_Room.f a0).bind fun t5 => (if 0 ≤ (0 : Int) ∧ (0 : Int) ≤ imin (((a1).length : Int)) (t5) ∧ imin (((a1).length : Int)) (t5) ≤ ((a1).length : Int) then (if (((a0).b).length : Int) + (cut a1 (0 : Int) (imin (((a1).length : Int)) (t5))).length ≤ 1099511627776 then some (imin (((a1).length : Int)) (t5), ({ room := (a0).room, b := ((a0).b) ++ (cut a1 (0 : Int) (imin (((a1).length : Int)) (t5))), cut := (a0).cut, stall := (a0).stall } : pipe_Pipe)) else none) else none)))
set_option maxRecDepth 100000 in
set_option maxHeartbeats 4000000 in
theorem pipe_Pipe_Put.calls (a0 : pipe_Pipe) (a1 : List Int) (R : As) (w0 w : World) (b0 : Nat) (sa1 : Option Addr) (sc1 : Nat) (r : Int × pipe_Pipe) (hr1 : rdC R 1 (.slice sa1 (a1).length sc1) (a1).length ((a1).map (Value.int .u8))) (H : pipe_Pipe_Put.f a0 a1 = some r) (HS : Sep.St [pipe_Pipe.at b0 (a0), R] w0 w) : Calls Try.prog 9 #[Value.pointer (some ⟨b0, 0, none⟩), Value.slice sa1 (a1).length sc1] w (Ret fun u w => u = Value.int .i64 (r.1) ∧ Sep.St [pipe_Pipe.at b0 (r.2), R] w0 w) := by
  unfold pipe_Pipe_Put.f at H
  refine calls_enter Try.func9 rfl rfl ?_
  have H : _ = some r := H
  refine V.seq ?_
  refine V.region ?_
  refine W.rd (X.assign rfl) rfl rfl rfl ?_
  refine W.nil ?_
  refine At.next ?_
  refine V.keep [(0, Value.pointer (some ⟨b0, 0, none⟩)), (1, Value.slice sa1 (a1).length sc1)] ⟨rfl, rfl, trivial⟩ ?_
  refine V.seq ?_
  refine V.seq ?_
  refine V.region ?_
  refine W.rd (X.move rfl) rfl rfl rfl ?_
  refine W.rd (X.nilCheck rfl) rfl rfl rfl ?_
  obtain ⟨a1_2, c1_2, hi3, HS⟩ := pipe_Pipe.open HS
  have HS : Sep.St [blk b0 (#[Value.int .i64 ((a0).room), Value.slice a1_2 ((a0).b).length c1_2, Value.bool ((a0).cut), Value.bool ((a0).stall)]) 42, row 5 1 (.slice a1_2 ((a0).b).length c1_2) ((a0).b).length (((a0).b).map (Value.int .u8)), R] w0 w := HS
  refine W.rd (X.fieldAddr 2 fo42_2 rfl) rfl rfl rfl ?_
  refine W.rd (X.loadAt 0 HS rfl Try.underlying4 rfl rfl rfl) rfl rfl rfl ?_
  refine W.nil ?_
  refine At.next ?_
  refine V.keep [(0, Value.pointer (some ⟨b0, 0, none⟩)), (1, Value.slice sa1 (a1).length sc1), (9, Value.bool ((a0).cut))] ⟨rfl, rfl, rfl, trivial⟩ ?_
  by_cases c4 : (a0).cut = true
  · replace H := ite_t c4 H
    refine V.condT (sb c4) ?_
    refine V.seq ?_
    refine V.region ?_
    refine W.rd (X.move rfl) rfl rfl rfl ?_
    refine W.rd (X.lenSl Try.underlying27 rfl) rfl rfl rfl ?_
    refine W.rd (X.assign rfl) rfl rfl rfl ?_
    refine W.nil ?_
    refine At.next ?_
    refine V.keep [(4, Value.int .i64 (((a1).length : Int)))] ⟨rfl, trivial⟩ ?_
    refine V.ret ?_
    refine At.thenRet ?_
    replace HS := pipe_Pipe.close (a0) trivial HS
    have HS : Sep.St [pipe_Pipe.at b0 (a0), R] w0 w := HS
    cases H
    exact At.ret1 rfl rfl ⟨_, rfl, rfl, HS⟩
  · replace H := ite_f c4 H
    refine V.condF (sb (b_f c4)) ?_
    refine V.skip ?_
    refine At.next ?_
    refine V.keep [(0, Value.pointer (some ⟨b0, 0, none⟩)), (1, Value.slice sa1 (a1).length sc1)] ⟨rfl, rfl, trivial⟩ ?_
    refine V.seq ?_
    refine V.region ?_
    refine W.rd (X.move rfl) rfl rfl rfl ?_
    refine W.rd (X.lenSl Try.underlying27 rfl) rfl rfl rfl ?_
    refine W.rd (X.move rfl) rfl rfl rfl ?_
    obtain ⟨t5, A6, H⟩ := bind_s H
    refine W.ev (Y.call Try.func18 (by kernel_rfl) rfl (vs := [Value.pointer (some ⟨b0, 0, none⟩)]) rfl (pipe_Pipe_Room.calls a0 _ w0 _ b0 a1_2 c1_2 t5  A6 (Sep.St.tailJoin (m := [blk b0 (#[Value.int .i64 ((a0).room), Value.slice a1_2 ((a0).b).length c1_2, Value.bool ((a0).cut), Value.bool ((a0).stall)]) 42, row 5 1 (.slice a1_2 ((a0).b).length c1_2) ((a0).b).length (((a0).b).map (Value.int .u8))]) (r := [R]) HS))) rfl rfl rfl ?_
    rintro _ w ⟨rfl, HS⟩
    replace HS := Sep.St.tailOpen (m := [blk b0 (#[Value.int .i64 ((a0).room), Value.slice a1_2 ((a0).b).length c1_2, Value.bool ((a0).cut), Value.bool ((a0).stall)]) 42, row 5 1 (.slice a1_2 ((a0).b).length c1_2) ((a0).b).length (((a0).b).map (Value.int .u8))]) (r := [R]) HS
    have HS : Sep.St [blk b0 (#[Value.int .i64 ((a0).room), Value.slice a1_2 ((a0).b).length c1_2, Value.bool ((a0).cut), Value.bool ((a0).stall)]) 42, row 5 1 (.slice a1_2 ((a0).b).length c1_2) ((a0).b).length (((a0).b).map (Value.int .u8)), R] w0 w := HS
    refine W.rd (X.min2 rfl rfl) rfl rfl rfl ?_
    refine W.rd (X.assign rfl) rfl rfl rfl ?_
    refine W.nil ?_
    refine At.next ?_
    refine V.keep [(0, Value.pointer (some ⟨b0, 0, none⟩)), (1, Value.slice sa1 (a1).length sc1), (5, Value.int .i64 (imin (((a1).length : Int)) (t5)))] ⟨rfl, rfl, rfl, trivial⟩ ?_
    refine V.seq ?_
    obtain ⟨c7, H⟩ := ite_n H
    refine V.draw (es := [8, 11]) (bl := [9, 10]) (f := [(17, Value.pointer (some ⟨b0, 0, none⟩)), (18, Value.pointer (some ⟨b0, 0, none⟩)), (19, Value.pointer (some ⟨b0, 0, none⟩)), (20, Value.pointer (some ⟨b0, 0 + 1, none⟩)), (21, Value.slice a1_2 ((a0).b).length c1_2), (22, Value.slice sa1 (a1).length sc1), (23, Value.int .i64 (imin (((a1).length : Int)) (t5))), (24, Value.slice (vaddr sa1 sc1 ((0 : Int)).toNat 1) (cut a1 (0 : Int) (imin (((a1).length : Int)) (t5))).length (sc1 - ((0 : Int)).toNat))]) (fun w => Sep.St [blk b0 (#[Value.int .i64 ((a0).room), Value.slice a1_2 ((a0).b).length c1_2, Value.bool ((a0).cut), Value.bool ((a0).stall)]) 42, row 5 1 (.slice a1_2 ((a0).b).length c1_2) ((a0).b).length (((a0).b).map (Value.int .u8)), R] w0 w) mo HS.drew rfl ?_
    refine T.event _ [(21, Value.slice a1_2 ((a0).b).length c1_2), (24, Value.slice (vaddr sa1 sc1 ((0 : Int)).toNat 1) (cut a1 (0 : Int) (imin (((a1).length : Int)) (t5))).length (sc1 - ((0 : Int)).toNat))] rfl rfl ⟨⟨_, Value.pointer (some ⟨b0, 0, none⟩), [(0, Value.pointer (some ⟨b0, 0, none⟩))], 17, rfl, rfl, ⟨.inl ⟨rfl, rfl⟩, trivial⟩, .run rfl (fun w HS => X.move rfl), rfl, rfl, rfl⟩, ⟨_, Value.pointer (some ⟨b0, 0, none⟩), [(0, Value.pointer (some ⟨b0, 0, none⟩))], 18, rfl, rfl, ⟨.inl ⟨rfl, rfl⟩, trivial⟩, .run rfl (fun w HS => X.move rfl), rfl, rfl, rfl⟩, ⟨_, Value.pointer (some ⟨b0, 0, none⟩), [(18, Value.pointer (some ⟨b0, 0, none⟩))], 19, rfl, rfl, ⟨.inr ⟨rfl, rfl⟩, trivial⟩, .run rfl (fun w HS => X.nilCheck rfl), rfl, rfl, rfl⟩, ⟨_, Value.pointer (some ⟨b0, 0 + 1, none⟩), [(19, Value.pointer (some ⟨b0, 0, none⟩))], 20, rfl, rfl, ⟨.inr ⟨rfl, rfl⟩, trivial⟩, .run rfl (fun w HS => X.fieldAddr 1 fo42_1 rfl), rfl, rfl, rfl⟩, ⟨_, Value.slice a1_2 ((a0).b).length c1_2, [(20, Value.pointer (some ⟨b0, 0 + 1, none⟩))], 21, rfl, rfl, ⟨.inr ⟨rfl, rfl⟩, trivial⟩, .run rfl (fun w HS => X.loadAt 0 HS rfl Try.underlying27 rfl rfl rfl), rfl, rfl, rfl⟩, ⟨_, Value.slice sa1 (a1).length sc1, [(1, Value.slice sa1 (a1).length sc1)], 22, rfl, rfl, ⟨.inl ⟨rfl, rfl⟩, trivial⟩, .run rfl (fun w HS => X.move rfl), rfl, rfl, rfl⟩, ⟨_, Value.int .i64 (imin (((a1).length : Int)) (t5)), [(5, Value.int .i64 (imin (((a1).length : Int)) (t5)))], 23, rfl, rfl, ⟨.inl ⟨rfl, rfl⟩, trivial⟩, .run rfl (fun w HS => X.move rfl), rfl, rfl, rfl⟩, ⟨_, Value.slice (vaddr sa1 sc1 ((0 : Int)).toNat 1) (cut a1 (0 : Int) (imin (((a1).length : Int)) (t5))).length (sc1 - ((0 : Int)).toNat), [(22, Value.slice sa1 (a1).length sc1), (23, Value.int .i64 (imin (((a1).length : Int)) (t5)))], 24, rfl, rfl, ⟨.inr ⟨rfl, rfl⟩, ⟨.inr ⟨rfl, rfl⟩, trivial⟩⟩, .run rfl (fun w HS => X.slH Try.underlying27 inf5 rfl rfl c7 ((rdC.at 2 hr1 HS rfl)).cap), rfl, rfl, rfl⟩, trivial⟩ rfl ⟨.inr ⟨rfl, rfl⟩, ⟨.inr ⟨rfl, rfl⟩, trivial⟩⟩ (Or.inl rfl) (by intro d hd; cases hd; exact ⟨by decide, rfl, rfl⟩) [] [1, 2, 3, 4, 5, 6, 7] rfl rfl (fun w HS => ?_)
    have HS : Sep.St [blk b0 (#[Value.int .i64 ((a0).room), Value.slice a1_2 ((a0).b).length c1_2, Value.bool ((a0).cut), Value.bool ((a0).stall)]) 42, row 5 1 (.slice a1_2 ((a0).b).length c1_2) ((a0).b).length (((a0).b).map (Value.int .u8)), R] w0 w := HS
    obtain ⟨c8, H⟩ := ite_n H
    refine ⟨_, Y.appF (Value.int .u8) (fun _ => rfl) 1 Try.underlying27 ap5 rfl HS rfl rfl rfl (rdC.at 2 (rdC.subM hr1 c7) HS rfl) (by omega) (by omega), ?_⟩
    rintro _ w ⟨ra9, rc10, rfl, HS⟩
    have HS : Sep.St [blk b0 (#[Value.int .i64 ((a0).room), Value.slice a1_2 ((a0).b).length c1_2, Value.bool ((a0).cut), Value.bool ((a0).stall)]) 42, row 5 1 (.slice ra9 (((a0).b) ++ (cut a1 (0 : Int) (imin (((a1).length : Int)) (t5)))).length rc10) (((a0).b) ++ (cut a1 (0 : Int) (imin (((a1).length : Int)) (t5)))).length ((((a0).b) ++ (cut a1 (0 : Int) (imin (((a1).length : Int)) (t5)))).map (Value.int .u8)), R] w0 w := HS
    refine ⟨[(25, Value.slice ra9 (((a0).b) ++ (cut a1 (0 : Int) (imin (((a1).length : Int)) (t5)))).length rc10), (26, Value.pointer (some ⟨b0, 0, none⟩)), (27, Value.pointer (some ⟨b0, 0 + 1, none⟩))], fun w => Sep.St [blk b0 (#[Value.int .i64 ((a0).room), Value.slice a1_2 ((a0).b).length c1_2, Value.bool ((a0).cut), Value.bool ((a0).stall)]) 42, row 5 1 (.slice ra9 (((a0).b) ++ (cut a1 (0 : Int) (imin (((a1).length : Int)) (t5)))).length rc10) (((a0).b) ++ (cut a1 (0 : Int) (imin (((a1).length : Int)) (t5)))).length ((((a0).b) ++ (cut a1 (0 : Int) (imin (((a1).length : Int)) (t5)))).map (Value.int .u8)), R] w0 w, ⟨.inl ⟨rfl, rfl⟩, ⟨.inr ⟨by decide, rfl⟩, ⟨.inr ⟨by decide, rfl⟩, trivial⟩⟩⟩, ?_, HS⟩
    refine T.event _ [(25, Value.slice ra9 (((a0).b) ++ (cut a1 (0 : Int) (imin (((a1).length : Int)) (t5)))).length rc10), (27, Value.pointer (some ⟨b0, 0 + 1, none⟩))] rfl rfl ⟨⟨_, Value.pointer (some ⟨b0, 0, none⟩), [(0, Value.pointer (some ⟨b0, 0, none⟩))], 17, rfl, rfl, ⟨.inl ⟨rfl, rfl⟩, trivial⟩, .run rfl (fun w HS => X.move rfl), rfl, rfl, rfl⟩, ⟨_, Value.pointer (some ⟨b0, 0, none⟩), [(17, Value.pointer (some ⟨b0, 0, none⟩))], 26, rfl, rfl, ⟨.inr ⟨rfl, rfl⟩, trivial⟩, .run rfl (fun w HS => X.nilCheck rfl), rfl, rfl, rfl⟩, ⟨_, Value.pointer (some ⟨b0, 0 + 1, none⟩), [(26, Value.pointer (some ⟨b0, 0, none⟩))], 27, rfl, rfl, ⟨.inr ⟨rfl, rfl⟩, trivial⟩, .run rfl (fun w HS => X.fieldAddr 1 fo42_1 rfl), rfl, rfl, rfl⟩, trivial⟩ rfl ⟨.inr ⟨rfl, rfl⟩, ⟨.inr ⟨rfl, rfl⟩, trivial⟩⟩ (Or.inl rfl) (by intro d hd; cases hd) [] [0, 9, 10] rfl rfl (fun w HS => ?_)
    have HS : Sep.St [blk b0 (#[Value.int .i64 ((a0).room), Value.slice a1_2 ((a0).b).length c1_2, Value.bool ((a0).cut), Value.bool ((a0).stall)]) 42, row 5 1 (.slice ra9 (((a0).b) ++ (cut a1 (0 : Int) (imin (((a1).length : Int)) (t5)))).length rc10) (((a0).b) ++ (cut a1 (0 : Int) (imin (((a1).length : Int)) (t5)))).length ((((a0).b) ++ (cut a1 (0 : Int) (imin (((a1).length : Int)) (t5)))).map (Value.int .u8)), R] w0 w := HS
    refine ⟨_, Y.storeAt 0 HS rfl inf27 rfl rfl rfl rfl rfl rfl, ?_⟩
    rintro _ w HS
    have HS : Sep.St [blk b0 (#[Value.int .i64 ((a0).room), Value.slice ra9 (((a0).b) ++ (cut a1 (0 : Int) (imin (((a1).length : Int)) (t5)))).length rc10, Value.bool ((a0).cut), Value.bool ((a0).stall)]) 42, row 5 1 (.slice ra9 (((a0).b) ++ (cut a1 (0 : Int) (imin (((a1).length : Int)) (t5)))).length rc10) (((a0).b) ++ (cut a1 (0 : Int) (imin (((a1).length : Int)) (t5)))).length ((((a0).b) ++ (cut a1 (0 : Int) (imin (((a1).length : Int)) (t5)))).map (Value.int .u8)), R] w0 w := HS
    refine ⟨[], fun w => Sep.St [blk b0 (#[Value.int .i64 ((a0).room), Value.slice ra9 (((a0).b) ++ (cut a1 (0 : Int) (imin (((a1).length : Int)) (t5)))).length rc10, Value.bool ((a0).cut), Value.bool ((a0).stall)]) 42, row 5 1 (.slice ra9 (((a0).b) ++ (cut a1 (0 : Int) (imin (((a1).length : Int)) (t5)))).length rc10) (((a0).b) ++ (cut a1 (0 : Int) (imin (((a1).length : Int)) (t5)))).length ((((a0).b) ++ (cut a1 (0 : Int) (imin (((a1).length : Int)) (t5)))).map (Value.int .u8)), R] w0 w, trivial, ?_, HS⟩
    refine T.fin [(5, Value.int .i64 (imin (((a1).length : Int)) (t5)))] rfl trivial ⟨.inl ⟨rfl, rfl⟩, trivial⟩ (fun w HS => ?_)
    have HS : Sep.St [blk b0 (#[Value.int .i64 ((a0).room), Value.slice ra9 (((a0).b) ++ (cut a1 (0 : Int) (imin (((a1).length : Int)) (t5)))).length rc10, Value.bool ((a0).cut), Value.bool ((a0).stall)]) 42, row 5 1 (.slice ra9 (((a0).b) ++ (cut a1 (0 : Int) (imin (((a1).length : Int)) (t5)))).length rc10) (((a0).b) ++ (cut a1 (0 : Int) (imin (((a1).length : Int)) (t5)))).length ((((a0).b) ++ (cut a1 (0 : Int) (imin (((a1).length : Int)) (t5)))).map (Value.int .u8)), R] w0 w := HS
    refine At.next ?_
    refine V.keep [(5, Value.int .i64 (imin (((a1).length : Int)) (t5)))] ⟨rfl, trivial⟩ ?_
    refine V.seq ?_
    refine V.region ?_
    refine W.rd (X.move rfl) rfl rfl rfl ?_
    refine W.rd (X.assign rfl) rfl rfl rfl ?_
    refine W.nil ?_
    refine At.next ?_
    refine V.keep [(4, Value.int .i64 (imin (((a1).length : Int)) (t5)))] ⟨rfl, trivial⟩ ?_
    refine V.ret ?_
    replace HS := pipe_Pipe.close (({ room := (a0).room, b := ((a0).b) ++ (cut a1 (0 : Int) (imin (((a1).length : Int)) (t5))), cut := (a0).cut, stall := (a0).stall } : pipe_Pipe)) trivial HS
    have HS : Sep.St [pipe_Pipe.at b0 (({ room := (a0).room, b := ((a0).b) ++ (cut a1 (0 : Int) (imin (((a1).length : Int)) (t5))), cut := (a0).cut, stall := (a0).stall } : pipe_Pipe)), R] w0 w := HS
    cases H
    exact At.ret1 rfl rfl ⟨_, rfl, rfl, HS⟩

/-! ### signalman/signalmanlaw8.alive: function 7 -/
def signalmanlaw8_alive.f  : Option (Bool) := ((pipe_New.f 5).bind fun t1 => ((pipe_Pipe_Take.f t1 3).bind fun t4 => ((pipe_Pipe_Put.f t4.2 ([97, 98] : List Int)).bind fun t9 => (if ((t4.1).length : Int) = 0 then (if t9.1 = 2 then ((pipe_Pipe_Take.f t9.2 1).bind fun t13 => some (sEq (t13.1) (([97] : List Int)))) else some (false)) else some (false)))))
set_option maxRecDepth 100000 in
set_option maxHeartbeats 4000000 in
theorem signalmanlaw8_alive.calls  (R : As) (w0 w : World)  (r : Bool)  (H : signalmanlaw8_alive.f  = some r) (HS : Sep.St [R] w0 w) : Calls Try.prog 7 #[] w (Ret fun u w => u = Value.bool (r) ∧ Sep.St [R] w0 w) := by
  unfold signalmanlaw8_alive.f at H
  refine calls_enter Try.func7 rfl rfl ?_
  have H : _ = some r := H
  refine V.seq ?_
  refine V.region ?_
  refine W.rd (X.assign rfl) rfl rfl rfl ?_
  refine W.nil ?_
  refine At.next ?_
  refine V.keep [] trivial ?_
  refine V.seq ?_
  refine V.region ?_
  obtain ⟨t1, A2, H⟩ := bind_s H
  refine W.ev (Y.call Try.func8 (by kernel_rfl) rfl (vs := [Value.int .i64 (5)]) rfl (pipe_New.calls 5 _ w0 _  t1  A2 (Sep.St.tailJoin (m := []) (r := [R]) HS))) rfl rfl rfl ?_
  rintro _ w ⟨bt1_0, rfl, HS⟩
  replace HS := Sep.St.tailOpen (m := [pipe_Pipe.at bt1_0 (t1)]) (r := [R]) HS
  have HS : Sep.St [pipe_Pipe.at bt1_0 (t1), R] w0 w := HS
  refine W.rd (X.assign rfl) rfl rfl rfl ?_
  refine W.nil ?_
  refine At.next ?_
  refine V.keep [(1, Value.pointer (some ⟨bt1_0, 0, none⟩))] ⟨rfl, trivial⟩ ?_
  refine V.seq ?_
  refine V.seq ?_
  refine V.region ?_
  refine W.rd (X.move rfl) rfl rfl rfl ?_
  refine W.rd (X.eqP Try.underlying25 rfl rfl) rfl rfl rfl ?_
  refine W.nil ?_
  refine At.next ?_
  refine V.keep [(1, Value.pointer (some ⟨bt1_0, 0, none⟩)), (6, Value.bool (false))] ⟨rfl, rfl, trivial⟩ ?_
  refine V.condF rfl ?_
  refine V.skip ?_
  refine At.next ?_
  refine V.keep [(1, Value.pointer (some ⟨bt1_0, 0, none⟩))] ⟨rfl, trivial⟩ ?_
  refine V.seq ?_
  refine V.region ?_
  refine W.rd (X.move rfl) rfl rfl rfl ?_
  obtain ⟨t4, A5, H⟩ := bind_s H
  refine W.ev (Y.call Try.func11 (by kernel_rfl) rfl (vs := [Value.pointer (some ⟨bt1_0, 0, none⟩), Value.int .i64 (3)]) rfl (pipe_Pipe_Take.calls t1 3 _ w0 _ bt1_0 t4  A5 (Sep.St.tailJoin (m := [pipe_Pipe.at bt1_0 (t1)]) (r := [R]) HS))) rfl rfl rfl ?_
  rintro _ w ⟨at4_0, ct4_0, rfl, HS⟩
  replace HS := Sep.St.tailOpen (m := [row 5 1 (.slice at4_0 (t4.1).length ct4_0) (t4.1).length ((t4.1).map (Value.int .u8)), pipe_Pipe.at bt1_0 (t4.2)]) (r := [R]) HS
  have HS : Sep.St [row 5 1 (.slice at4_0 (t4.1).length ct4_0) (t4.1).length ((t4.1).map (Value.int .u8)), pipe_Pipe.at bt1_0 (t4.2), R] w0 w := HS
  refine W.rd (X.lenSl Try.underlying27 rfl) rfl rfl rfl ?_
  refine W.rd (X.assign rfl) rfl rfl rfl ?_
  refine W.nil ?_
  refine At.next ?_
  refine V.keep [(1, Value.pointer (some ⟨bt1_0, 0, none⟩)), (2, Value.int .i64 (((t4.1).length : Int)))] ⟨rfl, rfl, trivial⟩ ?_
  refine V.seq ?_
  refine V.region ?_
  refine W.rd (X.move rfl) rfl rfl rfl ?_
  refine W.ev (Y.litB (e := 5) (sz := 1) (vs := #[(0, Value.int .u8 (97)), (1, Value.int .u8 (98))]) [Value.int .u8 (97), Value.int .u8 (98)] HS (fun a ha => by simp only [List.map_toArray, List.map_cons, List.map_nil]; try rfl) rfl (by decide) (fun _ => by kernel_rfl)) rfl rfl rfl ?_
  rintro _ w ⟨lb8, rfl, HS⟩
  have HS : Sep.St [row 5 1 (.slice (some ⟨lb8, 0, none⟩) (([97, 98] : List Int)).length 2) (([97, 98] : List Int)).length ((([97, 98] : List Int)).map (Value.int .u8)), row 5 1 (.slice at4_0 (t4.1).length ct4_0) (t4.1).length ((t4.1).map (Value.int .u8)), pipe_Pipe.at bt1_0 (t4.2), R] w0 w := HS
  refine W.ev (Y.markS 0 HS rfl (by decide) Try.underlying27 Try.underlying5 rfl) rfl rfl rfl ?_
  rintro _ w ⟨rfl, HS⟩
  have HS : Sep.St [fsl 1 (.slice (some ⟨lb8, 0, none⟩) (([97, 98] : List Int)).length 2) (([97, 98] : List Int)).length ((([97, 98] : List Int)).map (Value.int .u8)), row 5 1 (.slice at4_0 (t4.1).length ct4_0) (t4.1).length ((t4.1).map (Value.int .u8)), pipe_Pipe.at bt1_0 (t4.2), R] w0 w := HS
  obtain ⟨t9, A10, H⟩ := bind_s H
  replace HS := HS.re [2, 0, 1, 3] (by kernel_rfl)
  have HS : Sep.St [pipe_Pipe.at bt1_0 (t4.2), fsl 1 (.slice (some ⟨lb8, 0, none⟩) (([97, 98] : List Int)).length 2) (([97, 98] : List Int)).length ((([97, 98] : List Int)).map (Value.int .u8)), row 5 1 (.slice at4_0 (t4.1).length ct4_0) (t4.1).length ((t4.1).map (Value.int .u8)), R] w0 w := HS
  refine W.ev (Y.call Try.func9 (by kernel_rfl) rfl (vs := [Value.pointer (some ⟨bt1_0, 0, none⟩), Value.slice (some ⟨lb8, 0, none⟩) (([97, 98] : List Int)).length 2]) rfl (pipe_Pipe_Put.calls t4.2 ([97, 98] : List Int) _ w0 _ bt1_0 (some ⟨lb8, 0, none⟩) 2 t9 (rdC.part 0 fsl.rd rfl) A10 (Sep.St.tailJoin (m := [pipe_Pipe.at bt1_0 (t4.2)]) (r := [fsl 1 (.slice (some ⟨lb8, 0, none⟩) (([97, 98] : List Int)).length 2) (([97, 98] : List Int)).length ((([97, 98] : List Int)).map (Value.int .u8)), row 5 1 (.slice at4_0 (t4.1).length ct4_0) (t4.1).length ((t4.1).map (Value.int .u8)), R]) HS))) rfl rfl rfl ?_
  rintro _ w ⟨rfl, HS⟩
  replace HS := Sep.St.tailOpen (m := [pipe_Pipe.at bt1_0 (t9.2)]) (r := [fsl 1 (.slice (some ⟨lb8, 0, none⟩) (([97, 98] : List Int)).length 2) (([97, 98] : List Int)).length ((([97, 98] : List Int)).map (Value.int .u8)), row 5 1 (.slice at4_0 (t4.1).length ct4_0) (t4.1).length ((t4.1).map (Value.int .u8)), R]) HS
  have HS : Sep.St [pipe_Pipe.at bt1_0 (t9.2), fsl 1 (.slice (some ⟨lb8, 0, none⟩) (([97, 98] : List Int)).length 2) (([97, 98] : List Int)).length ((([97, 98] : List Int)).map (Value.int .u8)), row 5 1 (.slice at4_0 (t4.1).length ct4_0) (t4.1).length ((t4.1).map (Value.int .u8)), R] w0 w := HS
  refine W.rd (X.assign rfl) rfl rfl rfl ?_
  refine W.nil ?_
  refine At.next ?_
  refine V.keep [(1, Value.pointer (some ⟨bt1_0, 0, none⟩)), (2, Value.int .i64 (((t4.1).length : Int))), (3, Value.int .i64 (t9.1))] ⟨rfl, rfl, rfl, trivial⟩ ?_
  refine V.seq ?_
  refine V.region ?_
  refine W.rd (X.move rfl) rfl rfl rfl ?_
  refine W.rd (X.cmp (decide (((t4.1).length : Int) = 0)) rfl rfl rfl rfl) rfl rfl rfl ?_
  refine W.rd (X.move rfl) rfl rfl rfl ?_
  by_cases c11 : ((t4.1).length : Int) = 0
  · replace H := ite_t c11 H
    refine W.want 16 rfl (sb (decide_eq_true c11)) ?_
    refine W.rd (X.move rfl) rfl rfl rfl ?_
    refine W.want 16 rfl (sb (decide_eq_true c11)) ?_
    refine W.rd (X.cmp (decide (t9.1 = 2)) rfl rfl rfl rfl) rfl rfl rfl ?_
    refine W.rd (X.pickT (sb (decide_eq_true c11)) rfl) rfl rfl rfl ?_
    refine W.rd (X.move rfl) rfl rfl rfl ?_
    by_cases c12 : t9.1 = 2
    · replace H := ite_t c12 H
      refine W.want 20 rfl (sb (decide_eq_true c12)) ?_
      refine W.rd (X.move rfl) rfl rfl rfl ?_
      refine W.want 20 rfl (sb (decide_eq_true c12)) ?_
      obtain ⟨t13, A14, H⟩ := bind_s H
      refine W.ev (Y.call Try.func11 (by kernel_rfl) rfl (vs := [Value.pointer (some ⟨bt1_0, 0, none⟩), Value.int .i64 (1)]) rfl (pipe_Pipe_Take.calls t9.2 1 _ w0 _ bt1_0 t13  A14 (Sep.St.tailJoin (m := [pipe_Pipe.at bt1_0 (t9.2)]) (r := [fsl 1 (.slice (some ⟨lb8, 0, none⟩) (([97, 98] : List Int)).length 2) (([97, 98] : List Int)).length ((([97, 98] : List Int)).map (Value.int .u8)), row 5 1 (.slice at4_0 (t4.1).length ct4_0) (t4.1).length ((t4.1).map (Value.int .u8)), R]) HS))) rfl rfl rfl ?_
      rintro _ w ⟨at13_0, ct13_0, rfl, HS⟩
      replace HS := Sep.St.tailOpen (m := [row 5 1 (.slice at13_0 (t13.1).length ct13_0) (t13.1).length ((t13.1).map (Value.int .u8)), pipe_Pipe.at bt1_0 (t13.2)]) (r := [fsl 1 (.slice (some ⟨lb8, 0, none⟩) (([97, 98] : List Int)).length 2) (([97, 98] : List Int)).length ((([97, 98] : List Int)).map (Value.int .u8)), row 5 1 (.slice at4_0 (t4.1).length ct4_0) (t4.1).length ((t4.1).map (Value.int .u8)), R]) HS
      have HS : Sep.St [row 5 1 (.slice at13_0 (t13.1).length ct13_0) (t13.1).length ((t13.1).map (Value.int .u8)), pipe_Pipe.at bt1_0 (t13.2), fsl 1 (.slice (some ⟨lb8, 0, none⟩) (([97, 98] : List Int)).length 2) (([97, 98] : List Int)).length ((([97, 98] : List Int)).map (Value.int .u8)), row 5 1 (.slice at4_0 (t4.1).length ct4_0) (t4.1).length ((t4.1).map (Value.int .u8)), R] w0 w := HS
      refine W.want 20 rfl (sb (decide_eq_true c12)) ?_
      refine W.rd (X.bytesStr Try.underlying27 Try.underlying5 Try.underlying9 rfl (rdC.at 0 row_rd HS rfl)) rfl rfl rfl ?_
      refine W.want 20 rfl (sb (decide_eq_true c12)) ?_
      refine W.rd (X.eqStr (a := t13.1) (b := ([97] : List Int)) rfl rfl) rfl rfl rfl ?_
      refine W.rd (X.pickT (sb (decide_eq_true c12)) rfl) rfl rfl rfl ?_
      refine W.rd (X.assign rfl) rfl rfl rfl ?_
      refine W.nil ?_
      refine At.next ?_
      refine V.keep [(0, Value.bool (sEq (t13.1) (([97] : List Int))))] ⟨rfl, trivial⟩ ?_
      refine V.ret ?_
      replace HS := HS.sel [4] [0, 1, 2, 3] (by kernel_rfl)
      cases H
      exact At.ret1 rfl rfl ⟨_, rfl, rfl, HS⟩
    · replace H := ite_f c12 H
      refine W.pass 20 rfl (sb (decide_eq_false c12)) rfl rfl ?_
      refine W.pass 20 rfl (sb (decide_eq_false c12)) rfl rfl ?_
      refine W.pass 20 rfl (sb (decide_eq_false c12)) rfl rfl ?_
      refine W.pass 20 rfl (sb (decide_eq_false c12)) rfl rfl ?_
      refine W.rd (X.pickF (sb (decide_eq_false c12)) rfl) rfl rfl rfl ?_
      refine W.rd (X.assign rfl) rfl rfl rfl ?_
      refine W.nil ?_
      refine At.next ?_
      refine V.keep [(0, Value.bool (false))] ⟨rfl, trivial⟩ ?_
      refine V.ret ?_
      replace HS := HS.sel [3] [0, 1, 2] (by kernel_rfl)
      cases H
      exact At.ret1 rfl rfl ⟨_, rfl, rfl, HS⟩
  · replace H := ite_f c11 H
    refine W.pass 16 rfl (sb (decide_eq_false c11)) rfl rfl ?_
    refine W.pass 16 rfl (sb (decide_eq_false c11)) rfl rfl ?_
    refine W.rd (X.pickF (sb (decide_eq_false c11)) rfl) rfl rfl rfl ?_
    refine W.rd (X.move rfl) rfl rfl rfl ?_
    refine W.pass 20 rfl rfl rfl rfl ?_
    refine W.pass 20 rfl rfl rfl rfl ?_
    refine W.pass 20 rfl rfl rfl rfl ?_
    refine W.pass 20 rfl rfl rfl rfl ?_
    refine W.rd (X.pickF rfl rfl) rfl rfl rfl ?_
    refine W.rd (X.assign rfl) rfl rfl rfl ?_
    refine W.nil ?_
    refine At.next ?_
    refine V.keep [(0, Value.bool (false))] ⟨rfl, trivial⟩ ?_
    refine V.ret ?_
    replace HS := HS.sel [3] [0, 1, 2] (by kernel_rfl)
    cases H
    exact At.ret1 rfl rfl ⟨_, rfl, rfl, HS⟩

/-! ### slices.Insert[[]byte,byte]: function 20 -/
def slices_Insert_Sbytebyte.f (a0 : List Int) (a1 : Int) (a2 : List Int) : Option (List Int) := (if 0 ≤ a1 ∧ a1 ≤ ((a0).length : Int) ∧ ((a0).length : Int) ≤ ((a0).length : Int) then (if ((a2).length : Int) = 0 then some (a0) else (if a1 = ((a0).length : Int) then (if ((a0).length : Int) + (a2).length ≤ 1099511627776 then some (a0 ++ a2) else none) else (if ((a0).length : Int) + (a2).length ≤ 1099511627776 then some (((a0).take (a1).toNat ++ a2) ++ (a0).drop (a1).toNat) else none))) else none)
set_option maxRecDepth 100000 in
set_option maxHeartbeats 4000000 in
theorem slices_Insert_Sbytebyte.calls (a0 : List Int) (a1 : Int) (a2 : List Int) (R : As) (w0 w : World) (sa0 : Option Addr) (sc0 : Nat) (sa2 : Option Addr) (sc2 : Nat) (r : List Int)  (H : slices_Insert_Sbytebyte.f a0 a1 a2 = some r) (HS : Sep.St [row 5 1 (.slice sa0 (a0).length sc0) (a0).length ((a0).map (Value.int .u8)), row 5 1 (.slice sa2 (a2).length sc2) (a2).length ((a2).map (Value.int .u8)), R] w0 w) : Calls Try.prog 20 #[Value.slice sa0 (a0).length sc0, Value.int .i64 (a1), Value.slice sa2 (a2).length sc2] w (Ret fun u w => ∃ (aq0 : Option Addr) (cq0 : Nat), u = Value.slice aq0 (r).length cq0 ∧ Sep.St [row 5 1 (.slice aq0 (r).length cq0) (r).length ((r).map (Value.int .u8)), R] w0 w) := by
  unfold slices_Insert_Sbytebyte.f at H
  refine calls_enter Try.func20 rfl rfl ?_
  have H : _ = some r := H
  refine V.seq ?_
  refine V.region ?_
  refine W.rd (X.assign rfl) rfl rfl rfl ?_
  refine W.nil ?_
  refine At.next ?_
  refine V.keep [(0, Value.slice sa0 (a0).length sc0), (1, Value.int .i64 (a1)), (2, Value.slice sa2 (a2).length sc2)] ⟨rfl, rfl, rfl, trivial⟩ ?_
  refine V.seq ?_
  refine V.region ?_
  refine W.rd (X.move rfl) rfl rfl rfl ?_
  refine W.rd (X.move rfl) rfl rfl rfl ?_
  obtain ⟨c1, H⟩ := ite_n H
  refine W.rd (X.slL Try.underlying27 inf5 rfl rfl c1) rfl rfl rfl ?_
  refine W.nil ?_
  refine At.next ?_
  refine V.keep [(0, Value.slice sa0 (a0).length sc0), (1, Value.int .i64 (a1)), (2, Value.slice sa2 (a2).length sc2)] ⟨rfl, rfl, rfl, trivial⟩ ?_
  refine V.seq ?_
  refine V.region ?_
  refine W.rd (X.move rfl) rfl rfl rfl ?_
  refine W.rd (X.lenSl Try.underlying27 rfl) rfl rfl rfl ?_
  refine W.rd (X.assign rfl) rfl rfl rfl ?_
  refine W.nil ?_
  refine At.next ?_
  refine V.keep [(0, Value.slice sa0 (a0).length sc0), (1, Value.int .i64 (a1)), (2, Value.slice sa2 (a2).length sc2), (7, Value.int .i64 (((a2).length : Int)))] ⟨rfl, rfl, rfl, rfl, trivial⟩ ?_
  refine V.seq ?_
  refine V.seq ?_
  refine V.region ?_
  refine W.rd (X.move rfl) rfl rfl rfl ?_
  refine W.rd (X.cmp (decide (((a2).length : Int) = 0)) rfl rfl rfl rfl) rfl rfl rfl ?_
  refine W.nil ?_
  refine At.next ?_
  refine V.keep [(0, Value.slice sa0 (a0).length sc0), (1, Value.int .i64 (a1)), (2, Value.slice sa2 (a2).length sc2), (7, Value.int .i64 (((a2).length : Int))), (16, Value.bool (decide (((a2).length : Int) = 0)))] ⟨rfl, rfl, rfl, rfl, rfl, trivial⟩ ?_
  by_cases c4 : ((a2).length : Int) = 0
  · replace H := ite_t c4 H
    refine V.condT (sb (decide_eq_true c4)) ?_
    refine V.seq ?_
    refine V.region ?_
    refine W.rd (X.move rfl) rfl rfl rfl ?_
    refine W.rd (X.assign rfl) rfl rfl rfl ?_
    refine W.nil ?_
    refine At.next ?_
    refine V.keep [(6, Value.slice sa0 (a0).length sc0)] ⟨rfl, trivial⟩ ?_
    refine V.ret ?_
    refine At.thenRet ?_
    replace HS := HS.sel [0, 2] [1] (by kernel_rfl)
    cases H
    exact At.ret1 rfl rfl ⟨_, rfl, sa0, sc0, rfl, HS⟩
  · replace H := ite_f c4 H
    refine V.condF (sb (decide_eq_false c4)) ?_
    refine V.skip ?_
    refine At.next ?_
    refine V.keep [(0, Value.slice sa0 (a0).length sc0), (1, Value.int .i64 (a1)), (2, Value.slice sa2 (a2).length sc2), (7, Value.int .i64 (((a2).length : Int)))] ⟨rfl, rfl, rfl, rfl, trivial⟩ ?_
    refine V.seq ?_
    refine V.region ?_
    refine W.rd (X.move rfl) rfl rfl rfl ?_
    refine W.rd (X.lenSl Try.underlying27 rfl) rfl rfl rfl ?_
    refine W.rd (X.assign rfl) rfl rfl rfl ?_
    refine W.nil ?_
    refine At.next ?_
    refine V.keep [(0, Value.slice sa0 (a0).length sc0), (1, Value.int .i64 (a1)), (2, Value.slice sa2 (a2).length sc2), (7, Value.int .i64 (((a2).length : Int))), (8, Value.int .i64 (((a0).length : Int)))] ⟨rfl, rfl, rfl, rfl, rfl, trivial⟩ ?_
    refine V.seq ?_
    refine V.seq ?_
    refine V.region ?_
    refine W.rd (X.move rfl) rfl rfl rfl ?_
    refine W.rd (X.move rfl) rfl rfl rfl ?_
    refine W.rd (X.cmp (decide (a1 = ((a0).length : Int))) rfl rfl rfl rfl) rfl rfl rfl ?_
    refine W.nil ?_
    refine At.next ?_
    refine V.keep [(0, Value.slice sa0 (a0).length sc0), (1, Value.int .i64 (a1)), (2, Value.slice sa2 (a2).length sc2), (7, Value.int .i64 (((a2).length : Int))), (8, Value.int .i64 (((a0).length : Int))), (22, Value.bool (decide (a1 = ((a0).length : Int))))] ⟨rfl, rfl, rfl, rfl, rfl, rfl, trivial⟩ ?_
    by_cases c5 : a1 = ((a0).length : Int)
    · replace H := ite_t c5 H
      refine V.condT (sb (decide_eq_true c5)) ?_
      refine V.seq ?_
      refine V.region ?_
      refine W.rd (X.move rfl) rfl rfl rfl ?_
      refine W.rd (X.move rfl) rfl rfl rfl ?_
      obtain ⟨c6, H⟩ := ite_n H
      refine W.ev (Y.appF (Value.int .u8) (fun _ => rfl) 0 Try.underlying27 ap5 rfl HS rfl rfl rfl (rdC.at 1 row_rd HS rfl) (by omega) (by omega)) rfl rfl rfl ?_
      rintro _ w ⟨ra7, rc8, rfl, HS⟩
      have HS : Sep.St [row 5 1 (.slice ra7 (a0 ++ a2).length rc8) (a0 ++ a2).length ((a0 ++ a2).map (Value.int .u8)), row 5 1 (.slice sa2 (a2).length sc2) (a2).length ((a2).map (Value.int .u8)), R] w0 w := HS
      refine W.rd (X.assign rfl) rfl rfl rfl ?_
      refine W.nil ?_
      refine At.next ?_
      refine V.keep [(6, Value.slice ra7 (a0 ++ a2).length rc8)] ⟨rfl, trivial⟩ ?_
      refine V.ret ?_
      refine At.thenRet ?_
      replace HS := HS.sel [0, 2] [1] (by kernel_rfl)
      cases H
      exact At.ret1 rfl rfl ⟨_, rfl, ra7, rc8, rfl, HS⟩
    · replace H := ite_f c5 H
      refine V.condF (sb (decide_eq_false c5)) ?_
      refine V.skip ?_
      refine At.next ?_
      refine V.keep [(0, Value.slice sa0 (a0).length sc0), (1, Value.int .i64 (a1)), (2, Value.slice sa2 (a2).length sc2), (7, Value.int .i64 (((a2).length : Int))), (8, Value.int .i64 (((a0).length : Int)))] ⟨rfl, rfl, rfl, rfl, rfl, trivial⟩ ?_
      refine V.seq ?_
      refine V.seq ?_
      refine V.region ?_
      refine W.rd (X.move rfl) rfl rfl rfl ?_
      refine W.rd (X.move rfl) rfl rfl rfl ?_
      refine W.rd (X.add rfl rfl) rfl rfl rfl ?_
      refine W.rd (X.move rfl) rfl rfl rfl ?_
      obtain ⟨c9, H⟩ := ite_n H
      obtain ⟨ig10, io11, iu12, rfl, hc13, hm14, hf15, h416, HN⟩ := HS.row_open (by omega); clear HS; have HS := HN
      replace HS := HS.front 1 rfl
      have HS : Sep.St [row 5 1 (.slice sa2 (a2).length sc2) (a2).length ((a2).map (Value.int .u8)), blk ig10 iu12 5, R] w0 w := HS
      obtain ⟨ig17, io18, iu19, rfl, hc20, hm21, hf22, h423, HN⟩ := HS.row_open (by omega); clear HS; have HS := HN
      have HS : Sep.St [blk ig17 iu19 5, blk ig10 iu12 5, R] w0 w := HS
      have hne24 := St.blk_ne HS
      have hwa : w64 (((a0).length : Int) + ((a2).length : Int)) = ((a0).length : Int) + ((a2).length : Int) := w64_in ⟨by omega, by omega⟩
      have hwb : w64 (a1 + ((a2).length : Int)) = a1 + ((a2).length : Int) := w64_in ⟨by omega, by omega⟩
      have hwc : w64 (w64 (((a0).length : Int) + ((a2).length : Int)) - a1) = ((a0).length : Int) + ((a2).length : Int) - a1 := by rw [hwa]; exact w64_in ⟨by omega, by omega⟩
      refine W.rd (X.cap Try.underlying27 rfl) rfl rfl rfl ?_
      refine W.rd (X.cmp (decide ((w64 (((a0).length : Int) + ((a2).length : Int))) > (sc0 : Int))) rfl rfl rfl rfl) rfl rfl rfl ?_
      refine W.nil ?_
      refine At.next ?_
      refine V.keep [(0, Value.slice (some ⟨ig10, io11, none⟩) ((a0).length) sc0), (1, Value.int .i64 (a1)), (2, Value.slice (some ⟨ig17, io18, none⟩) ((a2).length) sc2), (7, Value.int .i64 (((a2).length : Int))), (8, Value.int .i64 (((a0).length : Int))), (31, Value.bool (decide ((w64 (((a0).length : Int) + ((a2).length : Int))) > (sc0 : Int))))] ⟨rfl, rfl, rfl, rfl, rfl, rfl, trivial⟩ ?_
      by_cases c25 : (w64 (((a0).length : Int) + ((a2).length : Int))) > (sc0 : Int)
      · skip
        refine V.condT (sb (decide_eq_true c25)) ?_
        refine V.seq ?_
        refine V.region ?_
        refine W.rd (X.move rfl) rfl rfl rfl ?_
        refine W.rd (X.move rfl) rfl rfl rfl ?_
        refine W.rd (X.rawH (j := a1) Try.underlying27 inf5 rfl rfl ⟨(by omega), (by omega)⟩) rfl rfl rfl ?_
        refine W.rd (X.move rfl) rfl rfl rfl ?_
        refine W.rd (X.move rfl) rfl rfl rfl ?_
        refine W.rd (X.add rfl rfl) rfl rfl rfl ?_
        refine W.rd (X.move rfl) rfl rfl rfl ?_
        refine W.rd (X.sub rfl rfl) rfl rfl rfl ?_
        refine W.ev (Y.appZ (kk := (a0).length + (a2).length - a1.toNat) (kI := w64 ((w64 (((a0).length : Int) + ((a2).length : Int))) - a1)) 1 Try.underlying27 Try.underlying3 ap5 rfl HS rfl rfl rfl (by omega) (by omega) (by omega) (by omega) (by omega) (by decide)) rfl rfl rfl ?_
        rintro _ w ⟨ig26, ic27, iR28, rfl, hc29, hm30, hf31, h432, HS⟩
        have HS : Sep.St [blk ig26 iR28 5, blk ig17 iu19 5, blk ig10 iu12 5, R] w0 w := HS
        refine W.rd (X.assign rfl) rfl rfl rfl ?_
        refine W.nil ?_
        refine At.next ?_
        refine V.keep [(0, Value.slice (some ⟨ig10, io11, none⟩) ((a0).length) sc0), (1, Value.int .i64 (a1)), (2, Value.slice (some ⟨ig17, io18, none⟩) ((a2).length) sc2), (7, Value.int .i64 (((a2).length : Int))), (9, Value.slice (some ⟨ig26, 0, none⟩) (((a1).toNat) + ((a0).length + (a2).length - a1.toNat)) ic27)] ⟨rfl, rfl, rfl, rfl, rfl, trivial⟩ ?_
        refine V.seq ?_
        refine V.region ?_
        refine W.rd (X.move rfl) rfl rfl rfl ?_
        refine W.rd (X.move rfl) rfl rfl rfl ?_
        refine W.rd (X.rawL (i := a1) Try.underlying27 inf5 rfl rfl ⟨(by omega), (by omega)⟩ (by omega)) rfl rfl rfl ?_
        refine W.rd (X.move rfl) rfl rfl rfl ?_
        refine W.ev (Y.copyB (ds := ((a2).map (Value.int .u8))) 0 Try.underlying27 inf5 HS rfl rfl rfl (fun j u hu => readO0 1 HS rfl h423 (by omega) j u hu) (oneM (fun _ => rfl)) (by simp only [size_setMany, List.length_drop, List.length_map, true_and, true_or, or_true] <;> omega) (by simp only [size_setMany, List.length_drop, List.length_map, true_and, true_or, or_true] <;> omega)) rfl rfl rfl ?_
        rintro _ w ⟨rfl, HS⟩
        have HS : Sep.St [blk ig26 (setMany iR28 (0 + (a1).toNat) ((a2).map (Value.int .u8))) 5, blk ig17 iu19 5, blk ig10 iu12 5, R] w0 w := HS
        refine W.nil ?_
        refine At.next ?_
        refine V.keep [(0, Value.slice (some ⟨ig10, io11, none⟩) ((a0).length) sc0), (1, Value.int .i64 (a1)), (7, Value.int .i64 (((a2).length : Int))), (9, Value.slice (some ⟨ig26, 0, none⟩) (((a1).toNat) + ((a0).length + (a2).length - a1.toNat)) ic27)] ⟨rfl, rfl, rfl, rfl, trivial⟩ ?_
        refine V.seq ?_
        refine V.draw (es := [8]) (bl := []) (f := [(46, Value.slice (some ⟨ig26, 0, none⟩) (((a1).toNat) + ((a0).length + (a2).length - a1.toNat)) ic27), (47, Value.int .i64 (a1)), (48, Value.int .i64 (((a2).length : Int))), (49, Value.int .i64 (w64 (a1 + ((a2).length : Int)))), (50, Value.slice (some ⟨ig26, 0 + (w64 (a1 + ((a2).length : Int))).toNat, none⟩) ((((a1).toNat) + ((a0).length + (a2).length - a1.toNat)) - (w64 (a1 + ((a2).length : Int))).toNat) (ic27 - (w64 (a1 + ((a2).length : Int))).toNat)), (51, Value.slice (some ⟨ig10, io11, none⟩) ((a0).length) sc0), (52, Value.int .i64 (a1)), (53, Value.slice (some ⟨ig10, io11 + (a1).toNat, none⟩) (((a0).length) - (a1).toNat) (sc0 - (a1).toNat))]) (fun w => Sep.St [blk ig26 (setMany iR28 (0 + (a1).toNat) ((a2).map (Value.int .u8))) 5, blk ig17 iu19 5, blk ig10 iu12 5, R] w0 w) mo HS.drew rfl ?_
        refine T.event _ [(50, Value.slice (some ⟨ig26, 0 + (w64 (a1 + ((a2).length : Int))).toNat, none⟩) ((((a1).toNat) + ((a0).length + (a2).length - a1.toNat)) - (w64 (a1 + ((a2).length : Int))).toNat) (ic27 - (w64 (a1 + ((a2).length : Int))).toNat)), (53, Value.slice (some ⟨ig10, io11 + (a1).toNat, none⟩) (((a0).length) - (a1).toNat) (sc0 - (a1).toNat))] rfl rfl ⟨⟨_, Value.slice (some ⟨ig26, 0, none⟩) (((a1).toNat) + ((a0).length + (a2).length - a1.toNat)) ic27, [(9, Value.slice (some ⟨ig26, 0, none⟩) (((a1).toNat) + ((a0).length + (a2).length - a1.toNat)) ic27)], 46, rfl, rfl, ⟨.inl ⟨rfl, rfl⟩, trivial⟩, .run rfl (fun w HS => X.move rfl), rfl, rfl, rfl⟩, ⟨_, Value.int .i64 (a1), [(1, Value.int .i64 (a1))], 47, rfl, rfl, ⟨.inl ⟨rfl, rfl⟩, trivial⟩, .run rfl (fun w HS => X.move rfl), rfl, rfl, rfl⟩, ⟨_, Value.int .i64 (((a2).length : Int)), [(7, Value.int .i64 (((a2).length : Int)))], 48, rfl, rfl, ⟨.inl ⟨rfl, rfl⟩, trivial⟩, .run rfl (fun w HS => X.move rfl), rfl, rfl, rfl⟩, ⟨_, Value.int .i64 (w64 (a1 + ((a2).length : Int))), [(47, Value.int .i64 (a1)), (48, Value.int .i64 (((a2).length : Int)))], 49, rfl, rfl, ⟨.inr ⟨rfl, rfl⟩, ⟨.inr ⟨rfl, rfl⟩, trivial⟩⟩, .run rfl (fun w HS => X.add rfl rfl), rfl, rfl, rfl⟩, ⟨_, Value.slice (some ⟨ig26, 0 + (w64 (a1 + ((a2).length : Int))).toNat, none⟩) ((((a1).toNat) + ((a0).length + (a2).length - a1.toNat)) - (w64 (a1 + ((a2).length : Int))).toNat) (ic27 - (w64 (a1 + ((a2).length : Int))).toNat), [(46, Value.slice (some ⟨ig26, 0, none⟩) (((a1).toNat) + ((a0).length + (a2).length - a1.toNat)) ic27), (49, Value.int .i64 (w64 (a1 + ((a2).length : Int))))], 50, rfl, rfl, ⟨.inr ⟨rfl, rfl⟩, ⟨.inr ⟨rfl, rfl⟩, trivial⟩⟩, .run rfl (fun w HS => X.rawL (i := w64 (a1 + ((a2).length : Int))) Try.underlying27 inf5 rfl rfl ⟨(by omega), (by omega)⟩ (by omega)), rfl, rfl, rfl⟩, ⟨_, Value.slice (some ⟨ig10, io11, none⟩) ((a0).length) sc0, [(0, Value.slice (some ⟨ig10, io11, none⟩) ((a0).length) sc0)], 51, rfl, rfl, ⟨.inl ⟨rfl, rfl⟩, trivial⟩, .run rfl (fun w HS => X.move rfl), rfl, rfl, rfl⟩, ⟨_, Value.int .i64 (a1), [(1, Value.int .i64 (a1))], 52, rfl, rfl, ⟨.inl ⟨rfl, rfl⟩, trivial⟩, .run rfl (fun w HS => X.move rfl), rfl, rfl, rfl⟩, ⟨_, Value.slice (some ⟨ig10, io11 + (a1).toNat, none⟩) (((a0).length) - (a1).toNat) (sc0 - (a1).toNat), [(51, Value.slice (some ⟨ig10, io11, none⟩) ((a0).length) sc0), (52, Value.int .i64 (a1))], 53, rfl, rfl, ⟨.inr ⟨rfl, rfl⟩, ⟨.inr ⟨rfl, rfl⟩, trivial⟩⟩, .run rfl (fun w HS => X.rawL (i := a1) Try.underlying27 inf5 rfl rfl ⟨(by omega), (by omega)⟩ (by omega)), rfl, rfl, rfl⟩, trivial⟩ rfl ⟨.inr ⟨rfl, rfl⟩, ⟨.inr ⟨rfl, rfl⟩, trivial⟩⟩ (Or.inl rfl) (by intro d hd; cases hd; exact ⟨by decide, rfl, rfl⟩) [] [0, 1, 2, 3, 4, 5, 6, 7] rfl rfl (fun w HS => ?_)
        have HS : Sep.St [blk ig26 (setMany iR28 (0 + (a1).toNat) ((a2).map (Value.int .u8))) 5, blk ig17 iu19 5, blk ig10 iu12 5, R] w0 w := HS
        refine ⟨_, Y.copyB (ds := (((a0).map (Value.int .u8)).drop ((a1).toNat))) 0 Try.underlying27 inf5 HS rfl rfl rfl (fun j u hu => readO 2 HS rfl h416 (by omega) (by omega) j u hu) (fun u hu => oneM (fun _ => rfl) u (List.mem_of_mem_drop hu)) (by simp only [size_setMany, List.length_drop, List.length_map, true_and, true_or, or_true] <;> omega) (by simp only [size_setMany, List.length_drop, List.length_map, true_and, true_or, or_true] <;> omega), ?_⟩
        rintro _ w ⟨rfl, HS⟩
        have HS : Sep.St [blk ig26 (setMany (setMany iR28 (0 + (a1).toNat) ((a2).map (Value.int .u8))) (0 + (w64 (a1 + ((a2).length : Int))).toNat) (((a0).map (Value.int .u8)).drop ((a1).toNat))) 5, blk ig17 iu19 5, blk ig10 iu12 5, R] w0 w := HS
        refine ⟨[(54, Value.int .i64 (((((a0).map (Value.int .u8)).drop ((a1).toNat)).length : Int)))], fun w => Sep.St [blk ig26 (setMany (setMany iR28 (0 + (a1).toNat) ((a2).map (Value.int .u8))) (0 + (w64 (a1 + ((a2).length : Int))).toNat) (((a0).map (Value.int .u8)).drop ((a1).toNat))) 5, blk ig17 iu19 5, blk ig10 iu12 5, R] w0 w, ⟨.inl ⟨rfl, rfl⟩, trivial⟩, ?_, HS⟩
        refine T.fin [(9, Value.slice (some ⟨ig26, 0, none⟩) (((a1).toNat) + ((a0).length + (a2).length - a1.toNat)) ic27)] rfl trivial ⟨.inl ⟨rfl, rfl⟩, trivial⟩ (fun w HS => ?_)
        have HS : Sep.St [blk ig26 (setMany (setMany iR28 (0 + (a1).toNat) ((a2).map (Value.int .u8))) (0 + (w64 (a1 + ((a2).length : Int))).toNat) (((a0).map (Value.int .u8)).drop ((a1).toNat))) 5, blk ig17 iu19 5, blk ig10 iu12 5, R] w0 w := HS
        refine At.next ?_
        refine V.keep [(9, Value.slice (some ⟨ig26, 0, none⟩) (((a1).toNat) + ((a0).length + (a2).length - a1.toNat)) ic27)] ⟨rfl, trivial⟩ ?_
        refine V.seq ?_
        refine V.region ?_
        refine W.rd (X.move rfl) rfl rfl rfl ?_
        refine W.rd (X.assign rfl) rfl rfl rfl ?_
        refine W.nil ?_
        refine At.next ?_
        refine V.keep [(6, Value.slice (some ⟨ig26, 0, none⟩) (((a1).toNat) + ((a0).length + (a2).length - a1.toNat)) ic27)] ⟨rfl, trivial⟩ ?_
        refine V.ret ?_
        refine At.thenRet ?_
        have he35 : (((a0).take (a1).toNat ++ a2) ++ (a0).drop (a1).toNat).length = ((a1).toNat) + ((a0).length + (a2).length - a1.toNat) := by simp only [List.length_append, List.length_take, List.length_drop]; omega
        refine At.again 6 (v := Value.slice (some ⟨ig26, 0, none⟩) (((a0).take (a1).toNat ++ a2) ++ (a0).drop (a1).toNat).length ic27) (by rw [he35]; rfl) ?_
        have hl36 := ins_new (i := (a1).toNat) (n := (a0).length) (m := (a2).length) (xs := a0) (vs := a2) (g := (Value.int .u8)) (o1 := 0 + (a1).toNat) (o2 := 0 + (w64 (a1 + ((a2).length : Int))).toNat) (t := (((a0).take (a1).toNat ++ a2) ++ (a0).drop (a1).toNat).length) (by rw [h432, ← h416, List.take_take, show min (a1).toNat (a0).length = (a1).toNat by omega]) rfl rfl (by omega) (by omega) (by omega) (by omega) (by omega)
        replace HS := HS.row_shut (m := (((a0).take (a1).toNat ++ a2) ++ (a0).drop (a1).toNat).length) (c := ic27) (cs := (((a0).take (a1).toNat ++ a2) ++ (a0).drop (a1).toNat).map (Value.int .u8)) (by omega) (by omega) (by simp only [size_setMany]; omega) hl36 (by rw [List.length_map])
        have HS : Sep.St [row 5 1 (.slice (some ⟨ig26, 0, none⟩) (((a0).take (a1).toNat ++ a2) ++ (a0).drop (a1).toNat).length ic27) (((a0).take (a1).toNat ++ a2) ++ (a0).drop (a1).toNat).length ((((a0).take (a1).toNat ++ a2) ++ (a0).drop (a1).toNat).map (Value.int .u8)), blk ig17 iu19 5, blk ig10 iu12 5, R] w0 w := HS
        replace HS := HS.sel [0, 3] [1, 2] (by kernel_rfl)
        cases H
        exact At.ret1 rfl rfl ⟨_, rfl, (some ⟨ig26, 0, none⟩), ic27, rfl, HS⟩
      · skip
        refine V.condF (sb (decide_eq_false c25)) ?_
        refine V.skip ?_
        refine At.next ?_
        refine V.keep [(0, Value.slice (some ⟨ig10, io11, none⟩) ((a0).length) sc0), (1, Value.int .i64 (a1)), (2, Value.slice (some ⟨ig17, io18, none⟩) ((a2).length) sc2), (7, Value.int .i64 (((a2).length : Int))), (8, Value.int .i64 (((a0).length : Int)))] ⟨rfl, rfl, rfl, rfl, rfl, trivial⟩ ?_
        refine V.seq ?_
        refine V.region ?_
        refine W.rd (X.move rfl) rfl rfl rfl ?_
        refine W.rd (X.move rfl) rfl rfl rfl ?_
        refine W.rd (X.move rfl) rfl rfl rfl ?_
        refine W.rd (X.add rfl rfl) rfl rfl rfl ?_
        refine W.rd (X.rawH (j := w64 (((a0).length : Int) + ((a2).length : Int))) Try.underlying27 inf5 rfl rfl ⟨(by omega), (by omega)⟩) rfl rfl rfl ?_
        refine W.rd (X.assign rfl) rfl rfl rfl ?_
        refine W.nil ?_
        refine At.next ?_
        refine V.keep [(0, Value.slice (some ⟨ig10, io11, none⟩) ((w64 (((a0).length : Int) + ((a2).length : Int))).toNat) sc0), (1, Value.int .i64 (a1)), (2, Value.slice (some ⟨ig17, io18, none⟩) ((a2).length) sc2), (7, Value.int .i64 (((a2).length : Int))), (8, Value.int .i64 (((a0).length : Int)))] ⟨rfl, rfl, rfl, rfl, rfl, trivial⟩ ?_
        refine V.seq ?_
        refine V.seq ?_
        refine V.region ?_
        refine W.rd (X.move rfl) rfl rfl rfl ?_
        refine W.rd (X.move rfl) rfl rfl rfl ?_
        refine W.rd (X.move rfl) rfl rfl rfl ?_
        refine W.rd (X.move rfl) rfl rfl rfl ?_
        refine W.rd (X.add rfl rfl) rfl rfl rfl ?_
        refine W.rd (X.rawL (i := w64 (a1 + ((a2).length : Int))) Try.underlying27 inf5 rfl rfl ⟨(by omega), (by omega)⟩ (by omega)) rfl rfl rfl ?_
        refine W.rd (X.overlaps (tR := 4) 0 1 Try.func24 (by kernel_rfl) (by kernel_rfl) (by kernel_rfl) (by kernel_rfl) Try.underlying27 inf5 HS rfl rfl hne24 (by omega) rfl rfl) rfl rfl rfl ?_
        refine W.rd (X.not rfl) rfl rfl rfl ?_
        refine W.nil ?_
        refine At.next ?_
        refine V.keep [(0, Value.slice (some ⟨ig10, io11, none⟩) ((w64 (((a0).length : Int) + ((a2).length : Int))).toNat) sc0), (1, Value.int .i64 (a1)), (2, Value.slice (some ⟨ig17, io18, none⟩) ((a2).length) sc2), (7, Value.int .i64 (((a2).length : Int))), (8, Value.int .i64 (((a0).length : Int))), (68, Value.bool (true))] ⟨rfl, rfl, rfl, rfl, rfl, rfl, trivial⟩ ?_
        refine V.condT rfl ?_
        refine V.seq ?_
        refine V.draw (es := [8]) (bl := []) (f := [(69, Value.slice (some ⟨ig10, io11, none⟩) ((w64 (((a0).length : Int) + ((a2).length : Int))).toNat) sc0), (70, Value.int .i64 (a1)), (71, Value.int .i64 (((a2).length : Int))), (72, Value.int .i64 (w64 (a1 + ((a2).length : Int)))), (73, Value.slice (some ⟨ig10, io11 + (w64 (a1 + ((a2).length : Int))).toNat, none⟩) (((w64 (((a0).length : Int) + ((a2).length : Int))).toNat) - (w64 (a1 + ((a2).length : Int))).toNat) (sc0 - (w64 (a1 + ((a2).length : Int))).toNat)), (74, Value.slice (some ⟨ig10, io11, none⟩) ((w64 (((a0).length : Int) + ((a2).length : Int))).toNat) sc0), (75, Value.int .i64 (a1)), (76, Value.slice (some ⟨ig10, io11 + (a1).toNat, none⟩) (((w64 (((a0).length : Int) + ((a2).length : Int))).toNat) - (a1).toNat) (sc0 - (a1).toNat))]) (fun w => Sep.St [blk ig17 iu19 5, blk ig10 iu12 5, R] w0 w) mo HS.drew rfl ?_
        refine T.event _ [(73, Value.slice (some ⟨ig10, io11 + (w64 (a1 + ((a2).length : Int))).toNat, none⟩) (((w64 (((a0).length : Int) + ((a2).length : Int))).toNat) - (w64 (a1 + ((a2).length : Int))).toNat) (sc0 - (w64 (a1 + ((a2).length : Int))).toNat)), (76, Value.slice (some ⟨ig10, io11 + (a1).toNat, none⟩) (((w64 (((a0).length : Int) + ((a2).length : Int))).toNat) - (a1).toNat) (sc0 - (a1).toNat))] rfl rfl ⟨⟨_, Value.slice (some ⟨ig10, io11, none⟩) ((w64 (((a0).length : Int) + ((a2).length : Int))).toNat) sc0, [(0, Value.slice (some ⟨ig10, io11, none⟩) ((w64 (((a0).length : Int) + ((a2).length : Int))).toNat) sc0)], 69, rfl, rfl, ⟨.inl ⟨rfl, rfl⟩, trivial⟩, .run rfl (fun w HS => X.move rfl), rfl, rfl, rfl⟩, ⟨_, Value.int .i64 (a1), [(1, Value.int .i64 (a1))], 70, rfl, rfl, ⟨.inl ⟨rfl, rfl⟩, trivial⟩, .run rfl (fun w HS => X.move rfl), rfl, rfl, rfl⟩, ⟨_, Value.int .i64 (((a2).length : Int)), [(7, Value.int .i64 (((a2).length : Int)))], 71, rfl, rfl, ⟨.inl ⟨rfl, rfl⟩, trivial⟩, .run rfl (fun w HS => X.move rfl), rfl, rfl, rfl⟩, ⟨_, Value.int .i64 (w64 (a1 + ((a2).length : Int))), [(70, Value.int .i64 (a1)), (71, Value.int .i64 (((a2).length : Int)))], 72, rfl, rfl, ⟨.inr ⟨rfl, rfl⟩, ⟨.inr ⟨rfl, rfl⟩, trivial⟩⟩, .run rfl (fun w HS => X.add rfl rfl), rfl, rfl, rfl⟩, ⟨_, Value.slice (some ⟨ig10, io11 + (w64 (a1 + ((a2).length : Int))).toNat, none⟩) (((w64 (((a0).length : Int) + ((a2).length : Int))).toNat) - (w64 (a1 + ((a2).length : Int))).toNat) (sc0 - (w64 (a1 + ((a2).length : Int))).toNat), [(69, Value.slice (some ⟨ig10, io11, none⟩) ((w64 (((a0).length : Int) + ((a2).length : Int))).toNat) sc0), (72, Value.int .i64 (w64 (a1 + ((a2).length : Int))))], 73, rfl, rfl, ⟨.inr ⟨rfl, rfl⟩, ⟨.inr ⟨rfl, rfl⟩, trivial⟩⟩, .run rfl (fun w HS => X.rawL (i := w64 (a1 + ((a2).length : Int))) Try.underlying27 inf5 rfl rfl ⟨(by omega), (by omega)⟩ (by omega)), rfl, rfl, rfl⟩, ⟨_, Value.slice (some ⟨ig10, io11, none⟩) ((w64 (((a0).length : Int) + ((a2).length : Int))).toNat) sc0, [(0, Value.slice (some ⟨ig10, io11, none⟩) ((w64 (((a0).length : Int) + ((a2).length : Int))).toNat) sc0)], 74, rfl, rfl, ⟨.inl ⟨rfl, rfl⟩, trivial⟩, .run rfl (fun w HS => X.move rfl), rfl, rfl, rfl⟩, ⟨_, Value.int .i64 (a1), [(1, Value.int .i64 (a1))], 75, rfl, rfl, ⟨.inl ⟨rfl, rfl⟩, trivial⟩, .run rfl (fun w HS => X.move rfl), rfl, rfl, rfl⟩, ⟨_, Value.slice (some ⟨ig10, io11 + (a1).toNat, none⟩) (((w64 (((a0).length : Int) + ((a2).length : Int))).toNat) - (a1).toNat) (sc0 - (a1).toNat), [(74, Value.slice (some ⟨ig10, io11, none⟩) ((w64 (((a0).length : Int) + ((a2).length : Int))).toNat) sc0), (75, Value.int .i64 (a1))], 76, rfl, rfl, ⟨.inr ⟨rfl, rfl⟩, ⟨.inr ⟨rfl, rfl⟩, trivial⟩⟩, .run rfl (fun w HS => X.rawL (i := a1) Try.underlying27 inf5 rfl rfl ⟨(by omega), (by omega)⟩ (by omega)), rfl, rfl, rfl⟩, trivial⟩ rfl ⟨.inr ⟨rfl, rfl⟩, ⟨.inr ⟨rfl, rfl⟩, trivial⟩⟩ (Or.inl rfl) (by intro d hd; cases hd; exact ⟨by decide, rfl, rfl⟩) [] [0, 1, 2, 3, 4, 5, 6, 7] rfl rfl (fun w HS => ?_)
        have HS : Sep.St [blk ig17 iu19 5, blk ig10 iu12 5, R] w0 w := HS
        refine ⟨_, Y.copyB (ds := (((a0).map (Value.int .u8)).drop ((a1).toNat))) 1 Try.underlying27 inf5 HS rfl rfl rfl (fun j u hu => readO 1 HS rfl h416 (by omega) (by omega) j u hu) (fun u hu => oneM (fun _ => rfl) u (List.mem_of_mem_drop hu)) (by simp only [size_setMany, List.length_drop, List.length_map, true_and, true_or, or_true] <;> omega) (by simp only [size_setMany, List.length_drop, List.length_map, true_and, true_or, or_true] <;> omega), ?_⟩
        rintro _ w ⟨rfl, HS⟩
        have HS : Sep.St [blk ig17 iu19 5, blk ig10 (setMany iu12 (io11 + (w64 (a1 + ((a2).length : Int))).toNat) (((a0).map (Value.int .u8)).drop ((a1).toNat))) 5, R] w0 w := HS
        refine ⟨[(77, Value.int .i64 (((((a0).map (Value.int .u8)).drop ((a1).toNat)).length : Int)))], fun w => Sep.St [blk ig17 iu19 5, blk ig10 (setMany iu12 (io11 + (w64 (a1 + ((a2).length : Int))).toNat) (((a0).map (Value.int .u8)).drop ((a1).toNat))) 5, R] w0 w, ⟨.inl ⟨rfl, rfl⟩, trivial⟩, ?_, HS⟩
        refine T.fin [(0, Value.slice (some ⟨ig10, io11, none⟩) ((w64 (((a0).length : Int) + ((a2).length : Int))).toNat) sc0), (1, Value.int .i64 (a1)), (2, Value.slice (some ⟨ig17, io18, none⟩) ((a2).length) sc2)] rfl trivial ⟨.inl ⟨rfl, rfl⟩, ⟨.inl ⟨rfl, rfl⟩, ⟨.inl ⟨rfl, rfl⟩, trivial⟩⟩⟩ (fun w HS => ?_)
        have HS : Sep.St [blk ig17 iu19 5, blk ig10 (setMany iu12 (io11 + (w64 (a1 + ((a2).length : Int))).toNat) (((a0).map (Value.int .u8)).drop ((a1).toNat))) 5, R] w0 w := HS
        refine At.next ?_
        refine V.keep [(0, Value.slice (some ⟨ig10, io11, none⟩) ((w64 (((a0).length : Int) + ((a2).length : Int))).toNat) sc0), (1, Value.int .i64 (a1)), (2, Value.slice (some ⟨ig17, io18, none⟩) ((a2).length) sc2)] ⟨rfl, rfl, rfl, trivial⟩ ?_
        refine V.seq ?_
        refine V.region ?_
        refine W.rd (X.move rfl) rfl rfl rfl ?_
        refine W.rd (X.move rfl) rfl rfl rfl ?_
        refine W.rd (X.rawL (i := a1) Try.underlying27 inf5 rfl rfl ⟨(by omega), (by omega)⟩ (by omega)) rfl rfl rfl ?_
        refine W.rd (X.move rfl) rfl rfl rfl ?_
        refine W.ev (Y.copyB (ds := ((a2).map (Value.int .u8))) 1 Try.underlying27 inf5 HS rfl rfl rfl (fun j u hu => readO0 0 HS rfl h423 (by omega) j u hu) (oneM (fun _ => rfl)) (by simp only [size_setMany, List.length_drop, List.length_map, true_and, true_or, or_true] <;> omega) (by simp only [size_setMany, List.length_drop, List.length_map, true_and, true_or, or_true] <;> omega)) rfl rfl rfl ?_
        rintro _ w ⟨rfl, HS⟩
        have HS : Sep.St [blk ig17 iu19 5, blk ig10 (setMany (setMany iu12 (io11 + (w64 (a1 + ((a2).length : Int))).toNat) (((a0).map (Value.int .u8)).drop ((a1).toNat))) (io11 + (a1).toNat) ((a2).map (Value.int .u8))) 5, R] w0 w := HS
        refine W.nil ?_
        refine At.next ?_
        refine V.keep [(0, Value.slice (some ⟨ig10, io11, none⟩) ((w64 (((a0).length : Int) + ((a2).length : Int))).toNat) sc0)] ⟨rfl, trivial⟩ ?_
        refine V.seq ?_
        refine V.region ?_
        refine W.rd (X.move rfl) rfl rfl rfl ?_
        refine W.rd (X.assign rfl) rfl rfl rfl ?_
        refine W.nil ?_
        refine At.next ?_
        refine V.keep [(6, Value.slice (some ⟨ig10, io11, none⟩) ((w64 (((a0).length : Int) + ((a2).length : Int))).toNat) sc0)] ⟨rfl, trivial⟩ ?_
        refine V.ret ?_
        refine At.thenRet ?_
        have he41 : (((a0).take (a1).toNat ++ a2) ++ (a0).drop (a1).toNat).length = (w64 (((a0).length : Int) + ((a2).length : Int))).toNat := by simp only [List.length_append, List.length_take, List.length_drop]; omega
        refine At.again 6 (v := Value.slice (some ⟨ig10, io11, none⟩) (((a0).take (a1).toNat ++ a2) ++ (a0).drop (a1).toNat).length sc0) (by rw [he41]; rfl) ?_
        replace HS := HS.front 1 rfl
        have HS : Sep.St [blk ig10 (setMany (setMany iu12 (io11 + (w64 (a1 + ((a2).length : Int))).toNat) (((a0).map (Value.int .u8)).drop ((a1).toNat))) (io11 + (a1).toNat) ((a2).map (Value.int .u8))) 5, blk ig17 iu19 5, R] w0 w := HS
        have hl42 := ins_here (i := (a1).toNat) (n := (a0).length) (m := (a2).length) (xs := a0) (vs := a2) (g := (Value.int .u8)) (o1 := io11 + (w64 (a1 + ((a2).length : Int))).toNat) (o2 := io11 + (a1).toNat) (t := (((a0).take (a1).toNat ++ a2) ++ (a0).drop (a1).toNat).length) h416 rfl rfl (by omega) (by omega) (by omega) rfl (by omega)
        replace HS := HS.row_shut (m := (((a0).take (a1).toNat ++ a2) ++ (a0).drop (a1).toNat).length) (c := sc0) (cs := (((a0).take (a1).toNat ++ a2) ++ (a0).drop (a1).toNat).map (Value.int .u8)) (by omega) (by omega) (by simp only [size_setMany]; omega) hl42 (by rw [List.length_map])
        have HS : Sep.St [row 5 1 (.slice (some ⟨ig10, io11, none⟩) (((a0).take (a1).toNat ++ a2) ++ (a0).drop (a1).toNat).length sc0) (((a0).take (a1).toNat ++ a2) ++ (a0).drop (a1).toNat).length ((((a0).take (a1).toNat ++ a2) ++ (a0).drop (a1).toNat).map (Value.int .u8)), blk ig17 iu19 5, R] w0 w := HS
        replace HS := HS.sel [0, 2] [1] (by kernel_rfl)
        cases H
        exact At.ret1 rfl rfl ⟨_, rfl, (some ⟨ig10, io11, none⟩), sc0, rfl, HS⟩

/-! ### (*signalman/pipe.Pipe).Fault: function 12 -/
mutual
def pipe_Pipe_Fault.j0 (a0 : pipe_Pipe) (a2 : Int) (a3 : Int) (x15 : Bool) : Option (Bool × pipe_Pipe) := (if x15 = true then some (false, a0) else (if 0 ≤ a2 ∧ a2 < (((a0).b).length : Int) then some (true, ({ room := (a0).room, b := ((a0).b).set (a2).toNat (a3), cut := (a0).cut, stall := (a0).stall } : pipe_Pipe)) else none))
def pipe_Pipe_Fault.j1 (a0 : pipe_Pipe) (a2 : Int) (a3 : Int) (x28 : Bool) : Option (Bool × pipe_Pipe) := (if x28 = true then some (false, a0) else ((slices_Insert_Sbytebyte.f ((a0).b) a2 ([a3] : List Int)).bind fun t36 => some (true, ({ room := (a0).room, b := t36, cut := (a0).cut, stall := (a0).stall } : pipe_Pipe))))
end
def pipe_Pipe_Fault.f (a0 : pipe_Pipe) (a1 : Int) (a2 : Int) (a3 : Int) : Option (Bool × pipe_Pipe) := (if a1 = 0 then some (true, ({ room := (a0).room, b := (a0).b, cut := false, stall := false } : pipe_Pipe)) else (if a1 = 1 then some (true, ({ room := (a0).room, b := (a0).b, cut := true, stall := (a0).stall } : pipe_Pipe)) else (if a1 = 2 then some (true, ({ room := (a0).room, b := (a0).b, cut := (a0).cut, stall := true } : pipe_Pipe)) else (if a1 = 3 then ((pipe_Pipe_gone.f a0 a2).bind fun t11 => some (true, t11.2)) else (if a1 = 4 then (if a2 < 0 then (pipe_Pipe_Fault.j0 a0 a2 a3 true) else (pipe_Pipe_Fault.j0 a0 a2 a3 (decide (a2 ≥ (((a0).b).length : Int))))) else (if a1 = 5 then (if a2 < 0 then (pipe_Pipe_Fault.j1 a0 a2 a3 true) else (if a2 > (((a0).b).length : Int) then (pipe_Pipe_Fault.j1 a0 a2 a3 true) else ((pipe_Pipe_Room.f a0).bind fun t42 => (pipe_Pipe_Fault.j1 a0 a2 a3 (decide (t42 = 0)))))) else some (false, a0)))))))
set_option maxRecDepth 100000 in
set_option maxHeartbeats 4000000 in
theorem pipe_Pipe_Fault.calls (a0 : pipe_Pipe) (a1 : Int) (a2 : Int) (a3 : Int) (R : As) (w0 w : World) (b0 : Nat) (r : Bool × pipe_Pipe)  (H : pipe_Pipe_Fault.f a0 a1 a2 a3 = some r) (HS : Sep.St [pipe_Pipe.at b0 (a0), R] w0 w) : Calls Try.prog 12 #[Value.pointer (some ⟨b0, 0, none⟩), Value.int .i64 (a1), Value.int .i64 (a2), Value.int .u8 (a3)] w (Ret fun u w => u = Value.bool (r.1) ∧ Sep.St [pipe_Pipe.at b0 (r.2), R] w0 w) := by
  unfold pipe_Pipe_Fault.f at H
  refine calls_enter Try.func12 rfl rfl ?_
  have H : _ = some r := H
  refine V.seq ?_
  refine V.region ?_
  refine W.rd (X.assign rfl) rfl rfl rfl ?_
  refine W.nil ?_
  refine At.next ?_
  refine V.keep [(0, Value.pointer (some ⟨b0, 0, none⟩)), (1, Value.int .i64 (a1)), (2, Value.int .i64 (a2)), (3, Value.int .u8 (a3))] ⟨rfl, rfl, rfl, rfl, trivial⟩ ?_
  refine V.seq ?_
  refine V.seq ?_
  refine V.region ?_
  refine W.rd (X.move rfl) rfl rfl rfl ?_
  refine W.nil ?_
  refine At.next ?_
  refine V.keep [(0, Value.pointer (some ⟨b0, 0, none⟩)), (2, Value.int .i64 (a2)), (3, Value.int .u8 (a3)), (9, Value.int .i64 (a1))] ⟨rfl, rfl, rfl, rfl, trivial⟩ ?_
  refine V.block ?_
  refine V.seq ?_
  refine V.region ?_
  refine W.rd (X.cmp (decide (a1 = 0)) rfl rfl rfl rfl) rfl rfl rfl ?_
  refine W.rd (X.assign rfl) rfl rfl rfl ?_
  refine W.nil ?_
  refine At.next ?_
  refine V.keep [(0, Value.pointer (some ⟨b0, 0, none⟩)), (2, Value.int .i64 (a2)), (3, Value.int .u8 (a3)), (9, Value.int .i64 (a1)), (10, Value.bool (decide (a1 = 0)))] ⟨rfl, rfl, rfl, rfl, rfl, trivial⟩ ?_
  by_cases c1 : a1 = 0
  · replace H := ite_t c1 H
    refine V.condT (sb (decide_eq_true c1)) ?_
    refine V.region ?_
    refine W.rd (X.move rfl) rfl rfl rfl ?_
    refine W.rd (X.move rfl) rfl rfl rfl ?_
    refine W.rd (X.nilCheck rfl) rfl rfl rfl ?_
    obtain ⟨a1_2, c1_2, hi3, HS⟩ := pipe_Pipe.open HS
    have HS : Sep.St [blk b0 (#[Value.int .i64 ((a0).room), Value.slice a1_2 ((a0).b).length c1_2, Value.bool ((a0).cut), Value.bool ((a0).stall)]) 42, row 5 1 (.slice a1_2 ((a0).b).length c1_2) ((a0).b).length (((a0).b).map (Value.int .u8)), R] w0 w := HS
    refine W.rd (X.fieldAddr 2 fo42_2 rfl) rfl rfl rfl ?_
    refine W.ev_none (Y.storeAt 0 HS rfl inf4 rfl rfl rfl rfl rfl rfl) rfl rfl ?_
    rintro _ w HS
    have HS : Sep.St [blk b0 (#[Value.int .i64 ((a0).room), Value.slice a1_2 ((a0).b).length c1_2, Value.bool (false), Value.bool ((a0).stall)]) 42, row 5 1 (.slice a1_2 ((a0).b).length c1_2) ((a0).b).length (((a0).b).map (Value.int .u8)), R] w0 w := HS
    refine W.rd (X.nilCheck rfl) rfl rfl rfl ?_
    refine W.rd (X.fieldAddr 3 fo42_3 rfl) rfl rfl rfl ?_
    refine W.ev_none (Y.storeAt 0 HS rfl inf4 rfl rfl rfl rfl rfl rfl) rfl rfl ?_
    rintro _ w HS
    have HS : Sep.St [blk b0 (#[Value.int .i64 ((a0).room), Value.slice a1_2 ((a0).b).length c1_2, Value.bool (false), Value.bool (false)]) 42, row 5 1 (.slice a1_2 ((a0).b).length c1_2) ((a0).b).length (((a0).b).map (Value.int .u8)), R] w0 w := HS
    refine W.nil ?_
    refine At.blockEnd ?_
    refine At.next ?_
    refine V.keep [] trivial ?_
    refine V.seq ?_
    refine V.region ?_
    refine W.rd (X.assign rfl) rfl rfl rfl ?_
    refine W.nil ?_
    refine At.next ?_
    refine V.keep [(8, Value.bool (true))] ⟨rfl, trivial⟩ ?_
    refine V.ret ?_
    replace HS := pipe_Pipe.close (({ room := (a0).room, b := (a0).b, cut := false, stall := false } : pipe_Pipe)) trivial HS
    have HS : Sep.St [pipe_Pipe.at b0 (({ room := (a0).room, b := (a0).b, cut := false, stall := false } : pipe_Pipe)), R] w0 w := HS
    cases H
    exact At.ret1 rfl rfl ⟨_, rfl, rfl, HS⟩
  · replace H := ite_f c1 H
    refine V.condF (sb (decide_eq_false c1)) ?_
    refine V.seq ?_
    refine V.region ?_
    refine W.rd (X.cmp (decide (a1 = 1)) rfl rfl rfl rfl) rfl rfl rfl ?_
    refine W.rd (X.assign rfl) rfl rfl rfl ?_
    refine W.nil ?_
    refine At.next ?_
    refine V.keep [(0, Value.pointer (some ⟨b0, 0, none⟩)), (2, Value.int .i64 (a2)), (3, Value.int .u8 (a3)), (9, Value.int .i64 (a1)), (18, Value.bool (decide (a1 = 1)))] ⟨rfl, rfl, rfl, rfl, rfl, trivial⟩ ?_
    by_cases c4 : a1 = 1
    · replace H := ite_t c4 H
      refine V.condT (sb (decide_eq_true c4)) ?_
      refine V.region ?_
      refine W.rd (X.move rfl) rfl rfl rfl ?_
      refine W.rd (X.nilCheck rfl) rfl rfl rfl ?_
      obtain ⟨a1_5, c1_5, hi6, HS⟩ := pipe_Pipe.open HS
      have HS : Sep.St [blk b0 (#[Value.int .i64 ((a0).room), Value.slice a1_5 ((a0).b).length c1_5, Value.bool ((a0).cut), Value.bool ((a0).stall)]) 42, row 5 1 (.slice a1_5 ((a0).b).length c1_5) ((a0).b).length (((a0).b).map (Value.int .u8)), R] w0 w := HS
      refine W.rd (X.fieldAddr 2 fo42_2 rfl) rfl rfl rfl ?_
      refine W.ev_none (Y.storeAt 0 HS rfl inf4 rfl rfl rfl rfl rfl rfl) rfl rfl ?_
      rintro _ w HS
      have HS : Sep.St [blk b0 (#[Value.int .i64 ((a0).room), Value.slice a1_5 ((a0).b).length c1_5, Value.bool (true), Value.bool ((a0).stall)]) 42, row 5 1 (.slice a1_5 ((a0).b).length c1_5) ((a0).b).length (((a0).b).map (Value.int .u8)), R] w0 w := HS
      refine W.nil ?_
      refine At.blockEnd ?_
      refine At.next ?_
      refine V.keep [] trivial ?_
      refine V.seq ?_
      refine V.region ?_
      refine W.rd (X.assign rfl) rfl rfl rfl ?_
      refine W.nil ?_
      refine At.next ?_
      refine V.keep [(8, Value.bool (true))] ⟨rfl, trivial⟩ ?_
      refine V.ret ?_
      replace HS := pipe_Pipe.close (({ room := (a0).room, b := (a0).b, cut := true, stall := (a0).stall } : pipe_Pipe)) trivial HS
      have HS : Sep.St [pipe_Pipe.at b0 (({ room := (a0).room, b := (a0).b, cut := true, stall := (a0).stall } : pipe_Pipe)), R] w0 w := HS
      cases H
      exact At.ret1 rfl rfl ⟨_, rfl, rfl, HS⟩
    · replace H := ite_f c4 H
      refine V.condF (sb (decide_eq_false c4)) ?_
      refine V.seq ?_
      refine V.region ?_
      refine W.rd (X.cmp (decide (a1 = 2)) rfl rfl rfl rfl) rfl rfl rfl ?_
      refine W.rd (X.assign rfl) rfl rfl rfl ?_
      refine W.nil ?_
      refine At.next ?_
      refine V.keep [(0, Value.pointer (some ⟨b0, 0, none⟩)), (2, Value.int .i64 (a2)), (3, Value.int .u8 (a3)), (9, Value.int .i64 (a1)), (23, Value.bool (decide (a1 = 2)))] ⟨rfl, rfl, rfl, rfl, rfl, trivial⟩ ?_
      by_cases c7 : a1 = 2
      · replace H := ite_t c7 H
        refine V.condT (sb (decide_eq_true c7)) ?_
        refine V.region ?_
        refine W.rd (X.move rfl) rfl rfl rfl ?_
        refine W.rd (X.nilCheck rfl) rfl rfl rfl ?_
        obtain ⟨a1_8, c1_8, hi9, HS⟩ := pipe_Pipe.open HS
        have HS : Sep.St [blk b0 (#[Value.int .i64 ((a0).room), Value.slice a1_8 ((a0).b).length c1_8, Value.bool ((a0).cut), Value.bool ((a0).stall)]) 42, row 5 1 (.slice a1_8 ((a0).b).length c1_8) ((a0).b).length (((a0).b).map (Value.int .u8)), R] w0 w := HS
        refine W.rd (X.fieldAddr 3 fo42_3 rfl) rfl rfl rfl ?_
        refine W.ev_none (Y.storeAt 0 HS rfl inf4 rfl rfl rfl rfl rfl rfl) rfl rfl ?_
        rintro _ w HS
        have HS : Sep.St [blk b0 (#[Value.int .i64 ((a0).room), Value.slice a1_8 ((a0).b).length c1_8, Value.bool ((a0).cut), Value.bool (true)]) 42, row 5 1 (.slice a1_8 ((a0).b).length c1_8) ((a0).b).length (((a0).b).map (Value.int .u8)), R] w0 w := HS
        refine W.nil ?_
        refine At.blockEnd ?_
        refine At.next ?_
        refine V.keep [] trivial ?_
        refine V.seq ?_
        refine V.region ?_
        refine W.rd (X.assign rfl) rfl rfl rfl ?_
        refine W.nil ?_
        refine At.next ?_
        refine V.keep [(8, Value.bool (true))] ⟨rfl, trivial⟩ ?_
        refine V.ret ?_
        replace HS := pipe_Pipe.close (({ room := (a0).room, b := (a0).b, cut := (a0).cut, stall := true } : pipe_Pipe)) trivial HS
        have HS : Sep.St [pipe_Pipe.at b0 (({ room := (a0).room, b := (a0).b, cut := (a0).cut, stall := true } : pipe_Pipe)), R] w0 w := HS
        cases H
        exact At.ret1 rfl rfl ⟨_, rfl, rfl, HS⟩
      · replace H := ite_f c7 H
        refine V.condF (sb (decide_eq_false c7)) ?_
        refine V.seq ?_
        refine V.region ?_
        refine W.rd (X.cmp (decide (a1 = 3)) rfl rfl rfl rfl) rfl rfl rfl ?_
        refine W.rd (X.assign rfl) rfl rfl rfl ?_
        refine W.nil ?_
        refine At.next ?_
        refine V.keep [(0, Value.pointer (some ⟨b0, 0, none⟩)), (2, Value.int .i64 (a2)), (3, Value.int .u8 (a3)), (9, Value.int .i64 (a1)), (28, Value.bool (decide (a1 = 3)))] ⟨rfl, rfl, rfl, rfl, rfl, trivial⟩ ?_
        by_cases c10 : a1 = 3
        · replace H := ite_t c10 H
          refine V.condT (sb (decide_eq_true c10)) ?_
          refine V.region ?_
          refine W.rd (X.move rfl) rfl rfl rfl ?_
          refine W.rd (X.move rfl) rfl rfl rfl ?_
          obtain ⟨t11, A12, H⟩ := bind_s H
          refine W.ev (Y.call Try.func19 (by kernel_rfl) rfl (vs := [Value.pointer (some ⟨b0, 0, none⟩), Value.int .i64 (a2)]) rfl (pipe_Pipe_gone.calls a0 a2 _ w0 _ b0 t11  A12 (Sep.St.tailJoin (m := [pipe_Pipe.at b0 (a0)]) (r := [R]) HS))) rfl rfl rfl ?_
          rintro _ w ⟨at11_0, ct11_0, rfl, HS⟩
          replace HS := Sep.St.tailOpen (m := [row 5 1 (.slice at11_0 (t11.1).length ct11_0) (t11.1).length ((t11.1).map (Value.int .u8)), pipe_Pipe.at b0 (t11.2)]) (r := [R]) HS
          have HS : Sep.St [row 5 1 (.slice at11_0 (t11.1).length ct11_0) (t11.1).length ((t11.1).map (Value.int .u8)), pipe_Pipe.at b0 (t11.2), R] w0 w := HS
          refine W.nil ?_
          refine At.blockEnd ?_
          refine At.next ?_
          refine V.keep [] trivial ?_
          refine V.seq ?_
          refine V.region ?_
          refine W.rd (X.assign rfl) rfl rfl rfl ?_
          refine W.nil ?_
          refine At.next ?_
          refine V.keep [(8, Value.bool (true))] ⟨rfl, trivial⟩ ?_
          refine V.ret ?_
          replace HS := HS.sel [1, 2] [0] (by kernel_rfl)
          cases H
          exact At.ret1 rfl rfl ⟨_, rfl, rfl, HS⟩
        · replace H := ite_f c10 H
          refine V.condF (sb (decide_eq_false c10)) ?_
          refine V.seq ?_
          refine V.region ?_
          refine W.rd (X.cmp (decide (a1 = 4)) rfl rfl rfl rfl) rfl rfl rfl ?_
          refine W.rd (X.assign rfl) rfl rfl rfl ?_
          refine W.nil ?_
          refine At.next ?_
          refine V.keep [(0, Value.pointer (some ⟨b0, 0, none⟩)), (2, Value.int .i64 (a2)), (3, Value.int .u8 (a3)), (9, Value.int .i64 (a1)), (33, Value.bool (decide (a1 = 4)))] ⟨rfl, rfl, rfl, rfl, rfl, trivial⟩ ?_
          by_cases c13 : a1 = 4
          · replace H := ite_t c13 H
            refine V.condT (sb (decide_eq_true c13)) ?_
            refine V.seq ?_
            refine V.meet (σ := Bool) (fun st w => match st with | x15 => Sep.St [pipe_Pipe.at b0 (a0), R] w0 w ∧ pipe_Pipe_Fault.j0 a0 a2 a3 x15 = some r) (fun st => match st with | x15 => [(0, Value.pointer (some ⟨b0, 0, none⟩)), (2, Value.int .i64 (a2)), (3, Value.int .u8 (a3)), (45, Value.bool (x15))]) ?_ ?_
            · refine V.region ?_
              refine W.rd (X.move rfl) rfl rfl rfl ?_
              refine W.rd (X.cmp (decide (a2 < 0)) rfl rfl rfl rfl) rfl rfl rfl ?_
              refine W.rd (X.move rfl) rfl rfl rfl ?_
              by_cases c23 : a2 < 0
              · replace H := ite_t c23 H
                refine W.pass 37 rfl (sb (decide_eq_true c23)) rfl rfl ?_
                refine W.pass 37 rfl (sb (decide_eq_true c23)) rfl rfl ?_
                refine W.pass 37 rfl (sb (decide_eq_true c23)) rfl rfl ?_
                refine W.pass 37 rfl (sb (decide_eq_true c23)) rfl rfl ?_
                refine W.pass 37 rfl (sb (decide_eq_true c23)) rfl rfl ?_
                refine W.pass 37 rfl (sb (decide_eq_true c23)) rfl rfl ?_
                refine W.pass 37 rfl (sb (decide_eq_true c23)) rfl rfl ?_
                refine W.rd (X.pickT (sb (decide_eq_true c23)) rfl) rfl rfl rfl ?_
                refine W.nil ?_
                exact At.meet (true) ⟨rfl, rfl, rfl, rfl, trivial⟩ ⟨HS, H⟩
              · replace H := ite_f c23 H
                refine W.want 37 rfl (sb (decide_eq_false c23)) ?_
                refine W.rd (X.move rfl) rfl rfl rfl ?_
                refine W.want 37 rfl (sb (decide_eq_false c23)) ?_
                refine W.rd (X.move rfl) rfl rfl rfl ?_
                refine W.want 37 rfl (sb (decide_eq_false c23)) ?_
                refine W.rd (X.nilCheck rfl) rfl rfl rfl ?_
                refine W.want 37 rfl (sb (decide_eq_false c23)) ?_
                obtain ⟨a1_24, c1_24, hi25, HS⟩ := pipe_Pipe.open HS
                have HS : Sep.St [blk b0 (#[Value.int .i64 ((a0).room), Value.slice a1_24 ((a0).b).length c1_24, Value.bool ((a0).cut), Value.bool ((a0).stall)]) 42, row 5 1 (.slice a1_24 ((a0).b).length c1_24) ((a0).b).length (((a0).b).map (Value.int .u8)), R] w0 w := HS
                refine W.rd (X.fieldAddr 1 fo42_1 rfl) rfl rfl rfl ?_
                refine W.want 37 rfl (sb (decide_eq_false c23)) ?_
                refine W.rd (X.loadAt 0 HS rfl Try.underlying27 rfl rfl rfl) rfl rfl rfl ?_
                refine W.want 37 rfl (sb (decide_eq_false c23)) ?_
                refine W.rd (X.lenSl Try.underlying27 rfl) rfl rfl rfl ?_
                refine W.want 37 rfl (sb (decide_eq_false c23)) ?_
                refine W.rd (X.cmp (decide (a2 ≥ (((a0).b).length : Int))) rfl rfl rfl rfl) rfl rfl rfl ?_
                refine W.rd (X.pickF (sb (decide_eq_false c23)) rfl) rfl rfl rfl ?_
                refine W.nil ?_
                replace HS := pipe_Pipe.close (a0) trivial HS
                have HS : Sep.St [pipe_Pipe.at b0 (a0), R] w0 w := HS
                exact At.meet (decide (a2 ≥ (((a0).b).length : Int))) ⟨rfl, rfl, rfl, rfl, trivial⟩ ⟨HS, H⟩
            · rintro x15 w ⟨HS, H⟩
              unfold pipe_Pipe_Fault.j0 at H
              have HS : Sep.St [pipe_Pipe.at b0 (a0), R] w0 w := HS
              by_cases c17 : x15 = true
              · replace H := ite_t c17 H
                refine V.condT (sb c17) ?_
                refine V.seq ?_
                refine V.region ?_
                refine W.rd (X.assign rfl) rfl rfl rfl ?_
                refine W.nil ?_
                refine At.next ?_
                refine V.keep [(8, Value.bool (false))] ⟨rfl, trivial⟩ ?_
                refine V.ret ?_
                refine At.thenRet ?_
                refine At.blockRet ?_
                refine At.thenRet ?_
                cases H
                exact At.ret1 rfl rfl ⟨_, rfl, rfl, HS⟩
              · replace H := ite_f c17 H
                refine V.condF (sb (b_f c17)) ?_
                refine V.skip ?_
                refine At.next ?_
                refine V.keep [(0, Value.pointer (some ⟨b0, 0, none⟩)), (2, Value.int .i64 (a2)), (3, Value.int .u8 (a3))] ⟨rfl, rfl, rfl, trivial⟩ ?_
                refine V.region ?_
                refine W.rd (X.move rfl) rfl rfl rfl ?_
                refine W.rd (X.nilCheck rfl) rfl rfl rfl ?_
                obtain ⟨a1_18, c1_18, hi19, HS⟩ := pipe_Pipe.open HS
                have HS : Sep.St [blk b0 (#[Value.int .i64 ((a0).room), Value.slice a1_18 ((a0).b).length c1_18, Value.bool ((a0).cut), Value.bool ((a0).stall)]) 42, row 5 1 (.slice a1_18 ((a0).b).length c1_18) ((a0).b).length (((a0).b).map (Value.int .u8)), R] w0 w := HS
                refine W.rd (X.fieldAddr 1 fo42_1 rfl) rfl rfl rfl ?_
                refine W.rd (X.loadAt 0 HS rfl Try.underlying27 rfl rfl rfl) rfl rfl rfl ?_
                refine W.rd (X.move rfl) rfl rfl rfl ?_
                refine W.rd (X.move rfl) rfl rfl rfl ?_
                obtain ⟨c20, H⟩ := ite_n H
                obtain ⟨eb21, eo22, hh⟩ := ((rdC.at 1 row_rd HS rfl)).some (by decide) c20.1 c20.2; subst hh
                refine W.rd (X.indexSl Try.underlying27 inf5 rfl rfl c20.1 c20.2) rfl rfl rfl ?_
                refine W.ev_none (Y.storeRowF (Value.int .u8) (fun _ => rfl) 1 HS rfl inf5 rfl rfl c20.1 c20.2) rfl rfl ?_
                rintro _ w HS
                have HS : Sep.St [blk b0 (#[Value.int .i64 ((a0).room), Value.slice (some ⟨eb21, eo22, none⟩) (((a0).b).set (a2).toNat (a3)).length c1_18, Value.bool ((a0).cut), Value.bool ((a0).stall)]) 42, row 5 1 (.slice (some ⟨eb21, eo22, none⟩) (((a0).b).set (a2).toNat (a3)).length c1_18) (((a0).b).set (a2).toNat (a3)).length ((((a0).b).set (a2).toNat (a3)).map (Value.int .u8)), R] w0 w := by simpa only [List.length_set, List.set_cons_succ, List.set_cons_zero] using HS
                refine W.again 49 (v := Value.slice (some ⟨eb21, eo22, none⟩) (((a0).b).set (a2).toNat (a3)).length c1_18) (by rw [List.length_set]; rfl) ?_
                refine W.nil ?_
                refine At.blockEnd ?_
                refine At.next ?_
                refine V.keep [] trivial ?_
                refine V.seq ?_
                refine V.region ?_
                refine W.rd (X.assign rfl) rfl rfl rfl ?_
                refine W.nil ?_
                refine At.next ?_
                refine V.keep [(8, Value.bool (true))] ⟨rfl, trivial⟩ ?_
                refine V.ret ?_
                replace HS := pipe_Pipe.close (({ room := (a0).room, b := ((a0).b).set (a2).toNat (a3), cut := (a0).cut, stall := (a0).stall } : pipe_Pipe)) trivial HS
                have HS : Sep.St [pipe_Pipe.at b0 (({ room := (a0).room, b := ((a0).b).set (a2).toNat (a3), cut := (a0).cut, stall := (a0).stall } : pipe_Pipe)), R] w0 w := HS
                cases H
                exact At.ret1 rfl rfl ⟨_, rfl, rfl, HS⟩
          · replace H := ite_f c13 H
            refine V.condF (sb (decide_eq_false c13)) ?_
            refine V.seq ?_
            refine V.region ?_
            refine W.rd (X.cmp (decide (a1 = 5)) rfl rfl rfl rfl) rfl rfl rfl ?_
            refine W.rd (X.assign rfl) rfl rfl rfl ?_
            refine W.nil ?_
            refine At.next ?_
            refine V.keep [(0, Value.pointer (some ⟨b0, 0, none⟩)), (2, Value.int .i64 (a2)), (3, Value.int .u8 (a3)), (53, Value.bool (decide (a1 = 5)))] ⟨rfl, rfl, rfl, rfl, trivial⟩ ?_
            by_cases c26 : a1 = 5
            · replace H := ite_t c26 H
              refine V.condT (sb (decide_eq_true c26)) ?_
              refine V.seq ?_
              refine V.meet (σ := Bool) (fun st w => match st with | x28 => Sep.St [pipe_Pipe.at b0 (a0), R] w0 w ∧ pipe_Pipe_Fault.j1 a0 a2 a3 x28 = some r) (fun st => match st with | x28 => [(0, Value.pointer (some ⟨b0, 0, none⟩)), (2, Value.int .i64 (a2)), (3, Value.int .u8 (a3)), (70, Value.bool (x28))]) ?_ ?_
              · refine V.region ?_
                refine W.rd (X.move rfl) rfl rfl rfl ?_
                refine W.rd (X.cmp (decide (a2 < 0)) rfl rfl rfl rfl) rfl rfl rfl ?_
                refine W.rd (X.move rfl) rfl rfl rfl ?_
                by_cases c38 : a2 < 0
                · replace H := ite_t c38 H
                  refine W.pass 57 rfl (sb (decide_eq_true c38)) rfl rfl ?_
                  refine W.pass 57 rfl (sb (decide_eq_true c38)) rfl rfl ?_
                  refine W.pass 57 rfl (sb (decide_eq_true c38)) rfl rfl ?_
                  refine W.pass 57 rfl (sb (decide_eq_true c38)) rfl rfl ?_
                  refine W.pass 57 rfl (sb (decide_eq_true c38)) rfl rfl ?_
                  refine W.pass 57 rfl (sb (decide_eq_true c38)) rfl rfl ?_
                  refine W.pass 57 rfl (sb (decide_eq_true c38)) rfl rfl ?_
                  refine W.rd (X.pickT (sb (decide_eq_true c38)) rfl) rfl rfl rfl ?_
                  refine W.rd (X.move rfl) rfl rfl rfl ?_
                  refine W.pass 66 rfl rfl rfl rfl ?_
                  refine W.pass 66 rfl rfl rfl rfl ?_
                  refine W.pass 66 rfl rfl rfl rfl ?_
                  refine W.rd (X.pickT rfl rfl) rfl rfl rfl ?_
                  refine W.nil ?_
                  exact At.meet (true) ⟨rfl, rfl, rfl, rfl, trivial⟩ ⟨HS, H⟩
                · replace H := ite_f c38 H
                  refine W.want 57 rfl (sb (decide_eq_false c38)) ?_
                  refine W.rd (X.move rfl) rfl rfl rfl ?_
                  refine W.want 57 rfl (sb (decide_eq_false c38)) ?_
                  refine W.rd (X.move rfl) rfl rfl rfl ?_
                  refine W.want 57 rfl (sb (decide_eq_false c38)) ?_
                  refine W.rd (X.nilCheck rfl) rfl rfl rfl ?_
                  refine W.want 57 rfl (sb (decide_eq_false c38)) ?_
                  obtain ⟨a1_39, c1_39, hi40, HS⟩ := pipe_Pipe.open HS
                  have HS : Sep.St [blk b0 (#[Value.int .i64 ((a0).room), Value.slice a1_39 ((a0).b).length c1_39, Value.bool ((a0).cut), Value.bool ((a0).stall)]) 42, row 5 1 (.slice a1_39 ((a0).b).length c1_39) ((a0).b).length (((a0).b).map (Value.int .u8)), R] w0 w := HS
                  refine W.rd (X.fieldAddr 1 fo42_1 rfl) rfl rfl rfl ?_
                  refine W.want 57 rfl (sb (decide_eq_false c38)) ?_
                  refine W.rd (X.loadAt 0 HS rfl Try.underlying27 rfl rfl rfl) rfl rfl rfl ?_
                  refine W.want 57 rfl (sb (decide_eq_false c38)) ?_
                  refine W.rd (X.lenSl Try.underlying27 rfl) rfl rfl rfl ?_
                  refine W.want 57 rfl (sb (decide_eq_false c38)) ?_
                  refine W.rd (X.cmp (decide (a2 > (((a0).b).length : Int))) rfl rfl rfl rfl) rfl rfl rfl ?_
                  refine W.rd (X.pickF (sb (decide_eq_false c38)) rfl) rfl rfl rfl ?_
                  refine W.rd (X.move rfl) rfl rfl rfl ?_
                  by_cases c41 : a2 > (((a0).b).length : Int)
                  · replace H := ite_t c41 H
                    refine W.pass 66 rfl (sb (decide_eq_true c41)) rfl rfl ?_
                    refine W.pass 66 rfl (sb (decide_eq_true c41)) rfl rfl ?_
                    refine W.pass 66 rfl (sb (decide_eq_true c41)) rfl rfl ?_
                    refine W.rd (X.pickT (sb (decide_eq_true c41)) rfl) rfl rfl rfl ?_
                    refine W.nil ?_
                    replace HS := pipe_Pipe.close (a0) trivial HS
                    have HS : Sep.St [pipe_Pipe.at b0 (a0), R] w0 w := HS
                    exact At.meet (true) ⟨rfl, rfl, rfl, rfl, trivial⟩ ⟨HS, H⟩
                  · replace H := ite_f c41 H
                    refine W.want 66 rfl (sb (decide_eq_false c41)) ?_
                    refine W.rd (X.move rfl) rfl rfl rfl ?_
                    refine W.want 66 rfl (sb (decide_eq_false c41)) ?_
                    obtain ⟨t42, A43, H⟩ := bind_s H
                    refine W.ev (Y.call Try.func18 (by kernel_rfl) rfl (vs := [Value.pointer (some ⟨b0, 0, none⟩)]) rfl (pipe_Pipe_Room.calls a0 _ w0 _ b0 a1_39 c1_39 t42  A43 (Sep.St.tailJoin (m := [blk b0 (#[Value.int .i64 ((a0).room), Value.slice a1_39 ((a0).b).length c1_39, Value.bool ((a0).cut), Value.bool ((a0).stall)]) 42, row 5 1 (.slice a1_39 ((a0).b).length c1_39) ((a0).b).length (((a0).b).map (Value.int .u8))]) (r := [R]) HS))) rfl rfl rfl ?_
                    rintro _ w ⟨rfl, HS⟩
                    replace HS := Sep.St.tailOpen (m := [blk b0 (#[Value.int .i64 ((a0).room), Value.slice a1_39 ((a0).b).length c1_39, Value.bool ((a0).cut), Value.bool ((a0).stall)]) 42, row 5 1 (.slice a1_39 ((a0).b).length c1_39) ((a0).b).length (((a0).b).map (Value.int .u8))]) (r := [R]) HS
                    have HS : Sep.St [blk b0 (#[Value.int .i64 ((a0).room), Value.slice a1_39 ((a0).b).length c1_39, Value.bool ((a0).cut), Value.bool ((a0).stall)]) 42, row 5 1 (.slice a1_39 ((a0).b).length c1_39) ((a0).b).length (((a0).b).map (Value.int .u8)), R] w0 w := HS
                    refine W.want 66 rfl (sb (decide_eq_false c41)) ?_
                    refine W.rd (X.cmp (decide (t42 = 0)) rfl rfl rfl rfl) rfl rfl rfl ?_
                    refine W.rd (X.pickF (sb (decide_eq_false c41)) rfl) rfl rfl rfl ?_
                    refine W.nil ?_
                    replace HS := pipe_Pipe.close (a0) trivial HS
                    have HS : Sep.St [pipe_Pipe.at b0 (a0), R] w0 w := HS
                    exact At.meet (decide (t42 = 0)) ⟨rfl, rfl, rfl, rfl, trivial⟩ ⟨HS, H⟩
              · rintro x28 w ⟨HS, H⟩
                unfold pipe_Pipe_Fault.j1 at H
                have HS : Sep.St [pipe_Pipe.at b0 (a0), R] w0 w := HS
                by_cases c30 : x28 = true
                · replace H := ite_t c30 H
                  refine V.condT (sb c30) ?_
                  refine V.seq ?_
                  refine V.region ?_
                  refine W.rd (X.assign rfl) rfl rfl rfl ?_
                  refine W.nil ?_
                  refine At.next ?_
                  refine V.keep [(8, Value.bool (false))] ⟨rfl, trivial⟩ ?_
                  refine V.ret ?_
                  refine At.thenRet ?_
                  refine At.blockRet ?_
                  refine At.thenRet ?_
                  cases H
                  exact At.ret1 rfl rfl ⟨_, rfl, rfl, HS⟩
                · replace H := ite_f c30 H
                  refine V.condF (sb (b_f c30)) ?_
                  refine V.skip ?_
                  refine At.next ?_
                  refine V.keep [(0, Value.pointer (some ⟨b0, 0, none⟩)), (2, Value.int .i64 (a2)), (3, Value.int .u8 (a3))] ⟨rfl, rfl, rfl, trivial⟩ ?_
                  refine V.region ?_
                  refine W.rd (X.move rfl) rfl rfl rfl ?_
                  refine W.rd (X.move rfl) rfl rfl rfl ?_
                  refine W.rd (X.nilCheck rfl) rfl rfl rfl ?_
                  obtain ⟨a1_31, c1_31, hi32, HS⟩ := pipe_Pipe.open HS
                  have HS : Sep.St [blk b0 (#[Value.int .i64 ((a0).room), Value.slice a1_31 ((a0).b).length c1_31, Value.bool ((a0).cut), Value.bool ((a0).stall)]) 42, row 5 1 (.slice a1_31 ((a0).b).length c1_31) ((a0).b).length (((a0).b).map (Value.int .u8)), R] w0 w := HS
                  refine W.rd (X.fieldAddr 1 fo42_1 rfl) rfl rfl rfl ?_
                  refine W.rd (X.loadAt 0 HS rfl Try.underlying27 rfl rfl rfl) rfl rfl rfl ?_
                  refine W.rd (X.move rfl) rfl rfl rfl ?_
                  refine W.rd (X.move rfl) rfl rfl rfl ?_
                  refine W.ev (Y.litB (e := 5) (sz := 1) (vs := #[(0, Value.int .u8 (a3))]) [Value.int .u8 (a3)] HS (fun a ha => by simp only [List.map_toArray, List.map_cons, List.map_nil]; rw [ha.ev (x := .tmp 77) (v := Value.int .u8 (a3)) rfl]; try rfl) rfl (by decide) (fun _ => by kernel_rfl)) rfl rfl rfl ?_
                  rintro _ w ⟨lb35, rfl, HS⟩
                  have HS : Sep.St [row 5 1 (.slice (some ⟨lb35, 0, none⟩) (([a3] : List Int)).length 1) (([a3] : List Int)).length ((([a3] : List Int)).map (Value.int .u8)), blk b0 (#[Value.int .i64 ((a0).room), Value.slice a1_31 ((a0).b).length c1_31, Value.bool ((a0).cut), Value.bool ((a0).stall)]) 42, row 5 1 (.slice a1_31 ((a0).b).length c1_31) ((a0).b).length (((a0).b).map (Value.int .u8)), R] w0 w := HS
                  obtain ⟨t36, A37, H⟩ := bind_s H
                  replace HS := HS.re [2, 0, 1, 3] (by kernel_rfl)
                  have HS : Sep.St [row 5 1 (.slice a1_31 ((a0).b).length c1_31) ((a0).b).length (((a0).b).map (Value.int .u8)), row 5 1 (.slice (some ⟨lb35, 0, none⟩) (([a3] : List Int)).length 1) (([a3] : List Int)).length ((([a3] : List Int)).map (Value.int .u8)), blk b0 (#[Value.int .i64 ((a0).room), Value.slice a1_31 ((a0).b).length c1_31, Value.bool ((a0).cut), Value.bool ((a0).stall)]) 42, R] w0 w := HS
                  refine W.ev (Y.call Try.func20 (by kernel_rfl) rfl (vs := [Value.slice a1_31 ((a0).b).length c1_31, Value.int .i64 (a2), Value.slice (some ⟨lb35, 0, none⟩) (([a3] : List Int)).length 1]) rfl (slices_Insert_Sbytebyte.calls ((a0).b) a2 ([a3] : List Int) _ w0 _ a1_31 c1_31 (some ⟨lb35, 0, none⟩) 1 t36  A37 (Sep.St.tailJoin (m := [row 5 1 (.slice a1_31 ((a0).b).length c1_31) ((a0).b).length (((a0).b).map (Value.int .u8)), row 5 1 (.slice (some ⟨lb35, 0, none⟩) (([a3] : List Int)).length 1) (([a3] : List Int)).length ((([a3] : List Int)).map (Value.int .u8))]) (r := [blk b0 (#[Value.int .i64 ((a0).room), Value.slice a1_31 ((a0).b).length c1_31, Value.bool ((a0).cut), Value.bool ((a0).stall)]) 42, R]) HS))) rfl rfl rfl ?_
                  rintro _ w ⟨at36_0, ct36_0, rfl, HS⟩
                  replace HS := Sep.St.tailOpen (m := [row 5 1 (.slice at36_0 (t36).length ct36_0) (t36).length ((t36).map (Value.int .u8))]) (r := [blk b0 (#[Value.int .i64 ((a0).room), Value.slice a1_31 ((a0).b).length c1_31, Value.bool ((a0).cut), Value.bool ((a0).stall)]) 42, R]) HS
                  have HS : Sep.St [row 5 1 (.slice at36_0 (t36).length ct36_0) (t36).length ((t36).map (Value.int .u8)), blk b0 (#[Value.int .i64 ((a0).room), Value.slice a1_31 ((a0).b).length c1_31, Value.bool ((a0).cut), Value.bool ((a0).stall)]) 42, R] w0 w := HS
                  refine W.rd (X.nilCheck rfl) rfl rfl rfl ?_
                  refine W.rd (X.fieldAddr 1 fo42_1 rfl) rfl rfl rfl ?_
                  refine W.ev_none (Y.storeAt 1 HS rfl inf27 rfl rfl rfl rfl rfl rfl) rfl rfl ?_
                  rintro _ w HS
                  have HS : Sep.St [row 5 1 (.slice at36_0 (t36).length ct36_0) (t36).length ((t36).map (Value.int .u8)), blk b0 (#[Value.int .i64 ((a0).room), Value.slice at36_0 (t36).length ct36_0, Value.bool ((a0).cut), Value.bool ((a0).stall)]) 42, R] w0 w := HS
                  refine W.nil ?_
                  refine At.blockEnd ?_
                  refine At.next ?_
                  refine V.keep [] trivial ?_
                  refine V.seq ?_
                  refine V.region ?_
                  refine W.rd (X.assign rfl) rfl rfl rfl ?_
                  refine W.nil ?_
                  refine At.next ?_
                  refine V.keep [(8, Value.bool (true))] ⟨rfl, trivial⟩ ?_
                  refine V.ret ?_
                  replace HS := HS.re [1, 0, 2] (by kernel_rfl)
                  have HS : Sep.St [blk b0 (#[Value.int .i64 ((a0).room), Value.slice at36_0 (t36).length ct36_0, Value.bool ((a0).cut), Value.bool ((a0).stall)]) 42, row 5 1 (.slice at36_0 (t36).length ct36_0) (t36).length ((t36).map (Value.int .u8)), R] w0 w := HS
                  replace HS := pipe_Pipe.close (({ room := (a0).room, b := t36, cut := (a0).cut, stall := (a0).stall } : pipe_Pipe)) trivial HS
                  have HS : Sep.St [pipe_Pipe.at b0 (({ room := (a0).room, b := t36, cut := (a0).cut, stall := (a0).stall } : pipe_Pipe)), R] w0 w := HS
                  cases H
                  exact At.ret1 rfl rfl ⟨_, rfl, rfl, HS⟩
            · replace H := ite_f c26 H
              refine V.condF (sb (decide_eq_false c26)) ?_
              refine V.seq ?_
              refine V.region ?_
              refine W.rd (X.assign rfl) rfl rfl rfl ?_
              refine W.nil ?_
              refine At.next ?_
              refine V.keep [(8, Value.bool (false))] ⟨rfl, trivial⟩ ?_
              refine V.ret ?_
              refine At.blockRet ?_
              refine At.thenRet ?_
              cases H
              exact At.ret1 rfl rfl ⟨_, rfl, rfl, HS⟩

/-! ### signalman/signalmanlaw8.PipeTurns: function 5 -/
mutual
def signalmanlaw8_PipeTurns.j3 (t20 : Bool × pipe_Pipe) (t29 : Bool × pipe_Pipe) (x35 : List Int) : Option (Bool) := (if t20.1 = true then ((pipe_Pipe_Take.f t29.2 1000).bind fun t38 => some (sEq (t38.1) (x35))) else some (false))
def signalmanlaw8_PipeTurns.j2 (x3 : Int) (x4 : Int) (t20 : Bool × pipe_Pipe) (t22 : Bool × pipe_Pipe) (x27 : List Int) : Option (Bool) := ((pipe_Pipe_Fault.f t22.2 5 x3 x4).bind fun t29 => (if ((t29.1) != (decide (x3 ≤ ((x27).length : Int)))) = true then some (false) else (if t29.1 = true then (if 0 ≤ (0 : Int) ∧ (0 : Int) ≤ x3 ∧ x3 ≤ ((x27).length : Int) then (if 0 ≤ x3 ∧ x3 ≤ ((x27).length : Int) ∧ ((x27).length : Int) ≤ ((x27).length : Int) then (if ((([] : List Int)).length : Int) + (cut x27 (0 : Int) x3).length ≤ 1099511627776 then (if ((([] : List Int) ++ (cut x27 (0 : Int) x3)).length : Int) + (([x4] : List Int)).length ≤ 1099511627776 then (if (((([] : List Int) ++ (cut x27 (0 : Int) x3)) ++ ([x4] : List Int)).length : Int) + (cut x27 x3 ((x27).length : Int)).length ≤ 1099511627776 then (signalmanlaw8_PipeTurns.j3 t20 t29 (((([] : List Int) ++ (cut x27 (0 : Int) x3)) ++ ([x4] : List Int)) ++ (cut x27 x3 ((x27).length : Int)))) else none) else none) else none) else none) else none) else (signalmanlaw8_PipeTurns.j3 t20 t29 x27))))
def signalmanlaw8_PipeTurns.j1 (a0 : List Int) (a2 : Int) (x3 : Int) (x4 : Int) (t10 : Int × pipe_Pipe) (x17 : Int) : Option (Bool) := (if 0 ≤ x17 ∧ x17 ≤ ((([] : List Int) ++ a0).length : Int) ∧ ((([] : List Int) ++ a0).length : Int) ≤ ((([] : List Int) ++ a0).length : Int) then ((pipe_Pipe_Fault.f t10.2 3 x17 0).bind fun t20 => ((pipe_Pipe_Fault.f t20.2 4 a2 x4).bind fun t22 => (if ((t22.1) != (decide (a2 < ((cut (([] : List Int) ++ a0) x17 ((([] : List Int) ++ a0).length : Int)).length : Int)))) = true then some (false) else (if t22.1 = true then (if 0 ≤ a2 ∧ a2 < ((cut (([] : List Int) ++ a0) x17 ((([] : List Int) ++ a0).length : Int)).length : Int) then (signalmanlaw8_PipeTurns.j2 x3 x4 t20 t22 ((cut (([] : List Int) ++ a0) x17 ((([] : List Int) ++ a0).length : Int)).set (a2).toNat (x4))) else none) else (signalmanlaw8_PipeTurns.j2 x3 x4 t20 t22 (cut (([] : List Int) ++ a0) x17 ((([] : List Int) ++ a0).length : Int))))))) else none)
def signalmanlaw8_PipeTurns.j0 (a0 : List Int) (a1 : Int) (a2 : Int) (t1 : Bool) (x3 : Int) (x4 : Int) (x5 : Bool) : Option (Bool) := (if x5 = true then some (t1) else ((pipe_New.f 500).bind fun t8 => ((pipe_Pipe_Put.f t8 a0).bind fun t10 => (if ((([] : List Int)).length : Int) + (a0).length ≤ 1099511627776 then (if a1 > ((([] : List Int) ++ a0).length : Int) then (signalmanlaw8_PipeTurns.j1 a0 a2 x3 x4 t10 ((([] : List Int) ++ a0).length : Int)) else (signalmanlaw8_PipeTurns.j1 a0 a2 x3 x4 t10 a1)) else none))))
end
def signalmanlaw8_PipeTurns.f (a0 : List Int) (a1 : Int) (a2 : Int) (a3 : Int) (a4 : Int) : Option (Bool) := ((signalmanlaw8_alive.f ).bind fun t1 => (if t1 = true then (if ((a0).length : Int) > 200 then (signalmanlaw8_PipeTurns.j0 a0 a1 a2 t1 a3 a4 true) else (if a1 < 0 then (signalmanlaw8_PipeTurns.j0 a0 a1 a2 t1 a3 a4 true) else (if a1 > 300 then (signalmanlaw8_PipeTurns.j0 a0 a1 a2 t1 a3 a4 true) else (if a2 < 0 then (signalmanlaw8_PipeTurns.j0 a0 a1 a2 t1 a3 a4 true) else (if a2 > 300 then (signalmanlaw8_PipeTurns.j0 a0 a1 a2 t1 a3 a4 true) else (if a3 < 0 then (signalmanlaw8_PipeTurns.j0 a0 a1 a2 t1 a3 a4 true) else (signalmanlaw8_PipeTurns.j0 a0 a1 a2 t1 a3 a4 (decide (a3 > 300))))))))) else (signalmanlaw8_PipeTurns.j0 a0 a1 a2 t1 a3 a4 true)))
set_option maxRecDepth 100000 in
set_option maxHeartbeats 4000000 in
theorem signalmanlaw8_PipeTurns.calls (a0 : List Int) (a1 : Int) (a2 : Int) (a3 : Int) (a4 : Int) (R : As) (w0 w : World) (sa0 : Option Addr) (sc0 : Nat) (r : Bool) (hr0 : rdC R 1 (.slice sa0 (a0).length sc0) (a0).length ((a0).map (Value.int .u8))) (H : signalmanlaw8_PipeTurns.f a0 a1 a2 a3 a4 = some r) (HS : Sep.St [R] w0 w) : Calls Try.prog 5 #[Value.slice sa0 (a0).length sc0, Value.int .i64 (a1), Value.int .i64 (a2), Value.int .i64 (a3), Value.int .u8 (a4)] w (Ret fun u w => u = Value.bool (r) ∧ Sep.St [R] w0 w) := by
  unfold signalmanlaw8_PipeTurns.f at H
  refine calls_enter Try.func5 rfl rfl ?_
  have H : _ = some r := H
  refine V.seq ?_
  refine V.region ?_
  refine W.rd (X.assign rfl) rfl rfl rfl ?_
  refine W.nil ?_
  refine At.next ?_
  refine V.keep [(0, Value.slice sa0 (a0).length sc0), (1, Value.int .i64 (a1)), (2, Value.int .i64 (a2)), (3, Value.int .i64 (a3)), (4, Value.int .u8 (a4))] ⟨rfl, rfl, rfl, rfl, rfl, trivial⟩ ?_
  refine V.seq ?_
  refine V.region ?_
  obtain ⟨t1, A2, H⟩ := bind_s H
  refine W.ev (Y.call Try.func7 (by kernel_rfl) rfl (vs := []) rfl (signalmanlaw8_alive.calls  _ w0 _  t1  A2 (Sep.St.tailJoin (m := []) (r := [R]) HS))) rfl rfl rfl ?_
  rintro _ w ⟨rfl, HS⟩
  replace HS := Sep.St.tailOpen (m := []) (r := [R]) HS
  have HS : Sep.St [R] w0 w := HS
  refine W.rd (X.assign rfl) rfl rfl rfl ?_
  refine W.nil ?_
  refine At.next ?_
  refine V.keep [(0, Value.slice sa0 (a0).length sc0), (1, Value.int .i64 (a1)), (2, Value.int .i64 (a2)), (3, Value.int .i64 (a3)), (4, Value.int .u8 (a4)), (11, Value.bool (t1))] ⟨rfl, rfl, rfl, rfl, rfl, rfl, trivial⟩ ?_
  refine V.seq ?_
  refine V.meet (σ := Int × Int × Bool) (fun st w => match st with | (x3, x4, x5) => Sep.St [R] w0 w ∧ signalmanlaw8_PipeTurns.j0 a0 a1 a2 t1 x3 x4 x5 = some r) (fun st => match st with | (x3, x4, x5) => [(0, Value.slice sa0 (a0).length sc0), (1, Value.int .i64 (a1)), (2, Value.int .i64 (a2)), (3, Value.int .i64 (x3)), (4, Value.int .u8 (x4)), (11, Value.bool (t1)), (48, Value.bool (x5))]) ?_ ?_
  · refine V.region ?_
    refine W.rd (X.move rfl) rfl rfl rfl ?_
    refine W.rd (X.not rfl) rfl rfl rfl ?_
    refine W.rd (X.move rfl) rfl rfl rfl ?_
    by_cases c73 : t1 = true
    · replace H := ite_t c73 H
      refine W.want 20 rfl (sb (n_t c73)) ?_
      refine W.rd (X.move rfl) rfl rfl rfl ?_
      refine W.want 20 rfl (sb (n_t c73)) ?_
      refine W.rd (X.lenSl Try.underlying27 rfl) rfl rfl rfl ?_
      refine W.want 20 rfl (sb (n_t c73)) ?_
      refine W.rd (X.cmp (decide (((a0).length : Int) > 200)) rfl rfl rfl rfl) rfl rfl rfl ?_
      refine W.rd (X.pickF (sb (n_t c73)) rfl) rfl rfl rfl ?_
      refine W.rd (X.move rfl) rfl rfl rfl ?_
      by_cases c74 : ((a0).length : Int) > 200
      · replace H := ite_t c74 H
        refine W.pass 25 rfl (sb (decide_eq_true c74)) rfl rfl ?_
        refine W.pass 25 rfl (sb (decide_eq_true c74)) rfl rfl ?_
        refine W.rd (X.pickT (sb (decide_eq_true c74)) rfl) rfl rfl rfl ?_
        refine W.rd (X.move rfl) rfl rfl rfl ?_
        refine W.pass 29 rfl rfl rfl rfl ?_
        refine W.pass 29 rfl rfl rfl rfl ?_
        refine W.rd (X.pickT rfl rfl) rfl rfl rfl ?_
        refine W.rd (X.move rfl) rfl rfl rfl ?_
        refine W.pass 33 rfl rfl rfl rfl ?_
        refine W.pass 33 rfl rfl rfl rfl ?_
        refine W.rd (X.pickT rfl rfl) rfl rfl rfl ?_
        refine W.rd (X.move rfl) rfl rfl rfl ?_
        refine W.pass 37 rfl rfl rfl rfl ?_
        refine W.pass 37 rfl rfl rfl rfl ?_
        refine W.rd (X.pickT rfl rfl) rfl rfl rfl ?_
        refine W.rd (X.move rfl) rfl rfl rfl ?_
        refine W.pass 41 rfl rfl rfl rfl ?_
        refine W.pass 41 rfl rfl rfl rfl ?_
        refine W.rd (X.pickT rfl rfl) rfl rfl rfl ?_
        refine W.rd (X.move rfl) rfl rfl rfl ?_
        refine W.pass 45 rfl rfl rfl rfl ?_
        refine W.pass 45 rfl rfl rfl rfl ?_
        refine W.rd (X.pickT rfl rfl) rfl rfl rfl ?_
        refine W.nil ?_
        exact At.meet (a3, a4, true) ⟨rfl, rfl, rfl, rfl, rfl, rfl, rfl, trivial⟩ ⟨HS, H⟩
      · replace H := ite_f c74 H
        refine W.want 25 rfl (sb (decide_eq_false c74)) ?_
        refine W.rd (X.move rfl) rfl rfl rfl ?_
        refine W.want 25 rfl (sb (decide_eq_false c74)) ?_
        refine W.rd (X.cmp (decide (a1 < 0)) rfl rfl rfl rfl) rfl rfl rfl ?_
        refine W.rd (X.pickF (sb (decide_eq_false c74)) rfl) rfl rfl rfl ?_
        refine W.rd (X.move rfl) rfl rfl rfl ?_
        by_cases c75 : a1 < 0
        · replace H := ite_t c75 H
          refine W.pass 29 rfl (sb (decide_eq_true c75)) rfl rfl ?_
          refine W.pass 29 rfl (sb (decide_eq_true c75)) rfl rfl ?_
          refine W.rd (X.pickT (sb (decide_eq_true c75)) rfl) rfl rfl rfl ?_
          refine W.rd (X.move rfl) rfl rfl rfl ?_
          refine W.pass 33 rfl rfl rfl rfl ?_
          refine W.pass 33 rfl rfl rfl rfl ?_
          refine W.rd (X.pickT rfl rfl) rfl rfl rfl ?_
          refine W.rd (X.move rfl) rfl rfl rfl ?_
          refine W.pass 37 rfl rfl rfl rfl ?_
          refine W.pass 37 rfl rfl rfl rfl ?_
          refine W.rd (X.pickT rfl rfl) rfl rfl rfl ?_
          refine W.rd (X.move rfl) rfl rfl rfl ?_
          refine W.pass 41 rfl rfl rfl rfl ?_
          refine W.pass 41 rfl rfl rfl rfl ?_
          refine W.rd (X.pickT rfl rfl) rfl rfl rfl ?_
          refine W.rd (X.move rfl) rfl rfl rfl ?_
          refine W.pass 45 rfl rfl rfl rfl ?_
          refine W.pass 45 rfl rfl rfl rfl ?_
          refine W.rd (X.pickT rfl rfl) rfl rfl rfl ?_
          refine W.nil ?_
          exact At.meet (a3, a4, true) ⟨rfl, rfl, rfl, rfl, rfl, rfl, rfl, trivial⟩ ⟨HS, H⟩
        · replace H := ite_f c75 H
          refine W.want 29 rfl (sb (decide_eq_false c75)) ?_
          refine W.rd (X.move rfl) rfl rfl rfl ?_
          refine W.want 29 rfl (sb (decide_eq_false c75)) ?_
          refine W.rd (X.cmp (decide (a1 > 300)) rfl rfl rfl rfl) rfl rfl rfl ?_
          refine W.rd (X.pickF (sb (decide_eq_false c75)) rfl) rfl rfl rfl ?_
          refine W.rd (X.move rfl) rfl rfl rfl ?_
          by_cases c76 : a1 > 300
          · replace H := ite_t c76 H
            refine W.pass 33 rfl (sb (decide_eq_true c76)) rfl rfl ?_
            refine W.pass 33 rfl (sb (decide_eq_true c76)) rfl rfl ?_
            refine W.rd (X.pickT (sb (decide_eq_true c76)) rfl) rfl rfl rfl ?_
            refine W.rd (X.move rfl) rfl rfl rfl ?_
            refine W.pass 37 rfl rfl rfl rfl ?_
            refine W.pass 37 rfl rfl rfl rfl ?_
            refine W.rd (X.pickT rfl rfl) rfl rfl rfl ?_
            refine W.rd (X.move rfl) rfl rfl rfl ?_
            refine W.pass 41 rfl rfl rfl rfl ?_
            refine W.pass 41 rfl rfl rfl rfl ?_
            refine W.rd (X.pickT rfl rfl) rfl rfl rfl ?_
            refine W.rd (X.move rfl) rfl rfl rfl ?_
            refine W.pass 45 rfl rfl rfl rfl ?_
            refine W.pass 45 rfl rfl rfl rfl ?_
            refine W.rd (X.pickT rfl rfl) rfl rfl rfl ?_
            refine W.nil ?_
            exact At.meet (a3, a4, true) ⟨rfl, rfl, rfl, rfl, rfl, rfl, rfl, trivial⟩ ⟨HS, H⟩
          · replace H := ite_f c76 H
            refine W.want 33 rfl (sb (decide_eq_false c76)) ?_
            refine W.rd (X.move rfl) rfl rfl rfl ?_
            refine W.want 33 rfl (sb (decide_eq_false c76)) ?_
            refine W.rd (X.cmp (decide (a2 < 0)) rfl rfl rfl rfl) rfl rfl rfl ?_
            refine W.rd (X.pickF (sb (decide_eq_false c76)) rfl) rfl rfl rfl ?_
            refine W.rd (X.move rfl) rfl rfl rfl ?_
            by_cases c77 : a2 < 0
            · replace H := ite_t c77 H
              refine W.pass 37 rfl (sb (decide_eq_true c77)) rfl rfl ?_
              refine W.pass 37 rfl (sb (decide_eq_true c77)) rfl rfl ?_
              refine W.rd (X.pickT (sb (decide_eq_true c77)) rfl) rfl rfl rfl ?_
              refine W.rd (X.move rfl) rfl rfl rfl ?_
              refine W.pass 41 rfl rfl rfl rfl ?_
              refine W.pass 41 rfl rfl rfl rfl ?_
              refine W.rd (X.pickT rfl rfl) rfl rfl rfl ?_
              refine W.rd (X.move rfl) rfl rfl rfl ?_
              refine W.pass 45 rfl rfl rfl rfl ?_
              refine W.pass 45 rfl rfl rfl rfl ?_
              refine W.rd (X.pickT rfl rfl) rfl rfl rfl ?_
              refine W.nil ?_
              exact At.meet (a3, a4, true) ⟨rfl, rfl, rfl, rfl, rfl, rfl, rfl, trivial⟩ ⟨HS, H⟩
            · replace H := ite_f c77 H
              refine W.want 37 rfl (sb (decide_eq_false c77)) ?_
              refine W.rd (X.move rfl) rfl rfl rfl ?_
              refine W.want 37 rfl (sb (decide_eq_false c77)) ?_
              refine W.rd (X.cmp (decide (a2 > 300)) rfl rfl rfl rfl) rfl rfl rfl ?_
              refine W.rd (X.pickF (sb (decide_eq_false c77)) rfl) rfl rfl rfl ?_
              refine W.rd (X.move rfl) rfl rfl rfl ?_
              by_cases c78 : a2 > 300
              · replace H := ite_t c78 H
                refine W.pass 41 rfl (sb (decide_eq_true c78)) rfl rfl ?_
                refine W.pass 41 rfl (sb (decide_eq_true c78)) rfl rfl ?_
                refine W.rd (X.pickT (sb (decide_eq_true c78)) rfl) rfl rfl rfl ?_
                refine W.rd (X.move rfl) rfl rfl rfl ?_
                refine W.pass 45 rfl rfl rfl rfl ?_
                refine W.pass 45 rfl rfl rfl rfl ?_
                refine W.rd (X.pickT rfl rfl) rfl rfl rfl ?_
                refine W.nil ?_
                exact At.meet (a3, a4, true) ⟨rfl, rfl, rfl, rfl, rfl, rfl, rfl, trivial⟩ ⟨HS, H⟩
              · replace H := ite_f c78 H
                refine W.want 41 rfl (sb (decide_eq_false c78)) ?_
                refine W.rd (X.move rfl) rfl rfl rfl ?_
                refine W.want 41 rfl (sb (decide_eq_false c78)) ?_
                refine W.rd (X.cmp (decide (a3 < 0)) rfl rfl rfl rfl) rfl rfl rfl ?_
                refine W.rd (X.pickF (sb (decide_eq_false c78)) rfl) rfl rfl rfl ?_
                refine W.rd (X.move rfl) rfl rfl rfl ?_
                by_cases c79 : a3 < 0
                · replace H := ite_t c79 H
                  refine W.pass 45 rfl (sb (decide_eq_true c79)) rfl rfl ?_
                  refine W.pass 45 rfl (sb (decide_eq_true c79)) rfl rfl ?_
                  refine W.rd (X.pickT (sb (decide_eq_true c79)) rfl) rfl rfl rfl ?_
                  refine W.nil ?_
                  exact At.meet (a3, a4, true) ⟨rfl, rfl, rfl, rfl, rfl, rfl, rfl, trivial⟩ ⟨HS, H⟩
                · replace H := ite_f c79 H
                  refine W.want 45 rfl (sb (decide_eq_false c79)) ?_
                  refine W.rd (X.move rfl) rfl rfl rfl ?_
                  refine W.want 45 rfl (sb (decide_eq_false c79)) ?_
                  refine W.rd (X.cmp (decide (a3 > 300)) rfl rfl rfl rfl) rfl rfl rfl ?_
                  refine W.rd (X.pickF (sb (decide_eq_false c79)) rfl) rfl rfl rfl ?_
                  refine W.nil ?_
                  exact At.meet (a3, a4, decide (a3 > 300)) ⟨rfl, rfl, rfl, rfl, rfl, rfl, rfl, trivial⟩ ⟨HS, H⟩
    · replace H := ite_f c73 H
      refine W.pass 20 rfl (sb (n_f (b_f c73))) rfl rfl ?_
      refine W.pass 20 rfl (sb (n_f (b_f c73))) rfl rfl ?_
      refine W.pass 20 rfl (sb (n_f (b_f c73))) rfl rfl ?_
      refine W.rd (X.pickT (sb (n_f (b_f c73))) rfl) rfl rfl rfl ?_
      refine W.rd (X.move rfl) rfl rfl rfl ?_
      refine W.pass 25 rfl rfl rfl rfl ?_
      refine W.pass 25 rfl rfl rfl rfl ?_
      refine W.rd (X.pickT rfl rfl) rfl rfl rfl ?_
      refine W.rd (X.move rfl) rfl rfl rfl ?_
      refine W.pass 29 rfl rfl rfl rfl ?_
      refine W.pass 29 rfl rfl rfl rfl ?_
      refine W.rd (X.pickT rfl rfl) rfl rfl rfl ?_
      refine W.rd (X.move rfl) rfl rfl rfl ?_
      refine W.pass 33 rfl rfl rfl rfl ?_
      refine W.pass 33 rfl rfl rfl rfl ?_
      refine W.rd (X.pickT rfl rfl) rfl rfl rfl ?_
      refine W.rd (X.move rfl) rfl rfl rfl ?_
      refine W.pass 37 rfl rfl rfl rfl ?_
      refine W.pass 37 rfl rfl rfl rfl ?_
      refine W.rd (X.pickT rfl rfl) rfl rfl rfl ?_
      refine W.rd (X.move rfl) rfl rfl rfl ?_
      refine W.pass 41 rfl rfl rfl rfl ?_
      refine W.pass 41 rfl rfl rfl rfl ?_
      refine W.rd (X.pickT rfl rfl) rfl rfl rfl ?_
      refine W.rd (X.move rfl) rfl rfl rfl ?_
      refine W.pass 45 rfl rfl rfl rfl ?_
      refine W.pass 45 rfl rfl rfl rfl ?_
      refine W.rd (X.pickT rfl rfl) rfl rfl rfl ?_
      refine W.nil ?_
      exact At.meet (a3, a4, true) ⟨rfl, rfl, rfl, rfl, rfl, rfl, rfl, trivial⟩ ⟨HS, H⟩
  · rintro ⟨x3, x4, x5⟩ w ⟨HS, H⟩
    unfold signalmanlaw8_PipeTurns.j0 at H
    have HS : Sep.St [R] w0 w := HS
    by_cases c7 : x5 = true
    · replace H := ite_t c7 H
      refine V.condT (sb c7) ?_
      refine V.seq ?_
      refine V.region ?_
      refine W.rd (X.move rfl) rfl rfl rfl ?_
      refine W.rd (X.assign rfl) rfl rfl rfl ?_
      refine W.nil ?_
      refine At.next ?_
      refine V.keep [(10, Value.bool (t1))] ⟨rfl, trivial⟩ ?_
      refine V.ret ?_
      refine At.thenRet ?_
      cases H
      exact At.ret1 rfl rfl ⟨_, rfl, rfl, HS⟩
    · replace H := ite_f c7 H
      refine V.condF (sb (b_f c7)) ?_
      refine V.skip ?_
      refine At.next ?_
      refine V.keep [(0, Value.slice sa0 (a0).length sc0), (1, Value.int .i64 (a1)), (2, Value.int .i64 (a2)), (3, Value.int .i64 (x3)), (4, Value.int .u8 (x4))] ⟨rfl, rfl, rfl, rfl, rfl, trivial⟩ ?_
      refine V.seq ?_
      refine V.region ?_
      obtain ⟨t8, A9, H⟩ := bind_s H
      refine W.ev (Y.call Try.func8 (by kernel_rfl) rfl (vs := [Value.int .i64 (500)]) rfl (pipe_New.calls 500 _ w0 _  t8  A9 (Sep.St.tailJoin (m := []) (r := [R]) HS))) rfl rfl rfl ?_
      rintro _ w ⟨bt8_0, rfl, HS⟩
      replace HS := Sep.St.tailOpen (m := [pipe_Pipe.at bt8_0 (t8)]) (r := [R]) HS
      have HS : Sep.St [pipe_Pipe.at bt8_0 (t8), R] w0 w := HS
      refine W.rd (X.assign rfl) rfl rfl rfl ?_
      refine W.nil ?_
      refine At.next ?_
      refine V.keep [(0, Value.slice sa0 (a0).length sc0), (1, Value.int .i64 (a1)), (2, Value.int .i64 (a2)), (3, Value.int .i64 (x3)), (4, Value.int .u8 (x4)), (12, Value.pointer (some ⟨bt8_0, 0, none⟩))] ⟨rfl, rfl, rfl, rfl, rfl, rfl, trivial⟩ ?_
      refine V.seq ?_
      refine V.region ?_
      refine W.rd (X.move rfl) rfl rfl rfl ?_
      refine W.rd (X.move rfl) rfl rfl rfl ?_
      obtain ⟨t10, A11, H⟩ := bind_s H
      refine W.ev (Y.call Try.func9 (by kernel_rfl) rfl (vs := [Value.pointer (some ⟨bt8_0, 0, none⟩), Value.slice sa0 (a0).length sc0]) rfl (pipe_Pipe_Put.calls t8 a0 _ w0 _ bt8_0 sa0 sc0 t10 (rdC.part 0 hr0 rfl) A11 (Sep.St.tailJoin (m := [pipe_Pipe.at bt8_0 (t8)]) (r := [R]) HS))) rfl rfl rfl ?_
      rintro _ w ⟨rfl, HS⟩
      replace HS := Sep.St.tailOpen (m := [pipe_Pipe.at bt8_0 (t10.2)]) (r := [R]) HS
      have HS : Sep.St [pipe_Pipe.at bt8_0 (t10.2), R] w0 w := HS
      refine W.nil ?_
      refine At.next ?_
      refine V.keep [(0, Value.slice sa0 (a0).length sc0), (1, Value.int .i64 (a1)), (2, Value.int .i64 (a2)), (3, Value.int .i64 (x3)), (4, Value.int .u8 (x4)), (12, Value.pointer (some ⟨bt8_0, 0, none⟩))] ⟨rfl, rfl, rfl, rfl, rfl, rfl, trivial⟩ ?_
      refine V.seq ?_
      refine V.region ?_
      refine W.rd (X.move rfl) rfl rfl rfl ?_
      obtain ⟨c12, H⟩ := ite_n H
      replace HS := row_nil' (e := 5) 1 none HS
      have HS : Sep.St [row 5 1 (.slice none (([] : List Int)).length 0) (([] : List Int)).length ((([] : List Int)).map (Value.int .u8)), pipe_Pipe.at bt8_0 (t10.2), R] w0 w := HS
      refine W.ev (Y.appF (Value.int .u8) (fun _ => rfl) 0 Try.underlying27 ap5 rfl HS rfl rfl rfl (rdC.at 2 hr0 HS rfl) (by omega) (by omega)) rfl rfl rfl ?_
      rintro _ w ⟨ra13, rc14, rfl, HS⟩
      have HS : Sep.St [row 5 1 (.slice ra13 (([] : List Int) ++ a0).length rc14) (([] : List Int) ++ a0).length ((([] : List Int) ++ a0).map (Value.int .u8)), pipe_Pipe.at bt8_0 (t10.2), R] w0 w := HS
      refine W.rd (X.assign rfl) rfl rfl rfl ?_
      refine W.nil ?_
      refine At.next ?_
      refine V.keep [(1, Value.int .i64 (a1)), (2, Value.int .i64 (a2)), (3, Value.int .i64 (x3)), (4, Value.int .u8 (x4)), (12, Value.pointer (some ⟨bt8_0, 0, none⟩)), (13, Value.slice ra13 (([] : List Int) ++ a0).length rc14)] ⟨rfl, rfl, rfl, rfl, rfl, rfl, trivial⟩ ?_
      refine V.meet (σ := Int) (fun st w => match st with | x17 => Sep.St [row 5 1 (.slice ra13 (([] : List Int) ++ a0).length rc14) (([] : List Int) ++ a0).length ((([] : List Int) ++ a0).map (Value.int .u8)), pipe_Pipe.at bt8_0 (t10.2), R] w0 w ∧ signalmanlaw8_PipeTurns.j1 a0 a2 x3 x4 t10 x17 = some r) (fun st => match st with | x17 => [(1, Value.int .i64 (x17)), (2, Value.int .i64 (a2)), (3, Value.int .i64 (x3)), (4, Value.int .u8 (x4)), (12, Value.pointer (some ⟨bt8_0, 0, none⟩)), (13, Value.slice ra13 (([] : List Int) ++ a0).length rc14)]) ?_ ?_
      · refine V.seq ?_
        refine V.region ?_
        refine W.rd (X.move rfl) rfl rfl rfl ?_
        refine W.rd (X.move rfl) rfl rfl rfl ?_
        refine W.rd (X.lenSl Try.underlying27 rfl) rfl rfl rfl ?_
        refine W.rd (X.cmp (decide (a1 > ((([] : List Int) ++ a0).length : Int))) rfl rfl rfl rfl) rfl rfl rfl ?_
        refine W.nil ?_
        refine At.next ?_
        refine V.keep [(1, Value.int .i64 (a1)), (2, Value.int .i64 (a2)), (3, Value.int .i64 (x3)), (4, Value.int .u8 (x4)), (12, Value.pointer (some ⟨bt8_0, 0, none⟩)), (13, Value.slice ra13 (([] : List Int) ++ a0).length rc14), (59, Value.bool (decide (a1 > ((([] : List Int) ++ a0).length : Int))))] ⟨rfl, rfl, rfl, rfl, rfl, rfl, rfl, trivial⟩ ?_
        by_cases c72 : a1 > ((([] : List Int) ++ a0).length : Int)
        · replace H := ite_t c72 H
          refine V.condT (sb (decide_eq_true c72)) ?_
          refine V.region ?_
          refine W.rd (X.move rfl) rfl rfl rfl ?_
          refine W.rd (X.lenSl Try.underlying27 rfl) rfl rfl rfl ?_
          refine W.rd (X.assign rfl) rfl rfl rfl ?_
          refine W.nil ?_
          exact At.meet (((([] : List Int) ++ a0).length : Int)) ⟨rfl, rfl, rfl, rfl, rfl, rfl, trivial⟩ ⟨HS, H⟩
        · replace H := ite_f c72 H
          refine V.condF (sb (decide_eq_false c72)) ?_
          refine V.skip ?_
          exact At.meet (a1) ⟨rfl, rfl, rfl, rfl, rfl, rfl, trivial⟩ ⟨HS, H⟩
      · rintro x17 w ⟨HS, H⟩
        unfold signalmanlaw8_PipeTurns.j1 at H
        have HS : Sep.St [row 5 1 (.slice ra13 (([] : List Int) ++ a0).length rc14) (([] : List Int) ++ a0).length ((([] : List Int) ++ a0).map (Value.int .u8)), pipe_Pipe.at bt8_0 (t10.2), R] w0 w := HS
        refine V.seq ?_
        refine V.region ?_
        refine W.rd (X.move rfl) rfl rfl rfl ?_
        refine W.rd (X.move rfl) rfl rfl rfl ?_
        obtain ⟨c19, H⟩ := ite_n H
        refine W.rd (X.slL Try.underlying27 inf5 rfl rfl c19) rfl rfl rfl ?_
        refine W.rd (X.assign rfl) rfl rfl rfl ?_
        refine W.nil ?_
        refine At.next ?_
        refine V.keep [(1, Value.int .i64 (x17)), (2, Value.int .i64 (a2)), (3, Value.int .i64 (x3)), (4, Value.int .u8 (x4)), (12, Value.pointer (some ⟨bt8_0, 0, none⟩)), (13, Value.slice (vaddr ra13 rc14 (x17).toNat 1) (cut (([] : List Int) ++ a0) x17 ((([] : List Int) ++ a0).length : Int)).length (rc14 - (x17).toNat))] ⟨rfl, rfl, rfl, rfl, rfl, rfl, trivial⟩ ?_
        refine V.seq ?_
        refine V.region ?_
        refine W.rd (X.move rfl) rfl rfl rfl ?_
        refine W.rd (X.move rfl) rfl rfl rfl ?_
        obtain ⟨t20, A21, H⟩ := bind_s H
        replace HS := HS.re [1, 0, 2] (by kernel_rfl)
        have HS : Sep.St [pipe_Pipe.at bt8_0 (t10.2), row 5 1 (.slice ra13 (([] : List Int) ++ a0).length rc14) (([] : List Int) ++ a0).length ((([] : List Int) ++ a0).map (Value.int .u8)), R] w0 w := HS
        refine W.ev (Y.call Try.func12 (by kernel_rfl) rfl (vs := [Value.pointer (some ⟨bt8_0, 0, none⟩), Value.int .i64 (3), Value.int .i64 (x17), Value.int .u8 (0)]) rfl (pipe_Pipe_Fault.calls t10.2 3 x17 0 _ w0 _ bt8_0 t20  A21 (Sep.St.tailJoin (m := [pipe_Pipe.at bt8_0 (t10.2)]) (r := [row 5 1 (.slice ra13 (([] : List Int) ++ a0).length rc14) (([] : List Int) ++ a0).length ((([] : List Int) ++ a0).map (Value.int .u8)), R]) HS))) rfl rfl rfl ?_
        rintro _ w ⟨rfl, HS⟩
        replace HS := Sep.St.tailOpen (m := [pipe_Pipe.at bt8_0 (t20.2)]) (r := [row 5 1 (.slice ra13 (([] : List Int) ++ a0).length rc14) (([] : List Int) ++ a0).length ((([] : List Int) ++ a0).map (Value.int .u8)), R]) HS
        have HS : Sep.St [pipe_Pipe.at bt8_0 (t20.2), row 5 1 (.slice ra13 (([] : List Int) ++ a0).length rc14) (([] : List Int) ++ a0).length ((([] : List Int) ++ a0).map (Value.int .u8)), R] w0 w := HS
        refine W.rd (X.assign rfl) rfl rfl rfl ?_
        refine W.nil ?_
        refine At.next ?_
        refine V.keep [(2, Value.int .i64 (a2)), (3, Value.int .i64 (x3)), (4, Value.int .u8 (x4)), (12, Value.pointer (some ⟨bt8_0, 0, none⟩)), (13, Value.slice (vaddr ra13 rc14 (x17).toNat 1) (cut (([] : List Int) ++ a0) x17 ((([] : List Int) ++ a0).length : Int)).length (rc14 - (x17).toNat)), (14, Value.bool (t20.1))] ⟨rfl, rfl, rfl, rfl, rfl, rfl, trivial⟩ ?_
        refine V.seq ?_
        refine V.region ?_
        refine W.rd (X.move rfl) rfl rfl rfl ?_
        refine W.rd (X.move rfl) rfl rfl rfl ?_
        refine W.rd (X.move rfl) rfl rfl rfl ?_
        obtain ⟨t22, A23, H⟩ := bind_s H
        refine W.ev (Y.call Try.func12 (by kernel_rfl) rfl (vs := [Value.pointer (some ⟨bt8_0, 0, none⟩), Value.int .i64 (4), Value.int .i64 (a2), Value.int .u8 (x4)]) rfl (pipe_Pipe_Fault.calls t20.2 4 a2 x4 _ w0 _ bt8_0 t22  A23 (Sep.St.tailJoin (m := [pipe_Pipe.at bt8_0 (t20.2)]) (r := [row 5 1 (.slice ra13 (([] : List Int) ++ a0).length rc14) (([] : List Int) ++ a0).length ((([] : List Int) ++ a0).map (Value.int .u8)), R]) HS))) rfl rfl rfl ?_
        rintro _ w ⟨rfl, HS⟩
        replace HS := Sep.St.tailOpen (m := [pipe_Pipe.at bt8_0 (t22.2)]) (r := [row 5 1 (.slice ra13 (([] : List Int) ++ a0).length rc14) (([] : List Int) ++ a0).length ((([] : List Int) ++ a0).map (Value.int .u8)), R]) HS
        have HS : Sep.St [pipe_Pipe.at bt8_0 (t22.2), row 5 1 (.slice ra13 (([] : List Int) ++ a0).length rc14) (([] : List Int) ++ a0).length ((([] : List Int) ++ a0).map (Value.int .u8)), R] w0 w := HS
        refine W.rd (X.assign rfl) rfl rfl rfl ?_
        refine W.nil ?_
        refine At.next ?_
        refine V.keep [(2, Value.int .i64 (a2)), (3, Value.int .i64 (x3)), (4, Value.int .u8 (x4)), (12, Value.pointer (some ⟨bt8_0, 0, none⟩)), (13, Value.slice (vaddr ra13 rc14 (x17).toNat 1) (cut (([] : List Int) ++ a0) x17 ((([] : List Int) ++ a0).length : Int)).length (rc14 - (x17).toNat)), (14, Value.bool (t20.1)), (15, Value.bool (t22.1))] ⟨rfl, rfl, rfl, rfl, rfl, rfl, rfl, trivial⟩ ?_
        refine V.seq ?_
        refine V.seq ?_
        refine V.region ?_
        refine W.rd (X.move rfl) rfl rfl rfl ?_
        refine W.rd (X.move rfl) rfl rfl rfl ?_
        refine W.rd (X.move rfl) rfl rfl rfl ?_
        refine W.rd (X.lenSl Try.underlying27 rfl) rfl rfl rfl ?_
        refine W.rd (X.cmp (decide (a2 < ((cut (([] : List Int) ++ a0) x17 ((([] : List Int) ++ a0).length : Int)).length : Int))) rfl rfl rfl rfl) rfl rfl rfl ?_
        refine W.rd (X.neB Try.underlying4 rfl rfl) rfl rfl rfl ?_
        refine W.nil ?_
        refine At.next ?_
        refine V.keep [(2, Value.int .i64 (a2)), (3, Value.int .i64 (x3)), (4, Value.int .u8 (x4)), (12, Value.pointer (some ⟨bt8_0, 0, none⟩)), (13, Value.slice (vaddr ra13 rc14 (x17).toNat 1) (cut (([] : List Int) ++ a0) x17 ((([] : List Int) ++ a0).length : Int)).length (rc14 - (x17).toNat)), (14, Value.bool (t20.1)), (15, Value.bool (t22.1)), (77, Value.bool (((t22.1) != (decide (a2 < ((cut (([] : List Int) ++ a0) x17 ((([] : List Int) ++ a0).length : Int)).length : Int))))))] ⟨rfl, rfl, rfl, rfl, rfl, rfl, rfl, rfl, trivial⟩ ?_
        by_cases c24 : ((t22.1) != (decide (a2 < ((cut (([] : List Int) ++ a0) x17 ((([] : List Int) ++ a0).length : Int)).length : Int)))) = true
        · replace H := ite_t c24 H
          refine V.condT (sb c24) ?_
          refine V.seq ?_
          refine V.region ?_
          refine W.rd (X.assign rfl) rfl rfl rfl ?_
          refine W.nil ?_
          refine At.next ?_
          refine V.keep [(10, Value.bool (false))] ⟨rfl, trivial⟩ ?_
          refine V.ret ?_
          refine At.thenRet ?_
          replace HS := HS.sel [2] [0, 1] (by kernel_rfl)
          cases H
          exact At.ret1 rfl rfl ⟨_, rfl, rfl, HS⟩
        · replace H := ite_f c24 H
          refine V.condF (sb (b_f c24)) ?_
          refine V.skip ?_
          refine At.next ?_
          refine V.keep [(2, Value.int .i64 (a2)), (3, Value.int .i64 (x3)), (4, Value.int .u8 (x4)), (12, Value.pointer (some ⟨bt8_0, 0, none⟩)), (13, Value.slice (vaddr ra13 rc14 (x17).toNat 1) (cut (([] : List Int) ++ a0) x17 ((([] : List Int) ++ a0).length : Int)).length (rc14 - (x17).toNat)), (14, Value.bool (t20.1)), (15, Value.bool (t22.1))] ⟨rfl, rfl, rfl, rfl, rfl, rfl, rfl, trivial⟩ ?_
          refine V.meet (σ := Option Addr × Nat × List Int) (fun st w => match st with | (ra25, rc26, x27) => Sep.St [row 5 1 (.slice ra25 (x27).length rc26) (x27).length ((x27).map (Value.int .u8)), pipe_Pipe.at bt8_0 (t22.2), R] w0 w ∧ signalmanlaw8_PipeTurns.j2 x3 x4 t20 t22 x27 = some r) (fun st => match st with | (ra25, rc26, x27) => [(3, Value.int .i64 (x3)), (4, Value.int .u8 (x4)), (12, Value.pointer (some ⟨bt8_0, 0, none⟩)), (13, Value.slice ra25 (x27).length rc26), (14, Value.bool (t20.1))]) ?_ ?_
          · refine V.seq ?_
            refine V.region ?_
            refine W.rd (X.move rfl) rfl rfl rfl ?_
            refine W.nil ?_
            refine At.next ?_
            refine V.keep [(2, Value.int .i64 (a2)), (3, Value.int .i64 (x3)), (4, Value.int .u8 (x4)), (12, Value.pointer (some ⟨bt8_0, 0, none⟩)), (13, Value.slice (vaddr ra13 rc14 (x17).toNat 1) (cut (([] : List Int) ++ a0) x17 ((([] : List Int) ++ a0).length : Int)).length (rc14 - (x17).toNat)), (14, Value.bool (t20.1)), (78, Value.bool (t22.1))] ⟨rfl, rfl, rfl, rfl, rfl, rfl, rfl, trivial⟩ ?_
            by_cases c67 : t22.1 = true
            · replace H := ite_t c67 H
              refine V.condT (sb c67) ?_
              refine V.region ?_
              refine W.rd (X.move rfl) rfl rfl rfl ?_
              refine W.rd (X.move rfl) rfl rfl rfl ?_
              refine W.rd (X.move rfl) rfl rfl rfl ?_
              obtain ⟨c68, H⟩ := ite_n H
              replace HS := HS.front 1 rfl
              have HS : Sep.St [row 5 1 (.slice ra13 (([] : List Int) ++ a0).length rc14) (([] : List Int) ++ a0).length ((([] : List Int) ++ a0).map (Value.int .u8)), pipe_Pipe.at bt8_0 (t22.2), R] w0 w := HS
              replace HS := St.row_subM HS c19
              have HS : Sep.St [row 5 1 (.slice (vaddr ra13 rc14 (x17).toNat 1) (cut (([] : List Int) ++ a0) x17 ((([] : List Int) ++ a0).length : Int)).length (rc14 - (x17).toNat)) (cut (([] : List Int) ++ a0) x17 ((([] : List Int) ++ a0).length : Int)).length ((cut (([] : List Int) ++ a0) x17 ((([] : List Int) ++ a0).length : Int)).map (Value.int .u8)), pipe_Pipe.at bt8_0 (t22.2), R] w0 w := HS
              generalize (vaddr ra13 rc14 (x17).toNat 1) = ga71 at HS ⊢
              obtain ⟨eb69, eo70, hh⟩ := ((rdC.at 0 row_rd HS rfl)).some (by decide) c68.1 c68.2; subst hh
              refine W.rd (X.indexSl Try.underlying27 inf5 rfl rfl c68.1 c68.2) rfl rfl rfl ?_
              refine W.ev_none (Y.storeRowF (Value.int .u8) (fun _ => rfl) 0 HS rfl inf5 rfl rfl c68.1 c68.2) rfl rfl ?_
              rintro _ w HS
              have HS : Sep.St [row 5 1 (.slice (some ⟨eb69, eo70, none⟩) ((cut (([] : List Int) ++ a0) x17 ((([] : List Int) ++ a0).length : Int)).set (a2).toNat (x4)).length (rc14 - (x17).toNat)) ((cut (([] : List Int) ++ a0) x17 ((([] : List Int) ++ a0).length : Int)).set (a2).toNat (x4)).length (((cut (([] : List Int) ++ a0) x17 ((([] : List Int) ++ a0).length : Int)).set (a2).toNat (x4)).map (Value.int .u8)), pipe_Pipe.at bt8_0 (t22.2), R] w0 w := HS
              refine W.again 13 (v := Value.slice (some ⟨eb69, eo70, none⟩) ((cut (([] : List Int) ++ a0) x17 ((([] : List Int) ++ a0).length : Int)).set (a2).toNat (x4)).length (rc14 - (x17).toNat)) (by rw [List.length_set]; rfl) ?_
              refine W.again 79 (v := Value.slice (some ⟨eb69, eo70, none⟩) ((cut (([] : List Int) ++ a0) x17 ((([] : List Int) ++ a0).length : Int)).set (a2).toNat (x4)).length (rc14 - (x17).toNat)) (by rw [List.length_set]; rfl) ?_
              refine W.nil ?_
              exact At.meet ((some ⟨eb69, eo70, none⟩), (rc14 - (x17).toNat), (cut (([] : List Int) ++ a0) x17 ((([] : List Int) ++ a0).length : Int)).set (a2).toNat (x4)) ⟨rfl, rfl, rfl, rfl, rfl, trivial⟩ ⟨HS, H⟩
            · replace H := ite_f c67 H
              refine V.condF (sb (b_f c67)) ?_
              refine V.skip ?_
              replace HS := HS.front 1 rfl
              have HS : Sep.St [row 5 1 (.slice ra13 (([] : List Int) ++ a0).length rc14) (([] : List Int) ++ a0).length ((([] : List Int) ++ a0).map (Value.int .u8)), pipe_Pipe.at bt8_0 (t22.2), R] w0 w := HS
              replace HS := St.row_subM HS c19
              have HS : Sep.St [row 5 1 (.slice (vaddr ra13 rc14 (x17).toNat 1) (cut (([] : List Int) ++ a0) x17 ((([] : List Int) ++ a0).length : Int)).length (rc14 - (x17).toNat)) (cut (([] : List Int) ++ a0) x17 ((([] : List Int) ++ a0).length : Int)).length ((cut (([] : List Int) ++ a0) x17 ((([] : List Int) ++ a0).length : Int)).map (Value.int .u8)), pipe_Pipe.at bt8_0 (t22.2), R] w0 w := HS
              exact At.meet ((vaddr ra13 rc14 (x17).toNat 1), (rc14 - (x17).toNat), cut (([] : List Int) ++ a0) x17 ((([] : List Int) ++ a0).length : Int)) ⟨rfl, rfl, rfl, rfl, rfl, trivial⟩ ⟨HS, H⟩
          · rintro ⟨ra25, rc26, x27⟩ w ⟨HS, H⟩
            unfold signalmanlaw8_PipeTurns.j2 at H
            have HS : Sep.St [row 5 1 (.slice ra25 (x27).length rc26) (x27).length ((x27).map (Value.int .u8)), pipe_Pipe.at bt8_0 (t22.2), R] w0 w := HS
            refine V.seq ?_
            refine V.region ?_
            refine W.rd (X.move rfl) rfl rfl rfl ?_
            refine W.rd (X.move rfl) rfl rfl rfl ?_
            refine W.rd (X.move rfl) rfl rfl rfl ?_
            obtain ⟨t29, A30, H⟩ := bind_s H
            replace HS := HS.re [1, 0, 2] (by kernel_rfl)
            have HS : Sep.St [pipe_Pipe.at bt8_0 (t22.2), row 5 1 (.slice ra25 (x27).length rc26) (x27).length ((x27).map (Value.int .u8)), R] w0 w := HS
            refine W.ev (Y.call Try.func12 (by kernel_rfl) rfl (vs := [Value.pointer (some ⟨bt8_0, 0, none⟩), Value.int .i64 (5), Value.int .i64 (x3), Value.int .u8 (x4)]) rfl (pipe_Pipe_Fault.calls t22.2 5 x3 x4 _ w0 _ bt8_0 t29  A30 (Sep.St.tailJoin (m := [pipe_Pipe.at bt8_0 (t22.2)]) (r := [row 5 1 (.slice ra25 (x27).length rc26) (x27).length ((x27).map (Value.int .u8)), R]) HS))) rfl rfl rfl ?_
            rintro _ w ⟨rfl, HS⟩
            replace HS := Sep.St.tailOpen (m := [pipe_Pipe.at bt8_0 (t29.2)]) (r := [row 5 1 (.slice ra25 (x27).length rc26) (x27).length ((x27).map (Value.int .u8)), R]) HS
            have HS : Sep.St [pipe_Pipe.at bt8_0 (t29.2), row 5 1 (.slice ra25 (x27).length rc26) (x27).length ((x27).map (Value.int .u8)), R] w0 w := HS
            refine W.rd (X.assign rfl) rfl rfl rfl ?_
            refine W.nil ?_
            refine At.next ?_
            refine V.keep [(3, Value.int .i64 (x3)), (4, Value.int .u8 (x4)), (12, Value.pointer (some ⟨bt8_0, 0, none⟩)), (13, Value.slice ra25 (x27).length rc26), (14, Value.bool (t20.1)), (16, Value.bool (t29.1))] ⟨rfl, rfl, rfl, rfl, rfl, rfl, trivial⟩ ?_
            refine V.seq ?_
            refine V.seq ?_
            refine V.region ?_
            refine W.rd (X.move rfl) rfl rfl rfl ?_
            refine W.rd (X.move rfl) rfl rfl rfl ?_
            refine W.rd (X.move rfl) rfl rfl rfl ?_
            refine W.rd (X.lenSl Try.underlying27 rfl) rfl rfl rfl ?_
            refine W.rd (X.cmp (decide (x3 ≤ ((x27).length : Int))) rfl rfl rfl rfl) rfl rfl rfl ?_
            refine W.rd (X.neB Try.underlying4 rfl rfl) rfl rfl rfl ?_
            refine W.nil ?_
            refine At.next ?_
            refine V.keep [(3, Value.int .i64 (x3)), (4, Value.int .u8 (x4)), (12, Value.pointer (some ⟨bt8_0, 0, none⟩)), (13, Value.slice ra25 (x27).length rc26), (14, Value.bool (t20.1)), (16, Value.bool (t29.1)), (92, Value.bool (((t29.1) != (decide (x3 ≤ ((x27).length : Int))))))] ⟨rfl, rfl, rfl, rfl, rfl, rfl, rfl, trivial⟩ ?_
            by_cases c32 : ((t29.1) != (decide (x3 ≤ ((x27).length : Int)))) = true
            · replace H := ite_t c32 H
              refine V.condT (sb c32) ?_
              refine V.seq ?_
              refine V.region ?_
              refine W.rd (X.assign rfl) rfl rfl rfl ?_
              refine W.nil ?_
              refine At.next ?_
              refine V.keep [(10, Value.bool (false))] ⟨rfl, trivial⟩ ?_
              refine V.ret ?_
              refine At.thenRet ?_
              replace HS := HS.sel [2] [0, 1] (by kernel_rfl)
              cases H
              exact At.ret1 rfl rfl ⟨_, rfl, rfl, HS⟩
            · replace H := ite_f c32 H
              refine V.condF (sb (b_f c32)) ?_
              refine V.skip ?_
              refine At.next ?_
              refine V.keep [(3, Value.int .i64 (x3)), (4, Value.int .u8 (x4)), (12, Value.pointer (some ⟨bt8_0, 0, none⟩)), (13, Value.slice ra25 (x27).length rc26), (14, Value.bool (t20.1)), (16, Value.bool (t29.1))] ⟨rfl, rfl, rfl, rfl, rfl, rfl, trivial⟩ ?_
              refine V.meet (σ := Option Addr × Nat × List Int) (fun st w => match st with | (ra33, rc34, x35) => Sep.St [row 5 1 (.slice ra33 (x35).length rc34) (x35).length ((x35).map (Value.int .u8)), pipe_Pipe.at bt8_0 (t29.2), R] w0 w ∧ signalmanlaw8_PipeTurns.j3 t20 t29 x35 = some r) (fun st => match st with | (ra33, rc34, x35) => [(12, Value.pointer (some ⟨bt8_0, 0, none⟩)), (13, Value.slice ra33 (x35).length rc34), (14, Value.bool (t20.1))]) ?_ ?_
              · refine V.seq ?_
                refine V.region ?_
                refine W.rd (X.move rfl) rfl rfl rfl ?_
                refine W.nil ?_
                refine At.next ?_
                refine V.keep [(3, Value.int .i64 (x3)), (4, Value.int .u8 (x4)), (12, Value.pointer (some ⟨bt8_0, 0, none⟩)), (13, Value.slice ra25 (x27).length rc26), (14, Value.bool (t20.1)), (93, Value.bool (t29.1))] ⟨rfl, rfl, rfl, rfl, rfl, rfl, trivial⟩ ?_
                by_cases c40 : t29.1 = true
                · replace H := ite_t c40 H
                  refine V.condT (sb c40) ?_
                  obtain ⟨c41, H⟩ := ite_n H
                  obtain ⟨c42, H⟩ := ite_n H
                  refine V.draw (es := [3, 5, 6, 10]) (bl := [11]) (f := [(94, Value.slice ra25 (x27).length rc26), (95, Value.int .i64 (x3)), (96, Value.slice (vaddr ra25 rc26 ((0 : Int)).toNat 1) (cut x27 (0 : Int) x3).length (rc26 - ((0 : Int)).toNat)), (98, Value.int .u8 (x4)), (101, Value.slice ra25 (x27).length rc26), (102, Value.int .i64 (x3)), (103, Value.slice (vaddr ra25 rc26 (x3).toNat 1) (cut x27 x3 ((x27).length : Int)).length (rc26 - (x3).toNat))]) (fun w => Sep.St [pipe_Pipe.at bt8_0 (t29.2), row 5 1 (.slice ra25 (x27).length rc26) (x27).length ((x27).map (Value.int .u8)), R] w0 w) mo HS.drew rfl ?_
                  refine T.two rfl rfl ⟨⟨_, Value.slice ra25 (x27).length rc26, [(13, Value.slice ra25 (x27).length rc26)], 94, rfl, rfl, ⟨.inl ⟨rfl, rfl⟩, trivial⟩, .run rfl (fun w HS => X.move rfl), rfl, rfl, rfl⟩, ⟨_, Value.int .i64 (x3), [(3, Value.int .i64 (x3))], 95, rfl, rfl, ⟨.inl ⟨rfl, rfl⟩, trivial⟩, .run rfl (fun w HS => X.move rfl), rfl, rfl, rfl⟩, ⟨_, Value.slice (vaddr ra25 rc26 ((0 : Int)).toNat 1) (cut x27 (0 : Int) x3).length (rc26 - ((0 : Int)).toNat), [(94, Value.slice ra25 (x27).length rc26), (95, Value.int .i64 (x3))], 96, rfl, rfl, ⟨.inr ⟨rfl, rfl⟩, ⟨.inr ⟨rfl, rfl⟩, trivial⟩⟩, .run rfl (fun w HS => X.slH Try.underlying27 inf5 rfl rfl c41 ((rdC.at 1 row_rd HS rfl)).cap), rfl, rfl, rfl⟩, ⟨_, Value.int .u8 (x4), [(4, Value.int .u8 (x4))], 98, rfl, rfl, ⟨.inl ⟨rfl, rfl⟩, trivial⟩, .run rfl (fun w HS => X.move rfl), rfl, rfl, rfl⟩, ⟨_, Value.slice ra25 (x27).length rc26, [(13, Value.slice ra25 (x27).length rc26)], 101, rfl, rfl, ⟨.inl ⟨rfl, rfl⟩, trivial⟩, .run rfl (fun w HS => X.move rfl), rfl, rfl, rfl⟩, ⟨_, Value.int .i64 (x3), [(3, Value.int .i64 (x3))], 102, rfl, rfl, ⟨.inl ⟨rfl, rfl⟩, trivial⟩, .run rfl (fun w HS => X.move rfl), rfl, rfl, rfl⟩, ⟨_, Value.slice (vaddr ra25 rc26 (x3).toNat 1) (cut x27 x3 ((x27).length : Int)).length (rc26 - (x3).toNat), [(101, Value.slice ra25 (x27).length rc26), (102, Value.int .i64 (x3))], 103, rfl, rfl, ⟨.inr ⟨rfl, rfl⟩, ⟨.inr ⟨rfl, rfl⟩, trivial⟩⟩, .run rfl (fun w HS => X.slL Try.underlying27 inf5 rfl rfl c42), rfl, rfl, rfl⟩, trivial⟩ (T.step (es := [5, 6, 10]) _ [(96, Value.slice (vaddr ra25 rc26 ((0 : Int)).toNat 1) (cut x27 (0 : Int) x3).length (rc26 - ((0 : Int)).toNat))] rfl ⟨.inr ⟨rfl, rfl⟩, trivial⟩ (Or.inl rfl) (by intro d hd; cases hd; exact ⟨by decide, rfl, rfl⟩) [11] [0, 1, 2] rfl rfl rfl rfl rfl (fun w HS => ?_)) (T.step (es := [3, 6, 10]) _ [(98, Value.int .u8 (x4))] rfl ⟨.inr ⟨rfl, rfl⟩, trivial⟩ (Or.inl rfl) (by intro d hd; cases hd; exact ⟨by decide, rfl, rfl⟩) [11] [4] rfl rfl rfl rfl rfl (fun w HS => ?_))
                  · have HS : Sep.St [pipe_Pipe.at bt8_0 (t29.2), row 5 1 (.slice ra25 (x27).length rc26) (x27).length ((x27).map (Value.int .u8)), R] w0 w := HS
                    obtain ⟨c43, H⟩ := ite_n H
                    replace HS := row_nil' (e := 5) 1 none HS
                    have HS : Sep.St [row 5 1 (.slice none (([] : List Int)).length 0) (([] : List Int)).length ((([] : List Int)).map (Value.int .u8)), pipe_Pipe.at bt8_0 (t29.2), row 5 1 (.slice ra25 (x27).length rc26) (x27).length ((x27).map (Value.int .u8)), R] w0 w := HS
                    refine ⟨_, Y.appF (Value.int .u8) (fun _ => rfl) 0 Try.underlying27 ap5 rfl HS rfl rfl rfl (rdC.at 2 (rdC.subM row_rd c41) HS rfl) (by omega) (by omega), ?_⟩
                    rintro _ w ⟨ra44, rc45, rfl, HS⟩
                    have HS : Sep.St [row 5 1 (.slice ra44 (([] : List Int) ++ (cut x27 (0 : Int) x3)).length rc45) (([] : List Int) ++ (cut x27 (0 : Int) x3)).length ((([] : List Int) ++ (cut x27 (0 : Int) x3)).map (Value.int .u8)), pipe_Pipe.at bt8_0 (t29.2), row 5 1 (.slice ra25 (x27).length rc26) (x27).length ((x27).map (Value.int .u8)), R] w0 w := HS
                    refine ⟨[(97, Value.slice ra44 (([] : List Int) ++ (cut x27 (0 : Int) x3)).length rc45)], fun w => Sep.St [row 5 1 (.slice ra44 (([] : List Int) ++ (cut x27 (0 : Int) x3)).length rc45) (([] : List Int) ++ (cut x27 (0 : Int) x3)).length ((([] : List Int) ++ (cut x27 (0 : Int) x3)).map (Value.int .u8)), pipe_Pipe.at bt8_0 (t29.2), row 5 1 (.slice ra25 (x27).length rc26) (x27).length ((x27).map (Value.int .u8)), R] w0 w, ⟨.inl ⟨rfl, rfl⟩, trivial⟩, ?_, HS⟩
                    refine T.event _ [(98, Value.int .u8 (x4))] rfl rfl ⟨⟨_, Value.int .u8 (x4), [(4, Value.int .u8 (x4))], 98, rfl, rfl, ⟨.inl ⟨rfl, rfl⟩, trivial⟩, .run rfl (fun w HS => X.move rfl), rfl, rfl, rfl⟩, ⟨_, Value.slice ra25 (x27).length rc26, [(13, Value.slice ra25 (x27).length rc26)], 101, rfl, rfl, ⟨.inl ⟨rfl, rfl⟩, trivial⟩, .run rfl (fun w HS => X.move rfl), rfl, rfl, rfl⟩, ⟨_, Value.int .i64 (x3), [(3, Value.int .i64 (x3))], 102, rfl, rfl, ⟨.inl ⟨rfl, rfl⟩, trivial⟩, .run rfl (fun w HS => X.move rfl), rfl, rfl, rfl⟩, ⟨_, Value.slice (vaddr ra25 rc26 (x3).toNat 1) (cut x27 x3 ((x27).length : Int)).length (rc26 - (x3).toNat), [(101, Value.slice ra25 (x27).length rc26), (102, Value.int .i64 (x3))], 103, rfl, rfl, ⟨.inr ⟨rfl, rfl⟩, ⟨.inr ⟨rfl, rfl⟩, trivial⟩⟩, .run rfl (fun w HS => X.slL Try.underlying27 inf5 rfl rfl c42), rfl, rfl, rfl⟩, trivial⟩ rfl ⟨.inr ⟨rfl, rfl⟩, trivial⟩ (Or.inl rfl) (by intro d hd; cases hd; exact ⟨by decide, rfl, rfl⟩) [11] [4] rfl rfl (fun w HS => ?_)
                    have HS : Sep.St [row 5 1 (.slice ra44 (([] : List Int) ++ (cut x27 (0 : Int) x3)).length rc45) (([] : List Int) ++ (cut x27 (0 : Int) x3)).length ((([] : List Int) ++ (cut x27 (0 : Int) x3)).map (Value.int .u8)), pipe_Pipe.at bt8_0 (t29.2), row 5 1 (.slice ra25 (x27).length rc26) (x27).length ((x27).map (Value.int .u8)), R] w0 w := HS
                    refine ⟨_, Y.litB (e := 5) (sz := 1) (vs := #[(0, Value.int .u8 (x4))]) [Value.int .u8 (x4)] HS (fun a ha => by simp only [List.map_toArray, List.map_cons, List.map_nil]; rw [ha.ev (x := .tmp 98) (v := Value.int .u8 (x4)) rfl]; try rfl) rfl (by decide) (fun _ => by kernel_rfl), ?_⟩
                    rintro _ w ⟨lb48, rfl, HS⟩
                    have HS : Sep.St [row 5 1 (.slice (some ⟨lb48, 0, none⟩) (([x4] : List Int)).length 1) (([x4] : List Int)).length ((([x4] : List Int)).map (Value.int .u8)), row 5 1 (.slice ra44 (([] : List Int) ++ (cut x27 (0 : Int) x3)).length rc45) (([] : List Int) ++ (cut x27 (0 : Int) x3)).length ((([] : List Int) ++ (cut x27 (0 : Int) x3)).map (Value.int .u8)), pipe_Pipe.at bt8_0 (t29.2), row 5 1 (.slice ra25 (x27).length rc26) (x27).length ((x27).map (Value.int .u8)), R] w0 w := HS
                    refine ⟨[(99, Value.slice (some ⟨lb48, 0, none⟩) (([x4] : List Int)).length 1)], fun w => Sep.St [row 5 1 (.slice (some ⟨lb48, 0, none⟩) (([x4] : List Int)).length 1) (([x4] : List Int)).length ((([x4] : List Int)).map (Value.int .u8)), row 5 1 (.slice ra44 (([] : List Int) ++ (cut x27 (0 : Int) x3)).length rc45) (([] : List Int) ++ (cut x27 (0 : Int) x3)).length ((([] : List Int) ++ (cut x27 (0 : Int) x3)).map (Value.int .u8)), pipe_Pipe.at bt8_0 (t29.2), row 5 1 (.slice ra25 (x27).length rc26) (x27).length ((x27).map (Value.int .u8)), R] w0 w, ⟨.inl ⟨rfl, rfl⟩, trivial⟩, ?_, HS⟩
                    refine T.event _ [(97, Value.slice ra44 (([] : List Int) ++ (cut x27 (0 : Int) x3)).length rc45), (99, Value.slice (some ⟨lb48, 0, none⟩) (([x4] : List Int)).length 1)] rfl rfl ⟨⟨_, Value.slice ra25 (x27).length rc26, [(13, Value.slice ra25 (x27).length rc26)], 101, rfl, rfl, ⟨.inl ⟨rfl, rfl⟩, trivial⟩, .run rfl (fun w HS => X.move rfl), rfl, rfl, rfl⟩, ⟨_, Value.int .i64 (x3), [(3, Value.int .i64 (x3))], 102, rfl, rfl, ⟨.inl ⟨rfl, rfl⟩, trivial⟩, .run rfl (fun w HS => X.move rfl), rfl, rfl, rfl⟩, ⟨_, Value.slice (vaddr ra25 rc26 (x3).toNat 1) (cut x27 x3 ((x27).length : Int)).length (rc26 - (x3).toNat), [(101, Value.slice ra25 (x27).length rc26), (102, Value.int .i64 (x3))], 103, rfl, rfl, ⟨.inr ⟨rfl, rfl⟩, ⟨.inr ⟨rfl, rfl⟩, trivial⟩⟩, .run rfl (fun w HS => X.slL Try.underlying27 inf5 rfl rfl c42), rfl, rfl, rfl⟩, trivial⟩ rfl ⟨.inr ⟨rfl, rfl⟩, ⟨.inr ⟨rfl, rfl⟩, trivial⟩⟩ (Or.inl rfl) (by intro d hd; cases hd; exact ⟨by decide, rfl, rfl⟩) [11] [] rfl rfl (fun w HS => ?_)
                    have HS : Sep.St [row 5 1 (.slice (some ⟨lb48, 0, none⟩) (([x4] : List Int)).length 1) (([x4] : List Int)).length ((([x4] : List Int)).map (Value.int .u8)), row 5 1 (.slice ra44 (([] : List Int) ++ (cut x27 (0 : Int) x3)).length rc45) (([] : List Int) ++ (cut x27 (0 : Int) x3)).length ((([] : List Int) ++ (cut x27 (0 : Int) x3)).map (Value.int .u8)), pipe_Pipe.at bt8_0 (t29.2), row 5 1 (.slice ra25 (x27).length rc26) (x27).length ((x27).map (Value.int .u8)), R] w0 w := HS
                    obtain ⟨c49, H⟩ := ite_n H
                    refine ⟨_, Y.appF (Value.int .u8) (fun _ => rfl) 1 Try.underlying27 ap5 rfl HS rfl rfl rfl (rdC.at 0 row_rd HS rfl) (by omega) (by omega), ?_⟩
                    rintro _ w ⟨ra50, rc51, rfl, HS⟩
                    have HS : Sep.St [row 5 1 (.slice (some ⟨lb48, 0, none⟩) (([x4] : List Int)).length 1) (([x4] : List Int)).length ((([x4] : List Int)).map (Value.int .u8)), row 5 1 (.slice ra50 ((([] : List Int) ++ (cut x27 (0 : Int) x3)) ++ ([x4] : List Int)).length rc51) ((([] : List Int) ++ (cut x27 (0 : Int) x3)) ++ ([x4] : List Int)).length (((([] : List Int) ++ (cut x27 (0 : Int) x3)) ++ ([x4] : List Int)).map (Value.int .u8)), pipe_Pipe.at bt8_0 (t29.2), row 5 1 (.slice ra25 (x27).length rc26) (x27).length ((x27).map (Value.int .u8)), R] w0 w := HS
                    refine ⟨[(100, Value.slice ra50 ((([] : List Int) ++ (cut x27 (0 : Int) x3)) ++ ([x4] : List Int)).length rc51)], fun w => Sep.St [row 5 1 (.slice (some ⟨lb48, 0, none⟩) (([x4] : List Int)).length 1) (([x4] : List Int)).length ((([x4] : List Int)).map (Value.int .u8)), row 5 1 (.slice ra50 ((([] : List Int) ++ (cut x27 (0 : Int) x3)) ++ ([x4] : List Int)).length rc51) ((([] : List Int) ++ (cut x27 (0 : Int) x3)) ++ ([x4] : List Int)).length (((([] : List Int) ++ (cut x27 (0 : Int) x3)) ++ ([x4] : List Int)).map (Value.int .u8)), pipe_Pipe.at bt8_0 (t29.2), row 5 1 (.slice ra25 (x27).length rc26) (x27).length ((x27).map (Value.int .u8)), R] w0 w, ⟨.inl ⟨rfl, rfl⟩, trivial⟩, ?_, HS⟩
                    refine T.event _ [(100, Value.slice ra50 ((([] : List Int) ++ (cut x27 (0 : Int) x3)) ++ ([x4] : List Int)).length rc51), (103, Value.slice (vaddr ra25 rc26 (x3).toNat 1) (cut x27 x3 ((x27).length : Int)).length (rc26 - (x3).toNat))] rfl rfl ⟨⟨_, Value.slice ra25 (x27).length rc26, [(13, Value.slice ra25 (x27).length rc26)], 101, rfl, rfl, ⟨.inl ⟨rfl, rfl⟩, trivial⟩, .run rfl (fun w HS => X.move rfl), rfl, rfl, rfl⟩, ⟨_, Value.int .i64 (x3), [(3, Value.int .i64 (x3))], 102, rfl, rfl, ⟨.inl ⟨rfl, rfl⟩, trivial⟩, .run rfl (fun w HS => X.move rfl), rfl, rfl, rfl⟩, ⟨_, Value.slice (vaddr ra25 rc26 (x3).toNat 1) (cut x27 x3 ((x27).length : Int)).length (rc26 - (x3).toNat), [(101, Value.slice ra25 (x27).length rc26), (102, Value.int .i64 (x3))], 103, rfl, rfl, ⟨.inr ⟨rfl, rfl⟩, ⟨.inr ⟨rfl, rfl⟩, trivial⟩⟩, .run rfl (fun w HS => X.slL Try.underlying27 inf5 rfl rfl c42), rfl, rfl, rfl⟩, trivial⟩ rfl ⟨.inr ⟨rfl, rfl⟩, ⟨.inr ⟨rfl, rfl⟩, trivial⟩⟩ (Or.inl rfl) (by intro d hd; cases hd; exact ⟨by decide, rfl, rfl⟩) [] [7, 8, 9] rfl rfl (fun w HS => ?_)
                    have HS : Sep.St [row 5 1 (.slice (some ⟨lb48, 0, none⟩) (([x4] : List Int)).length 1) (([x4] : List Int)).length ((([x4] : List Int)).map (Value.int .u8)), row 5 1 (.slice ra50 ((([] : List Int) ++ (cut x27 (0 : Int) x3)) ++ ([x4] : List Int)).length rc51) ((([] : List Int) ++ (cut x27 (0 : Int) x3)) ++ ([x4] : List Int)).length (((([] : List Int) ++ (cut x27 (0 : Int) x3)) ++ ([x4] : List Int)).map (Value.int .u8)), pipe_Pipe.at bt8_0 (t29.2), row 5 1 (.slice ra25 (x27).length rc26) (x27).length ((x27).map (Value.int .u8)), R] w0 w := HS
                    obtain ⟨c52, H⟩ := ite_n H
                    refine ⟨_, Y.appF (Value.int .u8) (fun _ => rfl) 1 Try.underlying27 ap5 rfl HS rfl rfl rfl (rdC.at 3 (rdC.subM row_rd c42) HS rfl) (by omega) (by omega), ?_⟩
                    rintro _ w ⟨ra53, rc54, rfl, HS⟩
                    have HS : Sep.St [row 5 1 (.slice (some ⟨lb48, 0, none⟩) (([x4] : List Int)).length 1) (([x4] : List Int)).length ((([x4] : List Int)).map (Value.int .u8)), row 5 1 (.slice ra53 (((([] : List Int) ++ (cut x27 (0 : Int) x3)) ++ ([x4] : List Int)) ++ (cut x27 x3 ((x27).length : Int))).length rc54) (((([] : List Int) ++ (cut x27 (0 : Int) x3)) ++ ([x4] : List Int)) ++ (cut x27 x3 ((x27).length : Int))).length ((((([] : List Int) ++ (cut x27 (0 : Int) x3)) ++ ([x4] : List Int)) ++ (cut x27 x3 ((x27).length : Int))).map (Value.int .u8)), pipe_Pipe.at bt8_0 (t29.2), row 5 1 (.slice ra25 (x27).length rc26) (x27).length ((x27).map (Value.int .u8)), R] w0 w := HS
                    refine ⟨[(104, Value.slice ra53 (((([] : List Int) ++ (cut x27 (0 : Int) x3)) ++ ([x4] : List Int)) ++ (cut x27 x3 ((x27).length : Int))).length rc54), (13, Value.slice ra53 (((([] : List Int) ++ (cut x27 (0 : Int) x3)) ++ ([x4] : List Int)) ++ (cut x27 x3 ((x27).length : Int))).length rc54)], fun w => Sep.St [row 5 1 (.slice (some ⟨lb48, 0, none⟩) (([x4] : List Int)).length 1) (([x4] : List Int)).length ((([x4] : List Int)).map (Value.int .u8)), row 5 1 (.slice ra53 (((([] : List Int) ++ (cut x27 (0 : Int) x3)) ++ ([x4] : List Int)) ++ (cut x27 x3 ((x27).length : Int))).length rc54) (((([] : List Int) ++ (cut x27 (0 : Int) x3)) ++ ([x4] : List Int)) ++ (cut x27 x3 ((x27).length : Int))).length ((((([] : List Int) ++ (cut x27 (0 : Int) x3)) ++ ([x4] : List Int)) ++ (cut x27 x3 ((x27).length : Int))).map (Value.int .u8)), pipe_Pipe.at bt8_0 (t29.2), row 5 1 (.slice ra25 (x27).length rc26) (x27).length ((x27).map (Value.int .u8)), R] w0 w, ⟨.inl ⟨rfl, rfl⟩, ⟨.inr ⟨by decide, rfl⟩, trivial⟩⟩, ?_, HS⟩
                    refine T.fin [(12, Value.pointer (some ⟨bt8_0, 0, none⟩)), (13, Value.slice ra53 (((([] : List Int) ++ (cut x27 (0 : Int) x3)) ++ ([x4] : List Int)) ++ (cut x27 x3 ((x27).length : Int))).length rc54), (14, Value.bool (t20.1))] rfl ⟨⟨_, Value.slice ra53 (((([] : List Int) ++ (cut x27 (0 : Int) x3)) ++ ([x4] : List Int)) ++ (cut x27 x3 ((x27).length : Int))).length rc54, [(104, Value.slice ra53 (((([] : List Int) ++ (cut x27 (0 : Int) x3)) ++ ([x4] : List Int)) ++ (cut x27 x3 ((x27).length : Int))).length rc54)], 13, rfl, rfl, ⟨.inr ⟨rfl, rfl⟩, trivial⟩, .run rfl (fun w HS => X.assign rfl), rfl, rfl, rfl⟩, trivial⟩ ⟨.inl ⟨rfl, rfl⟩, ⟨.inr ⟨rfl, rfl⟩, ⟨.inl ⟨rfl, rfl⟩, trivial⟩⟩⟩ (fun w HS => ?_)
                    have HS : Sep.St [row 5 1 (.slice (some ⟨lb48, 0, none⟩) (([x4] : List Int)).length 1) (([x4] : List Int)).length ((([x4] : List Int)).map (Value.int .u8)), row 5 1 (.slice ra53 (((([] : List Int) ++ (cut x27 (0 : Int) x3)) ++ ([x4] : List Int)) ++ (cut x27 x3 ((x27).length : Int))).length rc54) (((([] : List Int) ++ (cut x27 (0 : Int) x3)) ++ ([x4] : List Int)) ++ (cut x27 x3 ((x27).length : Int))).length ((((([] : List Int) ++ (cut x27 (0 : Int) x3)) ++ ([x4] : List Int)) ++ (cut x27 x3 ((x27).length : Int))).map (Value.int .u8)), pipe_Pipe.at bt8_0 (t29.2), row 5 1 (.slice ra25 (x27).length rc26) (x27).length ((x27).map (Value.int .u8)), R] w0 w := HS
                    replace HS := HS.sel [1, 2, 4] [0, 3] (by kernel_rfl)
                    exact At.meet (ra53, rc54, ((([] : List Int) ++ (cut x27 (0 : Int) x3)) ++ ([x4] : List Int)) ++ (cut x27 x3 ((x27).length : Int))) ⟨rfl, rfl, rfl, trivial⟩ ⟨HS, H⟩
                  · have HS : Sep.St [pipe_Pipe.at bt8_0 (t29.2), row 5 1 (.slice ra25 (x27).length rc26) (x27).length ((x27).map (Value.int .u8)), R] w0 w := HS
                    refine ⟨_, Y.litB (e := 5) (sz := 1) (vs := #[(0, Value.int .u8 (x4))]) [Value.int .u8 (x4)] HS (fun a ha => by simp only [List.map_toArray, List.map_cons, List.map_nil]; rw [ha.ev (x := .tmp 98) (v := Value.int .u8 (x4)) rfl]; try rfl) rfl (by decide) (fun _ => by kernel_rfl), ?_⟩
                    rintro _ w ⟨lb57, rfl, HS⟩
                    have HS : Sep.St [row 5 1 (.slice (some ⟨lb57, 0, none⟩) (([x4] : List Int)).length 1) (([x4] : List Int)).length ((([x4] : List Int)).map (Value.int .u8)), pipe_Pipe.at bt8_0 (t29.2), row 5 1 (.slice ra25 (x27).length rc26) (x27).length ((x27).map (Value.int .u8)), R] w0 w := HS
                    refine ⟨[(99, Value.slice (some ⟨lb57, 0, none⟩) (([x4] : List Int)).length 1)], fun w => Sep.St [row 5 1 (.slice (some ⟨lb57, 0, none⟩) (([x4] : List Int)).length 1) (([x4] : List Int)).length ((([x4] : List Int)).map (Value.int .u8)), pipe_Pipe.at bt8_0 (t29.2), row 5 1 (.slice ra25 (x27).length rc26) (x27).length ((x27).map (Value.int .u8)), R] w0 w, ⟨.inl ⟨rfl, rfl⟩, trivial⟩, ?_, HS⟩
                    refine T.event _ [(96, Value.slice (vaddr ra25 rc26 ((0 : Int)).toNat 1) (cut x27 (0 : Int) x3).length (rc26 - ((0 : Int)).toNat))] rfl rfl ⟨⟨_, Value.slice ra25 (x27).length rc26, [(13, Value.slice ra25 (x27).length rc26)], 94, rfl, rfl, ⟨.inl ⟨rfl, rfl⟩, trivial⟩, .run rfl (fun w HS => X.move rfl), rfl, rfl, rfl⟩, ⟨_, Value.int .i64 (x3), [(3, Value.int .i64 (x3))], 95, rfl, rfl, ⟨.inl ⟨rfl, rfl⟩, trivial⟩, .run rfl (fun w HS => X.move rfl), rfl, rfl, rfl⟩, ⟨_, Value.slice (vaddr ra25 rc26 ((0 : Int)).toNat 1) (cut x27 (0 : Int) x3).length (rc26 - ((0 : Int)).toNat), [(94, Value.slice ra25 (x27).length rc26), (95, Value.int .i64 (x3))], 96, rfl, rfl, ⟨.inr ⟨rfl, rfl⟩, ⟨.inr ⟨rfl, rfl⟩, trivial⟩⟩, .run rfl (fun w HS => X.slH Try.underlying27 inf5 rfl rfl c41 ((rdC.at 2 row_rd HS rfl)).cap), rfl, rfl, rfl⟩, ⟨_, Value.slice ra25 (x27).length rc26, [(13, Value.slice ra25 (x27).length rc26)], 101, rfl, rfl, ⟨.inl ⟨rfl, rfl⟩, trivial⟩, .run rfl (fun w HS => X.move rfl), rfl, rfl, rfl⟩, ⟨_, Value.int .i64 (x3), [(3, Value.int .i64 (x3))], 102, rfl, rfl, ⟨.inl ⟨rfl, rfl⟩, trivial⟩, .run rfl (fun w HS => X.move rfl), rfl, rfl, rfl⟩, ⟨_, Value.slice (vaddr ra25 rc26 (x3).toNat 1) (cut x27 x3 ((x27).length : Int)).length (rc26 - (x3).toNat), [(101, Value.slice ra25 (x27).length rc26), (102, Value.int .i64 (x3))], 103, rfl, rfl, ⟨.inr ⟨rfl, rfl⟩, ⟨.inr ⟨rfl, rfl⟩, trivial⟩⟩, .run rfl (fun w HS => X.slL Try.underlying27 inf5 rfl rfl c42), rfl, rfl, rfl⟩, trivial⟩ rfl ⟨.inr ⟨rfl, rfl⟩, trivial⟩ (Or.inl rfl) (by intro d hd; cases hd; exact ⟨by decide, rfl, rfl⟩) [11] [0, 1, 2] rfl rfl (fun w HS => ?_)
                    have HS : Sep.St [row 5 1 (.slice (some ⟨lb57, 0, none⟩) (([x4] : List Int)).length 1) (([x4] : List Int)).length ((([x4] : List Int)).map (Value.int .u8)), pipe_Pipe.at bt8_0 (t29.2), row 5 1 (.slice ra25 (x27).length rc26) (x27).length ((x27).map (Value.int .u8)), R] w0 w := HS
                    obtain ⟨c58, H⟩ := ite_n H
                    replace HS := row_nil' (e := 5) 1 none HS
                    have HS : Sep.St [row 5 1 (.slice none (([] : List Int)).length 0) (([] : List Int)).length ((([] : List Int)).map (Value.int .u8)), row 5 1 (.slice (some ⟨lb57, 0, none⟩) (([x4] : List Int)).length 1) (([x4] : List Int)).length ((([x4] : List Int)).map (Value.int .u8)), pipe_Pipe.at bt8_0 (t29.2), row 5 1 (.slice ra25 (x27).length rc26) (x27).length ((x27).map (Value.int .u8)), R] w0 w := HS
                    refine ⟨_, Y.appF (Value.int .u8) (fun _ => rfl) 0 Try.underlying27 ap5 rfl HS rfl rfl rfl (rdC.at 3 (rdC.subM row_rd c41) HS rfl) (by omega) (by omega), ?_⟩
                    rintro _ w ⟨ra59, rc60, rfl, HS⟩
                    have HS : Sep.St [row 5 1 (.slice ra59 (([] : List Int) ++ (cut x27 (0 : Int) x3)).length rc60) (([] : List Int) ++ (cut x27 (0 : Int) x3)).length ((([] : List Int) ++ (cut x27 (0 : Int) x3)).map (Value.int .u8)), row 5 1 (.slice (some ⟨lb57, 0, none⟩) (([x4] : List Int)).length 1) (([x4] : List Int)).length ((([x4] : List Int)).map (Value.int .u8)), pipe_Pipe.at bt8_0 (t29.2), row 5 1 (.slice ra25 (x27).length rc26) (x27).length ((x27).map (Value.int .u8)), R] w0 w := HS
                    refine ⟨[(97, Value.slice ra59 (([] : List Int) ++ (cut x27 (0 : Int) x3)).length rc60)], fun w => Sep.St [row 5 1 (.slice ra59 (([] : List Int) ++ (cut x27 (0 : Int) x3)).length rc60) (([] : List Int) ++ (cut x27 (0 : Int) x3)).length ((([] : List Int) ++ (cut x27 (0 : Int) x3)).map (Value.int .u8)), row 5 1 (.slice (some ⟨lb57, 0, none⟩) (([x4] : List Int)).length 1) (([x4] : List Int)).length ((([x4] : List Int)).map (Value.int .u8)), pipe_Pipe.at bt8_0 (t29.2), row 5 1 (.slice ra25 (x27).length rc26) (x27).length ((x27).map (Value.int .u8)), R] w0 w, ⟨.inl ⟨rfl, rfl⟩, trivial⟩, ?_, HS⟩
                    refine T.event _ [(97, Value.slice ra59 (([] : List Int) ++ (cut x27 (0 : Int) x3)).length rc60), (99, Value.slice (some ⟨lb57, 0, none⟩) (([x4] : List Int)).length 1)] rfl rfl ⟨⟨_, Value.slice ra25 (x27).length rc26, [(13, Value.slice ra25 (x27).length rc26)], 101, rfl, rfl, ⟨.inl ⟨rfl, rfl⟩, trivial⟩, .run rfl (fun w HS => X.move rfl), rfl, rfl, rfl⟩, ⟨_, Value.int .i64 (x3), [(3, Value.int .i64 (x3))], 102, rfl, rfl, ⟨.inl ⟨rfl, rfl⟩, trivial⟩, .run rfl (fun w HS => X.move rfl), rfl, rfl, rfl⟩, ⟨_, Value.slice (vaddr ra25 rc26 (x3).toNat 1) (cut x27 x3 ((x27).length : Int)).length (rc26 - (x3).toNat), [(101, Value.slice ra25 (x27).length rc26), (102, Value.int .i64 (x3))], 103, rfl, rfl, ⟨.inr ⟨rfl, rfl⟩, ⟨.inr ⟨rfl, rfl⟩, trivial⟩⟩, .run rfl (fun w HS => X.slL Try.underlying27 inf5 rfl rfl c42), rfl, rfl, rfl⟩, trivial⟩ rfl ⟨.inr ⟨rfl, rfl⟩, ⟨.inr ⟨rfl, rfl⟩, trivial⟩⟩ (Or.inl rfl) (by intro d hd; cases hd; exact ⟨by decide, rfl, rfl⟩) [11] [] rfl rfl (fun w HS => ?_)
                    have HS : Sep.St [row 5 1 (.slice ra59 (([] : List Int) ++ (cut x27 (0 : Int) x3)).length rc60) (([] : List Int) ++ (cut x27 (0 : Int) x3)).length ((([] : List Int) ++ (cut x27 (0 : Int) x3)).map (Value.int .u8)), row 5 1 (.slice (some ⟨lb57, 0, none⟩) (([x4] : List Int)).length 1) (([x4] : List Int)).length ((([x4] : List Int)).map (Value.int .u8)), pipe_Pipe.at bt8_0 (t29.2), row 5 1 (.slice ra25 (x27).length rc26) (x27).length ((x27).map (Value.int .u8)), R] w0 w := HS
                    obtain ⟨c61, H⟩ := ite_n H
                    refine ⟨_, Y.appF (Value.int .u8) (fun _ => rfl) 0 Try.underlying27 ap5 rfl HS rfl rfl rfl (rdC.at 1 row_rd HS rfl) (by omega) (by omega), ?_⟩
                    rintro _ w ⟨ra62, rc63, rfl, HS⟩
                    have HS : Sep.St [row 5 1 (.slice ra62 ((([] : List Int) ++ (cut x27 (0 : Int) x3)) ++ ([x4] : List Int)).length rc63) ((([] : List Int) ++ (cut x27 (0 : Int) x3)) ++ ([x4] : List Int)).length (((([] : List Int) ++ (cut x27 (0 : Int) x3)) ++ ([x4] : List Int)).map (Value.int .u8)), row 5 1 (.slice (some ⟨lb57, 0, none⟩) (([x4] : List Int)).length 1) (([x4] : List Int)).length ((([x4] : List Int)).map (Value.int .u8)), pipe_Pipe.at bt8_0 (t29.2), row 5 1 (.slice ra25 (x27).length rc26) (x27).length ((x27).map (Value.int .u8)), R] w0 w := HS
                    refine ⟨[(100, Value.slice ra62 ((([] : List Int) ++ (cut x27 (0 : Int) x3)) ++ ([x4] : List Int)).length rc63)], fun w => Sep.St [row 5 1 (.slice ra62 ((([] : List Int) ++ (cut x27 (0 : Int) x3)) ++ ([x4] : List Int)).length rc63) ((([] : List Int) ++ (cut x27 (0 : Int) x3)) ++ ([x4] : List Int)).length (((([] : List Int) ++ (cut x27 (0 : Int) x3)) ++ ([x4] : List Int)).map (Value.int .u8)), row 5 1 (.slice (some ⟨lb57, 0, none⟩) (([x4] : List Int)).length 1) (([x4] : List Int)).length ((([x4] : List Int)).map (Value.int .u8)), pipe_Pipe.at bt8_0 (t29.2), row 5 1 (.slice ra25 (x27).length rc26) (x27).length ((x27).map (Value.int .u8)), R] w0 w, ⟨.inl ⟨rfl, rfl⟩, trivial⟩, ?_, HS⟩
                    refine T.event _ [(100, Value.slice ra62 ((([] : List Int) ++ (cut x27 (0 : Int) x3)) ++ ([x4] : List Int)).length rc63), (103, Value.slice (vaddr ra25 rc26 (x3).toNat 1) (cut x27 x3 ((x27).length : Int)).length (rc26 - (x3).toNat))] rfl rfl ⟨⟨_, Value.slice ra25 (x27).length rc26, [(13, Value.slice ra25 (x27).length rc26)], 101, rfl, rfl, ⟨.inl ⟨rfl, rfl⟩, trivial⟩, .run rfl (fun w HS => X.move rfl), rfl, rfl, rfl⟩, ⟨_, Value.int .i64 (x3), [(3, Value.int .i64 (x3))], 102, rfl, rfl, ⟨.inl ⟨rfl, rfl⟩, trivial⟩, .run rfl (fun w HS => X.move rfl), rfl, rfl, rfl⟩, ⟨_, Value.slice (vaddr ra25 rc26 (x3).toNat 1) (cut x27 x3 ((x27).length : Int)).length (rc26 - (x3).toNat), [(101, Value.slice ra25 (x27).length rc26), (102, Value.int .i64 (x3))], 103, rfl, rfl, ⟨.inr ⟨rfl, rfl⟩, ⟨.inr ⟨rfl, rfl⟩, trivial⟩⟩, .run rfl (fun w HS => X.slL Try.underlying27 inf5 rfl rfl c42), rfl, rfl, rfl⟩, trivial⟩ rfl ⟨.inr ⟨rfl, rfl⟩, ⟨.inr ⟨rfl, rfl⟩, trivial⟩⟩ (Or.inl rfl) (by intro d hd; cases hd; exact ⟨by decide, rfl, rfl⟩) [] [7, 8, 9] rfl rfl (fun w HS => ?_)
                    have HS : Sep.St [row 5 1 (.slice ra62 ((([] : List Int) ++ (cut x27 (0 : Int) x3)) ++ ([x4] : List Int)).length rc63) ((([] : List Int) ++ (cut x27 (0 : Int) x3)) ++ ([x4] : List Int)).length (((([] : List Int) ++ (cut x27 (0 : Int) x3)) ++ ([x4] : List Int)).map (Value.int .u8)), row 5 1 (.slice (some ⟨lb57, 0, none⟩) (([x4] : List Int)).length 1) (([x4] : List Int)).length ((([x4] : List Int)).map (Value.int .u8)), pipe_Pipe.at bt8_0 (t29.2), row 5 1 (.slice ra25 (x27).length rc26) (x27).length ((x27).map (Value.int .u8)), R] w0 w := HS
                    obtain ⟨c64, H⟩ := ite_n H
                    refine ⟨_, Y.appF (Value.int .u8) (fun _ => rfl) 0 Try.underlying27 ap5 rfl HS rfl rfl rfl (rdC.at 3 (rdC.subM row_rd c42) HS rfl) (by omega) (by omega), ?_⟩
                    rintro _ w ⟨ra65, rc66, rfl, HS⟩
                    have HS : Sep.St [row 5 1 (.slice ra65 (((([] : List Int) ++ (cut x27 (0 : Int) x3)) ++ ([x4] : List Int)) ++ (cut x27 x3 ((x27).length : Int))).length rc66) (((([] : List Int) ++ (cut x27 (0 : Int) x3)) ++ ([x4] : List Int)) ++ (cut x27 x3 ((x27).length : Int))).length ((((([] : List Int) ++ (cut x27 (0 : Int) x3)) ++ ([x4] : List Int)) ++ (cut x27 x3 ((x27).length : Int))).map (Value.int .u8)), row 5 1 (.slice (some ⟨lb57, 0, none⟩) (([x4] : List Int)).length 1) (([x4] : List Int)).length ((([x4] : List Int)).map (Value.int .u8)), pipe_Pipe.at bt8_0 (t29.2), row 5 1 (.slice ra25 (x27).length rc26) (x27).length ((x27).map (Value.int .u8)), R] w0 w := HS
                    refine ⟨[(104, Value.slice ra65 (((([] : List Int) ++ (cut x27 (0 : Int) x3)) ++ ([x4] : List Int)) ++ (cut x27 x3 ((x27).length : Int))).length rc66), (13, Value.slice ra65 (((([] : List Int) ++ (cut x27 (0 : Int) x3)) ++ ([x4] : List Int)) ++ (cut x27 x3 ((x27).length : Int))).length rc66)], fun w => Sep.St [row 5 1 (.slice ra65 (((([] : List Int) ++ (cut x27 (0 : Int) x3)) ++ ([x4] : List Int)) ++ (cut x27 x3 ((x27).length : Int))).length rc66) (((([] : List Int) ++ (cut x27 (0 : Int) x3)) ++ ([x4] : List Int)) ++ (cut x27 x3 ((x27).length : Int))).length ((((([] : List Int) ++ (cut x27 (0 : Int) x3)) ++ ([x4] : List Int)) ++ (cut x27 x3 ((x27).length : Int))).map (Value.int .u8)), row 5 1 (.slice (some ⟨lb57, 0, none⟩) (([x4] : List Int)).length 1) (([x4] : List Int)).length ((([x4] : List Int)).map (Value.int .u8)), pipe_Pipe.at bt8_0 (t29.2), row 5 1 (.slice ra25 (x27).length rc26) (x27).length ((x27).map (Value.int .u8)), R] w0 w, ⟨.inl ⟨rfl, rfl⟩, ⟨.inr ⟨by decide, rfl⟩, trivial⟩⟩, ?_, HS⟩
                    refine T.fin [(12, Value.pointer (some ⟨bt8_0, 0, none⟩)), (13, Value.slice ra65 (((([] : List Int) ++ (cut x27 (0 : Int) x3)) ++ ([x4] : List Int)) ++ (cut x27 x3 ((x27).length : Int))).length rc66), (14, Value.bool (t20.1))] rfl ⟨⟨_, Value.slice ra65 (((([] : List Int) ++ (cut x27 (0 : Int) x3)) ++ ([x4] : List Int)) ++ (cut x27 x3 ((x27).length : Int))).length rc66, [(104, Value.slice ra65 (((([] : List Int) ++ (cut x27 (0 : Int) x3)) ++ ([x4] : List Int)) ++ (cut x27 x3 ((x27).length : Int))).length rc66)], 13, rfl, rfl, ⟨.inr ⟨rfl, rfl⟩, trivial⟩, .run rfl (fun w HS => X.assign rfl), rfl, rfl, rfl⟩, trivial⟩ ⟨.inl ⟨rfl, rfl⟩, ⟨.inr ⟨rfl, rfl⟩, ⟨.inl ⟨rfl, rfl⟩, trivial⟩⟩⟩ (fun w HS => ?_)
                    have HS : Sep.St [row 5 1 (.slice ra65 (((([] : List Int) ++ (cut x27 (0 : Int) x3)) ++ ([x4] : List Int)) ++ (cut x27 x3 ((x27).length : Int))).length rc66) (((([] : List Int) ++ (cut x27 (0 : Int) x3)) ++ ([x4] : List Int)) ++ (cut x27 x3 ((x27).length : Int))).length ((((([] : List Int) ++ (cut x27 (0 : Int) x3)) ++ ([x4] : List Int)) ++ (cut x27 x3 ((x27).length : Int))).map (Value.int .u8)), row 5 1 (.slice (some ⟨lb57, 0, none⟩) (([x4] : List Int)).length 1) (([x4] : List Int)).length ((([x4] : List Int)).map (Value.int .u8)), pipe_Pipe.at bt8_0 (t29.2), row 5 1 (.slice ra25 (x27).length rc26) (x27).length ((x27).map (Value.int .u8)), R] w0 w := HS
                    replace HS := HS.sel [0, 2, 4] [1, 3] (by kernel_rfl)
                    exact At.meet (ra65, rc66, ((([] : List Int) ++ (cut x27 (0 : Int) x3)) ++ ([x4] : List Int)) ++ (cut x27 x3 ((x27).length : Int))) ⟨rfl, rfl, rfl, trivial⟩ ⟨HS, H⟩
                · replace H := ite_f c40 H
                  refine V.condF (sb (b_f c40)) ?_
                  refine V.skip ?_
                  replace HS := HS.sel [1, 0, 2] [] (by kernel_rfl)
                  exact At.meet (ra25, rc26, x27) ⟨rfl, rfl, rfl, trivial⟩ ⟨HS, H⟩
              · rintro ⟨ra33, rc34, x35⟩ w ⟨HS, H⟩
                unfold signalmanlaw8_PipeTurns.j3 at H
                have HS : Sep.St [row 5 1 (.slice ra33 (x35).length rc34) (x35).length ((x35).map (Value.int .u8)), pipe_Pipe.at bt8_0 (t29.2), R] w0 w := HS
                refine V.seq ?_
                by_cases c37 : t20.1 = true
                · replace H := ite_t c37 H
                  refine V.draw (es := [3]) (bl := [4, 7, 8, 9]) (f := [(105, Value.bool (t20.1)), (106, Value.bool (t20.1)), (107, Value.pointer (some ⟨bt8_0, 0, none⟩)), (110, Value.slice ra33 (x35).length rc34), (111, Value.string (strOf (x35)))]) (fun w => Sep.St [row 5 1 (.slice ra33 (x35).length rc34) (x35).length ((x35).map (Value.int .u8)), pipe_Pipe.at bt8_0 (t29.2), R] w0 w) mo HS.drew rfl ?_
                  refine T.event _ [(107, Value.pointer (some ⟨bt8_0, 0, none⟩)), (106, Value.bool (t20.1))] rfl rfl ⟨⟨_, Value.bool (t20.1), [(14, Value.bool (t20.1))], 105, rfl, rfl, ⟨.inl ⟨rfl, rfl⟩, trivial⟩, .run rfl (fun w HS => X.move rfl), rfl, rfl, rfl⟩, ⟨_, Value.bool (t20.1), [(105, Value.bool (t20.1))], 106, rfl, rfl, ⟨.inr ⟨rfl, rfl⟩, trivial⟩, .run rfl (fun w HS => X.move rfl), rfl, rfl, rfl⟩, ⟨_, Value.pointer (some ⟨bt8_0, 0, none⟩), [(12, Value.pointer (some ⟨bt8_0, 0, none⟩)), (106, Value.bool (t20.1))], 107, rfl, rfl, ⟨.inl ⟨rfl, rfl⟩, ⟨.inr ⟨rfl, rfl⟩, trivial⟩⟩, .want 1 true 106 rfl rfl (sb c37) (fun w HS => X.move rfl), rfl, rfl, rfl⟩, ⟨_, Value.slice ra33 (x35).length rc34, [(13, Value.slice ra33 (x35).length rc34), (106, Value.bool (t20.1))], 110, rfl, rfl, ⟨.inl ⟨rfl, rfl⟩, ⟨.inr ⟨rfl, rfl⟩, trivial⟩⟩, .want 1 true 106 rfl rfl (sb c37) (fun w HS => X.move rfl), rfl, rfl, rfl⟩, ⟨_, Value.string (strOf (x35)), [(110, Value.slice ra33 (x35).length rc34), (106, Value.bool (t20.1))], 111, rfl, rfl, ⟨.inr ⟨rfl, rfl⟩, ⟨.inr ⟨rfl, rfl⟩, trivial⟩⟩, .want 1 true 106 rfl rfl (sb c37) (fun w HS => X.bytesStr Try.underlying27 Try.underlying5 Try.underlying9 rfl (rdC.at 0 row_rd HS rfl)), rfl, rfl, rfl⟩, trivial⟩ rfl ⟨.inr ⟨rfl, rfl⟩, ⟨.inr ⟨rfl, rfl⟩, trivial⟩⟩ (Or.inr ⟨1, true, 106, rfl, rfl, (sb c37)⟩) (by intro d hd; cases hd; exact ⟨by decide, rfl, rfl⟩) [] [0, 1, 2] rfl rfl (fun w HS => ?_)
                  have HS : Sep.St [row 5 1 (.slice ra33 (x35).length rc34) (x35).length ((x35).map (Value.int .u8)), pipe_Pipe.at bt8_0 (t29.2), R] w0 w := HS
                  obtain ⟨t38, A39, H⟩ := bind_s H
                  replace HS := HS.re [1, 0, 2] (by kernel_rfl)
                  have HS : Sep.St [pipe_Pipe.at bt8_0 (t29.2), row 5 1 (.slice ra33 (x35).length rc34) (x35).length ((x35).map (Value.int .u8)), R] w0 w := HS
                  refine ⟨_, Y.call Try.func11 (by kernel_rfl) rfl (vs := [Value.pointer (some ⟨bt8_0, 0, none⟩), Value.int .i64 (1000)]) rfl (pipe_Pipe_Take.calls t29.2 1000 _ w0 _ bt8_0 t38  A39 (Sep.St.tailJoin (m := [pipe_Pipe.at bt8_0 (t29.2)]) (r := [row 5 1 (.slice ra33 (x35).length rc34) (x35).length ((x35).map (Value.int .u8)), R]) HS)), ?_⟩
                  rintro _ w ⟨at38_0, ct38_0, rfl, HS⟩
                  replace HS := Sep.St.tailOpen (m := [row 5 1 (.slice at38_0 (t38.1).length ct38_0) (t38.1).length ((t38.1).map (Value.int .u8)), pipe_Pipe.at bt8_0 (t38.2)]) (r := [row 5 1 (.slice ra33 (x35).length rc34) (x35).length ((x35).map (Value.int .u8)), R]) HS
                  have HS : Sep.St [row 5 1 (.slice at38_0 (t38.1).length ct38_0) (t38.1).length ((t38.1).map (Value.int .u8)), pipe_Pipe.at bt8_0 (t38.2), row 5 1 (.slice ra33 (x35).length rc34) (x35).length ((x35).map (Value.int .u8)), R] w0 w := HS
                  refine ⟨[(108, Value.slice at38_0 (t38.1).length ct38_0), (109, Value.string (strOf (t38.1))), (112, Value.bool (sEq (t38.1) (x35))), (113, Value.bool (sEq (t38.1) (x35))), (10, Value.bool (sEq (t38.1) (x35)))], fun w => Sep.St [row 5 1 (.slice at38_0 (t38.1).length ct38_0) (t38.1).length ((t38.1).map (Value.int .u8)), pipe_Pipe.at bt8_0 (t38.2), row 5 1 (.slice ra33 (x35).length rc34) (x35).length ((x35).map (Value.int .u8)), R] w0 w, ⟨.inl ⟨rfl, rfl⟩, ⟨.inr ⟨by decide, rfl⟩, ⟨.inr ⟨by decide, rfl⟩, ⟨.inr ⟨by decide, rfl⟩, ⟨.inr ⟨by decide, rfl⟩, trivial⟩⟩⟩⟩⟩, ?_, HS⟩
                  refine T.fin [(10, Value.bool (sEq (t38.1) (x35)))] rfl ⟨⟨_, Value.string (strOf (t38.1)), [(108, Value.slice at38_0 (t38.1).length ct38_0), (106, Value.bool (t20.1))], 109, rfl, rfl, ⟨.inr ⟨rfl, rfl⟩, ⟨.inr ⟨rfl, rfl⟩, trivial⟩⟩, .want 1 true 106 rfl rfl (sb c37) (fun w HS => X.bytesStr Try.underlying27 Try.underlying5 Try.underlying9 rfl (rdC.at 0 row_rd HS rfl)), rfl, rfl, rfl⟩, ⟨_, Value.slice ra33 (x35).length rc34, [(13, Value.slice ra33 (x35).length rc34), (106, Value.bool (t20.1))], 110, rfl, rfl, ⟨.inl ⟨rfl, rfl⟩, ⟨.inr ⟨rfl, rfl⟩, trivial⟩⟩, .want 1 true 106 rfl rfl (sb c37) (fun w HS => X.move rfl), rfl, rfl, rfl⟩, ⟨_, Value.string (strOf (x35)), [(110, Value.slice ra33 (x35).length rc34), (106, Value.bool (t20.1))], 111, rfl, rfl, ⟨.inr ⟨rfl, rfl⟩, ⟨.inr ⟨rfl, rfl⟩, trivial⟩⟩, .want 1 true 106 rfl rfl (sb c37) (fun w HS => X.bytesStr Try.underlying27 Try.underlying5 Try.underlying9 rfl (rdC.at 2 row_rd HS rfl)), rfl, rfl, rfl⟩, ⟨_, Value.bool (sEq (t38.1) (x35)), [(109, Value.string (strOf (t38.1))), (111, Value.string (strOf (x35))), (106, Value.bool (t20.1))], 112, rfl, rfl, ⟨.inr ⟨rfl, rfl⟩, ⟨.inr ⟨rfl, rfl⟩, ⟨.inr ⟨rfl, rfl⟩, trivial⟩⟩⟩, .want 1 true 106 rfl rfl (sb c37) (fun w HS => X.eqStr (a := t38.1) (b := x35) rfl rfl), rfl, rfl, rfl⟩, ⟨_, Value.bool (sEq (t38.1) (x35)), [(106, Value.bool (t20.1)), (112, Value.bool (sEq (t38.1) (x35)))], 113, rfl, rfl, ⟨.inr ⟨rfl, rfl⟩, ⟨.inr ⟨rfl, rfl⟩, trivial⟩⟩, .run rfl (fun w HS => X.pickT (sb c37) rfl), rfl, rfl, rfl⟩, ⟨_, Value.bool (sEq (t38.1) (x35)), [(113, Value.bool (sEq (t38.1) (x35)))], 10, rfl, rfl, ⟨.inr ⟨rfl, rfl⟩, trivial⟩, .run rfl (fun w HS => X.assign rfl), rfl, rfl, rfl⟩, trivial⟩ ⟨.inr ⟨rfl, rfl⟩, trivial⟩ (fun w HS => ?_)
                  have HS : Sep.St [row 5 1 (.slice at38_0 (t38.1).length ct38_0) (t38.1).length ((t38.1).map (Value.int .u8)), pipe_Pipe.at bt8_0 (t38.2), row 5 1 (.slice ra33 (x35).length rc34) (x35).length ((x35).map (Value.int .u8)), R] w0 w := HS
                  refine At.next ?_
                  refine V.keep [(10, Value.bool (sEq (t38.1) (x35)))] ⟨rfl, trivial⟩ ?_
                  refine V.ret ?_
                  replace HS := HS.sel [3] [0, 1, 2] (by kernel_rfl)
                  cases H
                  exact At.ret1 rfl rfl ⟨_, rfl, rfl, HS⟩
                · replace H := ite_f c37 H
                  refine V.draw (es := [3]) (bl := [4, 7, 8, 9]) (f := [(105, Value.bool (t20.1)), (106, Value.bool (t20.1)), (107, undef), (110, undef), (111, undef)]) (fun w => Sep.St [row 5 1 (.slice ra33 (x35).length rc34) (x35).length ((x35).map (Value.int .u8)), pipe_Pipe.at bt8_0 (t29.2), R] w0 w) mo HS.drew rfl ?_
                  refine T.drop (es' := []) (bl' := []) [(108, undef), (109, undef), (112, undef), (113, Value.bool (false)), (10, Value.bool (false))] rfl ⟨.inr ⟨by decide, rfl⟩, ⟨.inr ⟨by decide, rfl⟩, ⟨.inr ⟨by decide, rfl⟩, ⟨.inr ⟨by decide, rfl⟩, ⟨.inr ⟨by decide, rfl⟩, trivial⟩⟩⟩⟩⟩ ?_
                  refine T.fin [(10, Value.bool (false))] rfl ⟨⟨_, Value.bool (t20.1), [(14, Value.bool (t20.1))], 105, rfl, rfl, ⟨.inl ⟨rfl, rfl⟩, trivial⟩, .run rfl (fun w HS => X.move rfl), rfl, rfl, rfl⟩, ⟨_, Value.bool (t20.1), [(105, Value.bool (t20.1))], 106, rfl, rfl, ⟨.inr ⟨rfl, rfl⟩, trivial⟩, .run rfl (fun w HS => X.move rfl), rfl, rfl, rfl⟩, ⟨_, undef, [(106, Value.bool (t20.1))], 107, rfl, rfl, ⟨.inr ⟨rfl, rfl⟩, trivial⟩, .pass 1 true false 106 rfl rfl (sb (b_f c37)) rfl rfl, rfl, rfl, rfl⟩, ⟨_, undef, [(106, Value.bool (t20.1))], 108, rfl, rfl, ⟨.inr ⟨rfl, rfl⟩, trivial⟩, .pass 1 true false 106 rfl rfl (sb (b_f c37)) rfl rfl, rfl, rfl, rfl⟩, ⟨_, undef, [(106, Value.bool (t20.1))], 109, rfl, rfl, ⟨.inr ⟨rfl, rfl⟩, trivial⟩, .pass 1 true false 106 rfl rfl (sb (b_f c37)) rfl rfl, rfl, rfl, rfl⟩, ⟨_, undef, [(106, Value.bool (t20.1))], 110, rfl, rfl, ⟨.inr ⟨rfl, rfl⟩, trivial⟩, .pass 1 true false 106 rfl rfl (sb (b_f c37)) rfl rfl, rfl, rfl, rfl⟩, ⟨_, undef, [(106, Value.bool (t20.1))], 111, rfl, rfl, ⟨.inr ⟨rfl, rfl⟩, trivial⟩, .pass 1 true false 106 rfl rfl (sb (b_f c37)) rfl rfl, rfl, rfl, rfl⟩, ⟨_, undef, [(106, Value.bool (t20.1))], 112, rfl, rfl, ⟨.inr ⟨rfl, rfl⟩, trivial⟩, .pass 1 true false 106 rfl rfl (sb (b_f c37)) rfl rfl, rfl, rfl, rfl⟩, ⟨_, Value.bool (false), [(106, Value.bool (t20.1)), (112, undef)], 113, rfl, rfl, ⟨.inr ⟨rfl, rfl⟩, ⟨.inr ⟨rfl, rfl⟩, trivial⟩⟩, .run rfl (fun w HS => X.pickF (sb (b_f c37)) rfl), rfl, rfl, rfl⟩, ⟨_, Value.bool (false), [(113, Value.bool (false))], 10, rfl, rfl, ⟨.inr ⟨rfl, rfl⟩, trivial⟩, .run rfl (fun w HS => X.assign rfl), rfl, rfl, rfl⟩, trivial⟩ ⟨.inr ⟨rfl, rfl⟩, trivial⟩ (fun w HS => ?_)
                  have HS : Sep.St [row 5 1 (.slice ra33 (x35).length rc34) (x35).length ((x35).map (Value.int .u8)), pipe_Pipe.at bt8_0 (t29.2), R] w0 w := HS
                  refine At.next ?_
                  refine V.keep [(10, Value.bool (false))] ⟨rfl, trivial⟩ ?_
                  refine V.ret ?_
                  replace HS := HS.sel [2] [0, 1] (by kernel_rfl)
                  cases H
                  exact At.ret1 rfl rfl ⟨_, rfl, rfl, HS⟩

def signalmanlaw8_PipeTurns.Pure : Prop := ∀ (a0 : List Int) (a1 : Int) (a2 : Int) (a3 : Int) (a4 : Int), (∀ z ∈ a0, (Lit.int .u8 z).wf = true) → (a0.length : Int) ≤ 9223372036854775807 → (Lit.int .i64 a1).wf = true → (Lit.int .i64 a2).wf = true → (Lit.int .i64 a3).wf = true → (Lit.int .u8 a4).wf = true → signalmanlaw8_PipeTurns.f a0 a1 a2 a3 a4 = some true
end Go.Proofs.Ytcflnobablhdiaa

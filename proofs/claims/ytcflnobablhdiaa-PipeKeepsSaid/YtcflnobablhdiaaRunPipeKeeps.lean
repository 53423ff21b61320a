/- PipeKeeps: the functions that its law reaches, as plain functions, and that the machine's calls come to what these say. Conditions: those that stand at each. -/
import Derived.Test.YtcflnobablhdiaaProg
import Derived.Test.YtcflnobablhdiaaMore
set_option linter.all false
namespace Go.Proofs.Ytcflnobablhdiaa
open Go.RowKit Go.Proofs.Ytcflnobablhdiaa.Sep Go.Proofs.Ytcflnobablhdiaa.Walk
theorem inf3 : (Try.prog.info? 3).map (·.size) = some 1 := by kernel_rfl
theorem inf5 : (Try.prog.info? 5).map (·.size) = some 1 := by kernel_rfl
theorem inf27 : (Try.prog.info? 27).map (·.size) = some 1 := by kernel_rfl
theorem fo42_0 : fieldOff Try.prog 42 0 = some 0 := by kernel_rfl
theorem fo42_1 : fieldOff Try.prog 42 1 = some 1 := by kernel_rfl
theorem fo42_2 : fieldOff Try.prog 42 2 = some 2 := by kernel_rfl
theorem fo42_3 : fieldOff Try.prog 42 3 = some 3 := by kernel_rfl
theorem ap5 : (Try.prog.info? 5).map (fun i => (i.zero, i.size, i.bytes)) = some (some (.int .u8 0), 1, 1) := by kernel_rfl
theorem mo : Try.prog.follows .mixedOrders = true := by kernel_rfl

structure pipe_Pipe where
  room : Int
  b : List Int
  cut : Bool
  stall : Bool
deriving DecidableEq, Inhabited

def pipe_Pipe.at (b : Nat) (x : pipe_Pipe) : As := fun h => (True) ∧ ∃ a1 : Option Addr, ∃ c1 : Nat, Sp [blk b (#[Value.int .i64 ((x.room)), Value.slice a1 ((x.b)).length c1, Value.bool ((x.cut)), Value.bool ((x.stall))]) 42, row 5 1 (.slice a1 ((x.b)).length c1) ((x.b)).length (((x.b)).map (Value.int .u8))] h
theorem pipe_Pipe.open {b : Nat} {x : pipe_Pipe} {L : List As} {w0 w : World} (hs : Sep.St (pipe_Pipe.at b x :: L) w0 w) : ∃ a1 : Option Addr, ∃ c1 : Nat, (True) ∧ Sep.St (blk b (#[Value.int .i64 ((x.room)), Value.slice a1 ((x.b)).length c1, Value.bool ((x.cut)), Value.bool ((x.stall))]) 42 :: row 5 1 (.slice a1 ((x.b)).length c1) ((x.b)).length (((x.b)).map (Value.int .u8)) :: L) w0 w := by
  have h1 := St.pure.1 (show St ((fun h => (True) ∧ (fun h => ∃ a1 : Option Addr, ∃ c1 : Nat, Sp [blk b (#[Value.int .i64 ((x.room)), Value.slice a1 ((x.b)).length c1, Value.bool ((x.cut)), Value.bool ((x.stall))]) 42, row 5 1 (.slice a1 ((x.b)).length c1) ((x.b)).length (((x.b)).map (Value.int .u8))] h) h) :: L) w0 w from hs)
  obtain ⟨hi, hs⟩ := h1
  obtain ⟨a1, hs⟩ := St.ex.1 (show St ((fun h => ∃ a1 : Option Addr, (fun h => ∃ c1 : Nat, Sp [blk b (#[Value.int .i64 ((x.room)), Value.slice a1 ((x.b)).length c1, Value.bool ((x.cut)), Value.bool ((x.stall))]) 42, row 5 1 (.slice a1 ((x.b)).length c1) ((x.b)).length (((x.b)).map (Value.int .u8))] h) h) :: L) w0 w from hs)
  obtain ⟨c1, hs⟩ := St.ex.1 (show St ((fun h => ∃ c1 : Nat, (fun h => Sp [blk b (#[Value.int .i64 ((x.room)), Value.slice a1 ((x.b)).length c1, Value.bool ((x.cut)), Value.bool ((x.stall))]) 42, row 5 1 (.slice a1 ((x.b)).length c1) ((x.b)).length (((x.b)).map (Value.int .u8))] h) h) :: L) w0 w from hs)
  exact ⟨a1, c1, hi, St.open (m := [blk b (#[Value.int .i64 ((x.room)), Value.slice a1 ((x.b)).length c1, Value.bool ((x.cut)), Value.bool ((x.stall))]) 42, row 5 1 (.slice a1 ((x.b)).length c1) ((x.b)).length (((x.b)).map (Value.int .u8))]) hs⟩
theorem pipe_Pipe.close {b : Nat} (x : pipe_Pipe) {a1 : Option Addr} {c1 : Nat} {L : List As} {w0 w : World} (hi : True) (hs : Sep.St (blk b (#[Value.int .i64 ((x.room)), Value.slice a1 ((x.b)).length c1, Value.bool ((x.cut)), Value.bool ((x.stall))]) 42 :: row 5 1 (.slice a1 ((x.b)).length c1) ((x.b)).length (((x.b)).map (Value.int .u8)) :: L) w0 w) : Sep.St (pipe_Pipe.at b x :: L) w0 w := by
  have h2 := St.join (m := [blk b (#[Value.int .i64 ((x.room)), Value.slice a1 ((x.b)).length c1, Value.bool ((x.cut)), Value.bool ((x.stall))]) 42, row 5 1 (.slice a1 ((x.b)).length c1) ((x.b)).length (((x.b)).map (Value.int .u8))]) hs
  exact h2.mono fun h hh => ⟨hi, _, _, hh⟩

/-! ### signalman/pipe.New: function 8 -/
def pipe_New.f (a0 : Int) : Option (pipe_Pipe) := some (({ room := imax (0) (imin (a0) (1048576)), b := ([] : List Int), cut := false, stall := false } : pipe_Pipe))
set_option maxRecDepth 100000 in
set_option maxHeartbeats 4000000 in
theorem pipe_New.calls (a0 : Int) (R : As) (w0 w : World)  (r : pipe_Pipe)  (H : pipe_New.f a0 = some r) (HS : Sep.St [R] w0 w) : Calls Try.prog 8 #[Value.int .i64 (a0)] w (Ret fun u w => ∃ (bq0 : Nat), u = Value.pointer (some ⟨bq0, 0, none⟩) ∧ Sep.St [pipe_Pipe.at bq0 (r), R] w0 w) := by
  unfold pipe_New.f at H
  refine calls_enter Try.func8 rfl rfl ?_
  have H : _ = some r := H
  refine V.seq ?_
  refine V.region ?_
  refine W.rd (X.assign rfl) rfl rfl rfl ?_
  refine W.nil ?_
  refine At.next ?_
  refine V.keep [(0, Value.int .i64 (a0))] ⟨rfl, trivial⟩ ?_
  refine V.seq ?_
  refine V.region ?_
  refine W.rd (X.move rfl) rfl rfl rfl ?_
  refine W.rd (X.min2 rfl rfl) rfl rfl rfl ?_
  refine W.rd (X.max2 rfl rfl) rfl rfl rfl ?_
  refine W.rd (X.build (vs := #[(0, Value.int .i64 (imax (0) (imin (a0) (1048576))))]) (v := Value.agg #[Value.int .i64 (imax (0) (imin (a0) (1048576))), Value.slice none 0 0, Value.bool (false), Value.bool (false)]) (fun a ha => by simp only [List.map_toArray, List.map_cons, List.map_nil]; rw [ha.ev (x := .tmp 5) (v := Value.int .i64 (imax (0) (imin (a0) (1048576)))) rfl]; try rfl) (fun _ => by kernel_rfl)) rfl rfl rfl ?_
  refine W.ev (Y.box HS rfl) rfl rfl rfl ?_
  rintro _ w ⟨nb1, rfl, HS⟩
  have HS : Sep.St [blk nb1 (#[Value.int .i64 (imax (0) (imin (a0) (1048576))), Value.slice none 0 0, Value.bool (false), Value.bool (false)]) 42, R] w0 w := HS
  refine W.rd (X.assign rfl) rfl rfl rfl ?_
  refine W.nil ?_
  refine At.next ?_
  refine V.keep [(2, Value.pointer (some ⟨nb1, 0, none⟩))] ⟨rfl, trivial⟩ ?_
  refine V.ret ?_
  replace HS := row_nil' (e := 5) 1 none HS
  have HS : Sep.St [row 5 1 (.slice none (([] : List Int)).length 0) (([] : List Int)).length ((([] : List Int)).map (Value.int .u8)), blk nb1 (#[Value.int .i64 (imax (0) (imin (a0) (1048576))), Value.slice none 0 0, Value.bool (false), Value.bool (false)]) 42, R] w0 w := HS
  replace HS := HS.re [1, 0, 2] (by kernel_rfl)
  have HS : Sep.St [blk nb1 (#[Value.int .i64 (imax (0) (imin (a0) (1048576))), Value.slice none (([] : List Int)).length 0, Value.bool (false), Value.bool (false)]) 42, row 5 1 (.slice none (([] : List Int)).length 0) (([] : List Int)).length ((([] : List Int)).map (Value.int .u8)), R] w0 w := HS
  replace HS := pipe_Pipe.close (({ room := imax (0) (imin (a0) (1048576)), b := ([] : List Int), cut := false, stall := false } : pipe_Pipe)) trivial HS
  have HS : Sep.St [pipe_Pipe.at nb1 (({ room := imax (0) (imin (a0) (1048576)), b := ([] : List Int), cut := false, stall := false } : pipe_Pipe)), R] w0 w := HS
  cases H
  exact At.ret1 rfl rfl ⟨_, rfl, nb1, rfl, HS⟩

/-! ### slices.Clone[[]byte,byte]: function 22 -/
def slices_Clone_Sbytebyte.f (a0 : List Int) : Option (List Int) := (if ((([] : List Int)).length : Int) + (a0).length ≤ 1099511627776 then some (([] : List Int) ++ a0) else none)
set_option maxRecDepth 100000 in
set_option maxHeartbeats 4000000 in
theorem slices_Clone_Sbytebyte.calls (a0 : List Int) (R : As) (w0 w : World) (sa0 : Option Addr) (sc0 : Nat) (r : List Int) (hr0 : rdC R 1 (.slice sa0 (a0).length sc0) (a0).length ((a0).map (Value.int .u8))) (H : slices_Clone_Sbytebyte.f a0 = some r) (HS : Sep.St [R] w0 w) : Calls Try.prog 22 #[Value.slice sa0 (a0).length sc0] w (Ret fun u w => ∃ (aq0 : Option Addr) (cq0 : Nat), u = Value.slice aq0 (r).length cq0 ∧ Sep.St [row 5 1 (.slice aq0 (r).length cq0) (r).length ((r).map (Value.int .u8)), R] w0 w) := by
  unfold slices_Clone_Sbytebyte.f at H
  refine calls_enter Try.func22 rfl rfl ?_
  have H : _ = some r := H
  refine V.seq ?_
  refine V.region ?_
  refine W.rd (X.assign rfl) rfl rfl rfl ?_
  refine W.nil ?_
  refine At.next ?_
  refine V.keep [(0, Value.slice sa0 (a0).length sc0)] ⟨rfl, trivial⟩ ?_
  refine V.seq ?_
  refine V.seq ?_
  refine V.region ?_
  refine W.rd (X.move rfl) rfl rfl rfl ?_
  refine W.rd (X.eqSl Try.underlying27 rfl rfl) rfl rfl rfl ?_
  refine W.nil ?_
  refine At.next ?_
  refine V.keep [(0, Value.slice sa0 (a0).length sc0), (4, Value.bool ((sa0).isNone))] ⟨rfl, rfl, trivial⟩ ?_
  by_cases cg1 : (sa0).isNone = false
  · refine V.condF (sb cg1) ?_
    refine V.skip ?_
    refine At.next ?_
    refine V.keep [(0, Value.slice sa0 (a0).length sc0)] ⟨rfl, trivial⟩ ?_
    refine V.seq ?_
    refine V.region ?_
    refine W.ev (Y.lit (e := 5) (sz := 1) (vs := #[]) [] HS (fun a ha => by simp only [List.map_toArray, List.map_cons, List.map_nil]; try rfl) rfl (by decide) (fun _ => by kernel_rfl)) rfl rfl rfl ?_
    rintro _ w ⟨ra4, rc5, rfl, HS⟩
    have HS : Sep.St [row 5 1 (.slice ra4 (([] : List Int)).length rc5) (([] : List Int)).length ((([] : List Int)).map (Value.int .u8)), R] w0 w := HS
    refine W.rd (X.move rfl) rfl rfl rfl ?_
    obtain ⟨c7, H⟩ := ite_n H
    refine W.ev (Y.appF (Value.int .u8) (fun _ => rfl) 0 Try.underlying27 ap5 rfl HS rfl rfl rfl (rdC.at 1 hr0 HS rfl) (by omega) (by omega)) rfl rfl rfl ?_
    rintro _ w ⟨ra8, rc9, rfl, HS⟩
    have HS : Sep.St [row 5 1 (.slice ra8 (([] : List Int) ++ a0).length rc9) (([] : List Int) ++ a0).length ((([] : List Int) ++ a0).map (Value.int .u8)), R] w0 w := HS
    refine W.rd (X.assign rfl) rfl rfl rfl ?_
    refine W.nil ?_
    refine At.next ?_
    refine V.keep [(2, Value.slice ra8 (([] : List Int) ++ a0).length rc9)] ⟨rfl, trivial⟩ ?_
    refine V.ret ?_
    cases H
    exact At.ret1 rfl rfl ⟨_, rfl, ra8, rc9, rfl, HS⟩
  · have hN2 : (sa0).isNone = true := by simpa using cg1
    have hz3 : a0 = [] := List.eq_nil_of_length_eq_zero ((rdC.at 0 hr0 HS rfl).nil (Option.isNone_iff_eq_none.1 hN2)).1
    have H : some (([] : List Int)) = some r := by simpa [hz3] using H
    refine V.condT (sb hN2) ?_
    refine V.seq ?_
    refine V.region ?_
    refine W.rd (X.assign rfl) rfl rfl rfl ?_
    refine W.nil ?_
    refine At.next ?_
    refine V.keep [(2, Value.slice none 0 0)] ⟨rfl, trivial⟩ ?_
    refine V.ret ?_
    refine At.thenRet ?_
    replace HS := row_nil' (e := 5) 1 none HS
    have HS : Sep.St [row 5 1 (.slice none (([] : List Int)).length 0) (([] : List Int)).length ((([] : List Int)).map (Value.int .u8)), R] w0 w := HS
    cases H
    exact At.ret1 rfl rfl ⟨_, rfl, none, 0, rfl, HS⟩

/-! ### slices.Delete[[]byte,byte]: function 23 -/
def slices_Delete_Sbytebyte.f (a0 : List Int) (a1 : Int) (a2 : Int) : Option (List Int) := (if 0 ≤ a1 ∧ a1 ≤ a2 ∧ a2 ≤ ((a0).length : Int) then (if a1 = a2 then some (a0) else (if 0 ≤ (0 : Int) ∧ (0 : Int) ≤ a1 ∧ a1 ≤ ((a0).length : Int) then (if 0 ≤ a2 ∧ a2 ≤ ((a0).length : Int) ∧ ((a0).length : Int) ≤ ((a0).length : Int) then some ((cut a0 (0 : Int) a1) ++ (cut a0 a2 ((a0).length : Int))) else none) else none)) else none)
set_option maxRecDepth 100000 in
set_option maxHeartbeats 4000000 in
theorem slices_Delete_Sbytebyte.calls (a0 : List Int) (a1 : Int) (a2 : Int) (R : As) (w0 w : World) (sa0 : Option Addr) (sc0 : Nat) (r : List Int)  (H : slices_Delete_Sbytebyte.f a0 a1 a2 = some r) (HS : Sep.St [row 5 1 (.slice sa0 (a0).length sc0) (a0).length ((a0).map (Value.int .u8)), R] w0 w) : Calls Try.prog 23 #[Value.slice sa0 (a0).length sc0, Value.int .i64 (a1), Value.int .i64 (a2)] w (Ret fun u w => ∃ (aq0 : Option Addr) (cq0 : Nat), u = Value.slice aq0 (r).length cq0 ∧ Sep.St [row 5 1 (.slice aq0 (r).length cq0) (r).length ((r).map (Value.int .u8)), R] w0 w) := by
  unfold slices_Delete_Sbytebyte.f at H
  refine calls_enter Try.func23 rfl rfl ?_
  have H : _ = some r := H
  refine V.seq ?_
  refine V.region ?_
  refine W.rd (X.assign rfl) rfl rfl rfl ?_
  refine W.nil ?_
  refine At.next ?_
  refine V.keep [(0, Value.slice sa0 (a0).length sc0), (1, Value.int .i64 (a1)), (2, Value.int .i64 (a2))] ⟨rfl, rfl, rfl, trivial⟩ ?_
  refine V.seq ?_
  refine V.region ?_
  refine W.rd (X.move rfl) rfl rfl rfl ?_
  refine W.rd (X.move rfl) rfl rfl rfl ?_
  refine W.rd (X.move rfl) rfl rfl rfl ?_
  refine W.rd (X.move rfl) rfl rfl rfl ?_
  refine W.rd (X.lenSl Try.underlying27 rfl) rfl rfl rfl ?_
  obtain ⟨c1, H⟩ := ite_n H
  refine W.rd (X.sl3 Try.underlying27 inf5 rfl rfl rfl rfl c1 (Int.ofNat_le.2 ((rdC.at 0 row_rd HS rfl)).cap)) rfl rfl rfl ?_
  refine W.nil ?_
  refine At.next ?_
  refine V.keep [(0, Value.slice sa0 (a0).length sc0), (1, Value.int .i64 (a1)), (2, Value.int .i64 (a2))] ⟨rfl, rfl, rfl, trivial⟩ ?_
  refine V.seq ?_
  refine V.seq ?_
  refine V.region ?_
  refine W.rd (X.move rfl) rfl rfl rfl ?_
  refine W.rd (X.move rfl) rfl rfl rfl ?_
  refine W.rd (X.cmp (decide (a1 = a2)) rfl rfl rfl rfl) rfl rfl rfl ?_
  refine W.nil ?_
  refine At.next ?_
  refine V.keep [(0, Value.slice sa0 (a0).length sc0), (1, Value.int .i64 (a1)), (2, Value.int .i64 (a2)), (16, Value.bool (decide (a1 = a2)))] ⟨rfl, rfl, rfl, rfl, trivial⟩ ?_
  by_cases c3 : a1 = a2
  · replace H := ite_t c3 H
    refine V.condT (sb (decide_eq_true c3)) ?_
    refine V.seq ?_
    refine V.region ?_
    refine W.rd (X.move rfl) rfl rfl rfl ?_
    refine W.rd (X.assign rfl) rfl rfl rfl ?_
    refine W.nil ?_
    refine At.next ?_
    refine V.keep [(6, Value.slice sa0 (a0).length sc0)] ⟨rfl, trivial⟩ ?_
    refine V.ret ?_
    refine At.thenRet ?_
    cases H
    exact At.ret1 rfl rfl ⟨_, rfl, sa0, sc0, rfl, HS⟩
  · replace H := ite_f c3 H
    refine V.condF (sb (decide_eq_false c3)) ?_
    refine V.skip ?_
    refine At.next ?_
    refine V.keep [(0, Value.slice sa0 (a0).length sc0), (1, Value.int .i64 (a1)), (2, Value.int .i64 (a2))] ⟨rfl, rfl, rfl, trivial⟩ ?_
    refine V.seq ?_
    refine V.region ?_
    refine W.rd (X.move rfl) rfl rfl rfl ?_
    refine W.rd (X.lenSl Try.underlying27 rfl) rfl rfl rfl ?_
    refine W.rd (X.assign rfl) rfl rfl rfl ?_
    refine W.nil ?_
    refine At.next ?_
    refine V.keep [(0, Value.slice sa0 (a0).length sc0), (1, Value.int .i64 (a1)), (2, Value.int .i64 (a2)), (7, Value.int .i64 (((a0).length : Int)))] ⟨rfl, rfl, rfl, rfl, trivial⟩ ?_
    refine V.seq ?_
    obtain ⟨c4, H⟩ := ite_n H
    obtain ⟨c5, H⟩ := ite_n H
    refine V.draw (es := [6]) (bl := [7]) (f := [(20, Value.slice sa0 (a0).length sc0), (21, Value.int .i64 (a1)), (22, Value.slice (vaddr sa0 sc0 ((0 : Int)).toNat 1) (cut a0 (0 : Int) a1).length (sc0 - ((0 : Int)).toNat)), (23, Value.slice sa0 (a0).length sc0), (24, Value.int .i64 (a2)), (25, Value.slice (vaddr sa0 sc0 (a2).toNat 1) (cut a0 a2 ((a0).length : Int)).length (sc0 - (a2).toNat))]) (fun w => Sep.St [row 5 1 (.slice sa0 (a0).length sc0) (a0).length ((a0).map (Value.int .u8)), R] w0 w) mo HS.drew rfl ?_
    refine T.event _ [(22, Value.slice (vaddr sa0 sc0 ((0 : Int)).toNat 1) (cut a0 (0 : Int) a1).length (sc0 - ((0 : Int)).toNat)), (25, Value.slice (vaddr sa0 sc0 (a2).toNat 1) (cut a0 a2 ((a0).length : Int)).length (sc0 - (a2).toNat))] rfl rfl ⟨⟨_, Value.slice sa0 (a0).length sc0, [(0, Value.slice sa0 (a0).length sc0)], 20, rfl, rfl, ⟨.inl ⟨rfl, rfl⟩, trivial⟩, .run rfl (fun w HS => X.move rfl), rfl, rfl, rfl⟩, ⟨_, Value.int .i64 (a1), [(1, Value.int .i64 (a1))], 21, rfl, rfl, ⟨.inl ⟨rfl, rfl⟩, trivial⟩, .run rfl (fun w HS => X.move rfl), rfl, rfl, rfl⟩, ⟨_, Value.slice (vaddr sa0 sc0 ((0 : Int)).toNat 1) (cut a0 (0 : Int) a1).length (sc0 - ((0 : Int)).toNat), [(20, Value.slice sa0 (a0).length sc0), (21, Value.int .i64 (a1))], 22, rfl, rfl, ⟨.inr ⟨rfl, rfl⟩, ⟨.inr ⟨rfl, rfl⟩, trivial⟩⟩, .run rfl (fun w HS => X.slH Try.underlying27 inf5 rfl rfl c4 ((rdC.at 0 row_rd HS rfl)).cap), rfl, rfl, rfl⟩, ⟨_, Value.slice sa0 (a0).length sc0, [(0, Value.slice sa0 (a0).length sc0)], 23, rfl, rfl, ⟨.inl ⟨rfl, rfl⟩, trivial⟩, .run rfl (fun w HS => X.move rfl), rfl, rfl, rfl⟩, ⟨_, Value.int .i64 (a2), [(2, Value.int .i64 (a2))], 24, rfl, rfl, ⟨.inl ⟨rfl, rfl⟩, trivial⟩, .run rfl (fun w HS => X.move rfl), rfl, rfl, rfl⟩, ⟨_, Value.slice (vaddr sa0 sc0 (a2).toNat 1) (cut a0 a2 ((a0).length : Int)).length (sc0 - (a2).toNat), [(23, Value.slice sa0 (a0).length sc0), (24, Value.int .i64 (a2))], 25, rfl, rfl, ⟨.inr ⟨rfl, rfl⟩, ⟨.inr ⟨rfl, rfl⟩, trivial⟩⟩, .run rfl (fun w HS => X.slL Try.underlying27 inf5 rfl rfl c5), rfl, rfl, rfl⟩, trivial⟩ rfl ⟨.inr ⟨rfl, rfl⟩, ⟨.inr ⟨rfl, rfl⟩, trivial⟩⟩ (Or.inl rfl) (by intro d hd; cases hd; exact ⟨by decide, rfl, rfl⟩) [] [0, 1, 2, 3, 4, 5] rfl rfl (fun w HS => ?_)
    have HS : Sep.St [row 5 1 (.slice sa0 (a0).length sc0) (a0).length ((a0).map (Value.int .u8)), R] w0 w := HS
    have hlt6 : a1 < a2 := by omega
    have hd7 : 0 ≤ a1 ∧ a1 < a2 ∧ a2 ≤ ((a0).length : Int) := by omega
    have hc8 : ((a0).length : Int) ≤ (sc0 : Int) := Int.ofNat_le.2 ((rdC.at 0 row_rd HS rfl)).cap
    have hl9 : (((cut a0 (0 : Int) a1) ++ (cut a0 a2 ((a0).length : Int))).length : Int) ≤ ((a0).length : Int) := by rw [List.length_append, cut_len ⟨by omega, by omega, by omega⟩, cut_len ⟨by omega, by omega, by omega⟩]; omega
    refine ⟨_, Y.appDelF (Value.int .u8) (fun _ => rfl) 0 Try.underlying27 ap5 HS rfl hd7 rfl rfl, ?_⟩
    rintro _ w ⟨rfl, HS⟩
    have HS : Sep.St [row 5 1 (.slice sa0 ((cut a0 (0 : Int) a1) ++ (cut a0 a2 ((a0).length : Int))).length sc0) ((cut a0 (0 : Int) a1) ++ (cut a0 a2 ((a0).length : Int))).length (((cut a0 (0 : Int) a1) ++ (cut a0 a2 ((a0).length : Int))).map (Value.int .u8)), R] w0 w := HS
    refine ⟨[(26, Value.slice sa0 ((cut a0 (0 : Int) a1) ++ (cut a0 a2 ((a0).length : Int))).length sc0), (0, Value.slice sa0 ((cut a0 (0 : Int) a1) ++ (cut a0 a2 ((a0).length : Int))).length sc0)], fun w => Sep.St [row 5 1 (.slice sa0 ((cut a0 (0 : Int) a1) ++ (cut a0 a2 ((a0).length : Int))).length sc0) ((cut a0 (0 : Int) a1) ++ (cut a0 a2 ((a0).length : Int))).length (((cut a0 (0 : Int) a1) ++ (cut a0 a2 ((a0).length : Int))).map (Value.int .u8)), R] w0 w, ⟨.inl ⟨rfl, rfl⟩, ⟨.inr ⟨by decide, rfl⟩, trivial⟩⟩, ?_, HS⟩
    refine T.fin [(0, Value.slice sa0 ((cut a0 (0 : Int) a1) ++ (cut a0 a2 ((a0).length : Int))).length sc0), (7, Value.int .i64 (((a0).length : Int)))] rfl ⟨⟨_, Value.slice sa0 ((cut a0 (0 : Int) a1) ++ (cut a0 a2 ((a0).length : Int))).length sc0, [(26, Value.slice sa0 ((cut a0 (0 : Int) a1) ++ (cut a0 a2 ((a0).length : Int))).length sc0)], 0, rfl, rfl, ⟨.inr ⟨rfl, rfl⟩, trivial⟩, .run rfl (fun w HS => X.assign rfl), rfl, rfl, rfl⟩, trivial⟩ ⟨.inr ⟨rfl, rfl⟩, ⟨.inl ⟨rfl, rfl⟩, trivial⟩⟩ (fun w HS => ?_)
    have HS : Sep.St [row 5 1 (.slice sa0 ((cut a0 (0 : Int) a1) ++ (cut a0 a2 ((a0).length : Int))).length sc0) ((cut a0 (0 : Int) a1) ++ (cut a0 a2 ((a0).length : Int))).length (((cut a0 (0 : Int) a1) ++ (cut a0 a2 ((a0).length : Int))).map (Value.int .u8)), R] w0 w := HS
    refine At.next ?_
    refine V.keep [(0, Value.slice sa0 ((cut a0 (0 : Int) a1) ++ (cut a0 a2 ((a0).length : Int))).length sc0), (7, Value.int .i64 (((a0).length : Int)))] ⟨rfl, rfl, trivial⟩ ?_
    refine V.seq ?_
    refine V.region ?_
    refine W.rd (X.move rfl) rfl rfl rfl ?_
    refine W.rd (X.move rfl) rfl rfl rfl ?_
    refine W.rd (X.lenSl Try.underlying27 rfl) rfl rfl rfl ?_
    refine W.rd (X.move rfl) rfl rfl rfl ?_
    refine W.rd (X.slC Try.underlying27 inf5 rfl rfl rfl ⟨by omega, hl9⟩ hc8) rfl rfl rfl ?_
    refine W.ev_none (Y.clearTail (n0 := (a0).length) 0 Try.underlying27 ap5 rfl rfl HS rfl (Int.ofNat_le.1 hl9) (Int.ofNat_le.1 hc8) rfl) rfl rfl ?_
    rintro _ w HS
    have HS : Sep.St [row 5 1 (.slice sa0 ((cut a0 (0 : Int) a1) ++ (cut a0 a2 ((a0).length : Int))).length sc0) ((cut a0 (0 : Int) a1) ++ (cut a0 a2 ((a0).length : Int))).length (((cut a0 (0 : Int) a1) ++ (cut a0 a2 ((a0).length : Int))).map (Value.int .u8)), R] w0 w := HS
    refine W.nil ?_
    refine At.next ?_
    refine V.keep [(0, Value.slice sa0 ((cut a0 (0 : Int) a1) ++ (cut a0 a2 ((a0).length : Int))).length sc0)] ⟨rfl, trivial⟩ ?_
    refine V.seq ?_
    refine V.region ?_
    refine W.rd (X.move rfl) rfl rfl rfl ?_
    refine W.rd (X.assign rfl) rfl rfl rfl ?_
    refine W.nil ?_
    refine At.next ?_
    refine V.keep [(6, Value.slice sa0 ((cut a0 (0 : Int) a1) ++ (cut a0 a2 ((a0).length : Int))).length sc0)] ⟨rfl, trivial⟩ ?_
    refine V.ret ?_
    cases H
    exact At.ret1 rfl rfl ⟨_, rfl, sa0, sc0, rfl, HS⟩

/-! ### (*signalman/pipe.Pipe).gone: function 19 -/
def pipe_Pipe_gone.f (a0 : pipe_Pipe) (a1 : Int) : Option (List Int × pipe_Pipe) := (if 0 ≤ (0 : Int) ∧ (0 : Int) ≤ imax (0) (imin (a1) ((((a0).b).length : Int))) ∧ imax (0) (imin (a1) ((((a0).b).length : Int))) ≤ (((a0).b).length : Int) then ((slices_Clone_Sbytebyte.f (cut ((a0).b) (0 : Int) (imax (0) (imin (a1) ((((a0).b).length : Int)))))).bind fun t4 => ((slices_Delete_Sbytebyte.f ((a0).b) 0 (imax (0) (imin (a1) ((((a0).b).length : Int))))).bind fun t6 => some (t4, ({ room := (a0).room, b := t6, cut := (a0).cut, stall := (a0).stall } : pipe_Pipe)))) else none)
set_option maxRecDepth 100000 in
set_option maxHeartbeats 4000000 in
theorem pipe_Pipe_gone.calls (a0 : pipe_Pipe) (a1 : Int) (R : As) (w0 w : World) (b0 : Nat) (r : List Int × pipe_Pipe)  (H : pipe_Pipe_gone.f a0 a1 = some r) (HS : Sep.St [pipe_Pipe.at b0 (a0), R] w0 w) : Calls Try.prog 19 #[Value.pointer (some ⟨b0, 0, none⟩), Value.int .i64 (a1)] w (Ret fun u w => ∃ (aq0 : Option Addr) (cq0 : Nat), u = Value.slice aq0 (r.1).length cq0 ∧ Sep.St [row 5 1 (.slice aq0 (r.1).length cq0) (r.1).length ((r.1).map (Value.int .u8)), pipe_Pipe.at b0 (r.2), R] w0 w) := by
  unfold pipe_Pipe_gone.f at H
  refine calls_enter Try.func19 rfl rfl ?_
  have H : _ = some r := H
  refine V.seq ?_
  refine V.region ?_
  refine W.rd (X.assign rfl) rfl rfl rfl ?_
  refine W.nil ?_
  refine At.next ?_
  refine V.keep [(0, Value.pointer (some ⟨b0, 0, none⟩)), (1, Value.int .i64 (a1))] ⟨rfl, rfl, trivial⟩ ?_
  refine V.seq ?_
  refine V.region ?_
  refine W.rd (X.move rfl) rfl rfl rfl ?_
  refine W.rd (X.move rfl) rfl rfl rfl ?_
  refine W.rd (X.nilCheck rfl) rfl rfl rfl ?_
  obtain ⟨a1_1, c1_1, hi2, HS⟩ := pipe_Pipe.open HS
  have HS : Sep.St [blk b0 (#[Value.int .i64 ((a0).room), Value.slice a1_1 ((a0).b).length c1_1, Value.bool ((a0).cut), Value.bool ((a0).stall)]) 42, row 5 1 (.slice a1_1 ((a0).b).length c1_1) ((a0).b).length (((a0).b).map (Value.int .u8)), R] w0 w := HS
  refine W.rd (X.fieldAddr 1 fo42_1 rfl) rfl rfl rfl ?_
  refine W.rd (X.loadAt 0 HS rfl Try.underlying27 rfl rfl rfl) rfl rfl rfl ?_
  refine W.rd (X.lenSl Try.underlying27 rfl) rfl rfl rfl ?_
  refine W.rd (X.min2 rfl rfl) rfl rfl rfl ?_
  refine W.rd (X.max2 rfl rfl) rfl rfl rfl ?_
  refine W.rd (X.assign rfl) rfl rfl rfl ?_
  refine W.nil ?_
  refine At.next ?_
  refine V.keep [(0, Value.pointer (some ⟨b0, 0, none⟩)), (1, Value.int .i64 (imax (0) (imin (a1) ((((a0).b).length : Int)))))] ⟨rfl, rfl, trivial⟩ ?_
  refine V.seq ?_
  refine V.region ?_
  refine W.rd (X.move rfl) rfl rfl rfl ?_
  refine W.rd (X.nilCheck rfl) rfl rfl rfl ?_
  refine W.rd (X.fieldAddr 1 fo42_1 rfl) rfl rfl rfl ?_
  refine W.rd (X.loadAt 0 HS rfl Try.underlying27 rfl rfl rfl) rfl rfl rfl ?_
  refine W.rd (X.move rfl) rfl rfl rfl ?_
  obtain ⟨c3, H⟩ := ite_n H
  refine W.rd (X.slH Try.underlying27 inf5 rfl rfl c3 ((rdC.at 1 row_rd HS rfl)).cap) rfl rfl rfl ?_
  obtain ⟨t4, A5, H⟩ := bind_s H
  refine W.ev (Y.call Try.func22 (by kernel_rfl) rfl (vs := [Value.slice (vaddr a1_1 c1_1 ((0 : Int)).toNat 1) (cut ((a0).b) (0 : Int) (imax (0) (imin (a1) ((((a0).b).length : Int))))).length (c1_1 - ((0 : Int)).toNat)]) rfl (slices_Clone_Sbytebyte.calls (cut ((a0).b) (0 : Int) (imax (0) (imin (a1) ((((a0).b).length : Int))))) _ w0 _ (vaddr a1_1 c1_1 ((0 : Int)).toNat 1) (c1_1 - ((0 : Int)).toNat) t4 (rdC.part 1 (rdC.subM row_rd c3) rfl) A5 (Sep.St.tailJoin (m := []) (r := [blk b0 (#[Value.int .i64 ((a0).room), Value.slice a1_1 ((a0).b).length c1_1, Value.bool ((a0).cut), Value.bool ((a0).stall)]) 42, row 5 1 (.slice a1_1 ((a0).b).length c1_1) ((a0).b).length (((a0).b).map (Value.int .u8)), R]) HS))) rfl rfl rfl ?_
  rintro _ w ⟨at4_0, ct4_0, rfl, HS⟩
  replace HS := Sep.St.tailOpen (m := [row 5 1 (.slice at4_0 (t4).length ct4_0) (t4).length ((t4).map (Value.int .u8))]) (r := [blk b0 (#[Value.int .i64 ((a0).room), Value.slice a1_1 ((a0).b).length c1_1, Value.bool ((a0).cut), Value.bool ((a0).stall)]) 42, row 5 1 (.slice a1_1 ((a0).b).length c1_1) ((a0).b).length (((a0).b).map (Value.int .u8)), R]) HS
  have HS : Sep.St [row 5 1 (.slice at4_0 (t4).length ct4_0) (t4).length ((t4).map (Value.int .u8)), blk b0 (#[Value.int .i64 ((a0).room), Value.slice a1_1 ((a0).b).length c1_1, Value.bool ((a0).cut), Value.bool ((a0).stall)]) 42, row 5 1 (.slice a1_1 ((a0).b).length c1_1) ((a0).b).length (((a0).b).map (Value.int .u8)), R] w0 w := HS
  refine W.rd (X.assign rfl) rfl rfl rfl ?_
  refine W.nil ?_
  refine At.next ?_
  refine V.keep [(0, Value.pointer (some ⟨b0, 0, none⟩)), (1, Value.int .i64 (imax (0) (imin (a1) ((((a0).b).length : Int))))), (5, Value.slice at4_0 (t4).length ct4_0)] ⟨rfl, rfl, rfl, trivial⟩ ?_
  refine V.seq ?_
  refine V.region ?_
  refine W.rd (X.move rfl) rfl rfl rfl ?_
  refine W.rd (X.move rfl) rfl rfl rfl ?_
  refine W.rd (X.nilCheck rfl) rfl rfl rfl ?_
  refine W.rd (X.fieldAddr 1 fo42_1 rfl) rfl rfl rfl ?_
  refine W.rd (X.loadAt 1 HS rfl Try.underlying27 rfl rfl rfl) rfl rfl rfl ?_
  refine W.rd (X.move rfl) rfl rfl rfl ?_
  obtain ⟨t6, A7, H⟩ := bind_s H
  replace HS := HS.re [2, 0, 1, 3] (by kernel_rfl)
  have HS : Sep.St [row 5 1 (.slice a1_1 ((a0).b).length c1_1) ((a0).b).length (((a0).b).map (Value.int .u8)), row 5 1 (.slice at4_0 (t4).length ct4_0) (t4).length ((t4).map (Value.int .u8)), blk b0 (#[Value.int .i64 ((a0).room), Value.slice a1_1 ((a0).b).length c1_1, Value.bool ((a0).cut), Value.bool ((a0).stall)]) 42, R] w0 w := HS
  refine W.ev (Y.call Try.func23 (by kernel_rfl) rfl (vs := [Value.slice a1_1 ((a0).b).length c1_1, Value.int .i64 (0), Value.int .i64 (imax (0) (imin (a1) ((((a0).b).length : Int))))]) rfl (slices_Delete_Sbytebyte.calls ((a0).b) 0 (imax (0) (imin (a1) ((((a0).b).length : Int)))) _ w0 _ a1_1 c1_1 t6  A7 (Sep.St.tailJoin (m := [row 5 1 (.slice a1_1 ((a0).b).length c1_1) ((a0).b).length (((a0).b).map (Value.int .u8))]) (r := [row 5 1 (.slice at4_0 (t4).length ct4_0) (t4).length ((t4).map (Value.int .u8)), blk b0 (#[Value.int .i64 ((a0).room), Value.slice a1_1 ((a0).b).length c1_1, Value.bool ((a0).cut), Value.bool ((a0).stall)]) 42, R]) HS))) rfl rfl rfl ?_
  rintro _ w ⟨at6_0, ct6_0, rfl, HS⟩
  replace HS := Sep.St.tailOpen (m := [row 5 1 (.slice at6_0 (t6).length ct6_0) (t6).length ((t6).map (Value.int .u8))]) (r := [row 5 1 (.slice at4_0 (t4).length ct4_0) (t4).length ((t4).map (Value.int .u8)), blk b0 (#[Value.int .i64 ((a0).room), Value.slice a1_1 ((a0).b).length c1_1, Value.bool ((a0).cut), Value.bool ((a0).stall)]) 42, R]) HS
  have HS : Sep.St [row 5 1 (.slice at6_0 (t6).length ct6_0) (t6).length ((t6).map (Value.int .u8)), row 5 1 (.slice at4_0 (t4).length ct4_0) (t4).length ((t4).map (Value.int .u8)), blk b0 (#[Value.int .i64 ((a0).room), Value.slice a1_1 ((a0).b).length c1_1, Value.bool ((a0).cut), Value.bool ((a0).stall)]) 42, R] w0 w := HS
  refine W.rd (X.nilCheck rfl) rfl rfl rfl ?_
  refine W.rd (X.fieldAddr 1 fo42_1 rfl) rfl rfl rfl ?_
  refine W.ev_none (Y.storeAt 2 HS rfl inf27 rfl rfl rfl rfl rfl rfl) rfl rfl ?_
  rintro _ w HS
  have HS : Sep.St [row 5 1 (.slice at6_0 (t6).length ct6_0) (t6).length ((t6).map (Value.int .u8)), row 5 1 (.slice at4_0 (t4).length ct4_0) (t4).length ((t4).map (Value.int .u8)), blk b0 (#[Value.int .i64 ((a0).room), Value.slice at6_0 (t6).length ct6_0, Value.bool ((a0).cut), Value.bool ((a0).stall)]) 42, R] w0 w := HS
  refine W.nil ?_
  refine At.next ?_
  refine V.keep [(5, Value.slice at4_0 (t4).length ct4_0)] ⟨rfl, trivial⟩ ?_
  refine V.seq ?_
  refine V.region ?_
  refine W.rd (X.move rfl) rfl rfl rfl ?_
  refine W.rd (X.assign rfl) rfl rfl rfl ?_
  refine W.nil ?_
  refine At.next ?_
  refine V.keep [(4, Value.slice at4_0 (t4).length ct4_0)] ⟨rfl, trivial⟩ ?_
  refine V.ret ?_
  replace HS := HS.re [2, 0, 1, 3] (by kernel_rfl)
  have HS : Sep.St [blk b0 (#[Value.int .i64 ((a0).room), Value.slice at6_0 (t6).length ct6_0, Value.bool ((a0).cut), Value.bool ((a0).stall)]) 42, row 5 1 (.slice at6_0 (t6).length ct6_0) (t6).length ((t6).map (Value.int .u8)), row 5 1 (.slice at4_0 (t4).length ct4_0) (t4).length ((t4).map (Value.int .u8)), R] w0 w := HS
  replace HS := pipe_Pipe.close (({ room := (a0).room, b := t6, cut := (a0).cut, stall := (a0).stall } : pipe_Pipe)) trivial HS
  have HS : Sep.St [pipe_Pipe.at b0 (({ room := (a0).room, b := t6, cut := (a0).cut, stall := (a0).stall } : pipe_Pipe)), row 5 1 (.slice at4_0 (t4).length ct4_0) (t4).length ((t4).map (Value.int .u8)), R] w0 w := HS
  replace HS := HS.sel [1, 0, 2] [] (by kernel_rfl)
  cases H
  exact At.ret1 rfl rfl ⟨_, rfl, at4_0, ct4_0, rfl, HS⟩

/-! ### (*signalman/pipe.Pipe).Take: function 11 -/
def pipe_Pipe_Take.f (a0 : pipe_Pipe) (a1 : Int) : Option (List Int × pipe_Pipe) := (if (a0).stall = true then some (([] : List Int), a0) else ((pipe_Pipe_gone.f a0 a1).bind fun t5 => some (t5.1, t5.2)))
set_option maxRecDepth 100000 in
set_option maxHeartbeats 4000000 in
theorem pipe_Pipe_Take.calls (a0 : pipe_Pipe) (a1 : Int) (R : As) (w0 w : World) (b0 : Nat) (r : List Int × pipe_Pipe)  (H : pipe_Pipe_Take.f a0 a1 = some r) (HS : Sep.St [pipe_Pipe.at b0 (a0), R] w0 w) : Calls Try.prog 11 #[Value.pointer (some ⟨b0, 0, none⟩), Value.int .i64 (a1)] w (Ret fun u w => ∃ (aq0 : Option Addr) (cq0 : Nat), u = Value.slice aq0 (r.1).length cq0 ∧ Sep.St [row 5 1 (.slice aq0 (r.1).length cq0) (r.1).length ((r.1).map (Value.int .u8)), pipe_Pipe.at b0 (r.2), R] w0 w) := by
  unfold pipe_Pipe_Take.f at H
  refine calls_enter Try.func11 rfl rfl ?_
  have H : _ = some r := H
  refine V.seq ?_
  refine V.region ?_
  refine W.rd (X.assign rfl) rfl rfl rfl ?_
  refine W.nil ?_
  refine At.next ?_
  refine V.keep [(0, Value.pointer (some ⟨b0, 0, none⟩)), (1, Value.int .i64 (a1))] ⟨rfl, rfl, trivial⟩ ?_
  refine V.seq ?_
  refine V.seq ?_
  refine V.region ?_
  refine W.rd (X.move rfl) rfl rfl rfl ?_
  refine W.rd (X.nilCheck rfl) rfl rfl rfl ?_
  obtain ⟨a1_2, c1_2, hi3, HS⟩ := pipe_Pipe.open HS
  have HS : Sep.St [blk b0 (#[Value.int .i64 ((a0).room), Value.slice a1_2 ((a0).b).length c1_2, Value.bool ((a0).cut), Value.bool ((a0).stall)]) 42, row 5 1 (.slice a1_2 ((a0).b).length c1_2) ((a0).b).length (((a0).b).map (Value.int .u8)), R] w0 w := HS
  refine W.rd (X.fieldAddr 3 fo42_3 rfl) rfl rfl rfl ?_
  refine W.rd (X.loadAt 0 HS rfl Try.underlying4 rfl rfl rfl) rfl rfl rfl ?_
  refine W.nil ?_
  refine At.next ?_
  refine V.keep [(0, Value.pointer (some ⟨b0, 0, none⟩)), (1, Value.int .i64 (a1)), (8, Value.bool ((a0).stall))] ⟨rfl, rfl, rfl, trivial⟩ ?_
  by_cases c4 : (a0).stall = true
  · replace H := ite_t c4 H
    refine V.condT (sb c4) ?_
    refine V.seq ?_
    refine V.region ?_
    refine W.rd (X.assign rfl) rfl rfl rfl ?_
    refine W.nil ?_
    refine At.next ?_
    refine V.keep [(4, Value.slice none 0 0)] ⟨rfl, trivial⟩ ?_
    refine V.ret ?_
    refine At.thenRet ?_
    replace HS := row_nil' (e := 5) 1 none HS
    have HS : Sep.St [row 5 1 (.slice none (([] : List Int)).length 0) (([] : List Int)).length ((([] : List Int)).map (Value.int .u8)), blk b0 (#[Value.int .i64 ((a0).room), Value.slice a1_2 ((a0).b).length c1_2, Value.bool ((a0).cut), Value.bool ((a0).stall)]) 42, row 5 1 (.slice a1_2 ((a0).b).length c1_2) ((a0).b).length (((a0).b).map (Value.int .u8)), R] w0 w := HS
    replace HS := HS.re [1, 2, 0, 3] (by kernel_rfl)
    have HS : Sep.St [blk b0 (#[Value.int .i64 ((a0).room), Value.slice a1_2 ((a0).b).length c1_2, Value.bool ((a0).cut), Value.bool ((a0).stall)]) 42, row 5 1 (.slice a1_2 ((a0).b).length c1_2) ((a0).b).length (((a0).b).map (Value.int .u8)), row 5 1 (.slice none (([] : List Int)).length 0) (([] : List Int)).length ((([] : List Int)).map (Value.int .u8)), R] w0 w := HS
    replace HS := pipe_Pipe.close (a0) trivial HS
    have HS : Sep.St [pipe_Pipe.at b0 (a0), row 5 1 (.slice none (([] : List Int)).length 0) (([] : List Int)).length ((([] : List Int)).map (Value.int .u8)), R] w0 w := HS
    replace HS := HS.sel [1, 0, 2] [] (by kernel_rfl)
    cases H
    exact At.ret1 rfl rfl ⟨_, rfl, none, 0, rfl, HS⟩
  · replace H := ite_f c4 H
    refine V.condF (sb (b_f c4)) ?_
    refine V.skip ?_
    refine At.next ?_
    refine V.keep [(0, Value.pointer (some ⟨b0, 0, none⟩)), (1, Value.int .i64 (a1))] ⟨rfl, rfl, trivial⟩ ?_
    refine V.seq ?_
    refine V.region ?_
    refine W.rd (X.move rfl) rfl rfl rfl ?_
    refine W.rd (X.move rfl) rfl rfl rfl ?_
    replace HS := pipe_Pipe.close (a0) trivial HS
    have HS : Sep.St [pipe_Pipe.at b0 (a0), R] w0 w := HS
    obtain ⟨t5, A6, H⟩ := bind_s H
    refine W.ev (Y.call Try.func19 (by kernel_rfl) rfl (vs := [Value.pointer (some ⟨b0, 0, none⟩), Value.int .i64 (a1)]) rfl (pipe_Pipe_gone.calls a0 a1 _ w0 _ b0 t5  A6 (Sep.St.tailJoin (m := [pipe_Pipe.at b0 (a0)]) (r := [R]) HS))) rfl rfl rfl ?_
    rintro _ w ⟨at5_0, ct5_0, rfl, HS⟩
    replace HS := Sep.St.tailOpen (m := [row 5 1 (.slice at5_0 (t5.1).length ct5_0) (t5.1).length ((t5.1).map (Value.int .u8)), pipe_Pipe.at b0 (t5.2)]) (r := [R]) HS
    have HS : Sep.St [row 5 1 (.slice at5_0 (t5.1).length ct5_0) (t5.1).length ((t5.1).map (Value.int .u8)), pipe_Pipe.at b0 (t5.2), R] w0 w := HS
    refine W.rd (X.assign rfl) rfl rfl rfl ?_
    refine W.nil ?_
    refine At.next ?_
    refine V.keep [(4, Value.slice at5_0 (t5.1).length ct5_0)] ⟨rfl, trivial⟩ ?_
    refine V.ret ?_
    cases H
    exact At.ret1 rfl rfl ⟨_, rfl, at5_0, ct5_0, rfl, HS⟩

/-! ### (*signalman/pipe.Pipe).Room: function 18 -/
def pipe_Pipe_Room.f (a0 : pipe_Pipe) : Option (Int) := some (w64 (((a0).room) - (((a0).b).length : Int)))
set_option maxRecDepth 100000 in
set_option maxHeartbeats 4000000 in
theorem pipe_Pipe_Room.calls (a0 : pipe_Pipe) (R : As) (w0 w : World) (b0 : Nat) (a1_p0 : Option Addr) (c1_p0 : Nat) (r : Int)  (H : pipe_Pipe_Room.f a0 = some r) (HS : Sep.St [blk b0 (#[Value.int .i64 ((a0).room), Value.slice a1_p0 ((a0).b).length c1_p0, Value.bool ((a0).cut), Value.bool ((a0).stall)]) 42, row 5 1 (.slice a1_p0 ((a0).b).length c1_p0) ((a0).b).length (((a0).b).map (Value.int .u8)), R] w0 w) : Calls Try.prog 18 #[Value.pointer (some ⟨b0, 0, none⟩)] w (Ret fun u w => u = Value.int .i64 (r) ∧ Sep.St [blk b0 (#[Value.int .i64 ((a0).room), Value.slice a1_p0 ((a0).b).length c1_p0, Value.bool ((a0).cut), Value.bool ((a0).stall)]) 42, row 5 1 (.slice a1_p0 ((a0).b).length c1_p0) ((a0).b).length (((a0).b).map (Value.int .u8)), R] w0 w) := by
  unfold pipe_Pipe_Room.f at H
  refine calls_enter Try.func18 rfl rfl ?_
  have H : _ = some r := H
  refine V.seq ?_
  refine V.region ?_
  refine W.rd (X.assign rfl) rfl rfl rfl ?_
  refine W.nil ?_
  refine At.next ?_
  refine V.keep [(0, Value.pointer (some ⟨b0, 0, none⟩))] ⟨rfl, trivial⟩ ?_
  refine V.seq ?_
  refine V.draw (es := []) (bl := []) (f := [(3, Value.pointer (some ⟨b0, 0, none⟩)), (4, Value.pointer (some ⟨b0, 0, none⟩)), (5, Value.pointer (some ⟨b0, 0 + 0, none⟩)), (6, Value.int .i64 ((a0).room)), (7, Value.pointer (some ⟨b0, 0, none⟩)), (8, Value.pointer (some ⟨b0, 0, none⟩)), (9, Value.pointer (some ⟨b0, 0 + 1, none⟩)), (10, Value.slice a1_p0 ((a0).b).length c1_p0), (11, Value.int .i64 ((((a0).b).length : Int))), (12, Value.int .i64 (w64 (((a0).room) - (((a0).b).length : Int)))), (2, Value.int .i64 (w64 (((a0).room) - (((a0).b).length : Int))))]) (fun w => Sep.St [blk b0 (#[Value.int .i64 ((a0).room), Value.slice a1_p0 ((a0).b).length c1_p0, Value.bool ((a0).cut), Value.bool ((a0).stall)]) 42, row 5 1 (.slice a1_p0 ((a0).b).length c1_p0) ((a0).b).length (((a0).b).map (Value.int .u8)), R] w0 w) mo HS.drew rfl ?_
  refine T.fin [(2, Value.int .i64 (w64 (((a0).room) - (((a0).b).length : Int))))] rfl ⟨⟨_, Value.pointer (some ⟨b0, 0, none⟩), [(0, Value.pointer (some ⟨b0, 0, none⟩))], 3, rfl, rfl, ⟨.inl ⟨rfl, rfl⟩, trivial⟩, .run rfl (fun w HS => X.move rfl), rfl, rfl, rfl⟩, ⟨_, Value.pointer (some ⟨b0, 0, none⟩), [(3, Value.pointer (some ⟨b0, 0, none⟩))], 4, rfl, rfl, ⟨.inr ⟨rfl, rfl⟩, trivial⟩, .run rfl (fun w HS => X.nilCheck rfl), rfl, rfl, rfl⟩, ⟨_, Value.pointer (some ⟨b0, 0 + 0, none⟩), [(4, Value.pointer (some ⟨b0, 0, none⟩))], 5, rfl, rfl, ⟨.inr ⟨rfl, rfl⟩, trivial⟩, .run rfl (fun w HS => X.fieldAddr 0 fo42_0 rfl), rfl, rfl, rfl⟩, ⟨_, Value.int .i64 ((a0).room), [(5, Value.pointer (some ⟨b0, 0 + 0, none⟩))], 6, rfl, rfl, ⟨.inr ⟨rfl, rfl⟩, trivial⟩, .run rfl (fun w HS => X.loadAt 0 HS rfl Try.underlying3 rfl rfl rfl), rfl, rfl, rfl⟩, ⟨_, Value.pointer (some ⟨b0, 0, none⟩), [(0, Value.pointer (some ⟨b0, 0, none⟩))], 7, rfl, rfl, ⟨.inl ⟨rfl, rfl⟩, trivial⟩, .run rfl (fun w HS => X.move rfl), rfl, rfl, rfl⟩, ⟨_, Value.pointer (some ⟨b0, 0, none⟩), [(7, Value.pointer (some ⟨b0, 0, none⟩))], 8, rfl, rfl, ⟨.inr ⟨rfl, rfl⟩, trivial⟩, .run rfl (fun w HS => X.nilCheck rfl), rfl, rfl, rfl⟩, ⟨_, Value.pointer (some ⟨b0, 0 + 1, none⟩), [(8, Value.pointer (some ⟨b0, 0, none⟩))], 9, rfl, rfl, ⟨.inr ⟨rfl, rfl⟩, trivial⟩, .run rfl (fun w HS => X.fieldAddr 1 fo42_1 rfl), rfl, rfl, rfl⟩, ⟨_, Value.slice a1_p0 ((a0).b).length c1_p0, [(9, Value.pointer (some ⟨b0, 0 + 1, none⟩))], 10, rfl, rfl, ⟨.inr ⟨rfl, rfl⟩, trivial⟩, .run rfl (fun w HS => X.loadAt 0 HS rfl Try.underlying27 rfl rfl rfl), rfl, rfl, rfl⟩, ⟨_, Value.int .i64 ((((a0).b).length : Int)), [(10, Value.slice a1_p0 ((a0).b).length c1_p0)], 11, rfl, rfl, ⟨.inr ⟨rfl, rfl⟩, trivial⟩, .run rfl (fun w HS => X.lenSl Try.underlying27 rfl), rfl, rfl, rfl⟩, ⟨_, Value.int .i64 (w64 (((a0).room) - (((a0).b).length : Int))), [(6, Value.int .i64 ((a0).room)), (11, Value.int .i64 ((((a0).b).length : Int)))], 12, rfl, rfl, ⟨.inr ⟨rfl, rfl⟩, ⟨.inr ⟨rfl, rfl⟩, trivial⟩⟩, .run rfl (fun w HS => X.sub rfl rfl), rfl, rfl, rfl⟩, ⟨_, Value.int .i64 (w64 (((a0).room) - (((a0).b).length : Int))), [(12, Value.int .i64 (w64 (((a0).room) - (((a0).b).length : Int))))], 2, rfl, rfl, ⟨.inr ⟨rfl, rfl⟩, trivial⟩, .run rfl (fun w HS => X.assign rfl), rfl, rfl, rfl⟩, trivial⟩ ⟨.inr ⟨rfl, rfl⟩, trivial⟩ (fun w HS => ?_)
  have HS : Sep.St [blk b0 (#[Value.int .i64 ((a0).room), Value.slice a1_p0 ((a0).b).length c1_p0, Value.bool ((a0).cut), Value.bool ((a0).stall)]) 42, row 5 1 (.slice a1_p0 ((a0).b).length c1_p0) ((a0).b).length (((a0).b).map (Value.int .u8)), R] w0 w := HS
  refine At.next ?_
  refine V.keep [(2, Value.int .i64 (w64 (((a0).room) - (((a0).b).length : Int))))] ⟨rfl, trivial⟩ ?_
  refine V.ret ?_
  cases H
  exact At.ret1 rfl rfl ⟨_, rfl, rfl, HS⟩

/-! ### (*signalman/pipe.Pipe).Put: function 9 -/
def pipe_Pipe_Put.f (a0 : pipe_Pipe) (a1 : List Int) : Option (Int × pipe_Pipe) := (if (a0).cut = true then some (((a1).length : Int), a0) else ((pipe_Pipe_Room.f a0).bind fun t5 => (if 0 ≤ (0 : Int) ∧ (0 : Int) ≤ imin (((a1).length : Int)) (t5) ∧ imin (((a1).length : Int)) (t5) ≤ ((a1).length : Int) then (if (((a0).b).length : Int) + (cut a1 (0 : Int) (imin (((a1).length : Int)) (t5))).length ≤ 1099511627776 then some (imin (((a1).length : Int)) (t5), ({ room := (a0).room, b := ((a0).b) ++ (cut a1 (0 : Int) (imin (((a1).length : Int)) (t5))), cut := (a0).cut, stall := (a0).stall } : pipe_Pipe)) else none) else none)))
set_option maxRecDepth 100000 in
set_option maxHeartbeats 4000000 in
theorem pipe_Pipe_Put.calls (a0 : pipe_Pipe) (a1 : List Int) (R : As) (w0 w : World) (b0 : Nat) (sa1 : Option Addr) (sc1 : Nat) (r : Int × pipe_Pipe) (hr1 : rdC R 1 (.slice sa1 (a1).length sc1) (a1).length ((a1).map (Value.int .u8))) (H : pipe_Pipe_Put.f a0 a1 = some r) (HS : Sep.St [pipe_Pipe.at b0 (a0), R] w0 w) : Calls Try.prog 9 #[Value.pointer (some ⟨b0, 0, none⟩), Value.slice sa1 (a1).length sc1] w (Ret fun u w => u = Value.int .i64 (r.1) ∧ Sep.St [pipe_Pipe.at b0 (r.2), R] w0 w) := by
  unfold pipe_Pipe_Put.f at H
  refine calls_enter Try.func9 rfl rfl ?_
  have H : _ = some r := H
  refine V.seq ?_
  refine V.region ?_
  refine W.rd (X.assign rfl) rfl rfl rfl ?_
  refine W.nil ?_
  refine At.next ?_
  refine V.keep [(0, Value.pointer (some ⟨b0, 0, none⟩)), (1, Value.slice sa1 (a1).length sc1)] ⟨rfl, rfl, trivial⟩ ?_
  refine V.seq ?_
  refine V.seq ?_
  refine V.region ?_
  refine W.rd (X.move rfl) rfl rfl rfl ?_
  refine W.rd (X.nilCheck rfl) rfl rfl rfl ?_
  obtain ⟨a1_2, c1_2, hi3, HS⟩ := pipe_Pipe.open HS
  have HS : Sep.St [blk b0 (#[Value.int .i64 ((a0).room), Value.slice a1_2 ((a0).b).length c1_2, Value.bool ((a0).cut), Value.bool ((a0).stall)]) 42, row 5 1 (.slice a1_2 ((a0).b).length c1_2) ((a0).b).length (((a0).b).map (Value.int .u8)), R] w0 w := HS
  refine W.rd (X.fieldAddr 2 fo42_2 rfl) rfl rfl rfl ?_
  refine W.rd (X.loadAt 0 HS rfl Try.underlying4 rfl rfl rfl) rfl rfl rfl ?_
  refine W.nil ?_
  refine At.next ?_
  refine V.keep [(0, Value.pointer (some ⟨b0, 0, none⟩)), (1, Value.slice sa1 (a1).length sc1), (9, Value.bool ((a0).cut))] ⟨rfl, rfl, rfl, trivial⟩ ?_
  by_cases c4 : (a0).cut = true
  · replace H := ite_t c4 H
    refine V.condT (sb c4) ?_
    refine V.seq ?_
    refine V.region ?_
    refine W.rd (X.move rfl) rfl rfl rfl ?_
    refine W.rd (X.lenSl Try.underlying27 rfl) rfl rfl rfl ?_
    refine W.rd (X.assign rfl) rfl rfl rfl ?_
    refine W.nil ?_
    refine At.next ?_
    refine V.keep [(4, Value.int .i64 (((a1).length : Int)))] ⟨rfl, trivial⟩ ?_
    refine V.ret ?_
    refine At.thenRet ?_
    replace HS := pipe_Pipe.close (a0) trivial HS
    have HS : Sep.St [pipe_Pipe.at b0 (a0), R] w0 w := HS
    cases H
    exact At.ret1 rfl rfl ⟨_, rfl, rfl, HS⟩
  · replace H := ite_f c4 H
    refine V.condF (sb (b_f c4)) ?_
    refine V.skip ?_
    refine At.next ?_
    refine V.keep [(0, Value.pointer (some ⟨b0, 0, none⟩)), (1, Value.slice sa1 (a1).length sc1)] ⟨rfl, rfl, trivial⟩ ?_
    refine V.seq ?_
    refine V.region ?_
    refine W.rd (X.move rfl) rfl rfl rfl ?_
    refine W.rd (X.lenSl Try.underlying27 rfl) rfl rfl rfl ?_
    refine W.rd (X.move rfl) rfl rfl rfl ?_
    obtain ⟨t5, A6, H⟩ := bind_s H
    refine W.ev (Y.call Try.func18 (by kernel_rfl) rfl (vs := [Value.pointer (some ⟨b0, 0, none⟩)]) rfl (pipe_Pipe_Room.calls a0 _ w0 _ b0 a1_2 c1_2 t5  A6 (Sep.St.tailJoin (m := [blk b0 (#[Value.int .i64 ((a0).room), Value.slice a1_2 ((a0).b).length c1_2, Value.bool ((a0).cut), Value.bool ((a0).stall)]) 42, row 5 1 (.slice a1_2 ((a0).b).length c1_2) ((a0).b).length (((a0).b).map (Value.int .u8))]) (r := [R]) HS))) rfl rfl rfl ?_
    rintro _ w ⟨rfl, HS⟩
    replace HS := Sep.St.tailOpen (m := [blk b0 (#[Value.int .i64 ((a0).room), Value.slice a1_2 ((a0).b).length c1_2, Value.bool ((a0).cut), Value.bool ((a0).stall)]) 42, row 5 1 (.slice a1_2 ((a0).b).length c1_2) ((a0).b).length (((a0).b).map (Value.int .u8))]) (r := [R]) HS
    have HS : Sep.St [blk b0 (#[Value.int .i64 ((a0).room), Value.slice a1_2 ((a0).b).length c1_2, Value.bool ((a0).cut), Value.bool ((a0).stall)]) 42, row 5 1 (.slice a1_2 ((a0).b).length c1_2) ((a0).b).length (((a0).b).map (Value.int .u8)), R] w0 w := HS
    refine W.rd (X.min2 rfl rfl) rfl rfl rfl ?_
    refine W.rd (X.assign rfl) rfl rfl rfl ?_
    refine W.nil ?_
    refine At.next ?_
    refine V.keep [(0, Value.pointer (some ⟨b0, 0, none⟩)), (1, Value.slice sa1 (a1).length sc1), (5, Value.int .i64 (imin (((a1).length : Int)) (t5)))] ⟨rfl, rfl, rfl, trivial⟩ ?_
    refine V.seq ?_
    obtain ⟨c7, H⟩ := ite_n H
    refine V.draw (es := [8, 11]) (bl := [9, 10]) (f := [(17, Value.pointer (some ⟨b0, 0, none⟩)), (18, Value.pointer (some ⟨b0, 0, none⟩)), (19, Value.pointer (some ⟨b0, 0, none⟩)), (20, Value.pointer (some ⟨b0, 0 + 1, none⟩)), (21, Value.slice a1_2 ((a0).b).length c1_2), (22, Value.slice sa1 (a1).length sc1), (23, Value.int .i64 (imin (((a1).length : Int)) (t5))), (24, Value.slice (vaddr sa1 sc1 ((0 : Int)).toNat 1) (cut a1 (0 : Int) (imin (((a1).length : Int)) (t5))).length (sc1 - ((0 : Int)).toNat))]) (fun w => Sep.St [blk b0 (#[Value.int .i64 ((a0).room), Value.slice a1_2 ((a0).b).length c1_2, Value.bool ((a0).cut), Value.bool ((a0).stall)]) 42, row 5 1 (.slice a1_2 ((a0).b).length c1_2) ((a0).b).length (((a0).b).map (Value.int .u8)), R] w0 w) mo HS.drew rfl ?_
    refine T.event _ [(21, Value.slice a1_2 ((a0).b).length c1_2), (24, Value.slice (vaddr sa1 sc1 ((0 : Int)).toNat 1) (cut a1 (0 : Int) (imin (((a1).length : Int)) (t5))).length (sc1 - ((0 : Int)).toNat))] rfl rfl ⟨⟨_, Value.pointer (some ⟨b0, 0, none⟩), [(0, Value.pointer (some ⟨b0, 0, none⟩))], 17, rfl, rfl, ⟨.inl ⟨rfl, rfl⟩, trivial⟩, .run rfl (fun w HS => X.move rfl), rfl, rfl, rfl⟩, ⟨_, Value.pointer (some ⟨b0, 0, none⟩), [(0, Value.pointer (some ⟨b0, 0, none⟩))], 18, rfl, rfl, ⟨.inl ⟨rfl, rfl⟩, trivial⟩, .run rfl (fun w HS => X.move rfl), rfl, rfl, rfl⟩, ⟨_, Value.pointer (some ⟨b0, 0, none⟩), [(18, Value.pointer (some ⟨b0, 0, none⟩))], 19, rfl, rfl, ⟨.inr ⟨rfl, rfl⟩, trivial⟩, .run rfl (fun w HS => X.nilCheck rfl), rfl, rfl, rfl⟩, ⟨_, Value.pointer (some ⟨b0, 0 + 1, none⟩), [(19, Value.pointer (some ⟨b0, 0, none⟩))], 20, rfl, rfl, ⟨.inr ⟨rfl, rfl⟩, trivial⟩, .run rfl (fun w HS => X.fieldAddr 1 fo42_1 rfl), rfl, rfl, rfl⟩, ⟨_, Value.slice a1_2 ((a0).b).length c1_2, [(20, Value.pointer (some ⟨b0, 0 + 1, none⟩))], 21, rfl, rfl, ⟨.inr ⟨rfl, rfl⟩, trivial⟩, .run rfl (fun w HS => X.loadAt 0 HS rfl Try.underlying27 rfl rfl rfl), rfl, rfl, rfl⟩, ⟨_, Value.slice sa1 (a1).length sc1, [(1, Value.slice sa1 (a1).length sc1)], 22, rfl, rfl, ⟨.inl ⟨rfl, rfl⟩, trivial⟩, .run rfl (fun w HS => X.move rfl), rfl, rfl, rfl⟩, ⟨_, Value.int .i64 (imin (((a1).length : Int)) (t5)), [(5, Value.int .i64 (imin (((a1).length : Int)) (t5)))], 23, rfl, rfl, ⟨.inl ⟨rfl, rfl⟩, trivial⟩, .run rfl (fun w HS => X.move rfl), rfl, rfl, rfl⟩, ⟨_, Value.slice (vaddr sa1 sc1 ((0 : Int)).toNat 1) (cut a1 (0 : Int) (imin (((a1).length : Int)) (t5))).length (sc1 - ((0 : Int)).toNat), [(22, Value.slice sa1 (a1).length sc1), (23, Value.int .i64 (imin (((a1).length : Int)) (t5)))], 24, rfl, rfl, ⟨.inr ⟨rfl, rfl⟩, ⟨.inr ⟨rfl, rfl⟩, trivial⟩⟩, .run rfl (fun w HS => X.slH Try.underlying27 inf5 rfl rfl c7 ((rdC.at 2 hr1 HS rfl)).cap), rfl, rfl, rfl⟩, trivial⟩ rfl ⟨.inr ⟨rfl, rfl⟩, ⟨.inr ⟨rfl, rfl⟩, trivial⟩⟩ (Or.inl rfl) (by intro d hd; cases hd; exact ⟨by decide, rfl, rfl⟩) [] [1, 2, 3, 4, 5, 6, 7] rfl rfl (fun w HS => ?_)
    have HS : Sep.St [blk b0 (#[Value.int .i64 ((a0).room), Value.slice a1_2 ((a0).b).length c1_2, Value.bool ((a0).cut), Value.bool ((a0).stall)]) 42, row 5 1 (.slice a1_2 ((a0).b).length c1_2) ((a0).b).length (((a0).b).map (Value.int .u8)), R] w0 w := HS
    obtain ⟨c8, H⟩ := ite_n H
    refine ⟨_, Y.appF (Value.int .u8) (fun _ => rfl) 1 Try.underlying27 ap5 rfl HS rfl rfl rfl (rdC.at 2 (rdC.subM hr1 c7) HS rfl) (by omega) (by omega), ?_⟩
    rintro _ w ⟨ra9, rc10, rfl, HS⟩
    have HS : Sep.St [blk b0 (#[Value.int .i64 ((a0).room), Value.slice a1_2 ((a0).b).length c1_2, Value.bool ((a0).cut), Value.bool ((a0).stall)]) 42, row 5 1 (.slice ra9 (((a0).b) ++ (cut a1 (0 : Int) (imin (((a1).length : Int)) (t5)))).length rc10) (((a0).b) ++ (cut a1 (0 : Int) (imin (((a1).length : Int)) (t5)))).length ((((a0).b) ++ (cut a1 (0 : Int) (imin (((a1).length : Int)) (t5)))).map (Value.int .u8)), R] w0 w := HS
    refine ⟨[(25, Value.slice ra9 (((a0).b) ++ (cut a1 (0 : Int) (imin (((a1).length : Int)) (t5)))).length rc10), (26, Value.pointer (some ⟨b0, 0, none⟩)), (27, Value.pointer (some ⟨b0, 0 + 1, none⟩))], fun w => Sep.St [blk b0 (#[Value.int .i64 ((a0).room), Value.slice a1_2 ((a0).b).length c1_2, Value.bool ((a0).cut), Value.bool ((a0).stall)]) 42, row 5 1 (.slice ra9 (((a0).b) ++ (cut a1 (0 : Int) (imin (((a1).length : Int)) (t5)))).length rc10) (((a0).b) ++ (cut a1 (0 : Int) (imin (((a1).length : Int)) (t5)))).length ((((a0).b) ++ (cut a1 (0 : Int) (imin (((a1).length : Int)) (t5)))).map (Value.int .u8)), R] w0 w, ⟨.inl ⟨rfl, rfl⟩, ⟨.inr ⟨by decide, rfl⟩, ⟨.inr ⟨by decide, rfl⟩, trivial⟩⟩⟩, ?_, HS⟩
    refine T.event _ [(25, Value.slice ra9 (((a0).b) ++ (cut a1 (0 : Int) (imin (((a1).length : Int)) (t5)))).length rc10), (27, Value.pointer (some ⟨b0, 0 + 1, none⟩))] rfl rfl ⟨⟨_, Value.pointer (some ⟨b0, 0, none⟩), [(0, Value.pointer (some ⟨b0, 0, none⟩))], 17, rfl, rfl, ⟨.inl ⟨rfl, rfl⟩, trivial⟩, .run rfl (fun w HS => X.move rfl), rfl, rfl, rfl⟩, ⟨_, Value.pointer (some ⟨b0, 0, none⟩), [(17, Value.pointer (some ⟨b0, 0, none⟩))], 26, rfl, rfl, ⟨.inr ⟨rfl, rfl⟩, trivial⟩, .run rfl (fun w HS => X.nilCheck rfl), rfl, rfl, rfl⟩, ⟨_, Value.pointer (some ⟨b0, 0 + 1, none⟩), [(26, Value.pointer (some ⟨b0, 0, none⟩))], 27, rfl, rfl, ⟨.inr ⟨rfl, rfl⟩, trivial⟩, .run rfl (fun w HS => X.fieldAddr 1 fo42_1 rfl), rfl, rfl, rfl⟩, trivial⟩ rfl ⟨.inr ⟨rfl, rfl⟩, ⟨.inr ⟨rfl, rfl⟩, trivial⟩⟩ (Or.inl rfl) (by intro d hd; cases hd) [] [0, 9, 10] rfl rfl (fun w HS => ?_)
    have HS : Sep.St [blk b0 (#[Value.int .i64 ((a0).room), Value.slice a1_2 ((a0).b).length c1_2, Value.bool ((a0).cut), Value.bool ((a0).stall)]) 42, row 5 1 (.slice ra9 (((a0).b) ++ (cut a1 (0 : Int) (imin (((a1).length : Int)) (t5)))).length rc10) (((a0).b) ++ (cut a1 (0 : Int) (imin (((a1).length : Int)) (t5)))).length ((((a0).b) ++ (cut a1 (0 : Int) (imin (((a1).length : Int)) (t5)))).map (Value.int .u8)), R] w0 w := HS
    refine ⟨_, Y.storeAt 0 HS rfl inf27 rfl rfl rfl rfl rfl rfl, ?_⟩
    rintro _ w HS
    have HS : Sep.St [blk b0 (#[Value.int .i64 ((a0).room), Value.slice ra9 (((a0).b) ++ (cut a1 (0 : Int) (imin (((a1).length : Int)) (t5)))).length rc10, Value.bool ((a0).cut), Value.bool ((a0).stall)]) 42, row 5 1 (.slice ra9 (((a0).b) ++ (cut a1 (0 : Int) (imin (((a1).length : Int)) (t5)))).length rc10) (((a0).b) ++ (cut a1 (0 : Int) (imin (((a1).length : Int)) (t5)))).length ((((a0).b) ++ (cut a1 (0 : Int) (imin (((a1).length : Int)) (t5)))).map (Value.int .u8)), R] w0 w := HS
    refine ⟨[], fun w => Sep.St [blk b0 (#[Value.int .i64 ((a0).room), Value.slice ra9 (((a0).b) ++ (cut a1 (0 : Int) (imin (((a1).length : Int)) (t5)))).length rc10, Value.bool ((a0).cut), Value.bool ((a0).stall)]) 42, row 5 1 (.slice ra9 (((a0).b) ++ (cut a1 (0 : Int) (imin (((a1).length : Int)) (t5)))).length rc10) (((a0).b) ++ (cut a1 (0 : Int) (imin (((a1).length : Int)) (t5)))).length ((((a0).b) ++ (cut a1 (0 : Int) (imin (((a1).length : Int)) (t5)))).map (Value.int .u8)), R] w0 w, trivial, ?_, HS⟩
    refine T.fin [(5, Value.int .i64 (imin (((a1).length : Int)) (t5)))] rfl trivial ⟨.inl ⟨rfl, rfl⟩, trivial⟩ (fun w HS => ?_)
    have HS : Sep.St [blk b0 (#[Value.int .i64 ((a0).room), Value.slice ra9 (((a0).b) ++ (cut a1 (0 : Int) (imin (((a1).length : Int)) (t5)))).length rc10, Value.bool ((a0).cut), Value.bool ((a0).stall)]) 42, row 5 1 (.slice ra9 (((a0).b) ++ (cut a1 (0 : Int) (imin (((a1).length : Int)) (t5)))).length rc10) (((a0).b) ++ (cut a1 (0 : Int) (imin (((a1).length : Int)) (t5)))).length ((((a0).b) ++ (cut a1 (0 : Int) (imin (((a1).length : Int)) (t5)))).map (Value.int .u8)), R] w0 w := HS
    refine At.next ?_
    refine V.keep [(5, Value.int .i64 (imin (((a1).length : Int)) (t5)))] ⟨rfl, trivial⟩ ?_
    refine V.seq ?_
    refine V.region ?_
    refine W.rd (X.move rfl) rfl rfl rfl ?_
    refine W.rd (X.assign rfl) rfl rfl rfl ?_
    refine W.nil ?_
    refine At.next ?_
    refine V.keep [(4, Value.int .i64 (imin (((a1).length : Int)) (t5)))] ⟨rfl, trivial⟩ ?_
    refine V.ret ?_
    replace HS := pipe_Pipe.close (({ room := (a0).room, b := ((a0).b) ++ (cut a1 (0 : Int) (imin (((a1).length : Int)) (t5))), cut := (a0).cut, stall := (a0).stall } : pipe_Pipe)) trivial HS
    have HS : Sep.St [pipe_Pipe.at b0 (({ room := (a0).room, b := ((a0).b) ++ (cut a1 (0 : Int) (imin (((a1).length : Int)) (t5))), cut := (a0).cut, stall := (a0).stall } : pipe_Pipe)), R] w0 w := HS
    cases H
    exact At.ret1 rfl rfl ⟨_, rfl, rfl, HS⟩

/-! ### signalman/signalmanlaw8.alive: function 7 -/
def signalmanlaw8_alive.f  : Option (Bool) := ((pipe_New.f 5).bind fun t1 => ((pipe_Pipe_Take.f t1 3).bind fun t4 => ((pipe_Pipe_Put.f t4.2 ([97, 98] : List Int)).bind fun t9 => (if ((t4.1).length : Int) = 0 then (if t9.1 = 2 then ((pipe_Pipe_Take.f t9.2 1).bind fun t13 => some (sEq (t13.1) (([97] : List Int)))) else some (false)) else some (false)))))
set_option maxRecDepth 100000 in
set_option maxHeartbeats 4000000 in
theorem signalmanlaw8_alive.calls  (R : As) (w0 w : World)  (r : Bool)  (H : signalmanlaw8_alive.f  = some r) (HS : Sep.St [R] w0 w) : Calls Try.prog 7 #[] w (Ret fun u w => u = Value.bool (r) ∧ Sep.St [R] w0 w) := by
  unfold signalmanlaw8_alive.f at H
  refine calls_enter Try.func7 rfl rfl ?_
  have H : _ = some r := H
  refine V.seq ?_
  refine V.region ?_
  refine W.rd (X.assign rfl) rfl rfl rfl ?_
  refine W.nil ?_
  refine At.next ?_
  refine V.keep [] trivial ?_
  refine V.seq ?_
  refine V.region ?_
  obtain ⟨t1, A2, H⟩ := bind_s H
  refine W.ev (Y.call Try.func8 (by kernel_rfl) rfl (vs := [Value.int .i64 (5)]) rfl (pipe_New.calls 5 _ w0 _  t1  A2 (Sep.St.tailJoin (m := []) (r := [R]) HS))) rfl rfl rfl ?_
  rintro _ w ⟨bt1_0, rfl, HS⟩
  replace HS := Sep.St.tailOpen (m := [pipe_Pipe.at bt1_0 (t1)]) (r := [R]) HS
  have HS : Sep.St [pipe_Pipe.at bt1_0 (t1), R] w0 w := HS
  refine W.rd (X.assign rfl) rfl rfl rfl ?_
  refine W.nil ?_
  refine At.next ?_
  refine V.keep [(1, Value.pointer (some ⟨bt1_0, 0, none⟩))] ⟨rfl, trivial⟩ ?_
  refine V.seq ?_
  refine V.seq ?_
  refine V.region ?_
  refine W.rd (X.move rfl) rfl rfl rfl ?_
  refine W.rd (X.eqP Try.underlying25 rfl rfl) rfl rfl rfl ?_
  refine W.nil ?_
  refine At.next ?_
  refine V.keep [(1, Value.pointer (some ⟨bt1_0, 0, none⟩)), (6, Value.bool (false))] ⟨rfl, rfl, trivial⟩ ?_
  refine V.condF rfl ?_
  refine V.skip ?_
  refine At.next ?_
  refine V.keep [(1, Value.pointer (some ⟨bt1_0, 0, none⟩))] ⟨rfl, trivial⟩ ?_
  refine V.seq ?_
  refine V.region ?_
  refine W.rd (X.move rfl) rfl rfl rfl ?_
  obtain ⟨t4, A5, H⟩ := bind_s H
  refine W.ev (Y.call Try.func11 (by kernel_rfl) rfl (vs := [Value.pointer (some ⟨bt1_0, 0, none⟩), Value.int .i64 (3)]) rfl (pipe_Pipe_Take.calls t1 3 _ w0 _ bt1_0 t4  A5 (Sep.St.tailJoin (m := [pipe_Pipe.at bt1_0 (t1)]) (r := [R]) HS))) rfl rfl rfl ?_
  rintro _ w ⟨at4_0, ct4_0, rfl, HS⟩
  replace HS := Sep.St.tailOpen (m := [row 5 1 (.slice at4_0 (t4.1).length ct4_0) (t4.1).length ((t4.1).map (Value.int .u8)), pipe_Pipe.at bt1_0 (t4.2)]) (r := [R]) HS
  have HS : Sep.St [row 5 1 (.slice at4_0 (t4.1).length ct4_0) (t4.1).length ((t4.1).map (Value.int .u8)), pipe_Pipe.at bt1_0 (t4.2), R] w0 w := HS
  refine W.rd (X.lenSl Try.underlying27 rfl) rfl rfl rfl ?_
  refine W.rd (X.assign rfl) rfl rfl rfl ?_
  refine W.nil ?_
  refine At.next ?_
  refine V.keep [(1, Value.pointer (some ⟨bt1_0, 0, none⟩)), (2, Value.int .i64 (((t4.1).length : Int)))] ⟨rfl, rfl, trivial⟩ ?_
  refine V.seq ?_
  refine V.region ?_
  refine W.rd (X.move rfl) rfl rfl rfl ?_
  refine W.ev (Y.litB (e := 5) (sz := 1) (vs := #[(0, Value.int .u8 (97)), (1, Value.int .u8 (98))]) [Value.int .u8 (97), Value.int .u8 (98)] HS (fun a ha => by simp only [List.map_toArray, List.map_cons, List.map_nil]; try rfl) rfl (by decide) (fun _ => by kernel_rfl)) rfl rfl rfl ?_
  rintro _ w ⟨lb8, rfl, HS⟩
  have HS : Sep.St [row 5 1 (.slice (some ⟨lb8, 0, none⟩) (([97, 98] : List Int)).length 2) (([97, 98] : List Int)).length ((([97, 98] : List Int)).map (Value.int .u8)), row 5 1 (.slice at4_0 (t4.1).length ct4_0) (t4.1).length ((t4.1).map (Value.int .u8)), pipe_Pipe.at bt1_0 (t4.2), R] w0 w := HS
  refine W.ev (Y.markS 0 HS rfl (by decide) Try.underlying27 Try.underlying5 rfl) rfl rfl rfl ?_
  rintro _ w ⟨rfl, HS⟩
  have HS : Sep.St [fsl 1 (.slice (some ⟨lb8, 0, none⟩) (([97, 98] : List Int)).length 2) (([97, 98] : List Int)).length ((([97, 98] : List Int)).map (Value.int .u8)), row 5 1 (.slice at4_0 (t4.1).length ct4_0) (t4.1).length ((t4.1).map (Value.int .u8)), pipe_Pipe.at bt1_0 (t4.2), R] w0 w := HS
  obtain ⟨t9, A10, H⟩ := bind_s H
  replace HS := HS.re [2, 0, 1, 3] (by kernel_rfl)
  have HS : Sep.St [pipe_Pipe.at bt1_0 (t4.2), fsl 1 (.slice (some ⟨lb8, 0, none⟩) (([97, 98] : List Int)).length 2) (([97, 98] : List Int)).length ((([97, 98] : List Int)).map (Value.int .u8)), row 5 1 (.slice at4_0 (t4.1).length ct4_0) (t4.1).length ((t4.1).map (Value.int .u8)), R] w0 w := HS
  refine W.ev (Y.call Try.func9 (by kernel_rfl) rfl (vs := [Value.pointer (some ⟨bt1_0, 0, none⟩), Value.slice (some ⟨lb8, 0, none⟩) (([97, 98] : List Int)).length 2]) rfl (pipe_Pipe_Put.calls t4.2 ([97, 98] : List Int) _ w0 _ bt1_0 (some ⟨lb8, 0, none⟩) 2 t9 (rdC.part 0 fsl.rd rfl) A10 (Sep.St.tailJoin (m := [pipe_Pipe.at bt1_0 (t4.2)]) (r := [fsl 1 (.slice (some ⟨lb8, 0, none⟩) (([97, 98] : List Int)).length 2) (([97, 98] : List Int)).length ((([97, 98] : List Int)).map (Value.int .u8)), row 5 1 (.slice at4_0 (t4.1).length ct4_0) (t4.1).length ((t4.1).map (Value.int .u8)), R]) HS))) rfl rfl rfl ?_
  rintro _ w ⟨rfl, HS⟩
  replace HS := Sep.St.tailOpen (m := [pipe_Pipe.at bt1_0 (t9.2)]) (r := [fsl 1 (.slice (some ⟨lb8, 0, none⟩) (([97, 98] : List Int)).length 2) (([97, 98] : List Int)).length ((([97, 98] : List Int)).map (Value.int .u8)), row 5 1 (.slice at4_0 (t4.1).length ct4_0) (t4.1).length ((t4.1).map (Value.int .u8)), R]) HS
  have HS : Sep.St [pipe_Pipe.at bt1_0 (t9.2), fsl 1 (.slice (some ⟨lb8, 0, none⟩) (([97, 98] : List Int)).length 2) (([97, 98] : List Int)).length ((([97, 98] : List Int)).map (Value.int .u8)), row 5 1 (.slice at4_0 (t4.1).length ct4_0) (t4.1).length ((t4.1).map (Value.int .u8)), R] w0 w := HS
  refine W.rd (X.assign rfl) rfl rfl rfl ?_
  refine W.nil ?_
  refine At.next ?_
  refine V.keep [(1, Value.pointer (some ⟨bt1_0, 0, none⟩)), (2, Value.int .i64 (((t4.1).length : Int))), (3, Value.int .i64 (t9.1))] ⟨rfl, rfl, rfl, trivial⟩ ?_
  refine V.seq ?_
  refine V.region ?_
  refine W.rd (X.move rfl) rfl rfl rfl ?_
  refine W.rd (X.cmp (decide (((t4.1).length : Int) = 0)) rfl rfl rfl rfl) rfl rfl rfl ?_
  refine W.rd (X.move rfl) rfl rfl rfl ?_
  by_cases c11 : ((t4.1).length : Int) = 0
  · replace H := ite_t c11 H
    refine W.want 16 rfl (sb (decide_eq_true c11)) ?_
    refine W.rd (X.move rfl) rfl rfl rfl ?_
    refine W.want 16 rfl (sb (decide_eq_true c11)) ?_
    refine W.rd (X.cmp (decide (t9.1 = 2)) rfl rfl rfl rfl) rfl rfl rfl ?_
    refine W.rd (X.pickT (sb (decide_eq_true c11)) rfl) rfl rfl rfl ?_
    refine W.rd (X.move rfl) rfl rfl rfl ?_
    by_cases c12 : t9.1 = 2
    · replace H := ite_t c12 H
      refine W.want 20 rfl (sb (decide_eq_true c12)) ?_
      refine W.rd (X.move rfl) rfl rfl rfl ?_
      refine W.want 20 rfl (sb (decide_eq_true c12)) ?_
      obtain ⟨t13, A14, H⟩ := bind_s H
      refine W.ev (Y.call Try.func11 (by kernel_rfl) rfl (vs := [Value.pointer (some ⟨bt1_0, 0, none⟩), Value.int .i64 (1)]) rfl (pipe_Pipe_Take.calls t9.2 1 _ w0 _ bt1_0 t13  A14 (Sep.St.tailJoin (m := [pipe_Pipe.at bt1_0 (t9.2)]) (r := [fsl 1 (.slice (some ⟨lb8, 0, none⟩) (([97, 98] : List Int)).length 2) (([97, 98] : List Int)).length ((([97, 98] : List Int)).map (Value.int .u8)), row 5 1 (.slice at4_0 (t4.1).length ct4_0) (t4.1).length ((t4.1).map (Value.int .u8)), R]) HS))) rfl rfl rfl ?_
      rintro _ w ⟨at13_0, ct13_0, rfl, HS⟩
      replace HS := Sep.St.tailOpen (m := [row 5 1 (.slice at13_0 (t13.1).length ct13_0) (t13.1).length ((t13.1).map (Value.int .u8)), pipe_Pipe.at bt1_0 (t13.2)]) (r := [fsl 1 (.slice (some ⟨lb8, 0, none⟩) (([97, 98] : List Int)).length 2) (([97, 98] : List Int)).length ((([97, 98] : List Int)).map (Value.int .u8)), row 5 1 (.slice at4_0 (t4.1).length ct4_0) (t4.1).length ((t4.1).map (Value.int .u8)), R]) HS
      have HS : Sep.St [row 5 1 (.slice at13_0 (t13.1).length ct13_0) (t13.1).length ((t13.1).map (Value.int .u8)), pipe_Pipe.at bt1_0 (t13.2), fsl 1 (.slice (some ⟨lb8, 0, none⟩) (([97, 98] : List Int)).length 2) (([97, 98] : List Int)).length ((([97, 98] : List Int)).map (Value.int .u8)), row 5 1 (.slice at4_0 (t4.1).length ct4_0) (t4.1).length ((t4.1).map (Value.int .u8)), R] w0 w := HS
      refine W.want 20 rfl (sb (decide_eq_true c12)) ?_
      refine W.rd (X.bytesStr Try.underlying27 Try.underlying5 Try.underlying9 rfl (rdC.at 0 row_rd HS rfl)) rfl rfl rfl ?_
      refine W.want 20 rfl (sb (decide_eq_true c12)) ?_
      refine W.rd (X.eqStr (a := t13.1) (b := ([97] : List Int)) rfl rfl) rfl rfl rfl ?_
      refine W.rd (X.pickT (sb (decide_eq_true c12)) rfl) rfl rfl rfl ?_
      refine W.rd (X.assign rfl) rfl rfl rfl ?_
      refine W.nil ?_
      refine At.next ?_
      refine V.keep [(0, Value.bool (sEq (t13.1) (([97] : List Int))))] ⟨rfl, trivial⟩ ?_
      refine V.ret ?_
      replace HS := HS.sel [4] [0, 1, 2, 3] (by kernel_rfl)
      cases H
      exact At.ret1 rfl rfl ⟨_, rfl, rfl, HS⟩
    · replace H := ite_f c12 H
      refine W.pass 20 rfl (sb (decide_eq_false c12)) rfl rfl ?_
      refine W.pass 20 rfl (sb (decide_eq_false c12)) rfl rfl ?_
      refine W.pass 20 rfl (sb (decide_eq_false c12)) rfl rfl ?_
      refine W.pass 20 rfl (sb (decide_eq_false c12)) rfl rfl ?_
      refine W.rd (X.pickF (sb (decide_eq_false c12)) rfl) rfl rfl rfl ?_
      refine W.rd (X.assign rfl) rfl rfl rfl ?_
      refine W.nil ?_
      refine At.next ?_
      refine V.keep [(0, Value.bool (false))] ⟨rfl, trivial⟩ ?_
      refine V.ret ?_
      replace HS := HS.sel [3] [0, 1, 2] (by kernel_rfl)
      cases H
      exact At.ret1 rfl rfl ⟨_, rfl, rfl, HS⟩
  · replace H := ite_f c11 H
    refine W.pass 16 rfl (sb (decide_eq_false c11)) rfl rfl ?_
    refine W.pass 16 rfl (sb (decide_eq_false c11)) rfl rfl ?_
    refine W.rd (X.pickF (sb (decide_eq_false c11)) rfl) rfl rfl rfl ?_
    refine W.rd (X.move rfl) rfl rfl rfl ?_
    refine W.pass 20 rfl rfl rfl rfl ?_
    refine W.pass 20 rfl rfl rfl rfl ?_
    refine W.pass 20 rfl rfl rfl rfl ?_
    refine W.pass 20 rfl rfl rfl rfl ?_
    refine W.rd (X.pickF rfl rfl) rfl rfl rfl ?_
    refine W.rd (X.assign rfl) rfl rfl rfl ?_
    refine W.nil ?_
    refine At.next ?_
    refine V.keep [(0, Value.bool (false))] ⟨rfl, trivial⟩ ?_
    refine V.ret ?_
    replace HS := HS.sel [3] [0, 1, 2] (by kernel_rfl)
    cases H
    exact At.ret1 rfl rfl ⟨_, rfl, rfl, HS⟩

/-! ### (*signalman/pipe.Pipe).Len: function 10 -/
def pipe_Pipe_Len.f (a0 : pipe_Pipe) : Option (Int) := some ((((a0).b).length : Int))
set_option maxRecDepth 100000 in
set_option maxHeartbeats 4000000 in
theorem pipe_Pipe_Len.calls (a0 : pipe_Pipe) (R : As) (w0 w : World) (b0 : Nat) (a1_p0 : Option Addr) (c1_p0 : Nat) (r : Int)  (H : pipe_Pipe_Len.f a0 = some r) (HS : Sep.St [blk b0 (#[Value.int .i64 ((a0).room), Value.slice a1_p0 ((a0).b).length c1_p0, Value.bool ((a0).cut), Value.bool ((a0).stall)]) 42, row 5 1 (.slice a1_p0 ((a0).b).length c1_p0) ((a0).b).length (((a0).b).map (Value.int .u8)), R] w0 w) : Calls Try.prog 10 #[Value.pointer (some ⟨b0, 0, none⟩)] w (Ret fun u w => u = Value.int .i64 (r) ∧ Sep.St [blk b0 (#[Value.int .i64 ((a0).room), Value.slice a1_p0 ((a0).b).length c1_p0, Value.bool ((a0).cut), Value.bool ((a0).stall)]) 42, row 5 1 (.slice a1_p0 ((a0).b).length c1_p0) ((a0).b).length (((a0).b).map (Value.int .u8)), R] w0 w) := by
  unfold pipe_Pipe_Len.f at H
  refine calls_enter Try.func10 rfl rfl ?_
  have H : _ = some r := H
  refine V.seq ?_
  refine V.region ?_
  refine W.rd (X.assign rfl) rfl rfl rfl ?_
  refine W.nil ?_
  refine At.next ?_
  refine V.keep [(0, Value.pointer (some ⟨b0, 0, none⟩))] ⟨rfl, trivial⟩ ?_
  refine V.seq ?_
  refine V.region ?_
  refine W.rd (X.move rfl) rfl rfl rfl ?_
  refine W.rd (X.nilCheck rfl) rfl rfl rfl ?_
  refine W.rd (X.fieldAddr 1 fo42_1 rfl) rfl rfl rfl ?_
  refine W.rd (X.loadAt 0 HS rfl Try.underlying27 rfl rfl rfl) rfl rfl rfl ?_
  refine W.rd (X.lenSl Try.underlying27 rfl) rfl rfl rfl ?_
  refine W.rd (X.assign rfl) rfl rfl rfl ?_
  refine W.nil ?_
  refine At.next ?_
  refine V.keep [(2, Value.int .i64 ((((a0).b).length : Int)))] ⟨rfl, trivial⟩ ?_
  refine V.ret ?_
  cases H
  exact At.ret1 rfl rfl ⟨_, rfl, rfl, HS⟩

/-! ### signalman/signalmanlaw8.PipeKeeps: function 3 -/
mutual
def signalmanlaw8_PipeKeeps.l1 : Nat → Int → (List (List Int)) → (List Int) → (List Int) → (List Int) → Int → pipe_Pipe → Option (Bool)
  | 0, _, _, _, _, _, _, _ => none
  | k + 1, a0, a1, a2, x10, x11, x12, x13 => (if x12 < ((a1).length : Int) then (if 0 ≤ x12 ∧ x12 < ((a1).length : Int) then (if (((a1).getD (x12).toNat []).length : Int) > 200 then some (true) else ((pipe_Pipe_Put.f x13 ((a1).getD (x12).toNat [])).bind fun t27 => (if t27.1 < 0 then some (false) else (if t27.1 > (((a1).getD (x12).toNat []).length : Int) then some (false) else (if t27.1 < (((a1).getD (x12).toNat []).length : Int) then ((pipe_Pipe_Len.f t27.2).bind fun t35 => (if t35 = a0 then (if 0 ≤ (0 : Int) ∧ (0 : Int) ≤ t27.1 ∧ t27.1 ≤ (((a1).getD (x12).toNat []).length : Int) then (if ((x10).length : Int) + (cut ((a1).getD (x12).toNat []) (0 : Int) t27.1).length ≤ 1099511627776 then (if 0 ≤ x12 ∧ x12 < ((a2).length : Int) then ((pipe_Pipe_Take.f t27.2 ((a2).getD (x12).toNat 0)).bind fun t43 => (if ((x11).length : Int) + (t43.1).length ≤ 1099511627776 then ((pipe_Pipe_Len.f t43.2).bind fun t49 => (if t49 > a0 then some (false) else ((pipe_Pipe_Len.f t43.2).bind fun t52 => (if (w64 (((x11 ++ t43.1).length : Int) + t52)) = ((x10 ++ (cut ((a1).getD (x12).toNat []) (0 : Int) t27.1)).length : Int) then (signalmanlaw8_PipeKeeps.l1 k a0 a1 a2 (x10 ++ (cut ((a1).getD (x12).toNat []) (0 : Int) t27.1)) (x11 ++ t43.1) (w64 (x12 + 1)) t43.2) else some (false))))) else none)) else none) else none) else none) else some (false))) else (if 0 ≤ (0 : Int) ∧ (0 : Int) ≤ t27.1 ∧ t27.1 ≤ (((a1).getD (x12).toNat []).length : Int) then (if ((x10).length : Int) + (cut ((a1).getD (x12).toNat []) (0 : Int) t27.1).length ≤ 1099511627776 then (if 0 ≤ x12 ∧ x12 < ((a2).length : Int) then ((pipe_Pipe_Take.f t27.2 ((a2).getD (x12).toNat 0)).bind fun t60 => (if ((x11).length : Int) + (t60.1).length ≤ 1099511627776 then ((pipe_Pipe_Len.f t60.2).bind fun t66 => (if t66 > a0 then some (false) else ((pipe_Pipe_Len.f t60.2).bind fun t69 => (if (w64 (((x11 ++ t60.1).length : Int) + t69)) = ((x10 ++ (cut ((a1).getD (x12).toNat []) (0 : Int) t27.1)).length : Int) then (signalmanlaw8_PipeKeeps.l1 k a0 a1 a2 (x10 ++ (cut ((a1).getD (x12).toNat []) (0 : Int) t27.1)) (x11 ++ t60.1) (w64 (x12 + 1)) t60.2) else some (false))))) else none)) else none) else none) else none)))))) else none) else ((pipe_Pipe_Take.f x13 1000).bind fun t72 => (if ((x11).length : Int) + (t72.1).length ≤ 1099511627776 then some (sEq (x11 ++ t72.1) (x10)) else none)))
def signalmanlaw8_PipeKeeps.j0 (k : Nat) (a0 : Int) (a1 : List (List Int)) (a2 : List Int) (t1 : Bool) (x4 : Bool) : Option (Bool) := (if x4 = true then some (t1) else ((pipe_New.f a0).bind fun t7 => (signalmanlaw8_PipeKeeps.l1 k a0 a1 a2 ([] : List Int) ([] : List Int) 0 t7)))
end
def signalmanlaw8_PipeKeeps.f (k : Nat) (a0 : Int) (a1 : List (List Int)) (a2 : List Int) : Option (Bool) := ((signalmanlaw8_alive.f ).bind fun t1 => (if t1 = true then (if a0 < 0 then (signalmanlaw8_PipeKeeps.j0 k a0 a1 a2 t1 true) else (if a0 > 1000 then (signalmanlaw8_PipeKeeps.j0 k a0 a1 a2 t1 true) else (if ((a1).length : Int) > 30 then (signalmanlaw8_PipeKeeps.j0 k a0 a1 a2 t1 true) else (signalmanlaw8_PipeKeeps.j0 k a0 a1 a2 t1 (decide (((a2).length : Int) < ((a1).length : Int))))))) else (signalmanlaw8_PipeKeeps.j0 k a0 a1 a2 t1 true)))
set_option maxRecDepth 100000 in
set_option maxHeartbeats 4000000 in
theorem signalmanlaw8_PipeKeeps.calls (k : Nat) (a0 : Int) (a1 : List (List Int)) (a2 : List Int) (R : As) (w0 w : World) (sa1 : Option Addr) (sc1 : Nat) (sd1 : List Value) (sa2 : Option Addr) (sc2 : Nat) (r : Bool) (hr1 : rdC R 1 (.slice sa1 (a1).length sc1) (a1).length sd1) (ht1 : ∀ h, R h → tie (El.sl (El.int .u8)) sd1 a1 h) (hr2 : rdC R 1 (.slice sa2 (a2).length sc2) (a2).length ((a2).map (Value.int .i64))) (H : signalmanlaw8_PipeKeeps.f k a0 a1 a2 = some r) (HS : Sep.St [R] w0 w) : Calls Try.prog 3 #[Value.int .i64 (a0), Value.slice sa1 (a1).length sc1, Value.slice sa2 (a2).length sc2] w (Ret fun u w => u = Value.bool (r) ∧ Sep.St [R] w0 w) := by
  unfold signalmanlaw8_PipeKeeps.f at H
  refine calls_enter Try.func3 rfl rfl ?_
  have H : _ = some r := H
  replace HS := St.more 0 HS rfl ht1 tie.pers
  have HS : Sep.St [tie (El.sl (El.int .u8)) sd1 (a1), R] w0 w := HS
  refine V.seq ?_
  refine V.region ?_
  refine W.rd (X.assign rfl) rfl rfl rfl ?_
  refine W.nil ?_
  refine At.next ?_
  refine V.keep [(0, Value.int .i64 (a0)), (1, Value.slice sa1 (a1).length sc1), (2, Value.slice sa2 (a2).length sc2)] ⟨rfl, rfl, rfl, trivial⟩ ?_
  refine V.seq ?_
  refine V.region ?_
  obtain ⟨t1, A2, H⟩ := bind_s H
  refine W.ev (Y.call Try.func7 (by kernel_rfl) rfl (vs := []) rfl (signalmanlaw8_alive.calls  _ w0 _  t1  A2 (Sep.St.tailJoin (m := []) (r := [tie (El.sl (El.int .u8)) sd1 (a1), R]) HS))) rfl rfl rfl ?_
  rintro _ w ⟨rfl, HS⟩
  replace HS := Sep.St.tailOpen (m := []) (r := [tie (El.sl (El.int .u8)) sd1 (a1), R]) HS
  have HS : Sep.St [tie (El.sl (El.int .u8)) sd1 (a1), R] w0 w := HS
  refine W.rd (X.assign rfl) rfl rfl rfl ?_
  refine W.nil ?_
  refine At.next ?_
  refine V.keep [(0, Value.int .i64 (a0)), (1, Value.slice sa1 (a1).length sc1), (2, Value.slice sa2 (a2).length sc2), (7, Value.bool (t1))] ⟨rfl, rfl, rfl, rfl, trivial⟩ ?_
  refine V.seq ?_
  refine V.meet (σ := Bool) (fun st w => match st with | x4 => Sep.St [tie (El.sl (El.int .u8)) sd1 (a1), R] w0 w ∧ ∃ kf5, kf5 ≤ k ∧ signalmanlaw8_PipeKeeps.j0 kf5 a0 a1 a2 t1 x4 = some r) (fun st => match st with | x4 => [(0, Value.int .i64 (a0)), (1, Value.slice sa1 (a1).length sc1), (2, Value.slice sa2 (a2).length sc2), (7, Value.bool (t1)), (35, Value.bool (x4))]) ?_ ?_
  · refine V.region ?_
    refine W.rd (X.move rfl) rfl rfl rfl ?_
    refine W.rd (X.not rfl) rfl rfl rfl ?_
    refine W.rd (X.move rfl) rfl rfl rfl ?_
    by_cases c75 : t1 = true
    · replace H := ite_t c75 H
      refine W.want 16 rfl (sb (n_t c75)) ?_
      refine W.rd (X.move rfl) rfl rfl rfl ?_
      refine W.want 16 rfl (sb (n_t c75)) ?_
      refine W.rd (X.cmp (decide (a0 < 0)) rfl rfl rfl rfl) rfl rfl rfl ?_
      refine W.rd (X.pickF (sb (n_t c75)) rfl) rfl rfl rfl ?_
      refine W.rd (X.move rfl) rfl rfl rfl ?_
      by_cases c76 : a0 < 0
      · replace H := ite_t c76 H
        refine W.pass 20 rfl (sb (decide_eq_true c76)) rfl rfl ?_
        refine W.pass 20 rfl (sb (decide_eq_true c76)) rfl rfl ?_
        refine W.rd (X.pickT (sb (decide_eq_true c76)) rfl) rfl rfl rfl ?_
        refine W.rd (X.move rfl) rfl rfl rfl ?_
        refine W.pass 24 rfl rfl rfl rfl ?_
        refine W.pass 24 rfl rfl rfl rfl ?_
        refine W.pass 24 rfl rfl rfl rfl ?_
        refine W.rd (X.pickT rfl rfl) rfl rfl rfl ?_
        refine W.rd (X.move rfl) rfl rfl rfl ?_
        refine W.pass 29 rfl rfl rfl rfl ?_
        refine W.pass 29 rfl rfl rfl rfl ?_
        refine W.pass 29 rfl rfl rfl rfl ?_
        refine W.pass 29 rfl rfl rfl rfl ?_
        refine W.pass 29 rfl rfl rfl rfl ?_
        refine W.rd (X.pickT rfl rfl) rfl rfl rfl ?_
        refine W.nil ?_
        exact At.meet (true) ⟨rfl, rfl, rfl, rfl, rfl, trivial⟩ ⟨HS, k, by omega, H⟩
      · replace H := ite_f c76 H
        refine W.want 20 rfl (sb (decide_eq_false c76)) ?_
        refine W.rd (X.move rfl) rfl rfl rfl ?_
        refine W.want 20 rfl (sb (decide_eq_false c76)) ?_
        refine W.rd (X.cmp (decide (a0 > 1000)) rfl rfl rfl rfl) rfl rfl rfl ?_
        refine W.rd (X.pickF (sb (decide_eq_false c76)) rfl) rfl rfl rfl ?_
        refine W.rd (X.move rfl) rfl rfl rfl ?_
        by_cases c77 : a0 > 1000
        · replace H := ite_t c77 H
          refine W.pass 24 rfl (sb (decide_eq_true c77)) rfl rfl ?_
          refine W.pass 24 rfl (sb (decide_eq_true c77)) rfl rfl ?_
          refine W.pass 24 rfl (sb (decide_eq_true c77)) rfl rfl ?_
          refine W.rd (X.pickT (sb (decide_eq_true c77)) rfl) rfl rfl rfl ?_
          refine W.rd (X.move rfl) rfl rfl rfl ?_
          refine W.pass 29 rfl rfl rfl rfl ?_
          refine W.pass 29 rfl rfl rfl rfl ?_
          refine W.pass 29 rfl rfl rfl rfl ?_
          refine W.pass 29 rfl rfl rfl rfl ?_
          refine W.pass 29 rfl rfl rfl rfl ?_
          refine W.rd (X.pickT rfl rfl) rfl rfl rfl ?_
          refine W.nil ?_
          exact At.meet (true) ⟨rfl, rfl, rfl, rfl, rfl, trivial⟩ ⟨HS, k, by omega, H⟩
        · replace H := ite_f c77 H
          refine W.want 24 rfl (sb (decide_eq_false c77)) ?_
          refine W.rd (X.move rfl) rfl rfl rfl ?_
          refine W.want 24 rfl (sb (decide_eq_false c77)) ?_
          refine W.rd (X.lenSl Try.underlying22 rfl) rfl rfl rfl ?_
          refine W.want 24 rfl (sb (decide_eq_false c77)) ?_
          refine W.rd (X.cmp (decide (((a1).length : Int) > 30)) rfl rfl rfl rfl) rfl rfl rfl ?_
          refine W.rd (X.pickF (sb (decide_eq_false c77)) rfl) rfl rfl rfl ?_
          refine W.rd (X.move rfl) rfl rfl rfl ?_
          by_cases c78 : ((a1).length : Int) > 30
          · replace H := ite_t c78 H
            refine W.pass 29 rfl (sb (decide_eq_true c78)) rfl rfl ?_
            refine W.pass 29 rfl (sb (decide_eq_true c78)) rfl rfl ?_
            refine W.pass 29 rfl (sb (decide_eq_true c78)) rfl rfl ?_
            refine W.pass 29 rfl (sb (decide_eq_true c78)) rfl rfl ?_
            refine W.pass 29 rfl (sb (decide_eq_true c78)) rfl rfl ?_
            refine W.rd (X.pickT (sb (decide_eq_true c78)) rfl) rfl rfl rfl ?_
            refine W.nil ?_
            exact At.meet (true) ⟨rfl, rfl, rfl, rfl, rfl, trivial⟩ ⟨HS, k, by omega, H⟩
          · replace H := ite_f c78 H
            refine W.want 29 rfl (sb (decide_eq_false c78)) ?_
            refine W.rd (X.move rfl) rfl rfl rfl ?_
            refine W.want 29 rfl (sb (decide_eq_false c78)) ?_
            refine W.rd (X.lenSl Try.underlying23 rfl) rfl rfl rfl ?_
            refine W.want 29 rfl (sb (decide_eq_false c78)) ?_
            refine W.rd (X.move rfl) rfl rfl rfl ?_
            refine W.want 29 rfl (sb (decide_eq_false c78)) ?_
            refine W.rd (X.lenSl Try.underlying22 rfl) rfl rfl rfl ?_
            refine W.want 29 rfl (sb (decide_eq_false c78)) ?_
            refine W.rd (X.cmp (decide (((a2).length : Int) < ((a1).length : Int))) rfl rfl rfl rfl) rfl rfl rfl ?_
            refine W.rd (X.pickF (sb (decide_eq_false c78)) rfl) rfl rfl rfl ?_
            refine W.nil ?_
            exact At.meet (decide (((a2).length : Int) < ((a1).length : Int))) ⟨rfl, rfl, rfl, rfl, rfl, trivial⟩ ⟨HS, k, by omega, H⟩
    · replace H := ite_f c75 H
      refine W.pass 16 rfl (sb (n_f (b_f c75))) rfl rfl ?_
      refine W.pass 16 rfl (sb (n_f (b_f c75))) rfl rfl ?_
      refine W.rd (X.pickT (sb (n_f (b_f c75))) rfl) rfl rfl rfl ?_
      refine W.rd (X.move rfl) rfl rfl rfl ?_
      refine W.pass 20 rfl rfl rfl rfl ?_
      refine W.pass 20 rfl rfl rfl rfl ?_
      refine W.rd (X.pickT rfl rfl) rfl rfl rfl ?_
      refine W.rd (X.move rfl) rfl rfl rfl ?_
      refine W.pass 24 rfl rfl rfl rfl ?_
      refine W.pass 24 rfl rfl rfl rfl ?_
      refine W.pass 24 rfl rfl rfl rfl ?_
      refine W.rd (X.pickT rfl rfl) rfl rfl rfl ?_
      refine W.rd (X.move rfl) rfl rfl rfl ?_
      refine W.pass 29 rfl rfl rfl rfl ?_
      refine W.pass 29 rfl rfl rfl rfl ?_
      refine W.pass 29 rfl rfl rfl rfl ?_
      refine W.pass 29 rfl rfl rfl rfl ?_
      refine W.pass 29 rfl rfl rfl rfl ?_
      refine W.rd (X.pickT rfl rfl) rfl rfl rfl ?_
      refine W.nil ?_
      exact At.meet (true) ⟨rfl, rfl, rfl, rfl, rfl, trivial⟩ ⟨HS, k, by omega, H⟩
  · rintro x4 w ⟨HS, kf5, hkkf5, H⟩
    unfold signalmanlaw8_PipeKeeps.j0 at H
    have HS : Sep.St [tie (El.sl (El.int .u8)) sd1 (a1), R] w0 w := HS
    by_cases c6 : x4 = true
    · replace H := ite_t c6 H
      refine V.condT (sb c6) ?_
      refine V.seq ?_
      refine V.region ?_
      refine W.rd (X.move rfl) rfl rfl rfl ?_
      refine W.rd (X.assign rfl) rfl rfl rfl ?_
      refine W.nil ?_
      refine At.next ?_
      refine V.keep [(6, Value.bool (t1))] ⟨rfl, trivial⟩ ?_
      refine V.ret ?_
      refine At.thenRet ?_
      replace HS := HS.sel [1] [0] (by kernel_rfl)
      cases H
      exact At.ret1 rfl rfl ⟨_, rfl, rfl, HS⟩
    · replace H := ite_f c6 H
      refine V.condF (sb (b_f c6)) ?_
      refine V.skip ?_
      refine At.next ?_
      refine V.keep [(0, Value.int .i64 (a0)), (1, Value.slice sa1 (a1).length sc1), (2, Value.slice sa2 (a2).length sc2)] ⟨rfl, rfl, rfl, trivial⟩ ?_
      refine V.seq ?_
      refine V.region ?_
      refine W.rd (X.move rfl) rfl rfl rfl ?_
      obtain ⟨t7, A8, H⟩ := bind_s H
      refine W.ev (Y.call Try.func8 (by kernel_rfl) rfl (vs := [Value.int .i64 (a0)]) rfl (pipe_New.calls a0 _ w0 _  t7  A8 (Sep.St.tailJoin (m := []) (r := [tie (El.sl (El.int .u8)) sd1 (a1), R]) HS))) rfl rfl rfl ?_
      rintro _ w ⟨bt7_0, rfl, HS⟩
      replace HS := Sep.St.tailOpen (m := [pipe_Pipe.at bt7_0 (t7)]) (r := [tie (El.sl (El.int .u8)) sd1 (a1), R]) HS
      have HS : Sep.St [pipe_Pipe.at bt7_0 (t7), tie (El.sl (El.int .u8)) sd1 (a1), R] w0 w := HS
      refine W.rd (X.assign rfl) rfl rfl rfl ?_
      refine W.nil ?_
      refine At.next ?_
      refine V.keep [(0, Value.int .i64 (a0)), (1, Value.slice sa1 (a1).length sc1), (2, Value.slice sa2 (a2).length sc2), (8, Value.pointer (some ⟨bt7_0, 0, none⟩))] ⟨rfl, rfl, rfl, rfl, trivial⟩ ?_
      refine V.seq ?_
      refine V.region ?_
      refine W.rd (X.assign rfl) rfl rfl rfl ?_
      refine W.nil ?_
      refine At.next ?_
      refine V.keep [(0, Value.int .i64 (a0)), (1, Value.slice sa1 (a1).length sc1), (2, Value.slice sa2 (a2).length sc2), (8, Value.pointer (some ⟨bt7_0, 0, none⟩)), (9, Value.string (strOf (([] : List Int))))] ⟨rfl, rfl, rfl, rfl, rfl, trivial⟩ ?_
      refine V.seq ?_
      refine V.region ?_
      refine W.rd (X.assign rfl) rfl rfl rfl ?_
      refine W.nil ?_
      refine At.next ?_
      refine V.keep [(0, Value.int .i64 (a0)), (1, Value.slice sa1 (a1).length sc1), (2, Value.slice sa2 (a2).length sc2), (8, Value.pointer (some ⟨bt7_0, 0, none⟩)), (9, Value.string (strOf (([] : List Int)))), (10, Value.string (strOf (([] : List Int))))] ⟨rfl, rfl, rfl, rfl, rfl, rfl, trivial⟩ ?_
      refine V.seq ?_
      refine V.seq ?_
      refine V.region ?_
      refine W.rd (X.assign rfl) rfl rfl rfl ?_
      refine W.nil ?_
      refine At.next ?_
      refine V.keep [(0, Value.int .i64 (a0)), (1, Value.slice sa1 (a1).length sc1), (2, Value.slice sa2 (a2).length sc2), (8, Value.pointer (some ⟨bt7_0, 0, none⟩)), (9, Value.string (strOf (([] : List Int)))), (10, Value.string (strOf (([] : List Int)))), (11, Value.int .i64 (0))] ⟨rfl, rfl, rfl, rfl, rfl, rfl, rfl, trivial⟩ ?_
      refine V.block ?_
      refine V.loop (σ := List Int × List Int × Int × pipe_Pipe) (fun kq (st : List Int × List Int × Int × pipe_Pipe) w => match st with | (x10, x11, x12, x13) => Sep.St [pipe_Pipe.at bt7_0 (x13), tie (El.sl (El.int .u8)) sd1 (a1), R] w0 w ∧ signalmanlaw8_PipeKeeps.l1 kq a0 a1 a2 x10 x11 x12 x13 = some r ∧ kq ≤ kf5) (fun st => match st with | (x10, x11, x12, x13) => [(0, Value.int .i64 (a0)), (1, Value.slice sa1 (a1).length sc1), (2, Value.slice sa2 (a2).length sc2), (8, Value.pointer (some ⟨bt7_0, 0, none⟩)), (9, Value.string (strOf (x10))), (10, Value.string (strOf (x11))), (11, Value.int .i64 (x12))]) kf5 (([] : List Int), ([] : List Int), 0, t7) ⟨rfl, rfl, rfl, rfl, rfl, rfl, rfl, trivial⟩ ⟨HS, H, Nat.le_refl _⟩ ?_
      rintro kq14 ⟨x10, x11, x12, x13⟩ w ⟨HS, H, hk15⟩
      cases kq14 with
      | zero => exact absurd H (by simp [signalmanlaw8_PipeKeeps.l1])
      | succ kq14 =>
        simp only [signalmanlaw8_PipeKeeps.l1] at H
        have HS : Sep.St [pipe_Pipe.at bt7_0 (x13), tie (El.sl (El.int .u8)) sd1 (a1), R] w0 w := HS
        refine V.seq ?_
        refine V.seq ?_
        refine V.region ?_
        refine W.rd (X.move rfl) rfl rfl rfl ?_
        refine W.rd (X.move rfl) rfl rfl rfl ?_
        refine W.rd (X.lenSl Try.underlying22 rfl) rfl rfl rfl ?_
        refine W.rd (X.cmp (decide (x12 < ((a1).length : Int))) rfl rfl rfl rfl) rfl rfl rfl ?_
        refine W.nil ?_
        refine At.next ?_
        refine V.keep [(0, Value.int .i64 (a0)), (1, Value.slice sa1 (a1).length sc1), (2, Value.slice sa2 (a2).length sc2), (8, Value.pointer (some ⟨bt7_0, 0, none⟩)), (9, Value.string (strOf (x10))), (10, Value.string (strOf (x11))), (11, Value.int .i64 (x12)), (42, Value.bool (decide (x12 < ((a1).length : Int))))] ⟨rfl, rfl, rfl, rfl, rfl, rfl, rfl, rfl, trivial⟩ ?_
        by_cases c16 : x12 < ((a1).length : Int)
        · replace H := ite_t c16 H
          refine V.condT (sb (decide_eq_true c16)) ?_
          refine V.skip ?_
          refine At.next ?_
          refine V.keep [(0, Value.int .i64 (a0)), (1, Value.slice sa1 (a1).length sc1), (2, Value.slice sa2 (a2).length sc2), (8, Value.pointer (some ⟨bt7_0, 0, none⟩)), (9, Value.string (strOf (x10))), (10, Value.string (strOf (x11))), (11, Value.int .i64 (x12))] ⟨rfl, rfl, rfl, rfl, rfl, rfl, rfl, trivial⟩ ?_
          refine V.seq ?_
          refine V.block ?_
          refine V.seq ?_
          refine V.seq ?_
          refine V.region ?_
          refine W.rd (X.move rfl) rfl rfl rfl ?_
          refine W.rd (X.move rfl) rfl rfl rfl ?_
          obtain ⟨c17, H⟩ := ite_n H
          obtain ⟨eb18, eo19, hh⟩ := ((rdC.at 2 hr1 HS rfl)).some (by decide) c17.1 c17.2; subst hh
          refine W.rd (X.indexSl Try.underlying22 inf27 rfl rfl c17.1 c17.2) rfl rfl rfl ?_
          obtain ⟨ec20, hc21, HS⟩ := St.tie_at 1 HS rfl ([]) c17.1 c17.2
          obtain ⟨ea22, em23, he25, HN⟩ := St.sl_openF (Value.int .u8) (fun t => tie_int t) HS; clear HS; subst he25; have HS := HN
          have HS : Sep.St [fsl 1 (.slice ea22 ((a1).getD (x12).toNat []).length em23) ((a1).getD (x12).toNat []).length (((a1).getD (x12).toNat []).map (Value.int .u8)), pipe_Pipe.at bt7_0 (x13), tie (El.sl (El.int .u8)) sd1 (a1), R] w0 w := HS
          refine W.rd (X.load Try.underlying27 rfl rfl (((rdC.at 3 hr1 HS rfl)).cellEl0 (hc21 0 _ rfl))) rfl rfl rfl ?_
          refine W.rd (X.lenSl Try.underlying27 rfl) rfl rfl rfl ?_
          refine W.rd (X.cmp (decide ((((a1).getD (x12).toNat []).length : Int) > 200)) rfl rfl rfl rfl) rfl rfl rfl ?_
          refine W.nil ?_
          refine At.next ?_
          refine V.keep [(0, Value.int .i64 (a0)), (1, Value.slice (some ⟨eb18, eo19, none⟩) (a1).length sc1), (2, Value.slice sa2 (a2).length sc2), (8, Value.pointer (some ⟨bt7_0, 0, none⟩)), (9, Value.string (strOf (x10))), (10, Value.string (strOf (x11))), (11, Value.int .i64 (x12)), (50, Value.bool (decide ((((a1).getD (x12).toNat []).length : Int) > 200)))] ⟨rfl, rfl, rfl, rfl, rfl, rfl, rfl, rfl, trivial⟩ ?_
          by_cases c26 : (((a1).getD (x12).toNat []).length : Int) > 200
          · replace H := ite_t c26 H
            refine V.condT (sb (decide_eq_true c26)) ?_
            refine V.seq ?_
            refine V.region ?_
            refine W.rd (X.assign rfl) rfl rfl rfl ?_
            refine W.nil ?_
            refine At.next ?_
            refine V.keep [(6, Value.bool (true))] ⟨rfl, trivial⟩ ?_
            refine V.ret ?_
            refine At.thenRet ?_
            refine At.blockRet ?_
            refine At.thenRet ?_
            refine At.thenRet ?_
            refine At.blockRet ?_
            refine At.thenRet ?_
            replace HS := HS.sel [3] [0, 1, 2] (by kernel_rfl)
            cases H
            exact At.ret1 rfl rfl ⟨_, rfl, rfl, HS⟩
          · replace H := ite_f c26 H
            refine V.condF (sb (decide_eq_false c26)) ?_
            refine V.skip ?_
            refine At.next ?_
            refine V.keep [(0, Value.int .i64 (a0)), (1, Value.slice (some ⟨eb18, eo19, none⟩) (a1).length sc1), (2, Value.slice sa2 (a2).length sc2), (8, Value.pointer (some ⟨bt7_0, 0, none⟩)), (9, Value.string (strOf (x10))), (10, Value.string (strOf (x11))), (11, Value.int .i64 (x12))] ⟨rfl, rfl, rfl, rfl, rfl, rfl, rfl, trivial⟩ ?_
            refine V.seq ?_
            refine V.region ?_
            refine W.rd (X.move rfl) rfl rfl rfl ?_
            refine W.rd (X.move rfl) rfl rfl rfl ?_
            refine W.rd (X.move rfl) rfl rfl rfl ?_
            refine W.rd (X.indexSl Try.underlying22 inf27 rfl rfl c17.1 c17.2) rfl rfl rfl ?_
            refine W.rd (X.load Try.underlying27 rfl rfl (((rdC.at 3 hr1 HS rfl)).cellEl0 (hc21 0 _ rfl))) rfl rfl rfl ?_
            obtain ⟨t27, A28, H⟩ := bind_s H
            replace HS := HS.re [1, 0, 2, 3] (by kernel_rfl)
            have HS : Sep.St [pipe_Pipe.at bt7_0 (x13), fsl 1 (.slice ea22 ((a1).getD (x12).toNat []).length em23) ((a1).getD (x12).toNat []).length (((a1).getD (x12).toNat []).map (Value.int .u8)), tie (El.sl (El.int .u8)) sd1 (a1), R] w0 w := HS
            refine W.ev (Y.call Try.func9 (by kernel_rfl) rfl (vs := [Value.pointer (some ⟨bt7_0, 0, none⟩), Value.slice ea22 ((a1).getD (x12).toNat []).length em23]) rfl (pipe_Pipe_Put.calls x13 ((a1).getD (x12).toNat []) _ w0 _ bt7_0 ea22 em23 t27 (rdC.part 0 fsl.rd rfl) A28 (Sep.St.tailJoin (m := [pipe_Pipe.at bt7_0 (x13)]) (r := [fsl 1 (.slice ea22 ((a1).getD (x12).toNat []).length em23) ((a1).getD (x12).toNat []).length (((a1).getD (x12).toNat []).map (Value.int .u8)), tie (El.sl (El.int .u8)) sd1 (a1), R]) HS))) rfl rfl rfl ?_
            rintro _ w ⟨rfl, HS⟩
            replace HS := Sep.St.tailOpen (m := [pipe_Pipe.at bt7_0 (t27.2)]) (r := [fsl 1 (.slice ea22 ((a1).getD (x12).toNat []).length em23) ((a1).getD (x12).toNat []).length (((a1).getD (x12).toNat []).map (Value.int .u8)), tie (El.sl (El.int .u8)) sd1 (a1), R]) HS
            have HS : Sep.St [pipe_Pipe.at bt7_0 (t27.2), fsl 1 (.slice ea22 ((a1).getD (x12).toNat []).length em23) ((a1).getD (x12).toNat []).length (((a1).getD (x12).toNat []).map (Value.int .u8)), tie (El.sl (El.int .u8)) sd1 (a1), R] w0 w := HS
            refine W.rd (X.assign rfl) rfl rfl rfl ?_
            refine W.nil ?_
            refine At.next ?_
            refine V.keep [(0, Value.int .i64 (a0)), (1, Value.slice (some ⟨eb18, eo19, none⟩) (a1).length sc1), (2, Value.slice sa2 (a2).length sc2), (8, Value.pointer (some ⟨bt7_0, 0, none⟩)), (9, Value.string (strOf (x10))), (10, Value.string (strOf (x11))), (11, Value.int .i64 (x12)), (12, Value.int .i64 (t27.1))] ⟨rfl, rfl, rfl, rfl, rfl, rfl, rfl, rfl, trivial⟩ ?_
            refine V.seq ?_
            refine V.seq ?_
            refine V.region ?_
            refine W.rd (X.move rfl) rfl rfl rfl ?_
            refine W.rd (X.cmp (decide (t27.1 < 0)) rfl rfl rfl rfl) rfl rfl rfl ?_
            refine W.rd (X.move rfl) rfl rfl rfl ?_
            by_cases c30 : t27.1 < 0
            · replace H := ite_t c30 H
              refine W.pass 59 rfl (sb (decide_eq_true c30)) rfl rfl ?_
              refine W.pass 59 rfl (sb (decide_eq_true c30)) rfl rfl ?_
              refine W.pass 59 rfl (sb (decide_eq_true c30)) rfl rfl ?_
              refine W.pass 59 rfl (sb (decide_eq_true c30)) rfl rfl ?_
              refine W.pass 59 rfl (sb (decide_eq_true c30)) rfl rfl ?_
              refine W.pass 59 rfl (sb (decide_eq_true c30)) rfl rfl ?_
              refine W.pass 59 rfl (sb (decide_eq_true c30)) rfl rfl ?_
              refine W.rd (X.pickT (sb (decide_eq_true c30)) rfl) rfl rfl rfl ?_
              refine W.rd (X.move rfl) rfl rfl rfl ?_
              refine W.pass 68 rfl rfl rfl rfl ?_
              refine W.pass 68 rfl rfl rfl rfl ?_
              refine W.pass 68 rfl rfl rfl rfl ?_
              refine W.pass 68 rfl rfl rfl rfl ?_
              refine W.pass 68 rfl rfl rfl rfl ?_
              refine W.pass 68 rfl rfl rfl rfl ?_
              refine W.pass 68 rfl rfl rfl rfl ?_
              refine W.pass 68 rfl rfl rfl rfl ?_
              refine W.passU 76 rfl rfl rfl ?_
              refine W.passU 76 rfl rfl rfl ?_
              refine W.passU 76 rfl rfl rfl ?_
              refine W.passU 76 rfl rfl rfl ?_
              refine W.pass 68 rfl rfl rfl rfl ?_
              refine W.rd (X.pickT rfl rfl) rfl rfl rfl ?_
              refine W.nil ?_
              refine At.next ?_
              refine V.keep [(0, Value.int .i64 (a0)), (1, Value.slice (some ⟨eb18, eo19, none⟩) (a1).length sc1), (2, Value.slice sa2 (a2).length sc2), (8, Value.pointer (some ⟨bt7_0, 0, none⟩)), (9, Value.string (strOf (x10))), (10, Value.string (strOf (x11))), (11, Value.int .i64 (x12)), (12, Value.int .i64 (t27.1)), (60, undef), (61, undef), (62, undef), (63, undef), (64, undef), (65, undef), (66, undef), (69, undef), (70, undef), (71, undef), (72, undef), (73, undef), (74, undef), (75, undef), (76, undef), (77, undef), (78, undef), (79, undef), (80, undef), (81, undef), (82, Value.bool (true))] ⟨rfl, rfl, rfl, rfl, rfl, rfl, rfl, rfl, rfl, rfl, rfl, rfl, rfl, rfl, rfl, rfl, rfl, rfl, rfl, rfl, rfl, rfl, rfl, rfl, rfl, rfl, rfl, rfl, rfl, trivial⟩ ?_
              refine V.condT rfl ?_
              refine V.seq ?_
              refine V.region ?_
              refine W.rd (X.assign rfl) rfl rfl rfl ?_
              refine W.nil ?_
              refine At.next ?_
              refine V.keep [(6, Value.bool (false))] ⟨rfl, trivial⟩ ?_
              refine V.ret ?_
              refine At.thenRet ?_
              refine At.blockRet ?_
              refine At.thenRet ?_
              refine At.thenRet ?_
              refine At.blockRet ?_
              refine At.thenRet ?_
              replace HS := HS.sel [3] [0, 1, 2] (by kernel_rfl)
              cases H
              exact At.ret1 rfl rfl ⟨_, rfl, rfl, HS⟩
            · replace H := ite_f c30 H
              refine W.want 59 rfl (sb (decide_eq_false c30)) ?_
              refine W.rd (X.move rfl) rfl rfl rfl ?_
              refine W.want 59 rfl (sb (decide_eq_false c30)) ?_
              refine W.rd (X.move rfl) rfl rfl rfl ?_
              refine W.want 59 rfl (sb (decide_eq_false c30)) ?_
              refine W.rd (X.move rfl) rfl rfl rfl ?_
              refine W.want 59 rfl (sb (decide_eq_false c30)) ?_
              refine W.rd (X.indexSl Try.underlying22 inf27 rfl rfl c17.1 c17.2) rfl rfl rfl ?_
              refine W.want 59 rfl (sb (decide_eq_false c30)) ?_
              refine W.rd (X.load Try.underlying27 rfl rfl (((rdC.at 3 hr1 HS rfl)).cellEl0 (hc21 0 _ rfl))) rfl rfl rfl ?_
              refine W.want 59 rfl (sb (decide_eq_false c30)) ?_
              refine W.rd (X.lenSl Try.underlying27 rfl) rfl rfl rfl ?_
              refine W.want 59 rfl (sb (decide_eq_false c30)) ?_
              refine W.rd (X.cmp (decide (t27.1 > (((a1).getD (x12).toNat []).length : Int))) rfl rfl rfl rfl) rfl rfl rfl ?_
              refine W.rd (X.pickF (sb (decide_eq_false c30)) rfl) rfl rfl rfl ?_
              refine W.rd (X.move rfl) rfl rfl rfl ?_
              by_cases c31 : t27.1 > (((a1).getD (x12).toNat []).length : Int)
              · replace H := ite_t c31 H
                refine W.pass 68 rfl (sb (decide_eq_true c31)) rfl rfl ?_
                refine W.pass 68 rfl (sb (decide_eq_true c31)) rfl rfl ?_
                refine W.pass 68 rfl (sb (decide_eq_true c31)) rfl rfl ?_
                refine W.pass 68 rfl (sb (decide_eq_true c31)) rfl rfl ?_
                refine W.pass 68 rfl (sb (decide_eq_true c31)) rfl rfl ?_
                refine W.pass 68 rfl (sb (decide_eq_true c31)) rfl rfl ?_
                refine W.pass 68 rfl (sb (decide_eq_true c31)) rfl rfl ?_
                refine W.pass 68 rfl (sb (decide_eq_true c31)) rfl rfl ?_
                refine W.passU 76 rfl rfl rfl ?_
                refine W.passU 76 rfl rfl rfl ?_
                refine W.passU 76 rfl rfl rfl ?_
                refine W.passU 76 rfl rfl rfl ?_
                refine W.pass 68 rfl (sb (decide_eq_true c31)) rfl rfl ?_
                refine W.rd (X.pickT (sb (decide_eq_true c31)) rfl) rfl rfl rfl ?_
                refine W.nil ?_
                refine At.next ?_
                refine V.keep [(0, Value.int .i64 (a0)), (1, Value.slice (some ⟨eb18, eo19, none⟩) (a1).length sc1), (2, Value.slice sa2 (a2).length sc2), (8, Value.pointer (some ⟨bt7_0, 0, none⟩)), (9, Value.string (strOf (x10))), (10, Value.string (strOf (x11))), (11, Value.int .i64 (x12)), (12, Value.int .i64 (t27.1)), (60, Value.int .i64 (t27.1)), (61, Value.slice (some ⟨eb18, eo19, none⟩) (a1).length sc1), (62, Value.int .i64 (x12)), (63, Value.pointer (some ⟨eb18, eo19 + (x12).toNat * 1, none⟩)), (64, Value.slice ea22 ((a1).getD (x12).toNat []).length em23), (65, Value.int .i64 ((((a1).getD (x12).toNat []).length : Int))), (66, Value.bool (decide (t27.1 > (((a1).getD (x12).toNat []).length : Int)))), (69, undef), (70, undef), (71, undef), (72, undef), (73, undef), (74, undef), (75, undef), (76, undef), (77, undef), (78, undef), (79, undef), (80, undef), (81, undef), (82, Value.bool (true))] ⟨rfl, rfl, rfl, rfl, rfl, rfl, rfl, rfl, rfl, rfl, rfl, rfl, rfl, rfl, rfl, rfl, rfl, rfl, rfl, rfl, rfl, rfl, rfl, rfl, rfl, rfl, rfl, rfl, rfl, trivial⟩ ?_
                refine V.condT rfl ?_
                refine V.seq ?_
                refine V.region ?_
                refine W.rd (X.assign rfl) rfl rfl rfl ?_
                refine W.nil ?_
                refine At.next ?_
                refine V.keep [(6, Value.bool (false))] ⟨rfl, trivial⟩ ?_
                refine V.ret ?_
                refine At.thenRet ?_
                refine At.blockRet ?_
                refine At.thenRet ?_
                refine At.thenRet ?_
                refine At.blockRet ?_
                refine At.thenRet ?_
                replace HS := HS.sel [3] [0, 1, 2] (by kernel_rfl)
                cases H
                exact At.ret1 rfl rfl ⟨_, rfl, rfl, HS⟩
              · replace H := ite_f c31 H
                refine W.want 68 rfl (sb (decide_eq_false c31)) ?_
                refine W.rd (X.move rfl) rfl rfl rfl ?_
                refine W.want 68 rfl (sb (decide_eq_false c31)) ?_
                refine W.rd (X.move rfl) rfl rfl rfl ?_
                refine W.want 68 rfl (sb (decide_eq_false c31)) ?_
                refine W.rd (X.move rfl) rfl rfl rfl ?_
                refine W.want 68 rfl (sb (decide_eq_false c31)) ?_
                refine W.rd (X.indexSl Try.underlying22 inf27 rfl rfl c17.1 c17.2) rfl rfl rfl ?_
                refine W.want 68 rfl (sb (decide_eq_false c31)) ?_
                refine W.rd (X.load Try.underlying27 rfl rfl (((rdC.at 3 hr1 HS rfl)).cellEl0 (hc21 0 _ rfl))) rfl rfl rfl ?_
                refine W.want 68 rfl (sb (decide_eq_false c31)) ?_
                refine W.rd (X.lenSl Try.underlying27 rfl) rfl rfl rfl ?_
                refine W.want 68 rfl (sb (decide_eq_false c31)) ?_
                refine W.rd (X.cmp (decide (t27.1 < (((a1).getD (x12).toNat []).length : Int))) rfl rfl rfl rfl) rfl rfl rfl ?_
                refine W.want 68 rfl (sb (decide_eq_false c31)) ?_
                refine W.rd (X.move rfl) rfl rfl rfl ?_
                by_cases c32 : t27.1 < (((a1).getD (x12).toNat []).length : Int)
                · replace H := ite_t c32 H
                  refine W.want 76 rfl (sb (decide_eq_true c32)) ?_
                  refine W.rd (X.move rfl) rfl rfl rfl ?_
                  refine W.want 76 rfl (sb (decide_eq_true c32)) ?_
                  obtain ⟨a1_33, c1_33, hi34, HS⟩ := pipe_Pipe.open HS
                  have HS : Sep.St [blk bt7_0 (#[Value.int .i64 ((t27.2).room), Value.slice a1_33 ((t27.2).b).length c1_33, Value.bool ((t27.2).cut), Value.bool ((t27.2).stall)]) 42, row 5 1 (.slice a1_33 ((t27.2).b).length c1_33) ((t27.2).b).length (((t27.2).b).map (Value.int .u8)), fsl 1 (.slice ea22 ((a1).getD (x12).toNat []).length em23) ((a1).getD (x12).toNat []).length (((a1).getD (x12).toNat []).map (Value.int .u8)), tie (El.sl (El.int .u8)) sd1 (a1), R] w0 w := HS
                  obtain ⟨t35, A36, H⟩ := bind_s H
                  refine W.ev (Y.call Try.func10 (by kernel_rfl) rfl (vs := [Value.pointer (some ⟨bt7_0, 0, none⟩)]) rfl (pipe_Pipe_Len.calls t27.2 _ w0 _ bt7_0 a1_33 c1_33 t35  A36 (Sep.St.tailJoin (m := [blk bt7_0 (#[Value.int .i64 ((t27.2).room), Value.slice a1_33 ((t27.2).b).length c1_33, Value.bool ((t27.2).cut), Value.bool ((t27.2).stall)]) 42, row 5 1 (.slice a1_33 ((t27.2).b).length c1_33) ((t27.2).b).length (((t27.2).b).map (Value.int .u8))]) (r := [fsl 1 (.slice ea22 ((a1).getD (x12).toNat []).length em23) ((a1).getD (x12).toNat []).length (((a1).getD (x12).toNat []).map (Value.int .u8)), tie (El.sl (El.int .u8)) sd1 (a1), R]) HS))) rfl rfl rfl ?_
                  rintro _ w ⟨rfl, HS⟩
                  replace HS := Sep.St.tailOpen (m := [blk bt7_0 (#[Value.int .i64 ((t27.2).room), Value.slice a1_33 ((t27.2).b).length c1_33, Value.bool ((t27.2).cut), Value.bool ((t27.2).stall)]) 42, row 5 1 (.slice a1_33 ((t27.2).b).length c1_33) ((t27.2).b).length (((t27.2).b).map (Value.int .u8))]) (r := [fsl 1 (.slice ea22 ((a1).getD (x12).toNat []).length em23) ((a1).getD (x12).toNat []).length (((a1).getD (x12).toNat []).map (Value.int .u8)), tie (El.sl (El.int .u8)) sd1 (a1), R]) HS
                  have HS : Sep.St [blk bt7_0 (#[Value.int .i64 ((t27.2).room), Value.slice a1_33 ((t27.2).b).length c1_33, Value.bool ((t27.2).cut), Value.bool ((t27.2).stall)]) 42, row 5 1 (.slice a1_33 ((t27.2).b).length c1_33) ((t27.2).b).length (((t27.2).b).map (Value.int .u8)), fsl 1 (.slice ea22 ((a1).getD (x12).toNat []).length em23) ((a1).getD (x12).toNat []).length (((a1).getD (x12).toNat []).map (Value.int .u8)), tie (El.sl (El.int .u8)) sd1 (a1), R] w0 w := HS
                  refine W.want 76 rfl (sb (decide_eq_true c32)) ?_
                  refine W.rd (X.move rfl) rfl rfl rfl ?_
                  refine W.want 76 rfl (sb (decide_eq_true c32)) ?_
                  refine W.rd (X.cmp (!(decide (t35 = a0))) rfl rfl rfl rfl) rfl rfl rfl ?_
                  refine W.want 68 rfl (sb (decide_eq_false c31)) ?_
                  refine W.rd (X.pickT (sb (decide_eq_true c32)) rfl) rfl rfl rfl ?_
                  refine W.rd (X.pickF (sb (decide_eq_false c31)) rfl) rfl rfl rfl ?_
                  refine W.nil ?_
                  refine At.next ?_
                  refine V.keep [(0, Value.int .i64 (a0)), (1, Value.slice (some ⟨eb18, eo19, none⟩) (a1).length sc1), (2, Value.slice sa2 (a2).length sc2), (8, Value.pointer (some ⟨bt7_0, 0, none⟩)), (9, Value.string (strOf (x10))), (10, Value.string (strOf (x11))), (11, Value.int .i64 (x12)), (12, Value.int .i64 (t27.1)), (60, Value.int .i64 (t27.1)), (61, Value.slice (some ⟨eb18, eo19, none⟩) (a1).length sc1), (62, Value.int .i64 (x12)), (63, Value.pointer (some ⟨eb18, eo19 + (x12).toNat * 1, none⟩)), (64, Value.slice ea22 ((a1).getD (x12).toNat []).length em23), (65, Value.int .i64 ((((a1).getD (x12).toNat []).length : Int))), (66, Value.bool (decide (t27.1 > (((a1).getD (x12).toNat []).length : Int)))), (69, Value.int .i64 (t27.1)), (70, Value.slice (some ⟨eb18, eo19, none⟩) (a1).length sc1), (71, Value.int .i64 (x12)), (72, Value.pointer (some ⟨eb18, eo19 + (x12).toNat * 1, none⟩)), (73, Value.slice ea22 ((a1).getD (x12).toNat []).length em23), (74, Value.int .i64 ((((a1).getD (x12).toNat []).length : Int))), (75, Value.bool (decide (t27.1 < (((a1).getD (x12).toNat []).length : Int)))), (76, Value.bool (decide (t27.1 < (((a1).getD (x12).toNat []).length : Int)))), (77, Value.pointer (some ⟨bt7_0, 0, none⟩)), (78, Value.int .i64 (t35)), (79, Value.int .i64 (a0)), (80, Value.bool (!(decide (t35 = a0)))), (81, Value.bool (!(decide (t35 = a0)))), (82, Value.bool (!(decide (t35 = a0))))] ⟨rfl, rfl, rfl, rfl, rfl, rfl, rfl, rfl, rfl, rfl, rfl, rfl, rfl, rfl, rfl, rfl, rfl, rfl, rfl, rfl, rfl, rfl, rfl, rfl, rfl, rfl, rfl, rfl, rfl, trivial⟩ ?_
                  by_cases c37 : t35 = a0
                  · replace H := ite_t c37 H
                    refine V.condF (sb (n_t (decide_eq_true c37))) ?_
                    refine V.skip ?_
                    refine At.next ?_
                    refine V.keep [(0, Value.int .i64 (a0)), (1, Value.slice (some ⟨eb18, eo19, none⟩) (a1).length sc1), (2, Value.slice sa2 (a2).length sc2), (8, Value.pointer (some ⟨bt7_0, 0, none⟩)), (9, Value.string (strOf (x10))), (10, Value.string (strOf (x11))), (11, Value.int .i64 (x12)), (12, Value.int .i64 (t27.1)), (60, Value.int .i64 (t27.1)), (61, Value.slice (some ⟨eb18, eo19, none⟩) (a1).length sc1), (62, Value.int .i64 (x12)), (63, Value.pointer (some ⟨eb18, eo19 + (x12).toNat * 1, none⟩)), (64, Value.slice ea22 ((a1).getD (x12).toNat []).length em23), (65, Value.int .i64 ((((a1).getD (x12).toNat []).length : Int))), (66, Value.bool (decide (t27.1 > (((a1).getD (x12).toNat []).length : Int)))), (69, Value.int .i64 (t27.1)), (70, Value.slice (some ⟨eb18, eo19, none⟩) (a1).length sc1), (71, Value.int .i64 (x12)), (72, Value.pointer (some ⟨eb18, eo19 + (x12).toNat * 1, none⟩)), (73, Value.slice ea22 ((a1).getD (x12).toNat []).length em23), (74, Value.int .i64 ((((a1).getD (x12).toNat []).length : Int))), (75, Value.bool (decide (t27.1 < (((a1).getD (x12).toNat []).length : Int)))), (76, Value.bool (decide (t27.1 < (((a1).getD (x12).toNat []).length : Int)))), (77, Value.pointer (some ⟨bt7_0, 0, none⟩)), (78, Value.int .i64 (t35)), (79, Value.int .i64 (a0)), (80, Value.bool (!(decide (t35 = a0)))), (81, Value.bool (!(decide (t35 = a0))))] ⟨rfl, rfl, rfl, rfl, rfl, rfl, rfl, rfl, rfl, rfl, rfl, rfl, rfl, rfl, rfl, rfl, rfl, rfl, rfl, rfl, rfl, rfl, rfl, rfl, rfl, rfl, rfl, rfl, trivial⟩ ?_
                    refine V.seq ?_
                    refine V.region ?_
                    refine W.rd (X.move rfl) rfl rfl rfl ?_
                    refine W.rd (X.move rfl) rfl rfl rfl ?_
                    refine W.rd (X.move rfl) rfl rfl rfl ?_
                    refine W.rd (X.indexSl Try.underlying22 inf27 rfl rfl c17.1 c17.2) rfl rfl rfl ?_
                    refine W.rd (X.load Try.underlying27 rfl rfl (((rdC.at 4 hr1 HS rfl)).cellEl0 (hc21 0 _ rfl))) rfl rfl rfl ?_
                    refine W.rd (X.move rfl) rfl rfl rfl ?_
                    obtain ⟨c38, H⟩ := ite_n H
                    refine W.rd (X.slH Try.underlying27 inf5 rfl rfl c38 ((rdC.at 2 fsl.rd HS rfl)).cap) rfl rfl rfl ?_
                    refine W.rd (X.bytesStr Try.underlying27 Try.underlying5 Try.underlying9 rfl (rdC.at 2 (rdC.subM fsl.rd c38) HS rfl)) rfl rfl rfl ?_
                    obtain ⟨c39, H⟩ := ite_n H
                    refine W.rd (X.catStr (a := x10) (b := cut ((a1).getD (x12).toNat []) (0 : Int) t27.1) rfl rfl c39) rfl rfl rfl ?_
                    refine W.rd (X.assign rfl) rfl rfl rfl ?_
                    refine W.nil ?_
                    refine At.next ?_
                    refine V.keep [(0, Value.int .i64 (a0)), (1, Value.slice (some ⟨eb18, eo19, none⟩) (a1).length sc1), (2, Value.slice sa2 (a2).length sc2), (8, Value.pointer (some ⟨bt7_0, 0, none⟩)), (9, Value.string (strOf (x10 ++ (cut ((a1).getD (x12).toNat []) (0 : Int) t27.1)))), (10, Value.string (strOf (x11))), (11, Value.int .i64 (x12)), (60, Value.int .i64 (t27.1)), (61, Value.slice (some ⟨eb18, eo19, none⟩) (a1).length sc1), (62, Value.int .i64 (x12)), (63, Value.pointer (some ⟨eb18, eo19 + (x12).toNat * 1, none⟩)), (64, Value.slice ea22 ((a1).getD (x12).toNat []).length em23), (65, Value.int .i64 ((((a1).getD (x12).toNat []).length : Int))), (66, Value.bool (decide (t27.1 > (((a1).getD (x12).toNat []).length : Int)))), (69, Value.int .i64 (t27.1)), (70, Value.slice (some ⟨eb18, eo19, none⟩) (a1).length sc1), (71, Value.int .i64 (x12)), (72, Value.pointer (some ⟨eb18, eo19 + (x12).toNat * 1, none⟩)), (73, Value.slice ea22 ((a1).getD (x12).toNat []).length em23), (74, Value.int .i64 ((((a1).getD (x12).toNat []).length : Int))), (75, Value.bool (decide (t27.1 < (((a1).getD (x12).toNat []).length : Int)))), (76, Value.bool (decide (t27.1 < (((a1).getD (x12).toNat []).length : Int)))), (77, Value.pointer (some ⟨bt7_0, 0, none⟩)), (78, Value.int .i64 (t35)), (79, Value.int .i64 (a0)), (80, Value.bool (!(decide (t35 = a0)))), (81, Value.bool (!(decide (t35 = a0))))] ⟨rfl, rfl, rfl, rfl, rfl, rfl, rfl, rfl, rfl, rfl, rfl, rfl, rfl, rfl, rfl, rfl, rfl, rfl, rfl, rfl, rfl, rfl, rfl, rfl, rfl, rfl, rfl, trivial⟩ ?_
                    refine V.seq ?_
                    refine V.region ?_
                    refine W.rd (X.move rfl) rfl rfl rfl ?_
                    refine W.rd (X.move rfl) rfl rfl rfl ?_
                    refine W.rd (X.move rfl) rfl rfl rfl ?_
                    refine W.rd (X.move rfl) rfl rfl rfl ?_
                    obtain ⟨c40, H⟩ := ite_n H
                    obtain ⟨eb41, eo42, hh⟩ := ((rdC.at 4 hr2 HS rfl)).some (by decide) c40.1 c40.2; subst hh
                    refine W.rd (X.indexSl Try.underlying23 inf3 rfl rfl c40.1 c40.2) rfl rfl rfl ?_
                    refine W.rd (X.load Try.underlying3 rfl rfl (((rdC.at 4 hr2 HS rfl)).cellI c40.1 c40.2)) rfl rfl rfl ?_
                    replace HS := pipe_Pipe.close (t27.2) trivial HS
                    have HS : Sep.St [pipe_Pipe.at bt7_0 (t27.2), fsl 1 (.slice ea22 ((a1).getD (x12).toNat []).length em23) ((a1).getD (x12).toNat []).length (((a1).getD (x12).toNat []).map (Value.int .u8)), tie (El.sl (El.int .u8)) sd1 (a1), R] w0 w := HS
                    obtain ⟨t43, A44, H⟩ := bind_s H
                    refine W.ev (Y.call Try.func11 (by kernel_rfl) rfl (vs := [Value.pointer (some ⟨bt7_0, 0, none⟩), Value.int .i64 ((a2).getD (x12).toNat 0)]) rfl (pipe_Pipe_Take.calls t27.2 ((a2).getD (x12).toNat 0) _ w0 _ bt7_0 t43  A44 (Sep.St.tailJoin (m := [pipe_Pipe.at bt7_0 (t27.2)]) (r := [fsl 1 (.slice ea22 ((a1).getD (x12).toNat []).length em23) ((a1).getD (x12).toNat []).length (((a1).getD (x12).toNat []).map (Value.int .u8)), tie (El.sl (El.int .u8)) sd1 (a1), R]) HS))) rfl rfl rfl ?_
                    rintro _ w ⟨at43_0, ct43_0, rfl, HS⟩
                    replace HS := Sep.St.tailOpen (m := [row 5 1 (.slice at43_0 (t43.1).length ct43_0) (t43.1).length ((t43.1).map (Value.int .u8)), pipe_Pipe.at bt7_0 (t43.2)]) (r := [fsl 1 (.slice ea22 ((a1).getD (x12).toNat []).length em23) ((a1).getD (x12).toNat []).length (((a1).getD (x12).toNat []).map (Value.int .u8)), tie (El.sl (El.int .u8)) sd1 (a1), R]) HS
                    have HS : Sep.St [row 5 1 (.slice at43_0 (t43.1).length ct43_0) (t43.1).length ((t43.1).map (Value.int .u8)), pipe_Pipe.at bt7_0 (t43.2), fsl 1 (.slice ea22 ((a1).getD (x12).toNat []).length em23) ((a1).getD (x12).toNat []).length (((a1).getD (x12).toNat []).map (Value.int .u8)), tie (El.sl (El.int .u8)) sd1 (a1), R] w0 w := HS
                    refine W.rd (X.bytesStr Try.underlying27 Try.underlying5 Try.underlying9 rfl (rdC.at 0 row_rd HS rfl)) rfl rfl rfl ?_
                    obtain ⟨c45, H⟩ := ite_n H
                    refine W.rd (X.catStr (a := x11) (b := t43.1) rfl rfl c45) rfl rfl rfl ?_
                    refine W.rd (X.assign rfl) rfl rfl rfl ?_
                    refine W.nil ?_
                    refine At.next ?_
                    refine V.keep [(0, Value.int .i64 (a0)), (1, Value.slice (some ⟨eb18, eo19, none⟩) (a1).length sc1), (2, Value.slice (some ⟨eb41, eo42, none⟩) (a2).length sc2), (8, Value.pointer (some ⟨bt7_0, 0, none⟩)), (9, Value.string (strOf (x10 ++ (cut ((a1).getD (x12).toNat []) (0 : Int) t27.1)))), (10, Value.string (strOf (x11 ++ t43.1))), (11, Value.int .i64 (x12)), (60, Value.int .i64 (t27.1)), (61, Value.slice (some ⟨eb18, eo19, none⟩) (a1).length sc1), (62, Value.int .i64 (x12)), (63, Value.pointer (some ⟨eb18, eo19 + (x12).toNat * 1, none⟩)), (64, Value.slice ea22 ((a1).getD (x12).toNat []).length em23), (65, Value.int .i64 ((((a1).getD (x12).toNat []).length : Int))), (66, Value.bool (decide (t27.1 > (((a1).getD (x12).toNat []).length : Int)))), (69, Value.int .i64 (t27.1)), (70, Value.slice (some ⟨eb18, eo19, none⟩) (a1).length sc1), (71, Value.int .i64 (x12)), (72, Value.pointer (some ⟨eb18, eo19 + (x12).toNat * 1, none⟩)), (73, Value.slice ea22 ((a1).getD (x12).toNat []).length em23), (74, Value.int .i64 ((((a1).getD (x12).toNat []).length : Int))), (75, Value.bool (decide (t27.1 < (((a1).getD (x12).toNat []).length : Int)))), (76, Value.bool (decide (t27.1 < (((a1).getD (x12).toNat []).length : Int)))), (77, Value.pointer (some ⟨bt7_0, 0, none⟩)), (78, Value.int .i64 (t35)), (79, Value.int .i64 (a0)), (80, Value.bool (!(decide (t35 = a0)))), (81, Value.bool (!(decide (t35 = a0))))] ⟨rfl, rfl, rfl, rfl, rfl, rfl, rfl, rfl, rfl, rfl, rfl, rfl, rfl, rfl, rfl, rfl, rfl, rfl, rfl, rfl, rfl, rfl, rfl, rfl, rfl, rfl, rfl, trivial⟩ ?_
                    refine V.seq ?_
                    refine V.region ?_
                    refine W.rd (X.move rfl) rfl rfl rfl ?_
                    replace HS := HS.front 1 rfl
                    have HS : Sep.St [pipe_Pipe.at bt7_0 (t43.2), row 5 1 (.slice at43_0 (t43.1).length ct43_0) (t43.1).length ((t43.1).map (Value.int .u8)), fsl 1 (.slice ea22 ((a1).getD (x12).toNat []).length em23) ((a1).getD (x12).toNat []).length (((a1).getD (x12).toNat []).map (Value.int .u8)), tie (El.sl (El.int .u8)) sd1 (a1), R] w0 w := HS
                    obtain ⟨a1_47, c1_47, hi48, HS⟩ := pipe_Pipe.open HS
                    have HS : Sep.St [blk bt7_0 (#[Value.int .i64 ((t43.2).room), Value.slice a1_47 ((t43.2).b).length c1_47, Value.bool ((t43.2).cut), Value.bool ((t43.2).stall)]) 42, row 5 1 (.slice a1_47 ((t43.2).b).length c1_47) ((t43.2).b).length (((t43.2).b).map (Value.int .u8)), row 5 1 (.slice at43_0 (t43.1).length ct43_0) (t43.1).length ((t43.1).map (Value.int .u8)), fsl 1 (.slice ea22 ((a1).getD (x12).toNat []).length em23) ((a1).getD (x12).toNat []).length (((a1).getD (x12).toNat []).map (Value.int .u8)), tie (El.sl (El.int .u8)) sd1 (a1), R] w0 w := HS
                    obtain ⟨t49, A50, H⟩ := bind_s H
                    refine W.ev (Y.call Try.func10 (by kernel_rfl) rfl (vs := [Value.pointer (some ⟨bt7_0, 0, none⟩)]) rfl (pipe_Pipe_Len.calls t43.2 _ w0 _ bt7_0 a1_47 c1_47 t49  A50 (Sep.St.tailJoin (m := [blk bt7_0 (#[Value.int .i64 ((t43.2).room), Value.slice a1_47 ((t43.2).b).length c1_47, Value.bool ((t43.2).cut), Value.bool ((t43.2).stall)]) 42, row 5 1 (.slice a1_47 ((t43.2).b).length c1_47) ((t43.2).b).length (((t43.2).b).map (Value.int .u8))]) (r := [row 5 1 (.slice at43_0 (t43.1).length ct43_0) (t43.1).length ((t43.1).map (Value.int .u8)), fsl 1 (.slice ea22 ((a1).getD (x12).toNat []).length em23) ((a1).getD (x12).toNat []).length (((a1).getD (x12).toNat []).map (Value.int .u8)), tie (El.sl (El.int .u8)) sd1 (a1), R]) HS))) rfl rfl rfl ?_
                    rintro _ w ⟨rfl, HS⟩
                    replace HS := Sep.St.tailOpen (m := [blk bt7_0 (#[Value.int .i64 ((t43.2).room), Value.slice a1_47 ((t43.2).b).length c1_47, Value.bool ((t43.2).cut), Value.bool ((t43.2).stall)]) 42, row 5 1 (.slice a1_47 ((t43.2).b).length c1_47) ((t43.2).b).length (((t43.2).b).map (Value.int .u8))]) (r := [row 5 1 (.slice at43_0 (t43.1).length ct43_0) (t43.1).length ((t43.1).map (Value.int .u8)), fsl 1 (.slice ea22 ((a1).getD (x12).toNat []).length em23) ((a1).getD (x12).toNat []).length (((a1).getD (x12).toNat []).map (Value.int .u8)), tie (El.sl (El.int .u8)) sd1 (a1), R]) HS
                    have HS : Sep.St [blk bt7_0 (#[Value.int .i64 ((t43.2).room), Value.slice a1_47 ((t43.2).b).length c1_47, Value.bool ((t43.2).cut), Value.bool ((t43.2).stall)]) 42, row 5 1 (.slice a1_47 ((t43.2).b).length c1_47) ((t43.2).b).length (((t43.2).b).map (Value.int .u8)), row 5 1 (.slice at43_0 (t43.1).length ct43_0) (t43.1).length ((t43.1).map (Value.int .u8)), fsl 1 (.slice ea22 ((a1).getD (x12).toNat []).length em23) ((a1).getD (x12).toNat []).length (((a1).getD (x12).toNat []).map (Value.int .u8)), tie (El.sl (El.int .u8)) sd1 (a1), R] w0 w := HS
                    refine W.rd (X.move rfl) rfl rfl rfl ?_
                    refine W.rd (X.cmp (decide (t49 > a0)) rfl rfl rfl rfl) rfl rfl rfl ?_
                    refine W.rd (X.move rfl) rfl rfl rfl ?_
                    by_cases c51 : t49 > a0
                    · replace H := ite_t c51 H
                      refine W.pass 105 rfl (sb (decide_eq_true c51)) rfl rfl ?_
                      refine W.pass 105 rfl (sb (decide_eq_true c51)) rfl rfl ?_
                      refine W.pass 105 rfl (sb (decide_eq_true c51)) rfl rfl ?_
                      refine W.pass 105 rfl (sb (decide_eq_true c51)) rfl rfl ?_
                      refine W.pass 105 rfl (sb (decide_eq_true c51)) rfl rfl ?_
                      refine W.pass 105 rfl (sb (decide_eq_true c51)) rfl rfl ?_
                      refine W.pass 105 rfl (sb (decide_eq_true c51)) rfl rfl ?_
                      refine W.pass 105 rfl (sb (decide_eq_true c51)) rfl rfl ?_
                      refine W.rd (X.pickT (sb (decide_eq_true c51)) rfl) rfl rfl rfl ?_
                      refine W.nil ?_
                      refine At.next ?_
                      refine V.keep [(0, Value.int .i64 (a0)), (1, Value.slice (some ⟨eb18, eo19, none⟩) (a1).length sc1), (2, Value.slice (some ⟨eb41, eo42, none⟩) (a2).length sc2), (8, Value.pointer (some ⟨bt7_0, 0, none⟩)), (9, Value.string (strOf (x10 ++ (cut ((a1).getD (x12).toNat []) (0 : Int) t27.1)))), (10, Value.string (strOf (x11 ++ t43.1))), (11, Value.int .i64 (x12)), (60, Value.int .i64 (t27.1)), (61, Value.slice (some ⟨eb18, eo19, none⟩) (a1).length sc1), (62, Value.int .i64 (x12)), (63, Value.pointer (some ⟨eb18, eo19 + (x12).toNat * 1, none⟩)), (64, Value.slice ea22 ((a1).getD (x12).toNat []).length em23), (65, Value.int .i64 ((((a1).getD (x12).toNat []).length : Int))), (66, Value.bool (decide (t27.1 > (((a1).getD (x12).toNat []).length : Int)))), (69, Value.int .i64 (t27.1)), (70, Value.slice (some ⟨eb18, eo19, none⟩) (a1).length sc1), (71, Value.int .i64 (x12)), (72, Value.pointer (some ⟨eb18, eo19 + (x12).toNat * 1, none⟩)), (73, Value.slice ea22 ((a1).getD (x12).toNat []).length em23), (74, Value.int .i64 ((((a1).getD (x12).toNat []).length : Int))), (75, Value.bool (decide (t27.1 < (((a1).getD (x12).toNat []).length : Int)))), (76, Value.bool (decide (t27.1 < (((a1).getD (x12).toNat []).length : Int)))), (77, Value.pointer (some ⟨bt7_0, 0, none⟩)), (78, Value.int .i64 (t35)), (79, Value.int .i64 (a0)), (80, Value.bool (!(decide (t35 = a0)))), (81, Value.bool (!(decide (t35 = a0)))), (106, undef), (107, undef), (108, undef), (109, undef), (110, undef), (111, undef), (112, undef), (113, undef), (114, Value.bool (true))] ⟨rfl, rfl, rfl, rfl, rfl, rfl, rfl, rfl, rfl, rfl, rfl, rfl, rfl, rfl, rfl, rfl, rfl, rfl, rfl, rfl, rfl, rfl, rfl, rfl, rfl, rfl, rfl, rfl, rfl, rfl, rfl, rfl, rfl, rfl, rfl, rfl, trivial⟩ ?_
                      refine V.condT rfl ?_
                      refine V.seq ?_
                      refine V.region ?_
                      refine W.rd (X.assign rfl) rfl rfl rfl ?_
                      refine W.nil ?_
                      refine At.next ?_
                      refine V.keep [(6, Value.bool (false))] ⟨rfl, trivial⟩ ?_
                      refine V.ret ?_
                      refine At.blockRet ?_
                      refine At.thenRet ?_
                      refine At.thenRet ?_
                      refine At.blockRet ?_
                      refine At.thenRet ?_
                      replace HS := HS.sel [5] [0, 1, 2, 3, 4] (by kernel_rfl)
                      cases H
                      exact At.ret1 rfl rfl ⟨_, rfl, rfl, HS⟩
                    · replace H := ite_f c51 H
                      refine W.want 105 rfl (sb (decide_eq_false c51)) ?_
                      refine W.rd (X.move rfl) rfl rfl rfl ?_
                      refine W.want 105 rfl (sb (decide_eq_false c51)) ?_
                      refine W.rd (X.lenStr Try.underlying9 rfl) rfl rfl rfl ?_
                      refine W.want 105 rfl (sb (decide_eq_false c51)) ?_
                      refine W.rd (X.move rfl) rfl rfl rfl ?_
                      refine W.want 105 rfl (sb (decide_eq_false c51)) ?_
                      obtain ⟨t52, A53, H⟩ := bind_s H
                      refine W.ev (Y.call Try.func10 (by kernel_rfl) rfl (vs := [Value.pointer (some ⟨bt7_0, 0, none⟩)]) rfl (pipe_Pipe_Len.calls t43.2 _ w0 _ bt7_0 a1_47 c1_47 t52  A53 (Sep.St.tailJoin (m := [blk bt7_0 (#[Value.int .i64 ((t43.2).room), Value.slice a1_47 ((t43.2).b).length c1_47, Value.bool ((t43.2).cut), Value.bool ((t43.2).stall)]) 42, row 5 1 (.slice a1_47 ((t43.2).b).length c1_47) ((t43.2).b).length (((t43.2).b).map (Value.int .u8))]) (r := [row 5 1 (.slice at43_0 (t43.1).length ct43_0) (t43.1).length ((t43.1).map (Value.int .u8)), fsl 1 (.slice ea22 ((a1).getD (x12).toNat []).length em23) ((a1).getD (x12).toNat []).length (((a1).getD (x12).toNat []).map (Value.int .u8)), tie (El.sl (El.int .u8)) sd1 (a1), R]) HS))) rfl rfl rfl ?_
                      rintro _ w ⟨rfl, HS⟩
                      replace HS := Sep.St.tailOpen (m := [blk bt7_0 (#[Value.int .i64 ((t43.2).room), Value.slice a1_47 ((t43.2).b).length c1_47, Value.bool ((t43.2).cut), Value.bool ((t43.2).stall)]) 42, row 5 1 (.slice a1_47 ((t43.2).b).length c1_47) ((t43.2).b).length (((t43.2).b).map (Value.int .u8))]) (r := [row 5 1 (.slice at43_0 (t43.1).length ct43_0) (t43.1).length ((t43.1).map (Value.int .u8)), fsl 1 (.slice ea22 ((a1).getD (x12).toNat []).length em23) ((a1).getD (x12).toNat []).length (((a1).getD (x12).toNat []).map (Value.int .u8)), tie (El.sl (El.int .u8)) sd1 (a1), R]) HS
                      have HS : Sep.St [blk bt7_0 (#[Value.int .i64 ((t43.2).room), Value.slice a1_47 ((t43.2).b).length c1_47, Value.bool ((t43.2).cut), Value.bool ((t43.2).stall)]) 42, row 5 1 (.slice a1_47 ((t43.2).b).length c1_47) ((t43.2).b).length (((t43.2).b).map (Value.int .u8)), row 5 1 (.slice at43_0 (t43.1).length ct43_0) (t43.1).length ((t43.1).map (Value.int .u8)), fsl 1 (.slice ea22 ((a1).getD (x12).toNat []).length em23) ((a1).getD (x12).toNat []).length (((a1).getD (x12).toNat []).map (Value.int .u8)), tie (El.sl (El.int .u8)) sd1 (a1), R] w0 w := HS
                      refine W.want 105 rfl (sb (decide_eq_false c51)) ?_
                      refine W.rd (X.add rfl rfl) rfl rfl rfl ?_
                      refine W.want 105 rfl (sb (decide_eq_false c51)) ?_
                      refine W.rd (X.move rfl) rfl rfl rfl ?_
                      refine W.want 105 rfl (sb (decide_eq_false c51)) ?_
                      refine W.rd (X.lenStr Try.underlying9 rfl) rfl rfl rfl ?_
                      refine W.want 105 rfl (sb (decide_eq_false c51)) ?_
                      refine W.rd (X.cmp (!(decide ((w64 (((x11 ++ t43.1).length : Int) + t52)) = ((x10 ++ (cut ((a1).getD (x12).toNat []) (0 : Int) t27.1)).length : Int)))) rfl rfl rfl rfl) rfl rfl rfl ?_
                      refine W.rd (X.pickF (sb (decide_eq_false c51)) rfl) rfl rfl rfl ?_
                      refine W.nil ?_
                      refine At.next ?_
                      refine V.keep [(0, Value.int .i64 (a0)), (1, Value.slice (some ⟨eb18, eo19, none⟩) (a1).length sc1), (2, Value.slice (some ⟨eb41, eo42, none⟩) (a2).length sc2), (8, Value.pointer (some ⟨bt7_0, 0, none⟩)), (9, Value.string (strOf (x10 ++ (cut ((a1).getD (x12).toNat []) (0 : Int) t27.1)))), (10, Value.string (strOf (x11 ++ t43.1))), (11, Value.int .i64 (x12)), (60, Value.int .i64 (t27.1)), (61, Value.slice (some ⟨eb18, eo19, none⟩) (a1).length sc1), (62, Value.int .i64 (x12)), (63, Value.pointer (some ⟨eb18, eo19 + (x12).toNat * 1, none⟩)), (64, Value.slice ea22 ((a1).getD (x12).toNat []).length em23), (65, Value.int .i64 ((((a1).getD (x12).toNat []).length : Int))), (66, Value.bool (decide (t27.1 > (((a1).getD (x12).toNat []).length : Int)))), (69, Value.int .i64 (t27.1)), (70, Value.slice (some ⟨eb18, eo19, none⟩) (a1).length sc1), (71, Value.int .i64 (x12)), (72, Value.pointer (some ⟨eb18, eo19 + (x12).toNat * 1, none⟩)), (73, Value.slice ea22 ((a1).getD (x12).toNat []).length em23), (74, Value.int .i64 ((((a1).getD (x12).toNat []).length : Int))), (75, Value.bool (decide (t27.1 < (((a1).getD (x12).toNat []).length : Int)))), (76, Value.bool (decide (t27.1 < (((a1).getD (x12).toNat []).length : Int)))), (77, Value.pointer (some ⟨bt7_0, 0, none⟩)), (78, Value.int .i64 (t35)), (79, Value.int .i64 (a0)), (80, Value.bool (!(decide (t35 = a0)))), (81, Value.bool (!(decide (t35 = a0)))), (106, Value.string (strOf (x11 ++ t43.1))), (107, Value.int .i64 (((x11 ++ t43.1).length : Int))), (108, Value.pointer (some ⟨bt7_0, 0, none⟩)), (109, Value.int .i64 (t52)), (110, Value.int .i64 (w64 (((x11 ++ t43.1).length : Int) + t52))), (111, Value.string (strOf (x10 ++ (cut ((a1).getD (x12).toNat []) (0 : Int) t27.1)))), (112, Value.int .i64 (((x10 ++ (cut ((a1).getD (x12).toNat []) (0 : Int) t27.1)).length : Int))), (113, Value.bool (!(decide ((w64 (((x11 ++ t43.1).length : Int) + t52)) = ((x10 ++ (cut ((a1).getD (x12).toNat []) (0 : Int) t27.1)).length : Int))))), (114, Value.bool (!(decide ((w64 (((x11 ++ t43.1).length : Int) + t52)) = ((x10 ++ (cut ((a1).getD (x12).toNat []) (0 : Int) t27.1)).length : Int)))))] ⟨rfl, rfl, rfl, rfl, rfl, rfl, rfl, rfl, rfl, rfl, rfl, rfl, rfl, rfl, rfl, rfl, rfl, rfl, rfl, rfl, rfl, rfl, rfl, rfl, rfl, rfl, rfl, rfl, rfl, rfl, rfl, rfl, rfl, rfl, rfl, rfl, trivial⟩ ?_
                      by_cases c54 : (w64 (((x11 ++ t43.1).length : Int) + t52)) = ((x10 ++ (cut ((a1).getD (x12).toNat []) (0 : Int) t27.1)).length : Int)
                      · replace H := ite_t c54 H
                        refine V.condF (sb (n_t (decide_eq_true c54))) ?_
                        refine V.skip ?_
                        refine At.blockEnd ?_
                        refine At.next ?_
                        refine V.keep [(0, Value.int .i64 (a0)), (1, Value.slice (some ⟨eb18, eo19, none⟩) (a1).length sc1), (2, Value.slice (some ⟨eb41, eo42, none⟩) (a2).length sc2), (8, Value.pointer (some ⟨bt7_0, 0, none⟩)), (9, Value.string (strOf (x10 ++ (cut ((a1).getD (x12).toNat []) (0 : Int) t27.1)))), (10, Value.string (strOf (x11 ++ t43.1))), (11, Value.int .i64 (x12)), (60, Value.int .i64 (t27.1)), (61, Value.slice (some ⟨eb18, eo19, none⟩) (a1).length sc1), (62, Value.int .i64 (x12)), (63, Value.pointer (some ⟨eb18, eo19 + (x12).toNat * 1, none⟩)), (64, Value.slice ea22 ((a1).getD (x12).toNat []).length em23), (65, Value.int .i64 ((((a1).getD (x12).toNat []).length : Int))), (66, Value.bool (decide (t27.1 > (((a1).getD (x12).toNat []).length : Int)))), (69, Value.int .i64 (t27.1)), (70, Value.slice (some ⟨eb18, eo19, none⟩) (a1).length sc1), (71, Value.int .i64 (x12)), (72, Value.pointer (some ⟨eb18, eo19 + (x12).toNat * 1, none⟩)), (73, Value.slice ea22 ((a1).getD (x12).toNat []).length em23), (74, Value.int .i64 ((((a1).getD (x12).toNat []).length : Int))), (75, Value.bool (decide (t27.1 < (((a1).getD (x12).toNat []).length : Int)))), (76, Value.bool (decide (t27.1 < (((a1).getD (x12).toNat []).length : Int)))), (77, Value.pointer (some ⟨bt7_0, 0, none⟩)), (78, Value.int .i64 (t35)), (79, Value.int .i64 (a0)), (80, Value.bool (!(decide (t35 = a0)))), (81, Value.bool (!(decide (t35 = a0)))), (106, Value.string (strOf (x11 ++ t43.1))), (107, Value.int .i64 (((x11 ++ t43.1).length : Int))), (108, Value.pointer (some ⟨bt7_0, 0, none⟩)), (109, Value.int .i64 (t52)), (110, Value.int .i64 (w64 (((x11 ++ t43.1).length : Int) + t52))), (111, Value.string (strOf (x10 ++ (cut ((a1).getD (x12).toNat []) (0 : Int) t27.1)))), (112, Value.int .i64 (((x10 ++ (cut ((a1).getD (x12).toNat []) (0 : Int) t27.1)).length : Int))), (113, Value.bool (!(decide ((w64 (((x11 ++ t43.1).length : Int) + t52)) = ((x10 ++ (cut ((a1).getD (x12).toNat []) (0 : Int) t27.1)).length : Int)))))] ⟨rfl, rfl, rfl, rfl, rfl, rfl, rfl, rfl, rfl, rfl, rfl, rfl, rfl, rfl, rfl, rfl, rfl, rfl, rfl, rfl, rfl, rfl, rfl, rfl, rfl, rfl, rfl, rfl, rfl, rfl, rfl, rfl, rfl, rfl, rfl, trivial⟩ ?_
                        refine V.region ?_
                        refine W.rd (X.move rfl) rfl rfl rfl ?_
                        refine W.rd (X.add rfl rfl) rfl rfl rfl ?_
                        refine W.rd (X.assign rfl) rfl rfl rfl ?_
                        refine W.nil ?_
                        replace HS := pipe_Pipe.close (t43.2) trivial HS
                        have HS : Sep.St [pipe_Pipe.at bt7_0 (t43.2), row 5 1 (.slice at43_0 (t43.1).length ct43_0) (t43.1).length ((t43.1).map (Value.int .u8)), fsl 1 (.slice ea22 ((a1).getD (x12).toNat []).length em23) ((a1).getD (x12).toNat []).length (((a1).getD (x12).toNat []).map (Value.int .u8)), tie (El.sl (El.int .u8)) sd1 (a1), R] w0 w := HS
                        replace HS := HS.sel [0, 3, 4] [1, 2] (by kernel_rfl)
                        exact At.round kq14 (by omega) (x10 ++ (cut ((a1).getD (x12).toNat []) (0 : Int) t27.1), x11 ++ t43.1, w64 (x12 + 1), t43.2) ⟨rfl, rfl, rfl, rfl, rfl, rfl, rfl, trivial⟩ ⟨HS, H, by omega⟩
                      · replace H := ite_f c54 H
                        refine V.condT (sb (n_f (decide_eq_false c54))) ?_
                        refine V.seq ?_
                        refine V.region ?_
                        refine W.rd (X.assign rfl) rfl rfl rfl ?_
                        refine W.nil ?_
                        refine At.next ?_
                        refine V.keep [(6, Value.bool (false))] ⟨rfl, trivial⟩ ?_
                        refine V.ret ?_
                        refine At.blockRet ?_
                        refine At.thenRet ?_
                        refine At.thenRet ?_
                        refine At.blockRet ?_
                        refine At.thenRet ?_
                        replace HS := HS.sel [5] [0, 1, 2, 3, 4] (by kernel_rfl)
                        cases H
                        exact At.ret1 rfl rfl ⟨_, rfl, rfl, HS⟩
                  · replace H := ite_f c37 H
                    refine V.condT (sb (n_f (decide_eq_false c37))) ?_
                    refine V.seq ?_
                    refine V.region ?_
                    refine W.rd (X.assign rfl) rfl rfl rfl ?_
                    refine W.nil ?_
                    refine At.next ?_
                    refine V.keep [(6, Value.bool (false))] ⟨rfl, trivial⟩ ?_
                    refine V.ret ?_
                    refine At.thenRet ?_
                    refine At.blockRet ?_
                    refine At.thenRet ?_
                    refine At.thenRet ?_
                    refine At.blockRet ?_
                    refine At.thenRet ?_
                    replace HS := HS.sel [4] [0, 1, 2, 3] (by kernel_rfl)
                    cases H
                    exact At.ret1 rfl rfl ⟨_, rfl, rfl, HS⟩
                · replace H := ite_f c32 H
                  refine W.pass 76 rfl (sb (decide_eq_false c32)) rfl rfl ?_
                  refine W.pass 76 rfl (sb (decide_eq_false c32)) rfl rfl ?_
                  refine W.pass 76 rfl (sb (decide_eq_false c32)) rfl rfl ?_
                  refine W.pass 76 rfl (sb (decide_eq_false c32)) rfl rfl ?_
                  refine W.want 68 rfl (sb (decide_eq_false c31)) ?_
                  refine W.rd (X.pickF (sb (decide_eq_false c32)) rfl) rfl rfl rfl ?_
                  refine W.rd (X.pickF (sb (decide_eq_false c31)) rfl) rfl rfl rfl ?_
                  refine W.nil ?_
                  refine At.next ?_
                  refine V.keep [(0, Value.int .i64 (a0)), (1, Value.slice (some ⟨eb18, eo19, none⟩) (a1).length sc1), (2, Value.slice sa2 (a2).length sc2), (8, Value.pointer (some ⟨bt7_0, 0, none⟩)), (9, Value.string (strOf (x10))), (10, Value.string (strOf (x11))), (11, Value.int .i64 (x12)), (12, Value.int .i64 (t27.1)), (60, Value.int .i64 (t27.1)), (61, Value.slice (some ⟨eb18, eo19, none⟩) (a1).length sc1), (62, Value.int .i64 (x12)), (63, Value.pointer (some ⟨eb18, eo19 + (x12).toNat * 1, none⟩)), (64, Value.slice ea22 ((a1).getD (x12).toNat []).length em23), (65, Value.int .i64 ((((a1).getD (x12).toNat []).length : Int))), (66, Value.bool (decide (t27.1 > (((a1).getD (x12).toNat []).length : Int)))), (69, Value.int .i64 (t27.1)), (70, Value.slice (some ⟨eb18, eo19, none⟩) (a1).length sc1), (71, Value.int .i64 (x12)), (72, Value.pointer (some ⟨eb18, eo19 + (x12).toNat * 1, none⟩)), (73, Value.slice ea22 ((a1).getD (x12).toNat []).length em23), (74, Value.int .i64 ((((a1).getD (x12).toNat []).length : Int))), (75, Value.bool (decide (t27.1 < (((a1).getD (x12).toNat []).length : Int)))), (76, Value.bool (decide (t27.1 < (((a1).getD (x12).toNat []).length : Int)))), (77, undef), (78, undef), (79, undef), (80, undef), (81, Value.bool (false)), (82, Value.bool (false))] ⟨rfl, rfl, rfl, rfl, rfl, rfl, rfl, rfl, rfl, rfl, rfl, rfl, rfl, rfl, rfl, rfl, rfl, rfl, rfl, rfl, rfl, rfl, rfl, rfl, rfl, rfl, rfl, rfl, rfl, trivial⟩ ?_
                  refine V.condF rfl ?_
                  refine V.skip ?_
                  refine At.next ?_
                  refine V.keep [(0, Value.int .i64 (a0)), (1, Value.slice (some ⟨eb18, eo19, none⟩) (a1).length sc1), (2, Value.slice sa2 (a2).length sc2), (8, Value.pointer (some ⟨bt7_0, 0, none⟩)), (9, Value.string (strOf (x10))), (10, Value.string (strOf (x11))), (11, Value.int .i64 (x12)), (12, Value.int .i64 (t27.1)), (60, Value.int .i64 (t27.1)), (61, Value.slice (some ⟨eb18, eo19, none⟩) (a1).length sc1), (62, Value.int .i64 (x12)), (63, Value.pointer (some ⟨eb18, eo19 + (x12).toNat * 1, none⟩)), (64, Value.slice ea22 ((a1).getD (x12).toNat []).length em23), (65, Value.int .i64 ((((a1).getD (x12).toNat []).length : Int))), (66, Value.bool (decide (t27.1 > (((a1).getD (x12).toNat []).length : Int)))), (69, Value.int .i64 (t27.1)), (70, Value.slice (some ⟨eb18, eo19, none⟩) (a1).length sc1), (71, Value.int .i64 (x12)), (72, Value.pointer (some ⟨eb18, eo19 + (x12).toNat * 1, none⟩)), (73, Value.slice ea22 ((a1).getD (x12).toNat []).length em23), (74, Value.int .i64 ((((a1).getD (x12).toNat []).length : Int))), (75, Value.bool (decide (t27.1 < (((a1).getD (x12).toNat []).length : Int)))), (76, Value.bool (decide (t27.1 < (((a1).getD (x12).toNat []).length : Int)))), (77, undef), (78, undef), (79, undef), (80, undef), (81, Value.bool (false))] ⟨rfl, rfl, rfl, rfl, rfl, rfl, rfl, rfl, rfl, rfl, rfl, rfl, rfl, rfl, rfl, rfl, rfl, rfl, rfl, rfl, rfl, rfl, rfl, rfl, rfl, rfl, rfl, rfl, trivial⟩ ?_
                  refine V.seq ?_
                  refine V.region ?_
                  refine W.rd (X.move rfl) rfl rfl rfl ?_
                  refine W.rd (X.move rfl) rfl rfl rfl ?_
                  refine W.rd (X.move rfl) rfl rfl rfl ?_
                  refine W.rd (X.indexSl Try.underlying22 inf27 rfl rfl c17.1 c17.2) rfl rfl rfl ?_
                  refine W.rd (X.load Try.underlying27 rfl rfl (((rdC.at 3 hr1 HS rfl)).cellEl0 (hc21 0 _ rfl))) rfl rfl rfl ?_
                  refine W.rd (X.move rfl) rfl rfl rfl ?_
                  obtain ⟨c55, H⟩ := ite_n H
                  refine W.rd (X.slH Try.underlying27 inf5 rfl rfl c55 ((rdC.at 1 fsl.rd HS rfl)).cap) rfl rfl rfl ?_
                  refine W.rd (X.bytesStr Try.underlying27 Try.underlying5 Try.underlying9 rfl (rdC.at 1 (rdC.subM fsl.rd c55) HS rfl)) rfl rfl rfl ?_
                  obtain ⟨c56, H⟩ := ite_n H
                  refine W.rd (X.catStr (a := x10) (b := cut ((a1).getD (x12).toNat []) (0 : Int) t27.1) rfl rfl c56) rfl rfl rfl ?_
                  refine W.rd (X.assign rfl) rfl rfl rfl ?_
                  refine W.nil ?_
                  refine At.next ?_
                  refine V.keep [(0, Value.int .i64 (a0)), (1, Value.slice (some ⟨eb18, eo19, none⟩) (a1).length sc1), (2, Value.slice sa2 (a2).length sc2), (8, Value.pointer (some ⟨bt7_0, 0, none⟩)), (9, Value.string (strOf (x10 ++ (cut ((a1).getD (x12).toNat []) (0 : Int) t27.1)))), (10, Value.string (strOf (x11))), (11, Value.int .i64 (x12)), (60, Value.int .i64 (t27.1)), (61, Value.slice (some ⟨eb18, eo19, none⟩) (a1).length sc1), (62, Value.int .i64 (x12)), (63, Value.pointer (some ⟨eb18, eo19 + (x12).toNat * 1, none⟩)), (64, Value.slice ea22 ((a1).getD (x12).toNat []).length em23), (65, Value.int .i64 ((((a1).getD (x12).toNat []).length : Int))), (66, Value.bool (decide (t27.1 > (((a1).getD (x12).toNat []).length : Int)))), (69, Value.int .i64 (t27.1)), (70, Value.slice (some ⟨eb18, eo19, none⟩) (a1).length sc1), (71, Value.int .i64 (x12)), (72, Value.pointer (some ⟨eb18, eo19 + (x12).toNat * 1, none⟩)), (73, Value.slice ea22 ((a1).getD (x12).toNat []).length em23), (74, Value.int .i64 ((((a1).getD (x12).toNat []).length : Int))), (75, Value.bool (decide (t27.1 < (((a1).getD (x12).toNat []).length : Int)))), (76, Value.bool (decide (t27.1 < (((a1).getD (x12).toNat []).length : Int)))), (77, undef), (78, undef), (79, undef), (80, undef), (81, Value.bool (false))] ⟨rfl, rfl, rfl, rfl, rfl, rfl, rfl, rfl, rfl, rfl, rfl, rfl, rfl, rfl, rfl, rfl, rfl, rfl, rfl, rfl, rfl, rfl, rfl, rfl, rfl, rfl, rfl, trivial⟩ ?_
                  refine V.seq ?_
                  refine V.region ?_
                  refine W.rd (X.move rfl) rfl rfl rfl ?_
                  refine W.rd (X.move rfl) rfl rfl rfl ?_
                  refine W.rd (X.move rfl) rfl rfl rfl ?_
                  refine W.rd (X.move rfl) rfl rfl rfl ?_
                  obtain ⟨c57, H⟩ := ite_n H
                  obtain ⟨eb58, eo59, hh⟩ := ((rdC.at 3 hr2 HS rfl)).some (by decide) c57.1 c57.2; subst hh
                  refine W.rd (X.indexSl Try.underlying23 inf3 rfl rfl c57.1 c57.2) rfl rfl rfl ?_
                  refine W.rd (X.load Try.underlying3 rfl rfl (((rdC.at 3 hr2 HS rfl)).cellI c57.1 c57.2)) rfl rfl rfl ?_
                  obtain ⟨t60, A61, H⟩ := bind_s H
                  refine W.ev (Y.call Try.func11 (by kernel_rfl) rfl (vs := [Value.pointer (some ⟨bt7_0, 0, none⟩), Value.int .i64 ((a2).getD (x12).toNat 0)]) rfl (pipe_Pipe_Take.calls t27.2 ((a2).getD (x12).toNat 0) _ w0 _ bt7_0 t60  A61 (Sep.St.tailJoin (m := [pipe_Pipe.at bt7_0 (t27.2)]) (r := [fsl 1 (.slice ea22 ((a1).getD (x12).toNat []).length em23) ((a1).getD (x12).toNat []).length (((a1).getD (x12).toNat []).map (Value.int .u8)), tie (El.sl (El.int .u8)) sd1 (a1), R]) HS))) rfl rfl rfl ?_
                  rintro _ w ⟨at60_0, ct60_0, rfl, HS⟩
                  replace HS := Sep.St.tailOpen (m := [row 5 1 (.slice at60_0 (t60.1).length ct60_0) (t60.1).length ((t60.1).map (Value.int .u8)), pipe_Pipe.at bt7_0 (t60.2)]) (r := [fsl 1 (.slice ea22 ((a1).getD (x12).toNat []).length em23) ((a1).getD (x12).toNat []).length (((a1).getD (x12).toNat []).map (Value.int .u8)), tie (El.sl (El.int .u8)) sd1 (a1), R]) HS
                  have HS : Sep.St [row 5 1 (.slice at60_0 (t60.1).length ct60_0) (t60.1).length ((t60.1).map (Value.int .u8)), pipe_Pipe.at bt7_0 (t60.2), fsl 1 (.slice ea22 ((a1).getD (x12).toNat []).length em23) ((a1).getD (x12).toNat []).length (((a1).getD (x12).toNat []).map (Value.int .u8)), tie (El.sl (El.int .u8)) sd1 (a1), R] w0 w := HS
                  refine W.rd (X.bytesStr Try.underlying27 Try.underlying5 Try.underlying9 rfl (rdC.at 0 row_rd HS rfl)) rfl rfl rfl ?_
                  obtain ⟨c62, H⟩ := ite_n H
                  refine W.rd (X.catStr (a := x11) (b := t60.1) rfl rfl c62) rfl rfl rfl ?_
                  refine W.rd (X.assign rfl) rfl rfl rfl ?_
                  refine W.nil ?_
                  refine At.next ?_
                  refine V.keep [(0, Value.int .i64 (a0)), (1, Value.slice (some ⟨eb18, eo19, none⟩) (a1).length sc1), (2, Value.slice (some ⟨eb58, eo59, none⟩) (a2).length sc2), (8, Value.pointer (some ⟨bt7_0, 0, none⟩)), (9, Value.string (strOf (x10 ++ (cut ((a1).getD (x12).toNat []) (0 : Int) t27.1)))), (10, Value.string (strOf (x11 ++ t60.1))), (11, Value.int .i64 (x12)), (60, Value.int .i64 (t27.1)), (61, Value.slice (some ⟨eb18, eo19, none⟩) (a1).length sc1), (62, Value.int .i64 (x12)), (63, Value.pointer (some ⟨eb18, eo19 + (x12).toNat * 1, none⟩)), (64, Value.slice ea22 ((a1).getD (x12).toNat []).length em23), (65, Value.int .i64 ((((a1).getD (x12).toNat []).length : Int))), (66, Value.bool (decide (t27.1 > (((a1).getD (x12).toNat []).length : Int)))), (69, Value.int .i64 (t27.1)), (70, Value.slice (some ⟨eb18, eo19, none⟩) (a1).length sc1), (71, Value.int .i64 (x12)), (72, Value.pointer (some ⟨eb18, eo19 + (x12).toNat * 1, none⟩)), (73, Value.slice ea22 ((a1).getD (x12).toNat []).length em23), (74, Value.int .i64 ((((a1).getD (x12).toNat []).length : Int))), (75, Value.bool (decide (t27.1 < (((a1).getD (x12).toNat []).length : Int)))), (76, Value.bool (decide (t27.1 < (((a1).getD (x12).toNat []).length : Int)))), (77, undef), (78, undef), (79, undef), (80, undef), (81, Value.bool (false))] ⟨rfl, rfl, rfl, rfl, rfl, rfl, rfl, rfl, rfl, rfl, rfl, rfl, rfl, rfl, rfl, rfl, rfl, rfl, rfl, rfl, rfl, rfl, rfl, rfl, rfl, rfl, rfl, trivial⟩ ?_
                  refine V.seq ?_
                  refine V.region ?_
                  refine W.rd (X.move rfl) rfl rfl rfl ?_
                  replace HS := HS.front 1 rfl
                  have HS : Sep.St [pipe_Pipe.at bt7_0 (t60.2), row 5 1 (.slice at60_0 (t60.1).length ct60_0) (t60.1).length ((t60.1).map (Value.int .u8)), fsl 1 (.slice ea22 ((a1).getD (x12).toNat []).length em23) ((a1).getD (x12).toNat []).length (((a1).getD (x12).toNat []).map (Value.int .u8)), tie (El.sl (El.int .u8)) sd1 (a1), R] w0 w := HS
                  obtain ⟨a1_64, c1_64, hi65, HS⟩ := pipe_Pipe.open HS
                  have HS : Sep.St [blk bt7_0 (#[Value.int .i64 ((t60.2).room), Value.slice a1_64 ((t60.2).b).length c1_64, Value.bool ((t60.2).cut), Value.bool ((t60.2).stall)]) 42, row 5 1 (.slice a1_64 ((t60.2).b).length c1_64) ((t60.2).b).length (((t60.2).b).map (Value.int .u8)), row 5 1 (.slice at60_0 (t60.1).length ct60_0) (t60.1).length ((t60.1).map (Value.int .u8)), fsl 1 (.slice ea22 ((a1).getD (x12).toNat []).length em23) ((a1).getD (x12).toNat []).length (((a1).getD (x12).toNat []).map (Value.int .u8)), tie (El.sl (El.int .u8)) sd1 (a1), R] w0 w := HS
                  obtain ⟨t66, A67, H⟩ := bind_s H
                  refine W.ev (Y.call Try.func10 (by kernel_rfl) rfl (vs := [Value.pointer (some ⟨bt7_0, 0, none⟩)]) rfl (pipe_Pipe_Len.calls t60.2 _ w0 _ bt7_0 a1_64 c1_64 t66  A67 (Sep.St.tailJoin (m := [blk bt7_0 (#[Value.int .i64 ((t60.2).room), Value.slice a1_64 ((t60.2).b).length c1_64, Value.bool ((t60.2).cut), Value.bool ((t60.2).stall)]) 42, row 5 1 (.slice a1_64 ((t60.2).b).length c1_64) ((t60.2).b).length (((t60.2).b).map (Value.int .u8))]) (r := [row 5 1 (.slice at60_0 (t60.1).length ct60_0) (t60.1).length ((t60.1).map (Value.int .u8)), fsl 1 (.slice ea22 ((a1).getD (x12).toNat []).length em23) ((a1).getD (x12).toNat []).length (((a1).getD (x12).toNat []).map (Value.int .u8)), tie (El.sl (El.int .u8)) sd1 (a1), R]) HS))) rfl rfl rfl ?_
                  rintro _ w ⟨rfl, HS⟩
                  replace HS := Sep.St.tailOpen (m := [blk bt7_0 (#[Value.int .i64 ((t60.2).room), Value.slice a1_64 ((t60.2).b).length c1_64, Value.bool ((t60.2).cut), Value.bool ((t60.2).stall)]) 42, row 5 1 (.slice a1_64 ((t60.2).b).length c1_64) ((t60.2).b).length (((t60.2).b).map (Value.int .u8))]) (r := [row 5 1 (.slice at60_0 (t60.1).length ct60_0) (t60.1).length ((t60.1).map (Value.int .u8)), fsl 1 (.slice ea22 ((a1).getD (x12).toNat []).length em23) ((a1).getD (x12).toNat []).length (((a1).getD (x12).toNat []).map (Value.int .u8)), tie (El.sl (El.int .u8)) sd1 (a1), R]) HS
                  have HS : Sep.St [blk bt7_0 (#[Value.int .i64 ((t60.2).room), Value.slice a1_64 ((t60.2).b).length c1_64, Value.bool ((t60.2).cut), Value.bool ((t60.2).stall)]) 42, row 5 1 (.slice a1_64 ((t60.2).b).length c1_64) ((t60.2).b).length (((t60.2).b).map (Value.int .u8)), row 5 1 (.slice at60_0 (t60.1).length ct60_0) (t60.1).length ((t60.1).map (Value.int .u8)), fsl 1 (.slice ea22 ((a1).getD (x12).toNat []).length em23) ((a1).getD (x12).toNat []).length (((a1).getD (x12).toNat []).map (Value.int .u8)), tie (El.sl (El.int .u8)) sd1 (a1), R] w0 w := HS
                  refine W.rd (X.move rfl) rfl rfl rfl ?_
                  refine W.rd (X.cmp (decide (t66 > a0)) rfl rfl rfl rfl) rfl rfl rfl ?_
                  refine W.rd (X.move rfl) rfl rfl rfl ?_
                  by_cases c68 : t66 > a0
                  · replace H := ite_t c68 H
                    refine W.pass 105 rfl (sb (decide_eq_true c68)) rfl rfl ?_
                    refine W.pass 105 rfl (sb (decide_eq_true c68)) rfl rfl ?_
                    refine W.pass 105 rfl (sb (decide_eq_true c68)) rfl rfl ?_
                    refine W.pass 105 rfl (sb (decide_eq_true c68)) rfl rfl ?_
                    refine W.pass 105 rfl (sb (decide_eq_true c68)) rfl rfl ?_
                    refine W.pass 105 rfl (sb (decide_eq_true c68)) rfl rfl ?_
                    refine W.pass 105 rfl (sb (decide_eq_true c68)) rfl rfl ?_
                    refine W.pass 105 rfl (sb (decide_eq_true c68)) rfl rfl ?_
                    refine W.rd (X.pickT (sb (decide_eq_true c68)) rfl) rfl rfl rfl ?_
                    refine W.nil ?_
                    refine At.next ?_
                    refine V.keep [(0, Value.int .i64 (a0)), (1, Value.slice (some ⟨eb18, eo19, none⟩) (a1).length sc1), (2, Value.slice (some ⟨eb58, eo59, none⟩) (a2).length sc2), (8, Value.pointer (some ⟨bt7_0, 0, none⟩)), (9, Value.string (strOf (x10 ++ (cut ((a1).getD (x12).toNat []) (0 : Int) t27.1)))), (10, Value.string (strOf (x11 ++ t60.1))), (11, Value.int .i64 (x12)), (60, Value.int .i64 (t27.1)), (61, Value.slice (some ⟨eb18, eo19, none⟩) (a1).length sc1), (62, Value.int .i64 (x12)), (63, Value.pointer (some ⟨eb18, eo19 + (x12).toNat * 1, none⟩)), (64, Value.slice ea22 ((a1).getD (x12).toNat []).length em23), (65, Value.int .i64 ((((a1).getD (x12).toNat []).length : Int))), (66, Value.bool (decide (t27.1 > (((a1).getD (x12).toNat []).length : Int)))), (69, Value.int .i64 (t27.1)), (70, Value.slice (some ⟨eb18, eo19, none⟩) (a1).length sc1), (71, Value.int .i64 (x12)), (72, Value.pointer (some ⟨eb18, eo19 + (x12).toNat * 1, none⟩)), (73, Value.slice ea22 ((a1).getD (x12).toNat []).length em23), (74, Value.int .i64 ((((a1).getD (x12).toNat []).length : Int))), (75, Value.bool (decide (t27.1 < (((a1).getD (x12).toNat []).length : Int)))), (76, Value.bool (decide (t27.1 < (((a1).getD (x12).toNat []).length : Int)))), (77, undef), (78, undef), (79, undef), (80, undef), (81, Value.bool (false)), (106, undef), (107, undef), (108, undef), (109, undef), (110, undef), (111, undef), (112, undef), (113, undef), (114, Value.bool (true))] ⟨rfl, rfl, rfl, rfl, rfl, rfl, rfl, rfl, rfl, rfl, rfl, rfl, rfl, rfl, rfl, rfl, rfl, rfl, rfl, rfl, rfl, rfl, rfl, rfl, rfl, rfl, rfl, rfl, rfl, rfl, rfl, rfl, rfl, rfl, rfl, rfl, trivial⟩ ?_
                    refine V.condT rfl ?_
                    refine V.seq ?_
                    refine V.region ?_
                    refine W.rd (X.assign rfl) rfl rfl rfl ?_
                    refine W.nil ?_
                    refine At.next ?_
                    refine V.keep [(6, Value.bool (false))] ⟨rfl, trivial⟩ ?_
                    refine V.ret ?_
                    refine At.blockRet ?_
                    refine At.thenRet ?_
                    refine At.thenRet ?_
                    refine At.blockRet ?_
                    refine At.thenRet ?_
                    replace HS := HS.sel [5] [0, 1, 2, 3, 4] (by kernel_rfl)
                    cases H
                    exact At.ret1 rfl rfl ⟨_, rfl, rfl, HS⟩
                  · replace H := ite_f c68 H
                    refine W.want 105 rfl (sb (decide_eq_false c68)) ?_
                    refine W.rd (X.move rfl) rfl rfl rfl ?_
                    refine W.want 105 rfl (sb (decide_eq_false c68)) ?_
                    refine W.rd (X.lenStr Try.underlying9 rfl) rfl rfl rfl ?_
                    refine W.want 105 rfl (sb (decide_eq_false c68)) ?_
                    refine W.rd (X.move rfl) rfl rfl rfl ?_
                    refine W.want 105 rfl (sb (decide_eq_false c68)) ?_
                    obtain ⟨t69, A70, H⟩ := bind_s H
                    refine W.ev (Y.call Try.func10 (by kernel_rfl) rfl (vs := [Value.pointer (some ⟨bt7_0, 0, none⟩)]) rfl (pipe_Pipe_Len.calls t60.2 _ w0 _ bt7_0 a1_64 c1_64 t69  A70 (Sep.St.tailJoin (m := [blk bt7_0 (#[Value.int .i64 ((t60.2).room), Value.slice a1_64 ((t60.2).b).length c1_64, Value.bool ((t60.2).cut), Value.bool ((t60.2).stall)]) 42, row 5 1 (.slice a1_64 ((t60.2).b).length c1_64) ((t60.2).b).length (((t60.2).b).map (Value.int .u8))]) (r := [row 5 1 (.slice at60_0 (t60.1).length ct60_0) (t60.1).length ((t60.1).map (Value.int .u8)), fsl 1 (.slice ea22 ((a1).getD (x12).toNat []).length em23) ((a1).getD (x12).toNat []).length (((a1).getD (x12).toNat []).map (Value.int .u8)), tie (El.sl (El.int .u8)) sd1 (a1), R]) HS))) rfl rfl rfl ?_
                    rintro _ w ⟨rfl, HS⟩
                    replace HS := Sep.St.tailOpen (m := [blk bt7_0 (#[Value.int .i64 ((t60.2).room), Value.slice a1_64 ((t60.2).b).length c1_64, Value.bool ((t60.2).cut), Value.bool ((t60.2).stall)]) 42, row 5 1 (.slice a1_64 ((t60.2).b).length c1_64) ((t60.2).b).length (((t60.2).b).map (Value.int .u8))]) (r := [row 5 1 (.slice at60_0 (t60.1).length ct60_0) (t60.1).length ((t60.1).map (Value.int .u8)), fsl 1 (.slice ea22 ((a1).getD (x12).toNat []).length em23) ((a1).getD (x12).toNat []).length (((a1).getD (x12).toNat []).map (Value.int .u8)), tie (El.sl (El.int .u8)) sd1 (a1), R]) HS
                    have HS : Sep.St [blk bt7_0 (#[Value.int .i64 ((t60.2).room), Value.slice a1_64 ((t60.2).b).length c1_64, Value.bool ((t60.2).cut), Value.bool ((t60.2).stall)]) 42, row 5 1 (.slice a1_64 ((t60.2).b).length c1_64) ((t60.2).b).length (((t60.2).b).map (Value.int .u8)), row 5 1 (.slice at60_0 (t60.1).length ct60_0) (t60.1).length ((t60.1).map (Value.int .u8)), fsl 1 (.slice ea22 ((a1).getD (x12).toNat []).length em23) ((a1).getD (x12).toNat []).length (((a1).getD (x12).toNat []).map (Value.int .u8)), tie (El.sl (El.int .u8)) sd1 (a1), R] w0 w := HS
                    refine W.want 105 rfl (sb (decide_eq_false c68)) ?_
                    refine W.rd (X.add rfl rfl) rfl rfl rfl ?_
                    refine W.want 105 rfl (sb (decide_eq_false c68)) ?_
                    refine W.rd (X.move rfl) rfl rfl rfl ?_
                    refine W.want 105 rfl (sb (decide_eq_false c68)) ?_
                    refine W.rd (X.lenStr Try.underlying9 rfl) rfl rfl rfl ?_
                    refine W.want 105 rfl (sb (decide_eq_false c68)) ?_
                    refine W.rd (X.cmp (!(decide ((w64 (((x11 ++ t60.1).length : Int) + t69)) = ((x10 ++ (cut ((a1).getD (x12).toNat []) (0 : Int) t27.1)).length : Int)))) rfl rfl rfl rfl) rfl rfl rfl ?_
                    refine W.rd (X.pickF (sb (decide_eq_false c68)) rfl) rfl rfl rfl ?_
                    refine W.nil ?_
                    refine At.next ?_
                    refine V.keep [(0, Value.int .i64 (a0)), (1, Value.slice (some ⟨eb18, eo19, none⟩) (a1).length sc1), (2, Value.slice (some ⟨eb58, eo59, none⟩) (a2).length sc2), (8, Value.pointer (some ⟨bt7_0, 0, none⟩)), (9, Value.string (strOf (x10 ++ (cut ((a1).getD (x12).toNat []) (0 : Int) t27.1)))), (10, Value.string (strOf (x11 ++ t60.1))), (11, Value.int .i64 (x12)), (60, Value.int .i64 (t27.1)), (61, Value.slice (some ⟨eb18, eo19, none⟩) (a1).length sc1), (62, Value.int .i64 (x12)), (63, Value.pointer (some ⟨eb18, eo19 + (x12).toNat * 1, none⟩)), (64, Value.slice ea22 ((a1).getD (x12).toNat []).length em23), (65, Value.int .i64 ((((a1).getD (x12).toNat []).length : Int))), (66, Value.bool (decide (t27.1 > (((a1).getD (x12).toNat []).length : Int)))), (69, Value.int .i64 (t27.1)), (70, Value.slice (some ⟨eb18, eo19, none⟩) (a1).length sc1), (71, Value.int .i64 (x12)), (72, Value.pointer (some ⟨eb18, eo19 + (x12).toNat * 1, none⟩)), (73, Value.slice ea22 ((a1).getD (x12).toNat []).length em23), (74, Value.int .i64 ((((a1).getD (x12).toNat []).length : Int))), (75, Value.bool (decide (t27.1 < (((a1).getD (x12).toNat []).length : Int)))), (76, Value.bool (decide (t27.1 < (((a1).getD (x12).toNat []).length : Int)))), (77, undef), (78, undef), (79, undef), (80, undef), (81, Value.bool (false)), (106, Value.string (strOf (x11 ++ t60.1))), (107, Value.int .i64 (((x11 ++ t60.1).length : Int))), (108, Value.pointer (some ⟨bt7_0, 0, none⟩)), (109, Value.int .i64 (t69)), (110, Value.int .i64 (w64 (((x11 ++ t60.1).length : Int) + t69))), (111, Value.string (strOf (x10 ++ (cut ((a1).getD (x12).toNat []) (0 : Int) t27.1)))), (112, Value.int .i64 (((x10 ++ (cut ((a1).getD (x12).toNat []) (0 : Int) t27.1)).length : Int))), (113, Value.bool (!(decide ((w64 (((x11 ++ t60.1).length : Int) + t69)) = ((x10 ++ (cut ((a1).getD (x12).toNat []) (0 : Int) t27.1)).length : Int))))), (114, Value.bool (!(decide ((w64 (((x11 ++ t60.1).length : Int) + t69)) = ((x10 ++ (cut ((a1).getD (x12).toNat []) (0 : Int) t27.1)).length : Int)))))] ⟨rfl, rfl, rfl, rfl, rfl, rfl, rfl, rfl, rfl, rfl, rfl, rfl, rfl, rfl, rfl, rfl, rfl, rfl, rfl, rfl, rfl, rfl, rfl, rfl, rfl, rfl, rfl, rfl, rfl, rfl, rfl, rfl, rfl, rfl, rfl, rfl, trivial⟩ ?_
                    by_cases c71 : (w64 (((x11 ++ t60.1).length : Int) + t69)) = ((x10 ++ (cut ((a1).getD (x12).toNat []) (0 : Int) t27.1)).length : Int)
                    · replace H := ite_t c71 H
                      refine V.condF (sb (n_t (decide_eq_true c71))) ?_
                      refine V.skip ?_
                      refine At.blockEnd ?_
                      refine At.next ?_
                      refine V.keep [(0, Value.int .i64 (a0)), (1, Value.slice (some ⟨eb18, eo19, none⟩) (a1).length sc1), (2, Value.slice (some ⟨eb58, eo59, none⟩) (a2).length sc2), (8, Value.pointer (some ⟨bt7_0, 0, none⟩)), (9, Value.string (strOf (x10 ++ (cut ((a1).getD (x12).toNat []) (0 : Int) t27.1)))), (10, Value.string (strOf (x11 ++ t60.1))), (11, Value.int .i64 (x12)), (60, Value.int .i64 (t27.1)), (61, Value.slice (some ⟨eb18, eo19, none⟩) (a1).length sc1), (62, Value.int .i64 (x12)), (63, Value.pointer (some ⟨eb18, eo19 + (x12).toNat * 1, none⟩)), (64, Value.slice ea22 ((a1).getD (x12).toNat []).length em23), (65, Value.int .i64 ((((a1).getD (x12).toNat []).length : Int))), (66, Value.bool (decide (t27.1 > (((a1).getD (x12).toNat []).length : Int)))), (69, Value.int .i64 (t27.1)), (70, Value.slice (some ⟨eb18, eo19, none⟩) (a1).length sc1), (71, Value.int .i64 (x12)), (72, Value.pointer (some ⟨eb18, eo19 + (x12).toNat * 1, none⟩)), (73, Value.slice ea22 ((a1).getD (x12).toNat []).length em23), (74, Value.int .i64 ((((a1).getD (x12).toNat []).length : Int))), (75, Value.bool (decide (t27.1 < (((a1).getD (x12).toNat []).length : Int)))), (76, Value.bool (decide (t27.1 < (((a1).getD (x12).toNat []).length : Int)))), (77, undef), (78, undef), (79, undef), (80, undef), (81, Value.bool (false)), (106, Value.string (strOf (x11 ++ t60.1))), (107, Value.int .i64 (((x11 ++ t60.1).length : Int))), (108, Value.pointer (some ⟨bt7_0, 0, none⟩)), (109, Value.int .i64 (t69)), (110, Value.int .i64 (w64 (((x11 ++ t60.1).length : Int) + t69))), (111, Value.string (strOf (x10 ++ (cut ((a1).getD (x12).toNat []) (0 : Int) t27.1)))), (112, Value.int .i64 (((x10 ++ (cut ((a1).getD (x12).toNat []) (0 : Int) t27.1)).length : Int))), (113, Value.bool (!(decide ((w64 (((x11 ++ t60.1).length : Int) + t69)) = ((x10 ++ (cut ((a1).getD (x12).toNat []) (0 : Int) t27.1)).length : Int)))))] ⟨rfl, rfl, rfl, rfl, rfl, rfl, rfl, rfl, rfl, rfl, rfl, rfl, rfl, rfl, rfl, rfl, rfl, rfl, rfl, rfl, rfl, rfl, rfl, rfl, rfl, rfl, rfl, rfl, rfl, rfl, rfl, rfl, rfl, rfl, rfl, trivial⟩ ?_
                      refine V.region ?_
                      refine W.rd (X.move rfl) rfl rfl rfl ?_
                      refine W.rd (X.add rfl rfl) rfl rfl rfl ?_
                      refine W.rd (X.assign rfl) rfl rfl rfl ?_
                      refine W.nil ?_
                      replace HS := pipe_Pipe.close (t60.2) trivial HS
                      have HS : Sep.St [pipe_Pipe.at bt7_0 (t60.2), row 5 1 (.slice at60_0 (t60.1).length ct60_0) (t60.1).length ((t60.1).map (Value.int .u8)), fsl 1 (.slice ea22 ((a1).getD (x12).toNat []).length em23) ((a1).getD (x12).toNat []).length (((a1).getD (x12).toNat []).map (Value.int .u8)), tie (El.sl (El.int .u8)) sd1 (a1), R] w0 w := HS
                      replace HS := HS.sel [0, 3, 4] [1, 2] (by kernel_rfl)
                      exact At.round kq14 (by omega) (x10 ++ (cut ((a1).getD (x12).toNat []) (0 : Int) t27.1), x11 ++ t60.1, w64 (x12 + 1), t60.2) ⟨rfl, rfl, rfl, rfl, rfl, rfl, rfl, trivial⟩ ⟨HS, H, by omega⟩
                    · replace H := ite_f c71 H
                      refine V.condT (sb (n_f (decide_eq_false c71))) ?_
                      refine V.seq ?_
                      refine V.region ?_
                      refine W.rd (X.assign rfl) rfl rfl rfl ?_
                      refine W.nil ?_
                      refine At.next ?_
                      refine V.keep [(6, Value.bool (false))] ⟨rfl, trivial⟩ ?_
                      refine V.ret ?_
                      refine At.blockRet ?_
                      refine At.thenRet ?_
                      refine At.thenRet ?_
                      refine At.blockRet ?_
                      refine At.thenRet ?_
                      replace HS := HS.sel [5] [0, 1, 2, 3, 4] (by kernel_rfl)
                      cases H
                      exact At.ret1 rfl rfl ⟨_, rfl, rfl, HS⟩
        · replace H := ite_f c16 H
          refine V.condF (sb (decide_eq_false c16)) ?_
          refine V.exit ?_
          refine At.thenExit ?_
          refine At.thenExit ?_
          refine At.blockExit ?_
          refine At.next ?_
          refine V.keep [(8, Value.pointer (some ⟨bt7_0, 0, none⟩)), (9, Value.string (strOf (x10))), (10, Value.string (strOf (x11)))] ⟨rfl, rfl, rfl, trivial⟩ ?_
          refine V.seq ?_
          refine V.region ?_
          refine W.rd (X.move rfl) rfl rfl rfl ?_
          refine W.rd (X.move rfl) rfl rfl rfl ?_
          obtain ⟨t72, A73, H⟩ := bind_s H
          refine W.ev (Y.call Try.func11 (by kernel_rfl) rfl (vs := [Value.pointer (some ⟨bt7_0, 0, none⟩), Value.int .i64 (1000)]) rfl (pipe_Pipe_Take.calls x13 1000 _ w0 _ bt7_0 t72  A73 (Sep.St.tailJoin (m := [pipe_Pipe.at bt7_0 (x13)]) (r := [tie (El.sl (El.int .u8)) sd1 (a1), R]) HS))) rfl rfl rfl ?_
          rintro _ w ⟨at72_0, ct72_0, rfl, HS⟩
          replace HS := Sep.St.tailOpen (m := [row 5 1 (.slice at72_0 (t72.1).length ct72_0) (t72.1).length ((t72.1).map (Value.int .u8)), pipe_Pipe.at bt7_0 (t72.2)]) (r := [tie (El.sl (El.int .u8)) sd1 (a1), R]) HS
          have HS : Sep.St [row 5 1 (.slice at72_0 (t72.1).length ct72_0) (t72.1).length ((t72.1).map (Value.int .u8)), pipe_Pipe.at bt7_0 (t72.2), tie (El.sl (El.int .u8)) sd1 (a1), R] w0 w := HS
          refine W.rd (X.bytesStr Try.underlying27 Try.underlying5 Try.underlying9 rfl (rdC.at 0 row_rd HS rfl)) rfl rfl rfl ?_
          obtain ⟨c74, H⟩ := ite_n H
          refine W.rd (X.catStr (a := x11) (b := t72.1) rfl rfl c74) rfl rfl rfl ?_
          refine W.rd (X.move rfl) rfl rfl rfl ?_
          refine W.rd (X.eqStr (a := x11 ++ t72.1) (b := x10) rfl rfl) rfl rfl rfl ?_
          refine W.rd (X.assign rfl) rfl rfl rfl ?_
          refine W.nil ?_
          refine At.next ?_
          refine V.keep [(6, Value.bool (sEq (x11 ++ t72.1) (x10)))] ⟨rfl, trivial⟩ ?_
          refine V.ret ?_
          replace HS := HS.sel [3] [0, 1, 2] (by kernel_rfl)
          cases H
          exact At.ret1 rfl rfl ⟨_, rfl, rfl, HS⟩

def signalmanlaw8_PipeKeeps.Pure : Prop := ∀ (a0 : Int) (a1 : List (List Int)) (a2 : List Int), (Lit.int .i64 a0).wf = true → (∀ z ∈ a1, ((∀ z1 ∈ z, (Lit.int .u8 z1).wf = true) ∧ (z.length : Int) ≤ 9223372036854775807)) → (a1.length : Int) ≤ 9223372036854775807 → (∀ z ∈ a2, (Lit.int .i64 z).wf = true) → (a2.length : Int) ≤ 9223372036854775807 → ∃ k, signalmanlaw8_PipeKeeps.f k a0 a1 a2 = some true
end Go.Proofs.Ytcflnobablhdiaa
